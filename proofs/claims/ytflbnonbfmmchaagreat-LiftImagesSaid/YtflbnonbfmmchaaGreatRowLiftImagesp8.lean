/-
  Terms put for variables keep types; plain. Variables' long forms put for variables are a renaming; plain. Terms put for variables, and for metavariables, functions without errors; how they stand to each other; plain. Variables' long forms put for variables are a renaming: by units that are left; plain. Variables' long forms put for variables are a renaming: a variable's long form gives what is put for it; plain. The document's uses, and what is taken out, walked in the deep way. The document's Take, walked in the deep way; what is wrong with a pattern. Terms that are the same, as deep contracts. Package match, walked in the deep way: put. Package match, walked in the deep way: walk, may. What matching takes out of a term, put back, is the term; plain. A flexible head's term, put back, is the term; plain. Terms put for metavariables keep types; plain. What a matching binds, put into the pattern, is the term; plain. What a matching binds, put into the pattern, is the term: by the pattern; plain. What a matching binds is typed; plain. A loop over a function, whose round writes to what its own assignment laid. The reference's loose indexes, and terms that grow. The document's heads of a term. The document's Heads and Count. term.Count. slices.Sort and slices.Compact of ints of the call's own; what they hand back rises. A function that has run loops over functions leaves with a mark for each; rows of ints that grow within such rounds. term.Metas. A pattern matches what a substitution made of it, by just that; plain. Terms put for metavariables, as a function without errors: one behind the other is both at once; plain. What the program puts is what the functions without errors put, where no error comes up; plain. What subst.Apply makes is what the function without errors makes, where no error comes up; plain. Deep values: regions with steps through a map. Package match, walked in the deep way: what was found as a substitution; several at once. A matching's answer, applied to the pattern, is the term; plain. Package rule, walked in the deep way: met, term. Package rule, walked in the deep way: Own, Of, Equal, Variant. The document's numbers of a pair (order, renamed) are those of package rule. The document's answer of layer 17: order, renamed, Own, Variant.
-/
import Derived.Test.YtflbnonbfmmchaaGreatRowLiftImagesp7
import Derived.Test.YtflbnonbfmmchaaGreatRowLiftImagesp6
import Derived.Test.YtflbnonbfmmchaaGreatRowLiftImagesp5
import Derived.Deep.QuietTactic
import Derived.BigQuiet
import Derived.WalkSmall
import Derived.Test.YtflbnonbfmmchaaGreatRowLiftImagesp1
import Derived.Lib.OwnBridge
import Derived.Sort.OwnSortedInts
import Derived.RangeFuncBox
import Derived.Test.YtflbnonbfmmchaaGreatRowLiftImagesp4
import Derived.Maps.RangeRun
set_option maxRecDepth 100000
set_option maxHeartbeats 1000000
set_option linter.unusedVariables false
set_option linter.unusedSimpArgs false
namespace Go.Proofs.YtflbnonbfmmchaaGreat
open Go.RowKit
section
variable {C M:List Ty}
theorem headTy_ctx {X X':List Ty}{k i:Int}(hk:k≠0):headTy C M X k i=headTy C M X' k i:=by
 unfold headTy
 by_cases h:i<0
 ·rw[if_pos h,if_pos h]
 ·rw[if_neg h,if_neg h,if_neg hk,if_neg hk]
theorem rev_app (X W:List Ty)(n:Nat):(X++W).reverse[n]?=if n<W.length then W.reverse[n]? else X.reverse[n-W.length]?:=by
 rw[List.reverse_append,List.getElem?_append,List.length_reverse]
theorem isOfs_map {g:Tm→Tm}{X X':List Ty}:∀ {l:List Tm} {l':List Ty},IsOfs C M l X l'→(∀ t∈l,∀ u,IsOf C M t X u→IsOf C M (g t) X' u)→IsOfs C M (l.map g) X' l'
 | [],[],_,_=>by rw[List.map_nil,IsOfs];trivial
 | [],_ :: _,h,_=>by rw[IsOfs] at h;exact h.elim
 | _ :: _,[],h,_=>by rw[IsOfs] at h;exact h.elim
 | t :: l,u :: l',h,hg=>by
  rw[IsOfs] at h
  rw[List.map_cons,IsOfs]
  exact⟨hg t (by simp) u h.1,isOfs_map h.2 fun v hv=>hg v (by simp[hv])⟩
theorem isOfs_len {X:List Ty}{l:List Tm}{l':List Ty}(h:IsOfs C M l X l'):l'.length=l.length:=(isOfs_iff.1 h).1
theorem wr_id {x:Int}(h0:-9223372036854775808≤x)(h1:x≤9223372036854775807):Nm.wr x=x:=by
 show wrap64 x=x
 unfold wrap64;omega
theorem lift_isOf (t:Tm):∀ (X Y Z:List Ty) (u:Ty),(X.length:Int)+Y.length+Z.length+t.full≤9000000000000→IsOf C M t (X++Z) u→IsOf C M (Nm.lift Y.length t Z.length) (X++Y++Z) u:=by
 induction t using Tm.ind with
 | h b k i a ih=>
  intro X Y Z u hz ht
  rw[Tm.full_eq] at hz
  have hbl:=Ty.le_sizes b
  obtain⟨rfl,h,h1,h2,h3⟩:=isOf_mk.1 ht
  have hw:Nm.wr (Z.length+u.args.length)=((Z++u.args).length:Nat):=by rw[List.length_append,wr_id (by omega) (by omega)];simp
  rw[Nm.lift_eq,Nm.lifts_map,hw]
  clear hw
  refine isOf_mk.2 ⟨rfl,h,?_,h2,?_⟩
  ·by_cases hk:k=0
   ·subst hk
    by_cases hi:i<0
    ·rw[headTy_neg hi] at h1;cases h1
    ·obtain⟨n,rfl⟩:∃ n:Nat,i=n:=⟨i.toNat,by omega⟩
     rw[headTy_0,List.append_assoc,rev_app] at h1
     by_cases hn:n<(Z++u.args).length
     ·rw[if_neg (by rintro⟨_,h⟩;omega),headTy_0,List.append_assoc,rev_app,if_pos hn]
      rw[if_pos hn] at h1;exact h1
     ·rw[if_neg hn] at h1
      have hlt:n-(Z++u.args).length<X.length:=by
       have:=(List.getElem?_eq_some_iff.1 h1).1
       rwa [List.length_reverse] at this
      have hsum:(Z++u.args).length=Z.length+u.args.length:=List.length_append
      rw[if_pos ⟨rfl,by omega⟩,wr_id (by omega) (by omega),show (n:Int)+Y.length=((n+Y.length:Nat):Int) by omega,headTy_0,List.append_assoc,rev_app,if_neg (by omega),rev_app,if_neg (by omega)]
      rw[←h1]
      congr 1
      omega
   ·rw[if_neg (fun h=>hk h.1),headTy_ctx (X':=X++Z++u.args) hk];exact h1
  ·rw[List.append_assoc] at h3 ⊢
   exact isOfs_map h3 fun v hv w hw=>ih v hv X Y (Z++u.args) w (by
    have:=Tm.full_mem hv
    rw[List.length_append];omega) hw
theorem grown_isOf {t:Tm}{X Y:List Ty}{u:Ty}(hz:(X.length:Int)+Y.length+t.full≤9000000000000)(h:IsOf C M t X u):IsOf C M (Nm.grown t Y.length) (X++Y) u:=by
 unfold Nm.grown
 split
 ·rename_i h0
  have:Y=[]:=List.length_eq_zero_iff.1 (by omega)
  subst this
  rw[List.append_nil];exact h
 ·have:=lift_isOf t X Y [] u (by simp;omega) (by rw[List.append_nil];exact h)
  rw[List.append_nil] at this;exact this
end
namespace Nm
def Kp (s:St)(p:Tm×St)(Q:Tm→Prop):Prop:=(s.e≠1→p.2.e≠1)∧(p.2.e=0→s.e=0∧Q p.1)
theorem unit_false {s:St}(h:(unit s).1≠true):(unit s).2.e≠0∧(s.e≠1→(unit s).2.e≠1):=by
 have hb:(unit s).1=false:=by simpa using h
 have h2:∀ p,unit s=p→p.1=false→p.2.e≠0∧(s.e≠1→p.2.e≠1):=fun p hp h1=>by
  unfold unit at hp
  split at hp
  ·subst hp;exact⟨by assumption,fun h=>h⟩
  ·split at hp
   ·subst hp;exact⟨by show (2:Int)≠0;decide,fun _=>by show (2:Int)≠1;decide⟩
   ·generalize spend s=r at hp
    obtain⟨ok,s'⟩:=r
    cases ok
    ·subst hp;exact⟨by show (11:Int)≠0;decide,fun _=>by show (11:Int)≠1;decide⟩
    ·subst hp;cases h1
 exact h2 _ rfl hb
theorem fail_e {s:St}(h:s.e≠0):(fail s 1).e=s.e:=by unfold fail;rw[if_neg h]
variable {C M:List Ty} {B:Nat}
theorem seqM_keeps {f:Nat}{g:Tm→St→Tm×St}{X X':List Ty}:∀ (l:List Tm) (us:List Ty) (hg:∀ t∈l,∀ u s,WkOk s→Fu f s→IsOf C M t X u→Kp s (g t s) fun r=>IsOf C M r X' u) (hw:∀ t s,WkOk s→WkOk (g t s).2) (hc:∀ t s,s.count≤(g t s).2.count) (s:St),WkOk s→Fu f s →
  IsOfs C M l X us→(s.e≠1→(seqM g l s).2.e≠1)∧((seqM g l s).2.e=0→s.e=0∧IsOfs C M (seqM g l s).1 X' us)
 | [],[],_,_,_,s,_,_,_=>⟨fun h=>h,fun h=>⟨h,by rw[seqM,IsOfs];trivial⟩⟩
 | [],_ :: _,_,_,_,s,_,_,h=>by rw[IsOfs] at h;exact h.elim
 | _ :: _,[],_,_,_,s,_,_,h=>by rw[IsOfs] at h;exact h.elim
 | t :: l,u :: us,hg,hw,hc,s,hs,hf,h=>by
  rw[IsOfs] at h
  have h1:=hg t (by simp) u s hs hf h.1
  have h2:=seqM_keeps l us (fun v hv=>hg v (by simp[hv])) hw hc (g t s).2 (hw t s hs) (fun e=>by
   have:=hf (h1.2 e).1
   have:=hc t s
   omega) h.2
  refine⟨fun e=>h2.1 (h1.1 e),fun e=>?_⟩
  have h3:=h2.2 e
  have h4:=h1.2 h3.1
  exact⟨h4.1,by rw[seqM,IsOfs];exact⟨h4.2,h3.2⟩⟩
theorem bnd_aux {x p z b B K N s:Nat}(h:x+p+z+(K+(2 * B+2))≤N)(h1:b≤s)(h2:s≤B):x+p+(z+b)+K≤N:=by omega
set_option maxHeartbeats 4000000 in
theorem through_keeps (C M:List Ty)(B:Nat):∀ (f:Nat) (xs:List Tm) (n:Nat) (t:Tm) (ins:Int) (s:St) (X P Z:List Ty) (u:Ty),WkOk s→Fu f s→(∀ x∈xs,Bnd B x)→Bnd B t→(∀ x∈xs,x.full≤8000000000000)→B≤5000→xs.length≤P.length→n=P.length→ins=(Z.length:Nat) →
  X.length+P.length+Z.length+(2 * B+2) * f≤800000000→IsOfs C M xs X (P.take xs.length)→IsOf C M t (X++P++Z) u→Kp s (through f xs n t ins s) fun r=>IsOf C M r (X++P.drop xs.length++Z) u:=by
 intro f
 induction f with
 | zero=>
  intro xs n t ins s X P Z u hs hf _ _ _ _ _ _ _ _ _ _
  exact⟨fun h=>h,fun e=>by
   have e':s.e=0:=e
   have h1:=hf e'
   have h2:=hs.e0 e'
   omega⟩
 | succ f ih=>
  intro xs n t ins s X P Z u hs hf hx ht hxf hB hm hn hins hb hxt htt
  subst hn;subst hins
  unfold through
  dsimp only
  by_cases hu:(unit s).1=true
  rotate_left
  ·rw[if_neg hu]
   have h1:=unit_false hu
   exact⟨h1.2,fun e=>absurd e h1.1⟩
  rw[if_pos hu]
  obtain⟨u1,u2,u3⟩:=(unit_count s).2 hu
  have hw:=unit_wk hs
  have hf1:Fu f (unit s).2:=fun _=>by have:=hf u2;omega
  obtain⟨b,k,i,a⟩:=t
  obtain⟨t1,t2,t3⟩:=ht.inv
  obtain⟨hbu,h,hh,hbase,hargs⟩:=isOf_mk.1 htt
  have hbl:=Ty.le_sizes b
  have hmul:(2 * B+2) * (f+1)=(2 * B+2) * f+(2 * B+2):=by rw[Nat.mul_add];omega
  rw[hmul] at hb
  obtain⟨K,hK⟩:∃ K,(2 * B+2) * f=K:=⟨_,rfl⟩
  rw[hK] at hb
  have hZb:(Z++b).length=Z.length+b.length:=List.length_append
  have hwr:wr ((Z.length:Nat)+(Tm.mk b k i a).binds.length)=(((Z++b).length:Nat):Int):=by
   show wr ((Z.length:Nat)+(b.length:Nat))=_
   rw[wr_id (by omega) (by omega),hZb];omega
  rw[hwr]
  clear hwr
  show Kp s (hit (through f) xs P.length (.mk b k i a) ((Z++b).length:Nat) (seqM (fun a s=>through f xs P.length a ((Z++b).length:Nat) s) a (unit s).2).1 (seqM (fun a s=>through f xs P.length a ((Z++b).length:Nat) s) a (unit s).2).2) _
  have hassoc:X++P++Z++b=X++P++(Z++b):=List.append_assoc ..
  have hb2:X.length+P.length+(Z++b).length+(2 * B+2) * f≤800000000:=by rw[hK,hZb];exact bnd_aux hb hbl t1
  rw[hassoc] at hh hargs
  have hq:=seqM_keeps (C:=C) (M:=M) (f:=f) (g:=fun a s=>through f xs P.length a ((Z++b).length:Nat) s) (X:=X++P++(Z++b)) (X':=X++P.drop xs.length++(Z++b)) a h.args
   (fun v hv w s hs hf hw=>ih xs P.length v _ s X P (Z++b) w hs hf hx (t3 v hv) hxf hB hm rfl rfl hb2 hxt hw) (fun u s h=>through_wk f _ _ _ _ _ h) (fun u s=>through_count f _ _ _ _ _) (unit s).2 hw hf1 hargs
  have hgr:=seqM_grow (B:=B) (f:=f) (g:=fun a s=>through f xs P.length a ((Z++b).length:Nat) s) a (fun u hu s hs hf=>through_grow B f xs P.length u _ s hs hf hx (t3 u hu)) (fun u s h=>through_wk f _ _ _ _ _ h) (fun u s=>through_count f _ _ _ _ _) (unit s).2 hw hf1
  have hqw:=seqM_wk (g:=fun a s=>through f xs P.length a ((Z++b).length:Nat) s) (fun u s h=>through_wk f _ _ _ _ _ h) a _ hw
  have hqc:=seqM_count (g:=fun a s=>through f xs P.length a ((Z++b).length:Nat) s) (fun u s=>through_count f _ _ _ _ _) a (unit s).2
  have hql:=seqM_length (fun a s=>through f xs P.length a ((Z++b).length:Nat) s) a (unit s).2
  generalize seqM (fun a s=>through f xs P.length a ((Z++b).length:Nat) s) a (unit s).2=q at hq hgr hqw hqc hql ⊢
  have hq1:s.e≠1→q.2.e≠1:=fun _=>hq.1 (by omega)
  have stays:∀ i':Int,headTy C M (X++P.drop xs.length++(Z++b)) k i'=some h→Kp s (.mk b k i' q.1,q.2) fun r=>IsOf C M r (X++P.drop xs.length++Z) u:=fun i' hi'=>
   ⟨hq1,fun e=>⟨u2,isOf_mk.2 ⟨hbu,h,by rw[List.append_assoc];exact hi',hbase,by rw[List.append_assoc];exact(hq.2 e).2⟩⟩⟩
  unfold hit
  have hdl:(P.drop xs.length).length=P.length-xs.length:=List.length_drop
  show Kp s (if k≠0∨i<(((Z++b).length:Nat):Int) then _ else _) _
  by_cases hc1:k≠0∨i<(((Z++b).length:Nat):Int)
  ·rw[if_pos hc1]
   refine stays i ?_
   by_cases hk:k=0
   ·subst hk
    have hi:i<(((Z++b).length:Nat):Int):=by rcases hc1 with h | h;exact absurd rfl h;exact h
    by_cases h0:i<0
    ·rw[headTy_neg h0] at hh;cases hh
    ·obtain⟨n,rfl⟩:∃ n:Nat,i=n:=⟨i.toNat,by omega⟩
     rw[headTy_0,rev_app,if_pos (by omega)] at hh ⊢;exact hh
   ·rw[headTy_ctx (X':=X++P++(Z++b)) hk];exact hh
  ·rw[if_neg hc1]
   have hk:k=0:=by
    by_cases h:k=0
    ·exact h
    ·exact absurd (.inl h) hc1
   have hi:(((Z++b).length:Nat):Int)≤i:=by
    by_cases h:i<(((Z++b).length:Nat):Int)
    ·exact absurd (.inr h) hc1
    ·omega
   subst hk
   obtain⟨n,rfl⟩:∃ n:Nat,i=n:=⟨i.toNat,by omega⟩
   obtain⟨d,hd⟩:∃ d,n=(Z++b).length+d:=⟨n-(Z++b).length,by omega⟩
   rw[headTy_0,rev_app,if_neg (by omega),show n-(Z++b).length=d by omega,rev_app] at hh
   have hdlt:d<X.length+P.length:=by
    by_cases hdp:d<P.length
    ·omega
    ·rw[if_neg hdp] at hh
     have:=(List.getElem?_eq_some_iff.1 hh).1
     rw[List.length_reverse] at this;omega
   have hwd:wr ((Tm.mk b 0 (n:Int) a).index-(((Z++b).length:Nat):Int))=(d:Int):=by
    show wr ((n:Int)-(((Z++b).length:Nat):Int))=_
    rw[wr_id (by omega) (by omega)];omega
   dsimp only
   rw[hwd]
   clear hwd
   by_cases hc2:(d:Int)<(P.length:Int)-xs.length
   ·rw[if_pos hc2]
    refine stays n ?_
    rw[headTy_0,rev_app,if_neg (by omega),show n-(Z++b).length=d by omega,rev_app,if_pos (by omega)]
    rw[if_pos (by omega)] at hh
    have e1:P=P.take xs.length++P.drop xs.length:=(List.take_append_drop ..).symm
    rw[e1,rev_app,if_pos (by omega)] at hh
    exact hh
   ·rw[if_neg hc2]
    by_cases hc3:(P.length:Int)≤(d:Int)
    ·rw[if_pos hc3]
     have hwn:wr ((Tm.mk b 0 (n:Int) a).index-xs.length)=((n-xs.length:Nat):Int):=by
      show wr ((n:Int)-xs.length)=_
      rw[wr_id (by omega) (by omega)];omega
     rw[hwn]
     clear hwn
     refine stays _ ?_
     rw[if_neg (by omega)] at hh
     rw[headTy_0,rev_app,if_neg (by omega),rev_app,if_neg (by omega),←hh]
     congr 1
     omega
    ·rw[if_neg hc3]
     rw[if_pos (by omega)] at hh
     obtain⟨j,hj⟩:∃ j,j=P.length-1-d:=⟨_,rfl⟩
     have hjm:j<xs.length:=by omega
     have hjP:j<P.length:=by omega
     have hPj:P[j]=h:=by
      rw[List.getElem?_reverse (by omega),←hj,List.getElem?_eq_getElem hjP] at hh
      exact Option.some.inj hh
     have hgd:xs.getD ((P.length:Int)-1-(d:Int)).toNat tz=xs[j]:=by
      rw[show ((P.length:Int)-1-(d:Int)).toNat=j by omega,List.getD_eq_getElem?_getD,List.getElem?_eq_getElem hjm];rfl
     have hxj:IsOf C M xs[j] X h:=by
      have h1:=(isOfs_iff.1 hxt).2 j hjm (by rw[List.length_take];omega)
      rw[List.getElem_take,hPj] at h1;exact h1
     have hYl:(P.drop xs.length++(Z++b)).length=P.length-xs.length+(Z++b).length:=by rw[List.length_append,hdl]
     have hwg:wr (wr ((((Z++b).length:Nat):Int)+P.length)-xs.length)=((P.drop xs.length++(Z++b)).length:Nat):=by
      rw[wr_id (x:=(((Z++b).length:Nat):Int)+P.length) (by omega) (by omega),wr_id (by omega) (by omega),hYl];omega
     rw[hgd,hwg]
     clear hgd hwg
     have hxm:xs[j]∈xs:=List.getElem_mem hjm
     have hu1:=grown_isOf (Y:=P.drop xs.length++(Z++b)) (by have:=hxf _ hxm;omega) hxj
     have hub:=(hx _ hxm).grown ((P.drop xs.length++(Z++b)).length:Nat)
     generalize grown xs[j] ((P.drop xs.length++(Z++b)).length:Nat)=v at hu1 hub ⊢
     obtain⟨vb,vk,vi,va⟩:=v
     obtain⟨v1,v2,v3⟩:=hub.inv
     obtain⟨hvb,h',hvh,hvbase,hvargs⟩:=isOf_mk.1 hu1
     have hal:=isOfs_len hargs
     have hvl:=Ty.le_sizes vb
     have hlen:vb.length=q.1.length:=by rw[hvb,hal,hql]
     show Kp s (if vb.length≠q.1.length then _ else _) _
     rw[if_neg (fun h=>h hlen)]
     unfold putW
     dsimp only
     by_cases hqe:q.2.e=0
     rotate_left
     ·rw[if_pos (.inl hqe)]
      refine⟨fun e=>?_,fun e=>?_⟩
      ·show (fail q.2 1).e≠1
       rw[fail_e hqe];exact hq1 e
      ·have e':(fail q.2 1).e=0:=e
       rw[fail_e hqe] at e';exact absurd e' hqe
     rw[if_neg (show ¬ (q.2.e≠0∨q.1.length>(Tm.mk vb vk vi va).binds.length) from fun h=>h.elim (fun h=>h hqe) fun h=>by have h':q.1.length>vb.length:=h;omega)]
     have hqa:=(hq.2 hqe).2
     have hqg:=hgr hqe
     have hX':X++(P.drop xs.length++(Z++b))=X++P.drop xs.length++(Z++b):=(List.append_assoc ..).symm
     rw[hX'] at hvh hvargs
     have hXl:(X++P.drop xs.length++(Z++b)).length=X.length+(P.length-xs.length)+(Z++b).length:=by rw[List.length_append,List.length_append,hdl]
     have hi2:=ih q.1 vb.length (.mk [] vk vi va) 0 q.2 (X++P.drop xs.length++(Z++b)) vb [] (.mk [] h.base) hqw (fun _=>by have:=hf1 u3;omega) hqg.2.2 (.mk _ _ _ _ (by simp[Ty.sizes]) v2 v3)
      (fun x hx=>by
       have h1:=Bnd.full x (hqg.2.2 x hx)
       have h2:x.size≤1000000000:=by
        have:=Tm.size_mem hx
        have:=hqg.2.1
        have:=hw.left.2
        have:=hqw.left.1
        omega
       have h3:x.size * (B+1)≤1000000000 * 5001:=Nat.mul_le_mul h2 (by omega)
       omega) hB (by omega) rfl rfl (by rw[hXl];simp only[List.length_nil];omega) (by rw[List.take_of_length_le (by omega),hvb];exact hqa)
      (by rw[List.append_nil];exact isOf_mk.2 ⟨rfl,h',by rw[List.append_nil];exact hvh,hvbase,by rw[List.append_nil];exact hvargs⟩)
     have hdr:vb.drop q.1.length=[]:=List.drop_of_length_le (by omega)
     rw[hdr,List.append_nil,List.append_nil] at hi2
     show Kp s (Tm.mk b (through f q.1 vb.length (.mk [] vk vi va) 0 q.2).1.kind (through f q.1 vb.length (.mk [] vk vi va) 0 q.2).1.index (through f q.1 vb.length (.mk [] vk vi va) 0 q.2).1.args,(through f q.1 vb.length (.mk [] vk vi va) 0 q.2).2) _
     generalize through f q.1 vb.length (.mk [] vk vi va) 0 q.2=r at hi2 ⊢
     obtain⟨⟨rb,rk,ri,ra⟩,rs⟩:=r
     refine⟨fun e=>hi2.1 (hq1 e),fun e=>⟨u2,?_⟩⟩
     obtain⟨hrb,h2,hrh,hrbase,hrargs⟩:=isOf_mk.1 (hi2.2 e).2
     have hrb:rb=[]:=hrb
     subst hrb
     rw[List.append_nil] at hrh hrargs
     exact isOf_mk.2 ⟨hbu,h2,by rw[List.append_assoc];exact hrh,hrbase.trans hbase,by rw[List.append_assoc];exact hrargs⟩
end Nm
inductive Nar (B:Nat):Tm→Prop where
 | mk (b:List Ty) (k i:Int) (a:List Tm):Ty.sizes b≤B→(∀ u∈a,Nar B u)→Nar B (.mk b k i a)
theorem Nar.inv {B:Nat}{b:List Ty}{k i:Int}{a:List Tm}(h:Nar B (.mk b k i a)):Ty.sizes b≤B∧∀ u∈a,Nar B u:=by
 cases h with
 | mk _ _ _ _ h1 h2=>exact⟨h1,h2⟩
mutual
def Rn (f:Nat→Nat):Tm→Nat→Tm
 | .mk b k i a,z=>.mk b k (if k=0∧((z+b.length:Nat):Int)≤i then ((z+b.length+f (i-((z+b.length:Nat):Int)).toNat:Nat):Int) else i) (Rns f a (z+b.length))
def Rns (f:Nat→Nat):List Tm→Nat→List Tm
 | [],_=>[]
 | t :: l,z=>Rn f t z :: Rns f l z
end
theorem Rn_eq (f:Nat→Nat)(b:List Ty)(k i:Int)(a:List Tm)(z:Nat):Rn f (.mk b k i a) z=.mk b k (if k=0∧((z+b.length:Nat):Int)≤i then ((z+b.length+f (i-((z+b.length:Nat):Int)).toNat:Nat):Int) else i) (a.map fun t=>Rn f t (z+b.length)):=by
 have h:∀ l:List Tm,Rns f l (z+b.length)=l.map fun t=>Rn f t (z+b.length):=by
  intro l
  induction l with
  | nil=>rfl
  | cons t l ih=>rw[Rns,ih];rfl
 rw[Rn,h]
theorem Rn_nar {B:Nat}(f:Nat→Nat)(t:Tm):∀ z,Nar B t→Nar B (Rn f t z):=by
 induction t using Tm.ind with
 | h b k i a ih=>
  intro z h
  rw[Rn_eq]
  refine .mk _ _ _ _ h.inv.1 fun u hu=>?_
  obtain⟨v,hv,rfl⟩:=List.mem_map.1 hu
  exact ih v hv _ (h.inv.2 v hv)
theorem Rn_full (f:Nat→Nat)(t:Tm):∀ z,(Rn f t z).full=t.full:=by
 induction t using Tm.ind with
 | h b k i a ih=>
  intro z
  rw[Rn_eq,Tm.full_eq,Tm.full_eq]
  have key:∀ l:List Tm,(∀ t∈l,t∈a)→Tm.fulls (l.map fun t=>Rn f t (z+b.length))=Tm.fulls l:=by
   intro l
   induction l with
   | nil=>intro _;rfl
   | cons t l ihl=>
    intro hl
    rw[List.map_cons,Tm.fulls,Tm.fulls,ih t (hl t (by simp)),ihl fun u hu=>hl u (by simp[hu])]
  rw[key a fun t h=>h]
section
variable {C M:List Ty}
theorem Rn_isOf (f:Nat→Nat)(t:Tm):∀ (X Y Z:List Ty) (u:Ty),(∀ d h,Y.reverse[d]?=some h→X.reverse[f d]?=some h)→IsOf C M t (Y++Z) u→IsOf C M (Rn f t Z.length) (X++Z) u:=by
 induction t using Tm.ind with
 | h b k i a ih=>
  intro X Y Z u hf ht
  obtain⟨rfl,h,h1,h2,h3⟩:=isOf_mk.1 ht
  rw[Rn_eq]
  have hzl:(Z++u.args).length=Z.length+u.args.length:=List.length_append
  rw[List.append_assoc] at h1 h3
  refine isOf_mk.2 ⟨rfl,h,?_,h2,?_⟩
  ·rw[List.append_assoc]
   by_cases hk:k=0
   ·subst hk
    by_cases hi:i<0
    ·rw[headTy_neg hi] at h1;cases h1
    ·obtain⟨n,rfl⟩:∃ n:Nat,i=n:=⟨i.toNat,by omega⟩
     rw[headTy_0,rev_app] at h1
     by_cases hn:n<(Z++u.args).length
     ·rw[if_neg (by rintro⟨_,h⟩;omega),headTy_0,rev_app,if_pos hn]
      rw[if_pos hn] at h1;exact h1
     ·rw[if_neg hn] at h1
      rw[if_pos ⟨rfl,by omega⟩,headTy_0,rev_app,if_neg (by omega)]
      rw[show Z.length+u.args.length+f ((n:Int)-((Z.length+u.args.length:Nat):Int)).toNat-(Z++u.args).length=f (n-(Z++u.args).length) by
       rw[show ((n:Int)-((Z.length+u.args.length:Nat):Int)).toNat=n-(Z++u.args).length by omega];omega]
      exact hf _ _ h1
   ·rw[if_neg (fun h=>hk h.1),headTy_ctx (X':=Y++(Z++u.args)) hk];exact h1
  ·rw[List.append_assoc,←hzl]
   exact isOfs_map h3 fun v hv w hw=>ih v hv X Y (Z++u.args) w hf hw
theorem Rn_id (f:Nat→Nat)(t:Tm):∀ (z:Nat),(∀ d,f d=d)→Rn f t z=t:=by
 induction t using Tm.ind with
 | h b k i a ih=>
  intro z hf
  rw[Rn_eq]
  congr 1
  ·split
   ·rename_i h;rw[hf];omega
   ·rfl
  ·have:a.map (fun t=>Rn f t (z+b.length))=a.map fun t=>t:=List.map_congr_left fun t ht=>ih t ht _ hf
   rw[this,List.map_id']
theorem lift_Rn (t:Tm)(y:Nat):∀ (X Z:List Ty) (u:Ty),(X.length:Int)+y+Z.length+t.full≤9000000000000→IsOf C M t (X++Z) u→Nm.lift y t Z.length=Rn (· + y) t Z.length:=by
 induction t using Tm.ind with
 | h b k i a ih=>
  intro X Z u hz ht
  rw[Tm.full_eq] at hz
  have hbl:=Ty.le_sizes b
  obtain⟨rfl,h,h1,h2,h3⟩:=isOf_mk.1 ht
  rw[List.append_assoc] at h1 h3
  have hzl:(Z++u.args).length=Z.length+u.args.length:=List.length_append
  have hw:Nm.wr (Z.length+u.args.length)=((Z.length+u.args.length:Nat):Int):=by rw[wr_id (by omega) (by omega)];omega
  rw[Nm.lift_eq,Nm.lifts_map,hw,Rn_eq]
  congr 1
  ·by_cases hc:k=0∧((Z.length+u.args.length:Nat):Int)≤i
   ·rw[if_pos hc,if_pos hc]
    obtain⟨rfl,hi⟩:=hc
    obtain⟨n,rfl⟩:∃ n:Nat,i=n:=⟨i.toNat,by omega⟩
    rw[headTy_0] at h1
    have hlt:=(List.getElem?_eq_some_iff.1 h1).1
    rw[List.length_reverse,List.length_append] at hlt
    rw[wr_id (by omega) (by omega)];omega
   ·rw[if_neg hc,if_neg hc]
  ·refine List.map_congr_left fun v hv=>?_
   obtain⟨j,hj,rfl⟩:=List.getElem_of_mem hv
   have hl:=isOfs_len h3
   have:=Tm.full_mem (List.getElem_mem hj)
   have hr:=ih a[j] hv X (Z++u.args) _ (by omega) ((isOfs_iff.1 h3).2 j hj (by omega))
   rw[hzl] at hr
   exact hr
theorem grown_Rn {t:Tm}{y:Nat}{X:List Ty}{u:Ty}(hz:(X.length:Int)+y+t.full≤9000000000000)(h:IsOf C M t X u):Nm.grown t y=Rn (· + y) t 0:=by
 unfold Nm.grown
 split
 ·rename_i h0
  have:y=0:=by omega
  subst this
  exact(Rn_id _ _ _ fun _=>rfl).symm
 ·exact lift_Rn t y X [] u (by simp;omega) (by rw[List.append_nil];exact h)
end
theorem Rn_eta_low (f:Nat→Nat)(T:Ty):∀ (i z:Nat),i<z→Rn f (Ty.eta T 0 i) z=Ty.eta T 0 i:=by
 induction T using Ty.ind with
 | h a b ih=>
  intro i z hi
  rw[Ty.eta_eq,if_pos rfl,Rn_eq,if_neg (by rintro⟨_,h⟩;omega)]
  congr 1
  refine List.ext_getElem (by simp) fun j h1 h2=>?_
  have hj:j<a.length:=by rw[Ty.etas_len] at h2;exact h2
  rw[List.getElem_map,Ty.etas_get a j hj,show (a.length:Int)-1-j=((a.length-1-j:Nat):Int) by omega]
  exact ih _ (List.getElem_mem hj) _ _ (by omega)
theorem Rn_eta (f:Nat→Nat)(T:Ty)(i:Nat):Rn f (Ty.eta T 0 i) 0=Ty.eta T 0 (f i):=by
 obtain⟨a,b⟩:=T
 rw[Ty.eta_eq,if_pos rfl,Rn_eq,if_pos ⟨rfl,by omega⟩,Ty.eta_eq,if_pos rfl]
 congr 1
 ·rw[show ((i:Int)+(a.length:Nat)-((0+a.length:Nat):Int)).toNat=i by omega];omega
 ·refine List.ext_getElem (by simp) fun j h1 h2=>?_
  have hj:j<a.length:=by rw[Ty.etas_len] at h2;exact h2
  rw[List.getElem_map,Ty.etas_get a j hj,show (a.length:Int)-1-j=((a.length-1-j:Nat):Int) by omega]
  exact Rn_eta_low _ _ _ _ (by omega)
theorem Rn_back (m:Nat)(f:Nat→Nat)(hf:∀ d,f d=if d<m then d else d-m)(t:Tm):∀ z,Rn f (Rn (· + m) t (m+z)) z=t:=by
 induction t using Tm.ind with
 | h b k i a ih=>
  intro z
  obtain⟨i',hi'⟩:∃ i',(if k=0∧((m+z+b.length:Nat):Int)≤i then ((m+z+b.length+(· + m) (i-((m+z+b.length:Nat):Int)).toNat:Nat):Int) else i)=i':=⟨_,rfl⟩
  rw[Rn_eq,hi',Rn_eq]
  dsimp only at hi'
  congr 1
  ·by_cases hk:k=0
   ·subst hk
    by_cases h1:((m+z+b.length:Nat):Int)≤i
    ·rw[if_pos ⟨rfl,h1⟩] at hi'
     rw[if_pos ⟨rfl,by omega⟩,hf]
     split <;> omega
    ·rw[if_neg (fun h=>h1 h.2)] at hi'
     subst hi'
     by_cases h2:((z+b.length:Nat):Int)≤i
     ·rw[if_pos ⟨rfl,h2⟩,hf]
      split <;> omega
     ·rw[if_neg (fun h=>h2 h.2)]
   ·rw[if_neg (fun h=>hk h.1)] at hi'
    rw[if_neg (fun h=>hk h.1)];exact hi'.symm
  ·rw[List.map_map]
   have:a.map ((fun t=>Rn f t (z+b.length)) ∘ fun t=>Rn (· + m) t (m+z+b.length))=a.map fun t=>t:=List.map_congr_left fun t ht=>by
    show Rn f (Rn (· + m) t (m+z+b.length)) (z+b.length)=t
    rw[Nat.add_assoc]
    exact ih t ht _
   rw[this,List.map_id']
namespace Hs
inductive Img where
 | v (d:Nat)
 | t (x:Tm)
def jk:Tm:=.mk [] 1 (-1) []
def wb (b:List Ty)(t:Tm):Tm:=.mk b t.kind t.index t.args
def bo (t:Tm):Tm:=.mk [] t.kind t.index t.args
mutual
def HW (P:Tm→List Tm→Tm)(ρ:Nat→Img):Tm→Nat→Tm
 | .mk b k i a,z=>if k=0∧((z+b.length:Nat):Int)≤i then (match ρ (i-((z+b.length:Nat):Int)).toNat with
   | .v d=>.mk b 0 ((z+b.length+d:Nat):Int) (HWs P ρ a (z+b.length))
   | .t x=>wb b (P (Rn (· + (z+b.length)) x 0) (HWs P ρ a (z+b.length))))
  else .mk b k i (HWs P ρ a (z+b.length))
def HWs (P:Tm→List Tm→Tm)(ρ:Nat→Img):List Tm→Nat→List Tm
 | [],_=>[]
 | t :: l,z=>HW P ρ t z :: HWs P ρ l z
end
theorem HWs_map (P:Tm→List Tm→Tm)(ρ:Nat→Img)(z:Nat):∀ l:List Tm,HWs P ρ l z=l.map fun t=>HW P ρ t z
 | []=>by rw[HWs];rfl
 | t :: l=>by rw[HWs,HWs_map P ρ z l];rfl
theorem HW_out (P:Tm→List Tm→Tm)(ρ:Nat→Img)(b:List Ty)(k i:Int)(a:List Tm)(z:Nat)(h:¬ (k=0∧((z+b.length:Nat):Int)≤i)):HW P ρ (.mk b k i a) z=.mk b k i (a.map fun t=>HW P ρ t (z+b.length)):=by
 rw[HW,if_neg h,HWs_map]
theorem HW_v (P:Tm→List Tm→Tm)(ρ:Nat→Img)(b:List Ty)(d e:Nat)(a:List Tm)(z:Nat)(h:ρ d=.v e):HW P ρ (.mk b 0 ((z+b.length+d:Nat):Int) a) z=.mk b 0 ((z+b.length+e:Nat):Int) (a.map fun t=>HW P ρ t (z+b.length)):=by
 rw[HW,if_pos ⟨rfl,by omega⟩,HWs_map,show (((z+b.length+d:Nat):Int)-((z+b.length:Nat):Int)).toNat=d by omega,h]
theorem HW_t (P:Tm→List Tm→Tm)(ρ:Nat→Img)(b:List Ty)(d:Nat)(x:Tm)(a:List Tm)(z:Nat)(h:ρ d=.t x):HW P ρ (.mk b 0 ((z+b.length+d:Nat):Int) a) z=wb b (P (Rn (· + (z+b.length)) x 0) (a.map fun t=>HW P ρ t (z+b.length))):=by
 rw[HW,if_pos ⟨rfl,by omega⟩,HWs_map,show (((z+b.length+d:Nat):Int)-((z+b.length:Nat):Int)).toNat=d by omega,h]
theorem cases_ix (b:List Ty)(k i:Int)(z:Nat):(¬ (k=0∧((z+b.length:Nat):Int)≤i))∨(k=0∧∃ d:Nat,i=((z+b.length+d:Nat):Int)):=by
 by_cases h:k=0∧((z+b.length:Nat):Int)≤i
 ·exact .inr ⟨h.1,(i-((z+b.length:Nat):Int)).toNat,by omega⟩
 ·exact .inl h
theorem Rn_out (f:Nat→Nat)(b:List Ty)(k i:Int)(a:List Tm)(z:Nat)(h:¬ (k=0∧((z+b.length:Nat):Int)≤i)):Rn f (.mk b k i a) z=.mk b k i (a.map fun t=>Rn f t (z+b.length)):=by
 rw[Rn_eq,if_neg h]
theorem Rn_v (f:Nat→Nat)(b:List Ty)(d:Nat)(a:List Tm)(z:Nat):Rn f (.mk b 0 ((z+b.length+d:Nat):Int) a) z=.mk b 0 ((z+b.length+f d:Nat):Int) (a.map fun t=>Rn f t (z+b.length)):=by
 rw[Rn_eq,if_pos ⟨rfl,by omega⟩,show (((z+b.length+d:Nat):Int)-((z+b.length:Nat):Int)).toNat=d by omega]
theorem Rn_wb (f:Nat→Nat)(b:List Ty)(w:Tm)(z:Nat):Rn f (wb b w) z=wb b (Rn f (bo w) (z+b.length)):=by
 unfold wb bo
 rw[Rn_eq,Rn_eq];rfl
theorem Rn_bo (f:Nat→Nat)(w:Tm)(z:Nat):bo (Rn f w z)=Rn f (bo w) (z+w.binds.length):=by
 obtain⟨b,k,i,a⟩:=w
 unfold bo
 rw[Rn_eq,Rn_eq];rfl
theorem Rn_binds (f:Nat→Nat)(w:Tm)(z:Nat):(Rn f w z).binds=w.binds:=by
 obtain⟨b,k,i,a⟩:=w
 rw[Rn_eq];rfl
def up (n:Nat)(r:Nat→Nat)(d:Nat):Nat:=if d<n then d else n+r (d-n)
theorem Rn_up (r:Nat→Nat)(n:Nat)(t:Tm):∀ z,Rn r t (z+n)=Rn (up n r) t z:=by
 induction t using Tm.ind with
 | h b k i a ih=>
  intro z
  have ha:(a.map fun t=>Rn r t (z+n+b.length))=a.map fun t=>Rn (up n r) t (z+b.length):=List.map_congr_left fun t ht=>by rw[←ih t ht];congr 1;omega
  rcases cases_ix b k i z with h | ⟨rfl,d,rfl⟩
  ·rw[Rn_out _ _ _ _ _ _ h,Rn_out _ _ _ _ _ _ (by rintro⟨h1,h2⟩;exact h ⟨h1,by omega⟩),ha]
  ·rw[Rn_v,←ha]
   by_cases hd:d<n
   ·rw[Rn_out _ _ _ _ _ _ (by rintro⟨h1,h2⟩;omega)]
    unfold up;rw[if_pos hd]
   ·rw[show ((z+b.length+d:Nat):Int)=((z+n+b.length+(d-n):Nat):Int) by omega,Rn_v]
    unfold up;rw[if_neg hd]
    congr 1;omega
theorem Rn_Rn (r q:Nat→Nat)(t:Tm):∀ z,Rn r (Rn q t z) z=Rn (fun d=>r (q d)) t z:=by
 induction t using Tm.ind with
 | h b k i a ih=>
  intro z
  have ha:((a.map fun t=>Rn q t (z+b.length)).map fun t=>Rn r t (z+b.length))=a.map fun t=>Rn (fun d=>r (q d)) t (z+b.length):=by
   rw[List.map_map];exact List.map_congr_left fun t ht=>ih t ht _
  rcases cases_ix b k i z with h | ⟨rfl,d,rfl⟩
  ·rw[Rn_out _ _ _ _ _ _ h,Rn_out _ _ _ _ _ _ h,Rn_out _ _ _ _ _ _ h,ha]
  ·rw[Rn_v,Rn_v,Rn_v,ha]
theorem Rn_comm (r:Nat→Nat)(m:Nat)(x:Tm):Rn r (Rn (· + m) x 0) m=Rn (· + m) (Rn r x 0) 0:=by
 have:=Rn_up r m (Rn (· + m) x 0) 0
 rw[Nat.zero_add] at this
 rw[this,Rn_Rn,Rn_Rn]
 congr 1
 funext d
 unfold up
 rw[if_neg (by omega),show d+m-m=d by omega];omega
theorem Rn_ext {r q:Nat→Nat}(h:∀ d,r d=q d)(t:Tm)(z:Nat):Rn r t z=Rn q t z:=by rw[show r=q from funext h]
theorem HW_Rn (P:Tm→List Tm→Tm)(ρ:Nat→Img)(r:Nat→Nat)(t:Tm):∀ z,HW P ρ (Rn r t z) z=HW P (fun d=>ρ (r d)) t z:=by
 induction t using Tm.ind with
 | h b k i a ih=>
  intro z
  have ha:((a.map fun t=>Rn r t (z+b.length)).map fun t=>HW P ρ t (z+b.length))=a.map fun t=>HW P (fun d=>ρ (r d)) t (z+b.length):=by
   rw[List.map_map];exact List.map_congr_left fun t ht=>ih t ht _
  rcases cases_ix b k i z with h | ⟨rfl,d,rfl⟩
  ·rw[Rn_out _ _ _ _ _ _ h,HW_out _ _ _ _ _ _ _ h,HW_out _ _ _ _ _ _ _ h,ha]
  ·rw[Rn_v]
   cases hr:ρ (r d) with
   | v e=>rw[HW_v _ _ _ _ e _ _ hr,HW_v _ (fun d=>ρ (r d)) _ _ e _ _ hr,ha]
   | t x=>rw[HW_t _ _ _ _ x _ _ hr,HW_t _ (fun d=>ρ (r d)) _ _ x _ _ hr,ha]
theorem HW_var (P:Tm→List Tm→Tm)(ρ:Nat→Img)(r:Nat→Nat)(hr:∀ d,ρ d=.v (r d))(t:Tm):∀ z,HW P ρ t z=Rn r t z:=by
 induction t using Tm.ind with
 | h b k i a ih=>
  intro z
  have ha:(a.map fun t=>HW P ρ t (z+b.length))=a.map fun t=>Rn r t (z+b.length):=List.map_congr_left fun t ht=>ih t ht _
  rcases cases_ix b k i z with h | ⟨rfl,d,rfl⟩
  ·rw[Rn_out _ _ _ _ _ _ h,HW_out _ _ _ _ _ _ _ h,ha]
  ·rw[Rn_v,HW_v _ _ _ _ _ _ _ (hr d),ha]
theorem HW_ext {P:Tm→List Tm→Tm}{ρ σ:Nat→Img}(h:∀ d,ρ d=σ d)(t:Tm)(z:Nat):HW P ρ t z=HW P σ t z:=by rw[show ρ=σ from funext h]
theorem HW_wb (P:Tm→List Tm→Tm)(ρ:Nat→Img)(b:List Ty)(w:Tm)(z:Nat):HW P ρ (wb b w) z=wb b (HW P ρ (bo w) (z+b.length)):=by
 unfold bo
 obtain⟨b',k,i,a⟩:=w
 show HW P ρ (.mk b k i a) z=wb b (HW P ρ (.mk [] k i a) (z+b.length))
 rcases cases_ix b k i z with h | ⟨rfl,d,rfl⟩
 ·rw[HW_out _ _ _ _ _ _ _ h,HW_out _ _ _ _ _ _ _ (by rintro⟨h1,h2⟩;exact h ⟨h1,by simpa using h2⟩)];rfl
 ·have e:((z+b.length+d:Nat):Int)=((z+b.length+([]:List Ty).length+d:Nat):Int):=by simp
  cases hr:ρ d with
  | v e'=>rw[HW_v _ _ _ _ e' _ _ hr,e,HW_v _ _ _ _ e' _ _ hr];rfl
  | t x=>rw[HW_t _ _ _ _ x _ _ hr,e,HW_t _ _ _ _ x _ _ hr];rfl
theorem HW_bo (P:Tm→List Tm→Tm)(ρ:Nat→Img)(w:Tm)(z:Nat):bo (HW P ρ w z)=bo (HW P ρ (bo w) (z+w.binds.length)):=by
 obtain⟨b,k,i,a⟩:=w
 have h:=HW_wb P ρ b (.mk [] k i a) z
 have e:HW P ρ (.mk b k i a) z=wb b (HW P ρ (.mk [] k i a) (z+b.length)):=h
 rw[e];rfl
theorem HW_binds (P:Tm→List Tm→Tm)(ρ:Nat→Img)(w:Tm)(z:Nat):(HW P ρ w z).binds=w.binds:=by
 obtain⟨b,k,i,a⟩:=w
 rw[HW]
 split
 ·split <;> rfl
 ·rfl
def upI (m:Nat)(ρ:Nat→Img)(d:Nat):Img:=if d<m then .v d else match ρ (d-m) with
 | .v e=>.v (m+e)
 | .t x=>.t (Rn (· + m) x 0)
theorem upI_low {m:Nat}{ρ:Nat→Img}{d:Nat}(h:d<m):upI m ρ d=.v d:=by unfold upI;rw[if_pos h]
theorem upI_v {m:Nat}{ρ:Nat→Img}{d e:Nat}(h:m≤d)(hr:ρ (d-m)=.v e):upI m ρ d=.v (m+e):=by unfold upI;rw[if_neg (by omega),hr]
theorem upI_t {m:Nat}{ρ:Nat→Img}{d:Nat}{x:Tm}(h:m≤d)(hr:ρ (d-m)=.t x):upI m ρ d=.t (Rn (· + m) x 0):=by unfold upI;rw[if_neg (by omega),hr]
theorem HW_up (P:Tm→List Tm→Tm)(ρ:Nat→Img)(m:Nat)(t:Tm):∀ z,HW P ρ t (z+m)=HW P (upI m ρ) t z:=by
 induction t using Tm.ind with
 | h b k i a ih=>
  intro z
  have ha:(a.map fun t=>HW P ρ t (z+m+b.length))=a.map fun t=>HW P (upI m ρ) t (z+b.length):=List.map_congr_left fun t ht=>by rw[←ih t ht];congr 1;omega
  rcases cases_ix b k i z with h | ⟨rfl,d,rfl⟩
  ·rw[HW_out _ _ _ _ _ _ _ h,HW_out _ _ _ _ _ _ _ (by rintro⟨h1,h2⟩;exact h ⟨h1,by omega⟩),ha]
  ·by_cases hd:d<m
   ·rw[HW_out _ _ _ _ _ _ _ (by rintro⟨h1,h2⟩;omega),HW_v _ _ _ _ _ _ _ (upI_low hd),ha]
   ·have e:((z+b.length+d:Nat):Int)=((z+m+b.length+(d-m):Nat):Int):=by omega
    cases hr:ρ (d-m) with
    | v e'=>
     rw[HW_v _ _ _ _ _ _ _ (upI_v (by omega) hr),e,HW_v _ _ _ _ _ _ _ hr,ha]
     congr 1;omega
    | t x=>
     rw[HW_t _ _ _ _ _ _ _ (upI_t (by omega) hr),e,HW_t _ _ _ _ _ _ _ hr,ha,Rn_Rn]
     congr 2
     exact Rn_ext (fun d=>by omega) _ _
def sg (xs:List Tm)(d:Nat):Img:=if d<xs.length then .t (xs.getD (xs.length-1-d) jk) else .v (d-xs.length)
def pt (h:(Nat→Img)→Tm→Nat→Tm)(x:Tm)(xs:List Tm):Tm:=if x.binds.length≠xs.length then jk else bo (h (sg xs) (bo x) 0)
def H:Nat→(Nat→Img)→Tm→Nat→Tm
 | 0=>HW fun _ _=>jk
 | f+1=>HW (pt (H f))
def PF:Nat→Tm→List Tm→Tm
 | 0=>fun _ _=>jk
 | f+1=>pt (H f)
theorem H_is (f:Nat):H f=HW (PF f):=by cases f <;> rfl
theorem pt_jk (P:Tm→List Tm→Tm)(ρ:Nat→Img)(z:Nat):HW P ρ jk z=jk:=by
 unfold jk
 rw[HW_out _ _ _ _ _ _ _ (by rintro⟨h,_⟩;exact absurd h (by decide))];rfl
theorem rn_jk (r:Nat→Nat)(z:Nat):Rn r jk z=jk:=by
 unfold jk
 rw[Rn_out _ _ _ _ _ _ (by rintro⟨h,_⟩;exact absurd h (by decide))];rfl
theorem PF_bo (f:Nat)(x:Tm)(xs:List Tm):bo (PF f x xs)=PF f x xs:=by
 cases f with
 | zero=>rfl
 | succ f=>
  show bo (pt (H f) x xs)=pt (H f) x xs
  unfold pt
  split <;> rfl
theorem sg_map (g:Tm→Tm)(hg:g jk=jk)(xs:List Tm)(d:Nat):sg (xs.map g) d=if d<xs.length then .t (g (xs.getD (xs.length-1-d) jk)) else .v (d-xs.length):=by
 unfold sg
 rw[List.length_map]
 split
 ·rw[List.getD_eq_getElem?_getD,List.getElem?_map,List.getD_eq_getElem?_getD]
  cases xs[xs.length-1-d]? with
  | none=>show Img.t jk=Img.t (g jk);rw[hg]
  | some x=>rfl
 ·rfl
def rnI (r:Nat→Nat):Img→Img
 | .v d=>.v (r d)
 | .t x=>.t (Rn r x 0)
theorem sg_low {xs:List Tm}{d:Nat}(h:d<xs.length):sg xs d=.t (xs.getD (xs.length-1-d) jk):=by unfold sg;rw[if_pos h]
theorem sg_high {xs:List Tm}{d:Nat}(h:xs.length≤d):sg xs d=.v (d-xs.length):=by unfold sg;rw[if_neg (by omega)]
theorem sgm_low {g:Tm→Tm}(hg:g jk=jk){xs:List Tm}{d:Nat}(h:d<xs.length):sg (xs.map g) d=.t (g (xs.getD (xs.length-1-d) jk)):=by rw[sg_map g hg,if_pos h]
theorem sgm_high {g:Tm→Tm}(hg:g jk=jk){xs:List Tm}{d:Nat}(h:xs.length≤d):sg (xs.map g) d=.v (d-xs.length):=by rw[sg_map g hg,if_neg (by omega)]
theorem rnH_of {P:Tm→List Tm→Tm}(hb:∀ x xs,bo (P x xs)=P x xs)(hP:∀ (r:Nat→Nat) (x:Tm) (xs:List Tm) (m:Nat),Rn r (P x xs) m=P (Rn r x m) (xs.map fun t=>Rn r t m))(r:Nat→Nat)(ρ:Nat→Img)(t:Tm):∀ z,Rn r (HW P ρ t z) z=HW P (fun d=>rnI r (ρ d)) t z:=by
 induction t using Tm.ind with
 | h b k i a ih=>
  intro z
  have ha:((a.map fun t=>HW P ρ t (z+b.length)).map fun t=>Rn r t (z+b.length))=a.map fun t=>HW P (fun d=>rnI r (ρ d)) t (z+b.length):=by
   rw[List.map_map];exact List.map_congr_left fun t ht=>ih t ht _
  rcases cases_ix b k i z with h | ⟨rfl,d,rfl⟩
  ·rw[HW_out _ _ _ _ _ _ _ h,HW_out _ _ _ _ _ _ _ h,Rn_out _ _ _ _ _ _ h,ha]
  ·cases hr:ρ d with
   | v e=>rw[HW_v _ _ _ _ e _ _ hr,HW_v _ (fun d=>rnI r (ρ d)) _ _ (r e) _ _ (by rw[hr];rfl),Rn_v,ha]
   | t x=>rw[HW_t _ _ _ _ x _ _ hr,HW_t _ (fun d=>rnI r (ρ d)) _ _ (Rn r x 0) _ _ (by rw[hr];rfl),Rn_wb,hb,hP,ha,Rn_comm]
theorem rnP_of {h:(Nat→Img)→Tm→Nat→Tm}{P:Tm→List Tm→Tm}(hh:h=HW P)(hr:∀ (r:Nat→Nat) (ρ:Nat→Img) (t:Tm) (z:Nat),Rn r (h ρ t z) z=h (fun d=>rnI r (ρ d)) t z)(r:Nat→Nat)(x:Tm)(xs:List Tm)(m:Nat):Rn r (pt h x xs) m=pt h (Rn r x m) (xs.map fun t=>Rn r t m):=by
 unfold pt
 rw[Rn_binds,List.length_map]
 by_cases hn:x.binds.length≠xs.length
 ·rw[if_pos hn,if_pos hn,rn_jk]
 ·rw[if_neg hn,if_neg hn]
  have hn:x.binds.length=xs.length:=by omega
  have e1:bo (Rn r (h (sg xs) (bo x) 0) m)=Rn r (bo (h (sg xs) (bo x) 0)) m:=by
   rw[Rn_bo,hh,HW_binds];rfl
  rw[←e1,Rn_bo r x m,hn]
  have e2:=Rn_up r m (h (sg xs) (bo x) 0) 0
  rw[Nat.zero_add] at e2
  rw[e2,hr]
  have e3:=Rn_up r (m+xs.length) (bo x) 0
  rw[Nat.zero_add] at e3
  rw[e3]
  rw[hh,HW_Rn]
  congr 1
  refine HW_ext (fun d=>?_) _ _
  by_cases hd:d<xs.length
  ·rw[sg_low hd]
   have e4:up (m+xs.length) r d=d:=by unfold up;rw[if_pos (by omega)]
   rw[e4,sgm_low (rn_jk _ _) hd]
   show Img.t (Rn (up m r) _ 0)=_
   rw[←Rn_up,Nat.zero_add]
  ·rw[sg_high (by omega)]
   show Img.v (up m r (d-xs.length))=_
   have e5:xs.length≤up (m+xs.length) r d:=by unfold up;split <;> omega
   rw[sgm_high (rn_jk _ _) e5]
   congr 1
   unfold up
   by_cases h1:d<m+xs.length
   ·rw[if_pos h1,if_pos (by omega)]
   ·rw[if_neg h1,if_neg (by omega),show d-xs.length-m=d-(m+xs.length) by omega];omega
theorem rn_P:∀ (f:Nat) (r:Nat→Nat) (x:Tm) (xs:List Tm) (m:Nat),Rn r (PF f x xs) m=PF f (Rn r x m) (xs.map fun t=>Rn r t m)
 | 0,r,x,xs,m=>rn_jk _ _
 | f+1,r,x,xs,m=>rnP_of (H_is f) (fun r ρ t z=>by rw[H_is f];exact rnH_of (PF_bo f) (rn_P f) r ρ t z) r x xs m
theorem rn_H (f:Nat)(r:Nat→Nat)(ρ:Nat→Img)(t:Tm)(z:Nat):Rn r (H f ρ t z) z=H f (fun d=>rnI r (ρ d)) t z:=by
 rw[H_is f];exact rnH_of (PF_bo f) (rn_P f) r ρ t z
theorem HW_lift (f m:Nat)(θ:Nat→Img)(x:Tm):H f θ (Rn (· + m) x 0) m=Rn (· + m) (H f θ x 0) 0:=by
 rw[rn_H,H_is f]
 have e:=HW_up (PF f) θ m (Rn (· + m) x 0) 0
 rw[Nat.zero_add] at e
 rw[e,HW_Rn]
 refine HW_ext (fun d=>?_) _ _
 cases hr:θ d with
 | v e'=>rw[upI_v (by omega) (by rw[show d+m-m=d by omega];exact hr)];show Img.v (m+e')=Img.v (e'+m);rw[Nat.add_comm]
 | t y=>rw[upI_t (by omega) (by rw[show d+m-m=d by omega];exact hr)];rfl
def Sq (f g:Nat)(ρ θ ρ' θ':Nat→Img):Prop:=∀ d,(∃ k l k',θ d=.v k∧ρ k=.v l∧ρ' d=.v k'∧θ' k'=.v l)∨(∃ k x,θ d=.v k∧ρ k=.t (H g θ' x 0)∧ρ' d=.t x)∨(∃ y k',θ d=.t y∧ρ' d=.v k'∧θ' k'=.t (H f ρ y 0))
theorem sq_sg {f g n:Nat}(ρ:Nat→Img)(xs:List Tm)(hn:xs.length=n):Sq f g ρ (sg xs) (upI n ρ) (sg (xs.map fun t=>H f ρ t 0)):=by
 subst hn
 intro d
 have hj:(fun t=>H f ρ t 0) jk=jk:=by rw[H_is f];exact pt_jk _ _ _
 by_cases hd:d<xs.length
 ·exact .inr (.inr ⟨_,d,sg_low hd,upI_low hd,sgm_low hj hd⟩)
 ·cases hr:ρ (d-xs.length) with
  | v l=>exact .inl ⟨d-xs.length,l,xs.length+l,sg_high (by omega),hr,upI_v (by omega) hr,by rw[sgm_high hj (by omega)];congr 1;omega⟩
  | t x=>
   refine .inr (.inl ⟨_,_,sg_high (by omega),?_,upI_t (by omega) hr⟩)
   rw[hr,H_is g,HW_Rn,HW_var _ _ (fun d=>d) (fun d=>by rw[sgm_high hj (by omega)];congr 1;omega),Rn_id _ _ _ fun _=>rfl]
theorem put_of {f g m:Nat}(ρ:Nat→Img)(Y:Tm)(xs:List Tm)(hW:∀ g',g=g'+1→∀ (t:Tm) (z:Nat) (ρ θ ρ' θ':Nat→Img),Sq f g' ρ θ ρ' θ'→H f ρ (H g' θ t z) z=H g' θ' (H f ρ' t z) z):
  H f ρ (PF g Y xs) m=PF g (H f ρ Y m) (xs.map fun t=>H f ρ t m):=by
 cases g with
 | zero=>rw[H_is f];exact pt_jk _ _ _
 | succ g=>
  have hW:=hW g rfl
  show H f ρ (pt (H g) Y xs) m=pt (H g) (H f ρ Y m) (xs.map fun t=>H f ρ t m)
  unfold pt
  have hb:(H f ρ Y m).binds=Y.binds:=by rw[H_is f,HW_binds]
  rw[hb,List.length_map]
  by_cases hn:Y.binds.length≠xs.length
  ·rw[if_pos hn,if_pos hn,H_is f,pt_jk]
  ·rw[if_neg hn,if_neg hn]
   have hn:Y.binds.length=xs.length:=by omega
   have hm:∀ w,H f ρ w m=H f (upI m ρ) w 0:=fun w=>by
    have:=HW_up (PF f) ρ m w 0
    rw[Nat.zero_add] at this
    rw[H_is f,this]
   have hwb:(H g (sg xs) (bo Y) 0).binds=[]:=by rw[H_is g,HW_binds];rfl
   have e1:H f ρ (bo (H g (sg xs) (bo Y) 0)) m=bo (H f ρ (H g (sg xs) (bo Y) 0) m):=by
    have h1:∀ w:Tm,w.binds=[]→bo w=w:=fun w hw=>by obtain⟨b,k,i,a⟩:=w;have hw:b=[]:=hw;subst hw;rfl
    have h2:=h1 (H f ρ (H g (sg xs) (bo Y) 0) m) (by rw[H_is f,HW_binds];exact hwb)
    rw[h1 _ hwb,h2]
   rw[e1,hm,hW (bo Y) 0 _ _ _ _ (sq_sg (f:=f) (g:=g) (n:=xs.length) (upI m ρ) xs rfl)]
   have e2:(xs.map fun t=>H f ρ t m)=xs.map fun t=>H f (upI m ρ) t 0:=List.map_congr_left fun t _=>hm t
   rw[e2]
   have e3:bo (H f ρ Y m)=H f (upI xs.length (upI m ρ)) (bo Y) 0:=by
    have h2:=HW_up (PF f) (upI m ρ) xs.length (bo Y) 0
    have h3:=HW_up (PF f) ρ m (bo Y) xs.length
    rw[Nat.zero_add] at h2
    rw[H_is f,HW_bo,←h2,←h3,hn,Nat.add_comm m]
    have h1:∀ w:Tm,w.binds=[]→bo w=w:=fun w hw=>by obtain⟨b,k,i,a⟩:=w;have hw:b=[]:=hw;subst hw;rfl
    exact h1 _ (by rw[HW_binds];rfl)
   rw[e3]
theorem sq_H:∀ (N f g:Nat),f+g≤N→∀ (t:Tm) (z:Nat) (ρ θ ρ' θ':Nat→Img),Sq f g ρ θ ρ' θ'→H f ρ (H g θ t z) z=H g θ' (H f ρ' t z) z
 | N,f,g,hN,t=>by
  have hput:∀ (ρ:Nat→Img) (Y:Tm) (xs:List Tm) (m:Nat),H f ρ (PF g Y xs) m=PF g (H f ρ Y m) (xs.map fun t=>H f ρ t m):=fun ρ Y xs m=>put_of ρ Y xs fun g' hg'=>by
   match N,hN with
   | 0,hN=>omega
   | N+1,hN=>exact fun t z ρ θ ρ' θ' h=>sq_H N f g' (by omega) t z ρ θ ρ' θ' h
  have hput2:∀ (ρ:Nat→Img) (Y:Tm) (xs:List Tm) (m:Nat),H g ρ (PF f Y xs) m=PF f (H g ρ Y m) (xs.map fun t=>H g ρ t m):=fun ρ Y xs m=>put_of ρ Y xs fun f' hf'=>by
   match N,hN with
   | 0,hN=>omega
   | N+1,hN=>exact fun t z ρ θ ρ' θ' h=>sq_H N g f' (by omega) t z ρ θ ρ' θ' h
  induction t using Tm.ind with
  | h b k i a ih=>
   intro z ρ θ ρ' θ' hs
   have ha:((a.map fun t=>H g θ t (z+b.length)).map fun t=>H f ρ t (z+b.length))=(a.map fun t=>H f ρ' t (z+b.length)).map fun t=>H g θ' t (z+b.length):=by
    rw[List.map_map,List.map_map];exact List.map_congr_left fun t ht=>ih t ht _ _ _ _ _ hs
   have hwb:∀ (q:Nat) (ρ:Nat→Img) (b:List Ty) (w:Tm) (z:Nat),bo w=w→H q ρ (wb b w) z=wb b (H q ρ w (z+b.length)):=fun q ρ b w z hw=>by rw[H_is q,HW_wb,hw]
   rcases cases_ix b k i z with h | ⟨rfl,d,rfl⟩
   ·rw[H_is f,H_is g,HW_out _ _ _ _ _ _ _ h,HW_out _ _ _ _ _ _ _ h,HW_out _ _ _ _ _ _ _ h,HW_out _ _ _ _ _ _ _ h,←H_is f,←H_is g,ha]
   ·rcases hs d with⟨k,l,k',h1,h2,h3,h4⟩ | ⟨k,x,h1,h2,h3⟩ | ⟨y,k',h1,h2,h3⟩
    ·rw[H_is f,H_is g,HW_v _ _ _ _ _ _ _ h1,HW_v _ _ _ _ _ _ _ h3,HW_v _ _ _ _ _ _ _ h2,HW_v _ _ _ _ _ _ _ h4,←H_is f,←H_is g,ha]
    ·have e1:H g θ (.mk b 0 ((z+b.length+d:Nat):Int) a) z=.mk b 0 ((z+b.length+k:Nat):Int) (a.map fun t=>H g θ t (z+b.length)):=by rw[H_is g];exact HW_v _ _ _ _ _ _ _ h1
     have e2:H f ρ' (.mk b 0 ((z+b.length+d:Nat):Int) a) z=wb b (PF f (Rn (· + (z+b.length)) x 0) (a.map fun t=>H f ρ' t (z+b.length))):=by rw[H_is f];exact HW_t _ _ _ _ _ _ _ h3
     have e3:H f ρ (.mk b 0 ((z+b.length+k:Nat):Int) (a.map fun t=>H g θ t (z+b.length))) z=wb b (PF f (Rn (· + (z+b.length)) (H g θ' x 0) 0) ((a.map fun t=>H g θ t (z+b.length)).map fun t=>H f ρ t (z+b.length))):=by
      rw[H_is f];exact HW_t _ _ _ _ _ _ _ h2
     rw[e1,e2,e3,ha,hwb g _ _ _ _ (PF_bo f _ _),hput2,HW_lift]
    ·have e1:H g θ (.mk b 0 ((z+b.length+d:Nat):Int) a) z=wb b (PF g (Rn (· + (z+b.length)) y 0) (a.map fun t=>H g θ t (z+b.length))):=by rw[H_is g];exact HW_t _ _ _ _ _ _ _ h1
     have e2:H f ρ' (.mk b 0 ((z+b.length+d:Nat):Int) a) z=.mk b 0 ((z+b.length+k':Nat):Int) (a.map fun t=>H f ρ' t (z+b.length)):=by rw[H_is f];exact HW_v _ _ _ _ _ _ _ h2
     have e3:H g θ' (.mk b 0 ((z+b.length+k':Nat):Int) (a.map fun t=>H f ρ' t (z+b.length))) z=wb b (PF g (Rn (· + (z+b.length)) (H f ρ y 0) 0) ((a.map fun t=>H f ρ' t (z+b.length)).map fun t=>H g θ' t (z+b.length))):=by
      rw[H_is g];exact HW_t _ _ _ _ _ _ _ h3
     rw[e1,e2,e3,←ha,hwb f _ _ _ _ (PF_bo g _ _),hput,HW_lift]
 termination_by N=>N
theorem put_H (f g m:Nat)(ρ:Nat→Img)(Y:Tm)(xs:List Tm):H f ρ (PF g Y xs) m=PF g (H f ρ Y m) (xs.map fun t=>H f ρ t m):=
 put_of ρ Y xs fun g' _ t z ρ θ ρ' θ' h=>sq_H (f+g') f g' (Nat.le_refl _) t z ρ θ ρ' θ' h
end Hs
namespace Nm
theorem seqM_to {f:Nat}{g:Tm→St→Tm×St}(hw:∀ t s,WkOk s→WkOk (g t s).2)(hc:∀ t s,s.count≤(g t s).2.count):∀ (l ys:List Tm),ys.length=l.length→(∀ j (h:j<l.length) (h':j<ys.length) s,WkOk s→Fu f s→(g l[j] s).2.e=0→s.e=0∧(g l[j] s).1=ys[j])→∀ s,WkOk s→Fu f s→(seqM g l s).2.e=0→s.e=0∧(seqM g l s).1=ys
 | [],ys,hl,_,s,_,_,he=>⟨he,by
   have:ys=[]:=List.length_eq_zero_iff.1 hl
   rw[this,seqM]⟩
 | _ :: _,[],hl,_,s,_,_,_=>by simp at hl
 | t :: l,y :: ys,hl,hg,s,hs,hf,he=>by
  have h1:=hg 0 (by simp) (by simp) s hs hf
  have h2:=seqM_to hw hc l ys (by simpa using hl) (fun j h h' s hs hf he=>hg (j+1) (by simp;omega) (by simp;omega) s hs hf he) (g t s).2 (hw t s hs) (fun e=>by
   have:=hf (h1 e).1
   have:=hc t s
   omega) he
  have h3:=h1 h2.1
  refine⟨h3.1,?_⟩
  show (g t s).1 :: (seqM g l (g t s).2).1=_
  rw[h2.2]
  have:(g t s).1=y:=h3.2
  rw[this]
theorem hit_e {thr:Thr}{xs:List Tm}{n:Nat}{t:Tm}{ins:Int}{args:List Tm}{s:St}(he:(hit thr xs n t ins args s).2.e=0):s.e=0:=by
 by_cases h:s.e=0
 ·exact h
 ·unfold hit at he
  split at he
  ·exact he
  ·dsimp only at he
   split at he
   ·exact he
   ·split at he
    ·exact he
    ·split at he
     ·exact absurd he (fail_ne s)
     ·unfold putW at he
      rw[if_pos (.inl h)] at he
      exact absurd he (fail_ne s)
theorem thr_step {f:Nat}{xs:List Tm}{n:Nat}{b:List Ty}{k i:Int}{a:List Tm}{ins m:Int}{s:St}(hs:WkOk s)(hf:Fu (f+1) s)(hm:wr (ins+b.length)=m)(he:(through (f+1) xs n (.mk b k i a) ins s).2.e=0):
  s.e=0∧WkOk (unit s).2∧Fu f (unit s).2∧through (f+1) xs n (.mk b k i a) ins s=hit (through f) xs n (.mk b k i a) m (seqM (fun a s=>through f xs n a m s) a (unit s).2).1 (seqM (fun a s=>through f xs n a m s) a (unit s).2).2 ∧
   (seqM (fun a s=>through f xs n a m s) a (unit s).2).2.e=0:=by
 have hX:through (f+1) xs n (.mk b k i a) ins s=if (unit s).1=true then hit (through f) xs n (.mk b k i a) m (seqM (fun a s=>through f xs n a m s) a (unit s).2).1 (seqM (fun a s=>through f xs n a m s) a (unit s).2).2 else (tz,(unit s).2):=by
  rw[←hm];rfl
 rw[hX] at he ⊢
 by_cases hu:(unit s).1=true
 ·rw[if_pos hu] at he ⊢
  obtain⟨u1,u2,u3⟩:=(unit_count s).2 hu
  exact⟨u2,unit_wk hs,fun _=>by have:=hf u2;omega,rfl,hit_e he⟩
 ·rw[if_neg hu] at he
  exact absurd he (unit_false hu).1
theorem hit_low {thr:Thr}{xs:List Tm}{n:Nat}{b:List Ty}{k i:Int}{a:List Tm}{ins:Int}{args:List Tm}{s:St}(h:k≠0∨i<ins):hit thr xs n (.mk b k i a) ins args s=(.mk b k i args,s):=by
 unfold hit
 exact if_pos h
theorem hit_out {thr:Thr}{xs:List Tm}{b:List Ty}{a:List Tm}{ins d:Nat}{args:List Tm}{s:St}(hd:xs.length≤d)(hb:ins+d+xs.length≤9000000000000000000):hit thr xs xs.length (.mk b 0 ((ins+d:Nat):Int) a) ((ins:Nat):Int) args s=(.mk b 0 ((ins+(d-xs.length):Nat):Int) args,s):=by
 unfold hit
 have hw:wr ((Tm.mk b 0 ((ins+d:Nat):Int) a).index-((ins:Nat):Int))=(d:Int):=by
  show wr (((ins+d:Nat):Int)-((ins:Nat):Int))=_
  rw[wr_id (by omega) (by omega)];omega
 have hw2:wr ((Tm.mk b 0 ((ins+d:Nat):Int) a).index-(xs.length:Nat))=((ins+(d-xs.length):Nat):Int):=by
  show wr (((ins+d:Nat):Int)-(xs.length:Nat))=_
  rw[wr_id (by omega) (by omega)];omega
 rw[if_neg (show ¬ ((Tm.mk b 0 ((ins+d:Nat):Int) a).kind≠0∨(Tm.mk b 0 ((ins+d:Nat):Int) a).index<((ins:Nat):Int)) from fun h=>h.elim (fun h=>h rfl) (fun h=>by have h:((ins+d:Nat):Int)<((ins:Nat):Int):=h;omega))]
 dsimp only
 rw[hw,if_neg (by omega),if_pos (by omega),hw2]
 rfl
theorem hit_in {thr:Thr}{xs:List Tm}{b:List Ty}{a:List Tm}{ins d:Nat}{args:List Tm}{s:St}(hd:d<xs.length)(hb:ins+d+xs.length≤9000000000000000000){x:Tm}(hx:xs[xs.length-1-d]'(by omega)=x) 
  (he:(hit thr xs xs.length (.mk b 0 ((ins+d:Nat):Int) a) ((ins:Nat):Int) args s).2.e=0) :
  s.e=0∧(grown x ins).binds.length=args.length∧(thr args args.length (.mk [] (grown x ins).kind (grown x ins).index (grown x ins).args) 0 s).2.e=0 ∧
   (hit thr xs xs.length (.mk b 0 ((ins+d:Nat):Int) a) ((ins:Nat):Int) args s).1=.mk b (thr args args.length (.mk [] (grown x ins).kind (grown x ins).index (grown x ins).args) 0 s).1.kind (thr args args.length (.mk [] (grown x ins).kind (grown x ins).index (grown x ins).args) 0 s).1.index (thr args args.length (.mk [] (grown x ins).kind (grown x ins).index (grown x ins).args) 0 s).1.args:=by
 have hs:=hit_e he
 have hw:wr ((Tm.mk b 0 ((ins+d:Nat):Int) a).index-((ins:Nat):Int))=(d:Int):=by
  show wr (((ins+d:Nat):Int)-((ins:Nat):Int))=_
  rw[wr_id (by omega) (by omega)];omega
 have hw2:wr (wr (((ins:Nat):Int)+(xs.length:Nat))-(xs.length:Nat))=(ins:Int):=by
  rw[wr_id (x:=((ins:Nat):Int)+(xs.length:Nat)) (by omega) (by omega),wr_id (by omega) (by omega)];omega
 have hg:xs.getD (((xs.length:Nat):Int)-1-(d:Int)).toNat tz=x:=by
  rw[show (((xs.length:Nat):Int)-1-(d:Int)).toNat=xs.length-1-d by omega,List.getD_eq_getElem?_getD,List.getElem?_eq_getElem (by omega),Option.getD_some];exact hx
 unfold hit at he ⊢
 rw[if_neg (show ¬ ((Tm.mk b 0 ((ins+d:Nat):Int) a).kind≠0∨(Tm.mk b 0 ((ins+d:Nat):Int) a).index<((ins:Nat):Int)) from fun h=>h.elim (fun h=>h rfl) (fun h=>by have h:((ins+d:Nat):Int)<((ins:Nat):Int):=h;omega))] at he ⊢
 dsimp only at he ⊢
 rw[hw,if_neg (by omega),if_neg (by omega),hg,hw2] at he ⊢
 by_cases hl:(grown x ins).binds.length≠args.length
 ·rw[if_pos hl] at he;exact absurd he (fail_ne s)
 ·rw[if_neg hl] at he ⊢
  have hl:(grown x ins).binds.length=args.length:=by omega
  unfold putW at he ⊢
  rw[if_neg (fun h=>h.elim (fun h=>h hs) fun h=>by omega)] at he ⊢
  rw[hl] at he ⊢
  exact⟨hs,rfl,he,rfl⟩
def ph (m:Nat)(w:Nat→Nat)(d:Nat):Nat:=if d<m then w (m-1-d) else d-m
variable {C M:List Ty}
structure Sx (C M:List Ty) (B f:Nat):Prop where
 c:∀ (xs:List Tm) (n:Nat) (T:Ty) (i ins:Nat) (s:St),WkOk s→Fu f s→T.size≤B→i<ins→ins+(2 * B+2) * f≤800000000→(through f xs n (Ty.eta T 0 i) (ins:Nat) s).2.e=0→s.e=0∧(through f xs n (Ty.eta T 0 i) (ins:Nat) s).1=Ty.eta T 0 i
 a:∀ (xs:List Tm) (P:List Ty) (w:Nat→Nat) (X Z:List Ty) (t:Tm) (u:Ty) (s:St),WkOk s→Fu f s→Nar B t→t.full≤8000000000000→xs.length=P.length→(∀ j (h:j<xs.length) (h':j<P.length),xs[j]=Ty.eta P[j] 0 (w j:Nat)∧X.reverse[w j]?=some P[j])→(∀ T∈P,T.size≤B) →
  X.length+P.length+Z.length+(2 * B+2) * f≤800000000→IsOf C M t (X++P++Z) u→(through f xs xs.length t (Z.length:Nat) s).2.e=0→s.e=0∧(through f xs xs.length t (Z.length:Nat) s).1=Rn (ph xs.length w) t Z.length
 b:∀ (xs:List Tm) (P X:List Ty) (j:Nat) (h:j<xs.length) (h':j<P.length) (s:St),WkOk s→Fu f s→(∀ x∈xs,Nar B x)→(∀ x∈xs,x.full≤8000000000000)→IsOfs C M xs X P→X.length+P.length+(2 * B+2) * f≤800000000 →
  (through f xs xs.length (Ty.eta P[j] 0 (xs.length-1-j:Nat)) 0 s).2.e=0→s.e=0∧(through f xs xs.length (Ty.eta P[j] 0 (xs.length-1-j:Nat)) 0 s).1=xs[j]
 h:∀ (xs:List Tm) (P X:List Ty) (d:Nat) (s:St),WkOk s→Fu f s→(∀ x∈xs,Nar B x)→(∀ x∈xs,x.full≤8000000000000)→IsOfs C M xs X P→X.length+P.length+(2 * B+2) * f≤800000000→d≤800000000 →
  (through f xs xs.length (.mk [] 0 ((xs.length+d:Nat):Int) (Ty.etas P)) 0 s).2.e=0→s.e=0∧(through f xs xs.length (.mk [] 0 ((xs.length+d:Nat):Int) (Ty.etas P)) 0 s).1=.mk [] 0 d xs
theorem fu_zero {s:St}(hs:WkOk s)(hf:Fu 0 s)(e:s.e=0):False:=by
 have h1:=hf e
 have h2:=hs.e0 e
 omega
theorem etas_nth {P:List Ty}{j:Nat}(h:j<(Ty.etas P).length):(Ty.etas P)[j]=Ty.eta (P[j]'(by rw[Ty.etas_len] at h;exact h)) 0 (P.length-1-j:Nat):=by
 rw[Ty.etas_len] at h
 rw[Ty.etas_get P j h,show (P.length:Int)-1-j=((P.length-1-j:Nat):Int) by omega]
theorem size_le {l:List Ty}{j:Nat}(h:j<l.length):l[j].size≤Ty.sizes l:=ty_mem (List.getElem_mem h)
theorem size_le2:∀ {l:List Ty} {j:Nat} (h:j<l.length),l[j].size+l.length≤Ty.sizes l+1
 | t :: l,0,_=>by
  have:=Ty.le_sizes l
  simp only[Ty.sizes,List.length_cons,List.getElem_cons_zero];omega
 | t :: l,j+1,h=>by
  have h1:=size_le2 (l:=l) (j:=j) (by simpa using h)
  have h2:1≤t.size:=by obtain⟨a,b⟩:=t;rw[ty_size];omega
  simp only[Ty.sizes,List.length_cons,List.getElem_cons_succ];omega
theorem sx_c {B f:Nat}(hB:B≤5000)(ih:Sx C M B f)(xs:List Tm)(n:Nat)(T:Ty)(i ins:Nat)(s:St)(hs:WkOk s)(hf:Fu (f+1) s)(hT:T.size≤B)(hi:i<ins)(hz:ins+(2 * B+2) * (f+1)≤800000000)(he:(through (f+1) xs n (Ty.eta T 0 i) (ins:Nat) s).2.e=0):
  s.e=0∧(through (f+1) xs n (Ty.eta T 0 i) (ins:Nat) s).1=Ty.eta T 0 i:=by
 obtain⟨a,b⟩:=T
 have hts:=ty_size a b
 have hal:=Ty.le_sizes a
 have hmul:(2 * B+2) * (f+1)=(2 * B+2) * f+(2 * B+2):=by rw[Nat.mul_add];omega
 rw[hmul] at hz
 rw[Ty.eta_eq,if_pos rfl] at he ⊢
 have hw:wr (((ins:Nat):Int)+a.length)=((ins+a.length:Nat):Int):=by rw[wr_id (by omega) (by omega)];omega
 obtain⟨s0,s1,s2,s3,s4⟩:=thr_step hs hf hw he
 clear hw
 rw[s3,hit_low (.inr (by omega))]
 refine⟨s0,?_⟩
 have hq:=(seqM_to (f:=f) (g:=fun v s=>through f xs n v ((ins+a.length:Nat):Int) s) (fun v s h=>through_wk f _ _ _ _ _ h) (fun v s=>through_count f _ _ _ _ _) (Ty.etas a) (Ty.etas a) rfl (fun j h _ s hs hf he=>by
  have hj:j<a.length:=by rw[Ty.etas_len] at h;exact h
  have:=size_le hj
  rw[etas_nth h] at he ⊢
  exact ih.c xs n a[j] _ _ s hs hf (by omega) (by omega) (by omega) he) _ s1 s2 s4).2
 show Tm.mk a 0 _ _=_
 rw[hq]
theorem sx_h {B f:Nat}(hB:B≤5000)(ih:Sx C M B f)(xs:List Tm)(P X:List Ty)(d:Nat)(s:St)(hs:WkOk s)(hf:Fu (f+1) s)(hn:∀ x∈xs,Nar B x)(hxf:∀ x∈xs,x.full≤8000000000000)(hx:IsOfs C M xs X P)(hz:X.length+P.length+(2 * B+2) * (f+1)≤800000000)(hd:d≤800000000) 
  (he:(through (f+1) xs xs.length (.mk [] 0 ((xs.length+d:Nat):Int) (Ty.etas P)) 0 s).2.e=0):s.e=0∧(through (f+1) xs xs.length (.mk [] 0 ((xs.length+d:Nat):Int) (Ty.etas P)) 0 s).1=.mk [] 0 d xs:=by
 have hl:=isOfs_len hx
 have hmul:(2 * B+2) * (f+1)=(2 * B+2) * f+(2 * B+2):=by rw[Nat.mul_add];omega
 rw[hmul] at hz
 have hw:wr ((0:Int)+(([]:List Ty).length:Nat))=((0:Nat):Int):=by rw[wr_id (by simp) (by simp)];simp
 obtain⟨s0,s1,s2,s3,s4⟩:=thr_step hs hf hw he
 clear hw
 have ho:=fun args s=>hit_out (thr:=through f) (xs:=xs) (b:=[]) (a:=Ty.etas P) (ins:=0) (d:=xs.length+d) (args:=args) (s:=s) (by omega) (by omega)
 rw[show 0+(xs.length+d)=xs.length+d by omega] at ho
 rw[s3,ho]
 refine⟨s0,?_⟩
 have hq:=(seqM_to (f:=f) (g:=fun v s=>through f xs xs.length v ((0:Nat):Int) s) (fun v s h=>through_wk f _ _ _ _ _ h) (fun v s=>through_count f _ _ _ _ _) (Ty.etas P) xs (by rw[Ty.etas_len];exact hl.symm) (fun j h h' s hs hf he=>by
  have hj:j<P.length:=by rw[Ty.etas_len] at h;exact h
  rw[etas_nth h,show P.length-1-j=xs.length-1-j by omega] at he ⊢
  exact ih.b xs P X j h' hj s hs hf hn hxf hx (by omega) he) _ s1 s2 s4).2
 dsimp only
 rw[hq,show 0+(xs.length+d-xs.length)=d by omega]
theorem lift_eta_low (y:Int)(T:Ty):∀ (i z:Nat),i<z→z+T.size≤9000000000000000000→lift y (Ty.eta T 0 i) z=Ty.eta T 0 i:=by
 induction T using Ty.ind with
 | h a b ih=>
  intro i z hi hz
  have hts:=ty_size a b
  have hal:=Ty.le_sizes a
  rw[Ty.eta_eq,if_pos rfl,lift_eq,lifts_map,wr_id (by omega) (by omega),if_neg (by rintro⟨_,h⟩;omega)]
  congr 1
  refine List.ext_getElem (by simp) fun j h1 h2=>?_
  have hj:j<a.length:=by rw[Ty.etas_len] at h2;exact h2
  have:=size_le2 hj
  rw[List.getElem_map,etas_nth h2,show ((z:Nat):Int)+(a.length:Nat)=((z+a.length:Nat):Int) by omega]
  exact ih _ (List.getElem_mem hj) _ _ (by omega) (by omega)
theorem grown_eta (T:Ty)(i y:Nat)(hz:i+y+T.size≤9000000000000000000):grown (Ty.eta T 0 i) y=Ty.eta T 0 ((i+y:Nat):Int):=by
 unfold grown
 split
 ·rename_i h;rw[show i+y=i by omega]
 ·obtain⟨a,b⟩:=T
  have hts:=ty_size a b
  have hal:=Ty.le_sizes a
  rw[Ty.eta_eq,if_pos rfl,lift_eq,lifts_map,wr_id (x:=0+(a.length:Nat)) (by omega) (by omega),if_pos ⟨rfl,by omega⟩,wr_id (by omega) (by omega),Ty.eta_eq,if_pos rfl]
  congr 1
  ·omega
  ·refine List.ext_getElem (by simp) fun j h1 h2=>?_
   have hj:j<a.length:=by rw[Ty.etas_len] at h2;exact h2
   have:=size_le2 hj
   rw[List.getElem_map,etas_nth h2,show (0:Int)+(a.length:Nat)=((a.length:Nat):Int) by omega]
   exact lift_eta_low _ _ _ _ (by omega) (by omega)
set_option maxHeartbeats 4000000 in
theorem sx_a {B f:Nat}(hB:B≤5000)(ih:Sx C M B f)(xs:List Tm)(P:List Ty)(w:Nat→Nat)(X Z:List Ty)(t:Tm)(u:Ty)(s:St)(hs:WkOk s)(hf:Fu (f+1) s)(ht:Nar B t)(hfull:t.full≤8000000000000)(hl:xs.length=P.length) 
  (hx:∀ j (h:j<xs.length) (h':j<P.length),xs[j]=Ty.eta P[j] 0 (w j:Nat)∧X.reverse[w j]?=some P[j]) (hP:∀ T∈P,T.size≤B)
  (hz:X.length+P.length+Z.length+(2 * B+2) * (f+1)≤800000000) (htt:IsOf C M t (X++P++Z) u) (he:(through (f+1) xs xs.length t (Z.length:Nat) s).2.e=0) :
  s.e=0∧(through (f+1) xs xs.length t (Z.length:Nat) s).1=Rn (ph xs.length w) t Z.length:=by
 obtain⟨b,k,i,a⟩:=t
 obtain⟨t1,t2⟩:=ht.inv
 obtain⟨hbu,h,hh,hbase,hargs⟩:=isOf_mk.1 htt
 have hbl:=Ty.le_sizes b
 have hmul:(2 * B+2) * (f+1)=(2 * B+2) * f+(2 * B+2):=by rw[Nat.mul_add];omega
 rw[hmul] at hz
 obtain⟨K,hK⟩:∃ K,(2 * B+2) * f=K:=⟨_,rfl⟩
 rw[hK] at hz
 clear hmul
 have hZb:(Z++b).length=Z.length+b.length:=List.length_append
 have hw:wr (((Z.length:Nat):Int)+b.length)=(((Z++b).length:Nat):Int):=by rw[wr_id (by omega) (by omega),hZb];omega
 rw[List.append_assoc (X++P) Z b] at hh hargs
 rw[Tm.full_eq] at hfull
 have hz2:X.length+P.length+(Z++b).length+(2 * B+2) * f≤800000000:=by rw[hK,hZb];exact bnd_aux hz hbl t1
 obtain⟨s0,s1,s2,s3,s4⟩:=thr_step hs hf hw he
 clear hw
 have hal:=isOfs_len hargs
 have hq2:=seqM_to (f:=f) (g:=fun v s=>through f xs xs.length v (((Z++b).length:Nat):Int) s) (fun v s h=>through_wk f _ _ _ _ _ h) (fun v s=>through_count f _ _ _ _ _) a (a.map fun v=>Rn (ph xs.length w) v (Z++b).length) (by simp) (fun j h h' s hs hf he=>by
  have:=Tm.full_mem (List.getElem_mem h)
  rw[List.getElem_map]
  exact ih.a xs P w X (Z++b) a[j] _ s hs hf (t2 _ (List.getElem_mem h)) (by omega) hl hx hP hz2 ((isOfs_iff.1 hargs).2 j h (by omega)) he) _ s1 s2 s4
 have hqw:=seqM_wk (g:=fun v s=>through f xs xs.length v (((Z++b).length:Nat):Int) s) (fun u s h=>through_wk f _ _ _ _ _ h) a _ s1
 have hqc:=seqM_count (g:=fun v s=>through f xs xs.length v (((Z++b).length:Nat):Int) s) (fun u s=>through_count f _ _ _ _ _) a (unit s).2
 clear hz2
 obtain⟨u0,hq⟩:=hq2
 have s2:=s2 u0
 rw[s3] at he ⊢
 generalize seqM (fun v s=>through f xs xs.length v (((Z++b).length:Nat):Int) s) a (unit s).2=q at he hq hqw hqc s4 ⊢
 rw[hq] at he ⊢
 clear hq s3
 refine⟨s0,?_⟩
 rw[Rn_eq,←hZb]
 have hmap:∀ d h,(X++P).reverse[d]?=some h→X.reverse[ph xs.length w d]?=some h:=fun d h hd=>by
  rw[rev_app] at hd
  unfold ph
  by_cases hlt:d<P.length
  ·rw[if_pos hlt,List.getElem?_reverse hlt] at hd
   rw[if_pos (by omega),hl]
   obtain⟨h1,h2⟩:=List.getElem?_eq_some_iff.1 hd
   rw[←h2]
   exact(hx _ (by omega) h1).2
  ·rw[if_neg hlt] at hd
   rw[if_neg (by omega),hl];exact hd
 by_cases hc1:k≠0∨i<(((Z++b).length:Nat):Int)
 ·have hc2:¬ (k=0∧(((Z++b).length:Nat):Int)≤i):=fun h2=>hc1.elim (fun h=>h h2.1) fun h=>absurd h2.2 (Int.not_le.2 h)
  rw[hit_low hc1,if_neg hc2]
 ·have hk:k=0:=by
   by_cases h:k=0
   ·exact h
   ·exact absurd (.inl h) hc1
  have hi:(((Z++b).length:Nat):Int)≤i:=by
   by_cases h:i<(((Z++b).length:Nat):Int)
   ·exact absurd (.inr h) hc1
   ·omega
  subst hk
  rw[if_pos ⟨rfl,hi⟩]
  obtain⟨d,rfl⟩:∃ d:Nat,i=(((Z++b).length+d:Nat):Int):=⟨(i-(((Z++b).length:Nat):Int)).toNat,by omega⟩
  rw[show ((((Z++b).length+d:Nat):Int)-(((Z++b).length:Nat):Int)).toNat=d by omega]
  rw[headTy_0,rev_app,if_neg (by omega),show (Z++b).length+d-(Z++b).length=d by omega] at hh
  have hdl:=(List.getElem?_eq_some_iff.1 hh).1
  rw[List.length_reverse,List.length_append] at hdl
  by_cases hd:d<xs.length
  ·have hj:xs.length-1-d<xs.length:=by omega
   have hj':xs.length-1-d<P.length:=by omega
   obtain⟨x1,x2⟩:=hx _ hj hj'
   have hPh:P[xs.length-1-d]=h:=by
    have:=hmap d h hh
    unfold ph at this
    rw[if_pos hd,x2] at this
    exact Option.some.inj this
   have hwl:=(List.getElem?_eq_some_iff.1 x2).1
   rw[List.length_reverse] at hwl
   have hsz:=hP _ (List.getElem_mem hj')
   rw[hPh] at x1 hsz
   obtain⟨_,e1,e2,e3⟩:=hit_in hd (by omega) x1 he
   rw[e3]
   clear e3 he
   rw[grown_eta _ _ _ (by omega)] at e1 e2 ⊢
   obtain⟨A,hb⟩:=h
   rw[Ty.eta_eq,if_pos rfl] at e1 e2 ⊢
   dsimp only[Tm.binds,Tm.kind,Tm.index,Tm.args,Ty.args] at e1 e2 hargs ⊢
   have hqt:IsOfs C M (a.map fun v=>Rn (ph xs.length w) v (Z++b).length) (X++(Z++b)) A:=isOfs_map hargs fun v hv w' hw'=>Rn_isOf _ v X (X++P) (Z++b) w' hmap hw'
   have hqn:∀ x∈a.map fun v=>Rn (ph xs.length w) v (Z++b).length,Nar B x:=fun x hx=>by
    obtain⟨v,hv,rfl⟩:=List.mem_map.1 hx
    exact Rn_nar _ _ _ (t2 v hv)
   have hqf:∀ x∈a.map fun v=>Rn (ph xs.length w) v (Z++b).length,x.full≤8000000000000:=fun x hx=>by
    obtain⟨v,hv,rfl⟩:=List.mem_map.1 hx
    have:=Tm.full_mem hv
    rw[Rn_full];omega
   generalize (a.map fun v=>Rn (ph xs.length w) v (Z++b).length)=r at e1 e2 hqt hqn hqf ⊢
   have hAr:A.length=r.length:=e1
   have hXZ:(X++(Z++b)).length=X.length+(Z++b).length:=List.length_append
   have hAs:=ty_size A hb
   have hAl:=Ty.le_sizes A
   rw[show ((w (xs.length-1-d)+(Z++b).length:Nat):Int)+(A.length:Nat)=((r.length+(w (xs.length-1-d)+(Z++b).length):Nat):Int) by omega] at e2 ⊢
   have hr:=(ih.h r A (X++(Z++b)) (w (xs.length-1-d)+(Z++b).length) q.2 hqw (fun _=>by omega) hqn hqf hqt (by rw[hK];omega) (by omega) e2).2
   rw[hr]
   show Tm.mk b 0 ((w (xs.length-1-d)+(Z++b).length:Nat):Int) r=_
   unfold ph
   rw[if_pos hd,Nat.add_comm]
  ·have hd:xs.length≤d:=by omega
   rw[hit_out hd (by omega)]
   unfold ph
   rw[if_neg (by omega)]
end Nm
namespace Nm
variable {C M:List Ty}
set_option maxHeartbeats 4000000 in
theorem sx_b {B f:Nat}(hB:B≤5000)(ih:Sx C M B f)(xs:List Tm)(P X:List Ty)(j:Nat)(h:j<xs.length)(h':j<P.length)(s:St)(hs:WkOk s)(hf:Fu (f+1) s)(hn:∀ x∈xs,Nar B x)(hxf:∀ x∈xs,x.full≤8000000000000)(hx:IsOfs C M xs X P)(hz:X.length+P.length+(2 * B+2) * (f+1)≤800000000) 
  (he:(through (f+1) xs xs.length (Ty.eta P[j] 0 (xs.length-1-j:Nat)) 0 s).2.e=0):s.e=0∧(through (f+1) xs xs.length (Ty.eta P[j] 0 (xs.length-1-j:Nat)) 0 s).1=xs[j]:=by
 have hl:=isOfs_len hx
 have hmul:(2 * B+2) * (f+1)=(2 * B+2) * f+(2 * B+2):=by rw[Nat.mul_add];omega
 rw[hmul] at hz
 obtain⟨K,hK⟩:∃ K,(2 * B+2) * f=K:=⟨_,rfl⟩
 rw[hK] at hz
 clear hmul
 have hxj:=(isOfs_iff.1 hx).2 j h h'
 have hnj:=hn _ (List.getElem_mem h)
 have hfj:=hxf _ (List.getElem_mem h)
 obtain⟨x,hxx⟩:∃ x,xs[j]=x:=⟨_,rfl⟩
 rw[hxx] at hxj hnj hfj ⊢
 obtain⟨T,hT⟩:∃ T,P[j]=T:=⟨_,rfl⟩
 rw[hT] at hxj he ⊢
 obtain⟨a,b⟩:=T
 rw[Ty.eta_eq,if_pos rfl] at he ⊢
 have hxb:x.binds=a:=by obtain⟨xb,xk,xi,xa⟩:=x;exact(isOf_mk.1 hxj).1
 have has:Ty.sizes a≤B:=by rw[←hxb];obtain⟨xb,xk,xi,xa⟩:=x;exact hnj.inv.1
 have hal:=Ty.le_sizes a
 have hw:wr ((0:Int)+a.length)=((a.length:Nat):Int):=by rw[wr_id (by omega) (by omega)];omega
 obtain⟨s0,s1,s2,s3,s4⟩:=thr_step hs hf hw he
 clear hw
 have hq:=(seqM_to (f:=f) (g:=fun v s=>through f xs xs.length v ((a.length:Nat):Int) s) (fun v s h=>through_wk f _ _ _ _ _ h) (fun v s=>through_count f _ _ _ _ _) (Ty.etas a) (Ty.etas a) rfl (fun i h _ s hs hf he=>by
  have hi:i<a.length:=by rw[Ty.etas_len] at h;exact h
  have:=size_le hi
  rw[etas_nth h] at he ⊢
  exact ih.c xs xs.length a[i] _ _ s hs hf (by omega) (by omega) (by rw[hK];omega) he) _ s1 s2 s4)
 have hqw:=seqM_wk (g:=fun v s=>through f xs xs.length v ((a.length:Nat):Int) s) (fun u s h=>through_wk f _ _ _ _ _ h) (Ty.etas a) _ s1
 have hqc:=seqM_count (g:=fun v s=>through f xs xs.length v ((a.length:Nat):Int) s) (fun u s=>through_count f _ _ _ _ _) (Ty.etas a) (unit s).2
 obtain⟨u0,hq⟩:=hq
 have s2:=s2 u0
 rw[s3] at he ⊢
 generalize seqM (fun v s=>through f xs xs.length v ((a.length:Nat):Int) s) (Ty.etas a) (unit s).2=q at he hq hqw hqc s4 ⊢
 rw[hq] at he ⊢
 rw[show (((xs.length-1-j:Nat):Int)+(a.length:Nat))=((a.length+(xs.length-1-j):Nat):Int) by omega] at he ⊢
 obtain⟨_,e1,e2,e3⟩:=hit_in (x:=x) (by omega) (by omega) (by rw[←hxx];congr 1;omega) he
 rw[e3]
 refine⟨s0,?_⟩
 clear e3 he
 have hg:=grown_Rn (y:=a.length) (by omega) hxj
 have hgt:=grown_isOf (Y:=a) (by omega) hxj
 rw[hg] at e1 e2 hgt ⊢
 obtain⟨xb,xk,xi,xa⟩:=x
 have hxb:xb=a:=hxb
 subst hxb
 have hbk:=Rn_back xb.length (ph xb.length fun i=>xb.length-1-i) (fun d=>by
  unfold ph;dsimp only;split <;> omega) (.mk [] xk xi xa) 0
 have hrn:Rn (· + xb.length) (.mk [] xk xi xa) (xb.length+0)=.mk [] (Rn (· + xb.length) (.mk xb xk xi xa) 0).kind (Rn (· + xb.length) (.mk xb xk xi xa) 0).index (Rn (· + xb.length) (.mk xb xk xi xa) 0).args:=by
  rw[Rn_eq,Rn_eq]
  simp only[Tm.kind,Tm.index,Tm.args,List.length_nil,Nat.add_zero,Nat.zero_add]
 rw[hrn] at hbk
 have hfull:(Tm.mk [] (Rn (· + xb.length) (.mk xb xk xi xa) 0).kind (Rn (· + xb.length) (.mk xb xk xi xa) 0).index (Rn (· + xb.length) (.mk xb xk xi xa) 0).args).full≤8000000000000:=by
  rw[←hrn,Rn_full]
  rw[Tm.full_eq] at hfj ⊢
  simp only[Ty.sizes];omega
 have hnar:Nar B (Tm.mk [] (Rn (· + xb.length) (.mk xb xk xi xa) 0).kind (Rn (· + xb.length) (.mk xb xk xi xa) 0).index (Rn (· + xb.length) (.mk xb xk xi xa) 0).args):=by
  rw[←hrn]
  exact Rn_nar _ _ _ (.mk _ _ _ _ (by simp[Ty.sizes]) hnj.inv.2)
 have hrb:(Rn (· + xb.length) (.mk xb xk xi xa) 0).binds=xb:=by rw[Rn_eq];rfl
 generalize Rn (· + xb.length) (.mk xb xk xi xa) 0=v at hgt e2 hbk hfull hnar hrb ⊢
 obtain⟨vb,vk,vi,va⟩:=v
 have hrb:vb=xb:=hrb
 subst hrb
 obtain⟨_,h1,hh1,hh2,hh3⟩:=isOf_mk.1 hgt
 have hr:=ih.a (Ty.etas vb) vb (fun i=>vb.length-1-i) (X++vb) [] (.mk [] vk vi va) (.mk [] b) q.2 hqw (fun _=>by omega) hnar hfull (Ty.etas_len _) (fun i h1 h2=>⟨etas_nth h1,by
  rw[rev_app,if_pos (by omega),List.getElem?_reverse (by omega),List.getElem?_eq_getElem (by omega)]
  congr 2;omega⟩) (fun T hT=>Nat.le_trans (ty_mem hT) has) (by rw[hK,List.length_append];simp only[List.length_nil];omega) (by rw[List.append_nil];exact isOf_mk.2 ⟨rfl,h1,by rw[List.append_nil];exact hh1,hh2,by rw[List.append_nil];exact hh3⟩) e2
 have hr2:=hr.2
 rw[Ty.etas_len] at hr2
 simp only[List.length_nil] at hr2
 have hr3:=hr2.trans hbk
 show Tm.mk vb _ _ _=Tm.mk vb xk xi xa
 rw[Ty.etas_len]
 have hr3:(through f (Ty.etas vb) vb.length (.mk [] vk vi va) 0 q.2).1=.mk [] xk xi xa:=hr3
 show Tm.mk vb (through f (Ty.etas vb) vb.length (.mk [] vk vi va) 0 q.2).1.kind (through f (Ty.etas vb) vb.length (.mk [] vk vi va) 0 q.2).1.index (through f (Ty.etas vb) vb.length (.mk [] vk vi va) 0 q.2).1.args=_
 rw[hr3];rfl
theorem sx (C M:List Ty){B:Nat}(hB:B≤5000):∀ f,Sx C M B f
 | 0=>by
  refine⟨?_,?_,?_,?_⟩
  ·intro xs n T i ins s hs hf _ _ _ he;exact(fu_zero hs hf he).elim
  ·intro xs P w X Z t u s hs hf _ _ _ _ _ _ _ he;exact(fu_zero hs hf he).elim
  ·intro xs P X j h h' s hs hf _ _ _ _ he;exact(fu_zero hs hf he).elim
  ·intro xs P X d s hs hf _ _ _ _ _ he;exact(fu_zero hs hf he).elim
 | f+1=>by
  have ih:=sx C M hB f
  exact⟨sx_c hB ih,sx_a hB ih,sx_b hB ih,sx_h hB ih⟩
end Nm
namespace Pn
end Pn
namespace Pn
end Pn
def eBd (b:Pn.Bd):List (Int×D):=b.map fun p=>(p.1,.ag (eTm p.2))
@[simp] theorem eBd_ok (f g:Nat→Bool) (b:Pn.Bd):D.okm f g (eBd b)=true:=okm_map _ b fun p _=>by simp[D.ok,eTm_ok]
namespace Pn
abbrev nb (t:Tm):Tm:=.mk [] t.kind t.index t.args
end Pn
namespace Pn
variable {C M:List Ty}
theorem isOf_under (X0:List Ty)(t:Tm):∀ (Z:List Ty) (u:Ty),IsOf C M t Z u→IsOf C M t (X0++Z) u:=by
 induction t using Tm.ind with
 | h b k i a ih=>
  intro Z u ht
  obtain⟨rfl,h,h1,h2,h3⟩:=isOf_mk.1 ht
  refine isOf_mk.2 ⟨rfl,h,?_,h2,?_⟩
  ·rw[List.append_assoc]
   by_cases hk:k=0
   ·subst hk
    by_cases hi:i<0
    ·rw[headTy_neg hi] at h1;cases h1
    ·obtain⟨n,rfl⟩:∃ n:Nat,i=n:=⟨i.toNat,by omega⟩
     rw[headTy_0] at h1 ⊢
     have:=(List.getElem?_eq_some_iff.1 h1).1
     rw[List.length_reverse] at this
     rw[rev_app,if_pos this];exact h1
   ·rw[headTy_ctx (X':=Z++u.args) hk];exact h1
  ·rw[List.append_assoc]
   have h4:=isOfs_map (g:=fun t=>t) (X':=X0++(Z++u.args)) h3 fun v hv w hw=>ih v hv (Z++u.args) w hw
   rw[List.map_id'] at h4;exact h4
end Pn
variable {C M:List Ty}
namespace Pn
end Pn
end Go.Proofs.YtflbnonbfmmchaaGreat
namespace Go.Proofs.YtflbnonbfmmchaaGreat
open Go.RowKit
namespace Sb
variable {C M:List Ty} {B:Nat}
theorem put_keeps {v:Tm}{xs:List Tm}{X:List Ty}{h:Ty}{left:Int}{dry:Bool}(h0:0≤left∧left≤1000000000)(hB:B≤1000)(hv:Bnd B v)(hx:∀ x∈xs,Bnd B x)(hxf:∀ x∈xs,x.full≤8000000000000)(hX:X.length≤500000000) 
  (hvt:IsOf C M v X h) (hxt:IsOfs C M xs X h.args) :
  (Nm.put 100001 v xs ⟨left,dry,0,0⟩).2.e≠1∧((Nm.put 100001 v xs ⟨left,dry,0,0⟩).2.e=0→IsOf C M (.mk [] (Nm.put 100001 v xs ⟨left,dry,0,0⟩).1.kind (Nm.put 100001 v xs ⟨left,dry,0,0⟩).1.index (Nm.put 100001 v xs ⟨left,dry,0,0⟩).1.args) X (.mk [] h.base)):=by
 have hw:WkOk ⟨left,dry,0,0⟩:=⟨h0,⟨Int.le_refl 0,(by decide:(0:Int)≤100001)⟩,fun _=>(by decide:(0:Int)≤100000)⟩
 obtain⟨vb,vk,vi,va⟩:=v
 obtain⟨v1,v2,v3⟩:=hv.inv
 obtain⟨rfl,h',hh,hb,ha⟩:=isOf_mk.1 hvt
 have hl:=isOfs_len hxt
 have hvl:=Ty.le_sizes h.args
 have hm:(2 * B+2) * 100001≤2002 * 100001:=Nat.mul_le_mul_right _ (by omega)
 have hk:=Nm.through_keeps C M B 100001 xs h.args.length (.mk [] vk vi va) 0 ⟨left,dry,0,0⟩ X h.args [] (.mk [] h.base) hw (fun _=>by show (100001:Int)-0≤((100001:Nat):Int);decide) hx (.mk _ _ _ _ (by simp[Ty.sizes]) v2 v3) hxf (by omega) (by omega) rfl rfl (by simp only[List.length_nil];omega)
  (by rw[List.take_of_length_le (by omega)];exact hxt) (by rw[List.append_nil];exact isOf_mk.2 ⟨rfl,h',by rw[List.append_nil];exact hh,hb,by rw[List.append_nil];exact ha⟩)
 rw[List.drop_of_length_le (by omega),List.append_nil,List.append_nil] at hk
 unfold Nm.put Nm.putW
 rw[if_neg (by rintro(h9 | h9);exact h9 rfl;exact absurd h9 (by show ¬ xs.length>h.args.length;omega))]
 dsimp only
 show (Nm.through 100001 xs h.args.length (.mk [] vk vi va) 0 ⟨left,dry,0,0⟩).2.e≠1∧_
 refine⟨hk.1 (by show (0:Int)≠1;decide),fun e=>?_⟩
 have h2:=(hk.2 e).2
 show IsOf C M (.mk [] (Nm.through 100001 xs h.args.length (.mk [] vk vi va) 0 ⟨left,dry,0,0⟩).1.kind (Nm.through 100001 xs h.args.length (.mk [] vk vi va) 0 ⟨left,dry,0,0⟩).1.index (Nm.through 100001 xs h.args.length (.mk [] vk vi va) 0 ⟨left,dry,0,0⟩).1.args) X (.mk [] h.base)
 generalize (Nm.through 100001 xs h.args.length (.mk [] vk vi va) 0 ⟨left,dry,0,0⟩).1=r at h2 ⊢
 obtain⟨rb,rk,ri,ra⟩:=r
 obtain⟨e1,hr⟩:=isOf_mk.1 h2
 have e1:rb=[]:=e1
 subst e1
 exact h2
theorem Put_keeps {v:Tm}{xs:List Tm}{X:List Ty}{h:Ty}{left:Int}{dry:Bool}(h0:0≤left∧left≤1000000000)(hB:B≤1000)(hv:Bnd B v)(hx:∀ x∈xs,Bnd B x)(hxf:∀ x∈xs,x.full≤8000000000000)(hX:X.length≤500000000) 
  (hvt:IsOf C M v X h) (hxt:IsOfs C M xs X h.args) :
  (Nm.Put v xs left dry).2.e≠1∧((Nm.Put v xs left dry).2.e=0→IsOf C M (.mk [] (Nm.Put v xs left dry).1.kind (Nm.Put v xs left dry).1.index (Nm.Put v xs left dry).1.args) X (.mk [] h.base)):=by
 have h1:=put_keeps (dry:=dry) h0 hB hv hx hxf hX hvt hxt
 unfold Nm.Put Nm.done
 dsimp only
 generalize Nm.put 100001 v xs ⟨left,dry,0,0⟩=p at h1
 by_cases hc:p.2.e=0∧¬ (p.1.size≤5000∧p.1.depth≤60)
 ·rw[if_pos hc]
  have hf:(Nm.fail p.2 2).e=2:=by unfold Nm.fail;rw[if_pos hc.1]
  rw[if_pos (by rw[hf];decide)]
  refine⟨by rw[hf];decide,fun e=>?_⟩
  rw[hf] at e;cases e
 ·rw[if_neg hc]
  by_cases hp:p.2.e=0
  ·rw[if_neg (fun h=>h hp)]
   exact h1
  ·rw[if_pos hp]
   exact⟨h1.1,fun e=>absurd e hp⟩
theorem find_at {l:List (Int×Tm)}{i:Int}{u:Tm}(h:find l i=some u):∃ p∈l,p.2=u∧p.1=i:=by
 unfold find at h
 cases hf:l.find? (fun p=>p.1==i) with
 | none=>rw[hf] at h;cases h
 | some p=>
  rw[hf] at h;cases h
  have:=List.find?_some hf
  exact⟨p,List.mem_of_find?_eq_some hf,rfl,by simpa using this⟩
theorem seq_keeps {g:Tm→Nm.St→Tm×Nm.St}{X X':List Ty}:∀ (a:List Tm) (us:List Ty) (hg:∀ t∈a,∀ u s,InR s→IsOf C M t X u→Nm.Kp s (g t s) fun r=>IsOf C M r X' u) (hi:∀ t∈a,∀ s,InR s→InR (g t s).2) (s:Nm.St),InR s →
  IsOfs C M a X us→(s.e≠1→(Nm.seqM g a s).2.e≠1)∧((Nm.seqM g a s).2.e=0→s.e=0∧IsOfs C M (Nm.seqM g a s).1 X' us)
 | [],[],_,_,s,_,_=>⟨fun h=>h,fun h=>⟨h,by rw[Nm.seqM,IsOfs];trivial⟩⟩
 | [],_ :: _,_,_,s,_,h=>by rw[IsOfs] at h;exact h.elim
 | _ :: _,[],_,_,s,_,h=>by rw[IsOfs] at h;exact h.elim
 | t :: a,u :: us,hg,hi,s,hs,h=>by
  rw[IsOfs] at h
  have h1:=hg t (by simp) u s hs h.1
  have h2:=seq_keeps a us (fun v hv=>hg v (by simp[hv])) (fun v hv=>hi v (by simp[hv])) (g t s).2 (hi t (by simp) s hs) h.2
  refine⟨fun e=>h2.1 (h1.1 e),fun e=>?_⟩
  have h3:=h2.2 e
  have h4:=h1.2 h3.1
  exact⟨h4.1,by rw[Nm.seqM,IsOfs];exact⟨h4.2,h3.2⟩⟩
theorem replaced_eq (b:List Ty)(k i:Int)(a:List Tm)(v:Tm)(s:Nm.St):replaced (.mk b k i a) v s=if v.binds.length≠a.length then (Nm.tz,{ s with e:=1 })
  else if (Nm.Put v a s.left s.dry).2.e≠0 then (Nm.tz,{ s with left:=(Nm.Put v a s.left s.dry).2.left,dry:=(Nm.Put v a s.left s.dry).2.dry,e:=(Nm.Put v a s.left s.dry).2.e })
  else (.mk b (Nm.Put v a s.left s.dry).1.kind (Nm.Put v a s.left s.dry).1.index (Nm.Put v a s.left s.dry).1.args,{ s with left:=(Nm.Put v a s.left s.dry).2.left,dry:=(Nm.Put v a s.left s.dry).2.dry }):=rfl
theorem keeps (hB:B≤1000)(l:List (Int×Tm))(X0:List Ty)(hl:∀ p∈l,(∃ h,headTy C M X0 2 p.1=some h∧IsOf C M p.2 X0 h)∧Bnd B p.2∧p.2.full≤1000000):
  ∀ (t:Tm) (Z:List Ty) (u:Ty),IsOf C M t (X0++Z) u→Bnd B t→X0.length+Z.length+t.full≤100000000→∀ s,InR s→Nm.Kp s (through l t (Z.length:Nat) s) fun r=>IsOf C M r (X0++Z) u:=by
 intro t
 induction t using Tm.ind with
 | h b k i a ih=>
  intro Z u ht hbn hz s hs
  obtain⟨hbu,h,hh,hbase,hargs⟩:=isOf_mk.1 ht
  obtain⟨t1,t2,t3⟩:=hbn.inv
  have hbl:=Ty.le_sizes b
  rw[Tm.full_eq] at hz
  have hZb:(Z++b).length=Z.length+b.length:=List.length_append
  have hwr:Nm.wr ((Z.length:Nat)+b.length)=(((Z++b).length:Nat):Int):=by rw[wr_id (by omega) (by omega),hZb];omega
  rw[through]
  dsimp only
  rw[hwr]
  clear hwr
  by_cases he:s.e=0
  rotate_left
  ·rw[if_pos he];exact⟨fun h=>h,fun e=>absurd e he⟩
  rw[if_neg (fun h=>h he)]
  by_cases hsp:(Nm.spend s).1=true
  rotate_left
  ·rw[if_pos (by simpa using hsp)]
   exact⟨fun _=>by show (11:Int)≠1;decide,fun e=>by cases e⟩
  rw[if_neg (by rw[hsp];simp)]
  obtain⟨s1,s2⟩:=spend_ok hsp
  have hin:=spend_in hs
  rw[throughs_seq]
  rw[List.append_assoc] at hh hargs
  have hq:=seq_keeps (C:=C) (M:=M) (g:=fun t s=>through l t ((Z++b).length:Nat) s) (X:=X0++(Z++b)) (X':=X0++(Z++b)) a h.args
   (fun v hv w s hs hw=>ih v hv (Z++b) w hw (t3 v hv) (by have:=Tm.full_mem hv;omega) s hs) (fun v hv s hs=>through_in l v _ s hs) (Nm.spend s).2 hin hargs
  have hgr:=seq_grow (B:=B) (g:=fun t s=>through l t ((Z++b).length:Nat) s) a (fun v hv s hs=>grow l (fun p hp=>(hl p hp).2.1) v (t3 v hv) _ s hs) (fun v hv s hs=>through_in l v _ s hs) (Nm.spend s).2 hin
  have hqi:=seqM_in (g:=fun t s=>through l t ((Z++b).length:Nat) s) a (fun v hv s hs=>through_in l v _ s hs) _ hin
  have hql:=Nm.seqM_length (fun t s=>through l t ((Z++b).length:Nat) s) a (Nm.spend s).2
  generalize Nm.seqM (fun t s=>through l t ((Z++b).length:Nat) s) a (Nm.spend s).2=q at hq hgr hqi hql ⊢
  have hq1:q.2.e≠1:=hq.1 (by omega)
  have stays:Nm.Kp s (.mk b k i q.1,q.2) fun r=>IsOf C M r (X0++Z) u:=
   ⟨fun _=>hq1,fun e=>⟨he,isOf_mk.2 ⟨hbu,h,by rw[List.append_assoc];exact hh,hbase,by rw[List.append_assoc];exact(hq.2 e).2⟩⟩⟩
  by_cases hk:k≠2∨q.2.e≠0
  ·rw[if_pos hk];exact stays
  rw[if_neg hk]
  have hk2:k=2:=by
   by_cases h:k=2
   ·exact h
   ·exact absurd (.inl h) hk
  have hqe:q.2.e=0:=by
   by_cases h:q.2.e=0
   ·exact h
   ·exact absurd (.inr h) hk
  subst hk2
  cases hfi:find l i with
  | none=>exact stays
  | some v=>
   obtain⟨p,hp,rfl,rfl⟩:=find_at hfi
   obtain⟨⟨h',hh',hvt⟩,hvb,hvf⟩:=hl p hp
   have hsame:h'=h:=by
    rw[headTy_ctx (X':=X0++(Z++b)) (by decide),hh] at hh'
    exact(Option.some.inj hh').symm
   subst hsame
   have hlt:=lift_isOf p.2 X0 (Z++b) [] h' (by simp only[List.length_nil];omega) (by rw[List.append_nil];exact hvt)
   rw[List.append_nil] at hlt
   have hlb:Bnd B (Nm.lift ((Z++b).length:Nat) p.2 0):=Bnd.lift _ _ _ hvb
   have hqa:=(hq.2 hqe).2
   have hqg:=hgr hqe
   have hfull:∀ x∈q.1,x.full≤8000000000000:=fun x hx=>by
    have h1:=Bnd.full x (hqg.2.2 x hx)
    have h2:x.size≤1000000000:=by
     have:=Tm.size_mem hx
     have:=hqg.2.1
     have:=hin.2
     have:=hqi.1
     omega
    have h3:x.size * (B+1)≤1000000000 * 1001:=Nat.mul_le_mul h2 (by omega)
    omega
   have hPk:=Put_keeps (dry:=q.2.dry) (left:=q.2.left) hqi hB hlb hqg.2.2 hfull (by rw[List.length_append];omega) hlt hqa
   have hbl2:(Nm.lift ((Z++b).length:Nat) p.2 0).binds=h'.args:=by
    generalize Nm.lift ((Z++b).length:Nat) p.2 0=v at hlt
    obtain⟨vb,vk,vi,va⟩:=v
    exact(isOf_mk.1 hlt).1
   have hal:=isOfs_len hargs
   show Nm.Kp s (replaced (.mk b 2 p.1 q.1) (Nm.lift ((Z++b).length:Nat) p.2 0) q.2) _
   rw[replaced_eq,if_neg (fun hne=>hne (by rw[hbl2,hal,hql]))]
   generalize Nm.Put (Nm.lift ((Z++b).length:Nat) p.2 0) q.1 q.2.left q.2.dry=r at hPk ⊢
   by_cases hr:r.2.e=0
   ·rw[if_neg (fun h=>h hr)]
    refine⟨fun _=>hq1,fun _=>⟨he,?_⟩⟩
    obtain⟨_,h2,hrh,hrbase,hrargs⟩:=isOf_mk.1 (hPk.2 hr)
    rw[List.append_nil] at hrh hrargs
    exact isOf_mk.2 ⟨hbu,h2,by rw[List.append_assoc];exact hrh,hrbase.trans hbase,by rw[List.append_assoc];exact hrargs⟩
   ·rw[if_pos hr]
    exact⟨fun _=>hPk.1,fun e=>absurd e hr⟩
theorem apply_keeps (hB:B≤1000)(l:List (Int×Tm))(X0:List Ty)(hr:right l=true)(hl:∀ p∈l,(∃ h,headTy C M X0 2 p.1=some h∧IsOf C M p.2 X0 h)∧Bnd B p.2∧p.2.full≤1000000) 
  (t:Tm) (u:Ty) (ht:IsOf C M t X0 u) (hbn:Bnd B t) (hz:X0.length+t.full≤100000000) (left:Int) (dry:Bool) (h0:0≤left∧left≤1000000000) :
  (apply l t left dry).2.e≠1∧((apply l t left dry).2.e=0→IsOf C M (apply l t left dry).1 X0 u):=by
 have h1:=keeps hB l X0 hl t [] u (by rw[List.append_nil];exact ht) hbn (by simp only[List.length_nil];omega) ⟨left,dry,0,0⟩ h0
 rw[List.append_nil] at h1
 unfold apply
 rw[if_neg (by rw[hr];simp)]
 dsimp only
 have h2:=h1.1 (by show (0:Int)≠1;decide)
 have h3:=h1.2
 simp only[List.length_nil] at h2 h3
 have e0:(((0:Nat):Int))=0:=rfl
 rw[e0] at h2 h3
 generalize through l t 0 ⟨left,dry,0,0⟩=r at h2 h3
 by_cases hc:r.2.e=0∧¬ (r.1.size≤5000∧r.1.depth≤60)
 ·rw[if_pos hc]
  exact⟨by show (if (2:Int)≠0 then _ else _:Tm×Nm.St).2.e≠1;rw[if_pos (by decide)];show (2:Int)≠1;decide,fun e=>by
   have e':(if (2:Int)≠0 then _ else _:Tm×Nm.St).2.e=0:=e
   rw[if_pos (by decide)] at e';cases e'⟩
 ·rw[if_neg hc]
  by_cases hp:r.2.e=0
  ·rw[if_neg (fun h=>h hp)]
   exact⟨h2,fun e=>(h3 e).2⟩
  ·rw[if_pos hp]
   exact⟨h2,fun e=>absurd e hp⟩
end Sb
namespace Sb
theorem seq_to {g:Tm→Nm.St→Tm×Nm.St}(hi:∀ t s,InR s→InR (g t s).2):∀ (l ys:List Tm),ys.length=l.length→(∀ j (h:j<l.length) (h':j<ys.length) s,InR s→(g l[j] s).2.e=0→s.e=0∧(g l[j] s).1=ys[j])→∀ s,InR s→(Nm.seqM g l s).2.e=0→s.e=0∧(Nm.seqM g l s).1=ys
 | [],ys,hl,_,s,_,he=>⟨he,by
   have:ys=[]:=List.length_eq_zero_iff.1 hl
   rw[this,Nm.seqM]⟩
 | _ :: _,[],hl,_,s,_,_=>by simp at hl
 | t :: l,y :: ys,hl,hg,s,hs,he=>by
  have h1:=hg 0 (by simp) (by simp) s hs
  have h2:=seq_to hi l ys (by simpa using hl) (fun j h h' s hs he=>hg (j+1) (by simp;omega) (by simp;omega) s hs he) (g t s).2 (hi t s hs) he
  have h3:=h1 h2.1
  refine⟨h3.1,?_⟩
  show (g t s).1 :: (Nm.seqM g l (g t s).2).1=_
  rw[h2.2]
  have:(g t s).1=y:=h3.2
  rw[this]
theorem replaced_e {b:List Ty}{k i:Int}{a:List Tm}{v:Tm}{s:Nm.St}(hs:s.e=0)(he:(replaced (.mk b k i a) v s).2.e=0):v.binds.length=a.length∧(Nm.Put v a s.left s.dry).2.e=0∧(replaced (.mk b k i a) v s).1=.mk b (Nm.Put v a s.left s.dry).1.kind (Nm.Put v a s.left s.dry).1.index (Nm.Put v a s.left s.dry).1.args:=by
 rw[replaced_eq] at he ⊢
 by_cases hl:v.binds.length≠a.length
 ·rw[if_pos hl] at he;cases he
 ·rw[if_neg hl] at he ⊢
  by_cases hp:(Nm.Put v a s.left s.dry).2.e≠0
  ·rw[if_pos hp] at he;exact absurd he hp
  ·rw[if_neg hp]
   exact⟨by omega,by omega,rfl⟩
theorem Put_e {v:Tm}{xs:List Tm}{left:Int}{dry:Bool}(hl:v.binds.length=xs.length)(he:(Nm.Put v xs left dry).2.e=0):
  (Nm.through 100001 xs xs.length (.mk [] v.kind v.index v.args) 0 ⟨left,dry,0,0⟩).2.e=0∧(Nm.Put v xs left dry).1.kind=(Nm.through 100001 xs xs.length (.mk [] v.kind v.index v.args) 0 ⟨left,dry,0,0⟩).1.kind ∧
   (Nm.Put v xs left dry).1.index=(Nm.through 100001 xs xs.length (.mk [] v.kind v.index v.args) 0 ⟨left,dry,0,0⟩).1.index∧(Nm.Put v xs left dry).1.args=(Nm.through 100001 xs xs.length (.mk [] v.kind v.index v.args) 0 ⟨left,dry,0,0⟩).1.args:=by
 have hp:Nm.put 100001 v xs ⟨left,dry,0,0⟩=(.mk (v.binds.drop xs.length) (Nm.through 100001 xs xs.length (.mk [] v.kind v.index v.args) 0 ⟨left,dry,0,0⟩).1.kind (Nm.through 100001 xs xs.length (.mk [] v.kind v.index v.args) 0 ⟨left,dry,0,0⟩).1.index (Nm.through 100001 xs xs.length (.mk [] v.kind v.index v.args) 0 ⟨left,dry,0,0⟩).1.args,(Nm.through 100001 xs xs.length (.mk [] v.kind v.index v.args) 0 ⟨left,dry,0,0⟩).2):=by
  unfold Nm.put Nm.putW
  rw[if_neg (by rintro(h | h);exact h rfl;omega),hl]
 unfold Nm.Put Nm.done at he ⊢
 rw[hp] at he ⊢
 generalize Nm.through 100001 xs xs.length (.mk [] v.kind v.index v.args) 0 ⟨left,dry,0,0⟩=r at he ⊢
 dsimp only at he ⊢
 by_cases hc:r.2.e=0∧¬ ((Tm.mk (v.binds.drop xs.length) r.1.kind r.1.index r.1.args).size≤5000∧(Tm.mk (v.binds.drop xs.length) r.1.kind r.1.index r.1.args).depth≤60)
 ·rw[if_pos hc] at he
  have hf:(Nm.fail r.2 2).e=2:=by unfold Nm.fail;rw[if_pos hc.1]
  rw[if_pos (by rw[hf];decide)] at he
  rw[hf] at he;cases he
 ·rw[if_neg hc] at he ⊢
  by_cases hr:r.2.e=0
  ·rw[if_neg (fun h=>h hr)]
   exact⟨hr,rfl,rfl,rfl⟩
  ·rw[if_pos hr] at he;exact absurd he hr
theorem thr_step {l:List (Int×Tm)}{b:List Ty}{k i:Int}{a:List Tm}{ins m:Int}{s:Nm.St}(hs:InR s)(hm:Nm.wr (ins+b.length)=m)(he:(through l (.mk b k i a) ins s).2.e=0):
  s.e=0∧InR (Nm.spend s).2∧(Nm.seqM (fun t s=>through l t m s) a (Nm.spend s).2).2.e=0∧through l (.mk b k i a) ins s=(if k≠2 then (.mk b k i (Nm.seqM (fun t s=>through l t m s) a (Nm.spend s).2).1,(Nm.seqM (fun t s=>through l t m s) a (Nm.spend s).2).2) else match find l i with
    | none=>(.mk b k i (Nm.seqM (fun t s=>through l t m s) a (Nm.spend s).2).1,(Nm.seqM (fun t s=>through l t m s) a (Nm.spend s).2).2)
    | some u=>replaced (.mk b k i (Nm.seqM (fun t s=>through l t m s) a (Nm.spend s).2).1) (Nm.lift m u 0) (Nm.seqM (fun t s=>through l t m s) a (Nm.spend s).2).2):=by
 rw[through] at he ⊢
 rw[hm,throughs_seq] at he ⊢
 by_cases h0:s.e=0
 rotate_left
 ·rw[if_pos h0] at he;exact absurd he h0
 rw[if_neg (fun h=>h h0)] at he ⊢
 by_cases hsp:(Nm.spend s).1=true
 rotate_left
 ·rw[if_pos (by simpa using hsp)] at he;cases he
 rw[if_neg (by rw[hsp];simp)] at he ⊢
 dsimp only at he ⊢
 have hin:=spend_in hs
 generalize Nm.seqM (fun t s=>through l t m s) a (Nm.spend s).2=q at he ⊢
 by_cases hq:q.2.e=0
 ·refine⟨h0,hin,hq,?_⟩
  by_cases hk:k≠2
  ·rw[if_pos hk,if_pos (.inl hk)]
  ·rw[if_neg hk,if_neg (by rintro(h | h);exact hk h;exact h hq)]
   cases find l i <;> rfl
 ·rw[if_pos (.inr hq)] at he;exact absurd he hq
end Sb
namespace Pn
variable {C M:List Ty}
end Pn
namespace Pn
variable {C M:List Ty}
end Pn
variable {β:Type} {Ok:Obj→Prop} {B:Nat} {I I':β→World→Prop}
end Go.Proofs.YtflbnonbfmmchaaGreat
namespace Go.Proofs.YtflbnonbfmmchaaGreat
open Go.RowKit
def rpInt:Rp Int where
 n:=1
 R _ _ x v:=x=[.int .i64 v]
 len:=by rintro F w x a rfl;rfl
 one:=by rintro F w x a rfl u hu;simp at hu;subst hu;rfl
 keep:=fun h _=>h
 weaken:=fun h _=>h
theorem infoI:(Tryz.prog.info? 3).map (fun i=>(i.zero,i.size,i.bytes))=some (some (.int .i64 0),1,8):=by kernel_rfl
def FreshInts (l:List Int)(w:World)(e:Ending)(w':World):Prop:=∃ a c,e=.returned (.slice a l.length c)∧IsSl rpInt (fun q=>w.heap.size≤q) w' (.slice a l.length c) l∧Below w.heap.size w w'
namespace Tm
mutual
def heads:Tm→Int→List (Int×Int)
 | .mk b k i a,n=>(if k≠0 then [(k,i)] else if n+(b.length:Int)≤i then [(0,i-(n+(b.length:Int)))] else [])++headss a (n+(b.length:Int))
def headss:List Tm→Int→List (Int×Int)
 | [],_=>[]
 | t :: l,n=>heads t n++headss l n
end
end Tm
end Go.Proofs.YtflbnonbfmmchaaGreat
namespace Go.Proofs.YtflbnonbfmmchaaGreat
open Go.RowKit Go.Shelf
attribute [local go_sem] Oper.semAt_some
end Go.Proofs.YtflbnonbfmmchaaGreat
namespace Go.Proofs.YtflbnonbfmmchaaGreat
open Go.RowKit
def sortU (zs:List Int):List Int:=Lib.compact (zs.mergeSort fun x y=>decide (x≤y))
theorem keeps_zero (d:Array Int):Lib.keeps d 0=true:=by simp[Lib.keeps]
theorem upTo_rises (d:Array Int):∀ m,m≤d.size→(∀ i j,i≤j→j<d.size→d[i]! ≤ d[j]!)→(Lib.compactUpTo d m).Pairwise (· < ·)∧(∀ x∈Lib.compactUpTo d m,∃ j,j<m∧d[j]! = x)∧(∀ j,j<m→d[j]! ∈ Lib.compactUpTo d m):=by
 intro m
 induction m with
 | zero=>intro _ _;simp[Lib.compactUpTo]
 | succ m ih=>
  intro hm hs
  obtain⟨h1,h2,h3⟩:=ih (by omega) hs
  rw[Lib.compactUpTo_succ]
  by_cases hk:Lib.keeps d m=true
  ·rw[if_pos hk]
   refine⟨?_,?_,?_⟩
   ·rw[List.pairwise_append]
    refine⟨h1,by simp,fun a ha b hb=>?_⟩
    obtain⟨j,hj,rfl⟩:=h2 a ha
    simp at hb;subst hb
    have hle:=hs j (m-1) (by omega) (by omega)
    have hle2:=hs (m-1) m (by omega) (by omega)
    have hne:d[m-1]! ≠ d[m]! := by
     cases m with
     | zero=>omega
     | succ k=>
      have:d[k+1]! ≠ d[k]! := by simpa[Lib.keeps] using hk
      exact fun e=>this e.symm
    omega
   ·intro x hx
    rcases List.mem_append.1 hx with hx | hx
    ·obtain⟨j,hj,e⟩:=h2 x hx;exact⟨j,by omega,e⟩
    ·simp at hx;exact⟨m,by omega,hx.symm⟩
   ·intro j hj
    rw[List.mem_append]
    by_cases hjm:j=m
    ·subst hjm;right;simp
    ·left;exact h3 j (by omega)
  ·rw[if_neg hk,List.append_nil]
   refine⟨h1,fun x hx=>by obtain⟨j,hj,e⟩:=h2 x hx;exact⟨j,by omega,e⟩,fun j hj=>?_⟩
   by_cases hjm:j=m
   ·subst hjm
    cases j with
    | zero=>exact absurd (keeps_zero d) hk
    | succ k=>
     have:d[k+1]! = d[k]! := by simpa[Lib.keeps] using hk
     rw[this];exact h3 k (by omega)
   ·exact h3 j (by omega)
theorem sortU_spec (zs:List Int):(sortU zs).Pairwise (· < ·)∧∀ x,x∈sortU zs↔x∈zs:=by
 obtain⟨ss,hss⟩:∃ ss,(zs.mergeSort fun x y=>decide (x≤y))=ss:=⟨_,rfl⟩
 have hp:ss.Perm zs:=by rw[←hss];exact List.mergeSort_perm _ _
 have hs:ss.Pairwise (fun x y=>x≤y):=by
  have:=List.pairwise_mergeSort (le:=fun x y:Int=>decide (x≤y)) (fun a b c h1 h2=>by simp at *;omega) (fun a b=>by simp;omega) zs
  rw[hss] at this
  simpa using this
 have hs':∀ i j,i≤j→j<ss.toArray.size→ss.toArray[i]! ≤ ss.toArray[j]! := by
  intro i j hij hj
  have hj':j<ss.length:=by simpa using hj
  have hi':i<ss.length:=by omega
  simp only[List.getElem!_toArray,getElem!_pos ss i hi',getElem!_pos ss j hj']
  by_cases e:i=j
  ·subst e;exact Int.le_refl _
  ·exact List.pairwise_iff_getElem.1 hs i j hi' hj' (by omega)
 obtain⟨h1,h2,h3⟩:=upTo_rises ss.toArray ss.length (by simp) hs'
 unfold sortU
 rw[hss]
 refine⟨h1,fun x=>?_⟩
 rw[←hp.mem_iff]
 constructor
 ·intro hx
  obtain⟨j,hj,e⟩:=h2 x hx
  rw[←e]
  simp only[List.getElem!_toArray,getElem!_pos ss j hj]
  exact List.getElem_mem hj
 ·intro hx
  obtain⟨j,hj,e⟩:=List.getElem_of_mem hx
  have:=h3 j hj
  simp only[List.getElem!_toArray,getElem!_pos ss j hj,e] at this
  exact this
theorem rises_eq:∀ {l r:List Int},l.Pairwise (· < ·)→r.Pairwise (· < ·)→(∀ x,x∈l↔x∈r)→l=r
 | [],[],_,_,_=>rfl
 | [],b :: r,_,_,h=>absurd ((h b).2 (by simp)) (by simp)
 | a :: l,[],_,_,h=>absurd ((h a).1 (by simp)) (by simp)
 | a :: l,b :: r,h1,h2,h=>by
  rw[List.pairwise_cons] at h1 h2
  have hab:a=b:=by
   have ha:=(h a).1 (by simp)
   have hb:=(h b).2 (by simp)
   rcases List.mem_cons.1 ha with e | ha
   ·exact e
   rcases List.mem_cons.1 hb with e | hb
   ·exact e.symm
   have:=h2.1 a ha;have:=h1.1 b hb;omega
  subst hab
  rw[rises_eq h1.2 h2.2 fun x=>?_]
  constructor
  ·intro hx
   rcases List.mem_cons.1 ((h x).1 (by simp[hx])) with e | hx'
   ·have:=h1.1 x hx;omega
   ·exact hx'
  ·intro hx
   rcases List.mem_cons.1 ((h x).2 (by simp[hx])) with e | hx'
   ·have:=h2.1 x hx;omega
   ·exact hx'
theorem sortU_twice (zs:List Int):sortU (zs++zs)=sortU zs:=
 rises_eq (sortU_spec _).1 (sortU_spec _).1 fun x=>by rw[(sortU_spec _).2,(sortU_spec _).2];simp
theorem sort_own {base:Nat}{w:World}{v:Value}{zs:List Int}(h:w.ownsRow base 3 1 v zs.length (zs.map (Value.int .i64)))(hl:zs.length≤1000000):
  Calls Tryz.prog 89 #[v] w fun e w'=>e=.returned (.tuple #[])∧w'.ownsRow base 3 1 v zs.length ((zs.mergeSort fun x y=>decide (x≤y)).map (Value.int .i64))∧w.grownBy w' v.ownBlock:=by
 by_cases hv:v=.slice none 0 0
 ·subst hv
  have h0:zs=[]:=by
   rcases h.2 with⟨_,e⟩ | ⟨_,_,_,e,_⟩
   ·exact List.eq_nil_of_length_eq_zero e
   ·cases e
  subst h0
  refine(Tryz.slices_Sort_int_none none 0 w).mono ?_
  rintro e w' ⟨rfl,rfl⟩
  exact⟨rfl,by simpa using h,⟨rfl,rfl,rfl,Nat.le_refl _,fun _ _ _=>rfl⟩⟩
 ·obtain⟨g,cap,rfl,hb,hlt,hn,hm,_,hH⟩:=Lib.holds_of_ownsRow h hv
  refine(Tryz.slices_Sort_int g 0 cap zs w hH hlt (by omega)).mono ?_
  rintro e w' ⟨rfl,n,os,rfl⟩
  refine⟨rfl,?_,grownBy_sortedI _⟩
  rcases h.2 with⟨e,_⟩ | ⟨g',cap',cur,e,_,hg,_,_,hc,_⟩
  ·cases e
  ·cases e
   exact ownsRow_sortedI (ss:=zs) (by simp) hb hg hn hm hc
theorem compact_own {base:Nat}{w:World}{v:Value}{zs:List Int}(h:w.ownsRow base 3 1 v zs.length (zs.map (Value.int .i64)))(hl:zs.length≤1000000):
  Calls Tryz.prog 90 #[v] w fun e w'=>∃ v',e=.returned v'∧w'.ownsRow base 3 1 v' (Lib.compact zs).length ((Lib.compact zs).map (Value.int .i64))∧w.grownBy w' v.ownBlock:=by
 by_cases hv:v=.slice none 0 0
 ·subst hv
  have h0:zs=[]:=by
   rcases h.2 with⟨_,e⟩ | ⟨_,_,_,e,_⟩
   ·exact List.eq_nil_of_length_eq_zero e
   ·cases e
  subst h0
  refine(Tryz.slices_Compact_int_empty none 0 w).mono ?_
  rintro e w' ⟨rfl,rfl⟩
  exact⟨_,rfl,h,⟨rfl,rfl,rfl,Nat.le_refl _,fun _ _ _=>rfl⟩⟩
 ·obtain⟨g,cap,rfl,hb,hlt,hn,hm,_,hH⟩:=Lib.holds_of_ownsRow h hv
  refine(Tryz.slices_Compact_int g 0 cap zs w hH (by omega) hn).mono ?_
  rintro e w' ⟨rfl,q,rfl⟩
  have hcl:=Lib.compact_length_le zs
  refine⟨_,rfl,?_,?_⟩
  ·have:=Lib.ownsRow_putRow (q:=q) (k:=(Lib.compact zs).length) (ys:=Lib.compact zs++List.replicate (zs.length-(Lib.compact zs).length) 0) h (by simp;omega) hcl
   simpa using this
  ·have:=grownBy_sortedI (w:=w) (g:=g) (n:=q) (os:=#[]) (Lib.compact zs++List.replicate (zs.length-(Lib.compact zs).length) 0).toArray
   simpa[Value.ownBlock] using this
theorem own_ints {base:Nat}{w:World}{v:Value}{l:List Int}(h:w.ownsRow base 3 1 v l.length (l.map (Value.int .i64))):∃ a c,v=.slice a l.length c∧IsSl rpInt (fun q=>base≤q) w v l:=by
 have hA:Acc rpInt 3 base (fun _=>False) w v l:=by
  refine⟨l.map (fun z=>[.int .i64 z]),by simp,?_,fun i hi=>⟨[.int .i64 l[i]],by simp[List.getElem?_eq_getElem hi],rfl⟩⟩
  have:(l.map (fun z=>[Value.int .i64 z])).flatten=l.map (Value.int .i64):=by
   clear h
   induction l with
   | nil=>rfl
   | cons a l ih=>simp only[List.map_cons,List.flatten_cons,ih];rfl
  rw[this];exact h
 obtain⟨a,c,hv⟩:=hA.len_shape
 exact⟨a,c,hv,hA.sl (fun _ _ h=>h.elim) (fun _ h=>h)⟩
theorem leaves_marks {F:Fence}{n:Nat}{P:Program}{fn:Func}{tmps:Array Value}{R:Ending→World→Prop}(B:Nat):∀ (Ds:List Nat) (w:World),Ds.Nodup→B≤w.heap.size→(∀ D∈Ds,B≤D∧w.heap[D]?=some (.deferred (some []))) →
  (∀ w',Keep (fun _=>True) w w'→Below B w w'→LeavesIn F n P fn tmps R [] .returning w')→LeavesInM F n P fn tmps R (Ds.map fun D=>{ target:=.collected D,args:=#[] }) .returning w
 | [],w,_,_,_,hk=>hk w (Keep.refl _ _) (Below.refl _ _)
 | D :: Ds,w,hd,hB,hD,hk=>by
  rw[List.nodup_cons] at hd
  have h1:=hD D (by simp)
  have hlt:D<w.heap.size:=(Array.getElem?_eq_some_iff.1 h1.2).1
  refine⟨by simp,.inl ⟨D,_,rfl,run_takeDeferred h1.2,?_⟩⟩
  have hbel:Below B w (w.putObj D (.deferred none)):=(Below.refl _ _).grown (grownBy_putObj' w D (.deferred none)) hB (fun r e=>by cases e;exact h1.1)
  have hkp:Keep (fun _=>True) w (w.putObj D (.deferred none)):=fun o v k _ hv=>cell_kept hv (grownBy_putObj' _ D (.deferred none)) (fun r e=>by cases e;exact⟨_,h1.2,rfl⟩)
  refine leaves_marks B Ds _ hd.2 (by simpa using hB) (fun D' hD'=>⟨(hD D' (by simp[hD'])).1,?_⟩) fun w' hk' hb'=>hk w' (hkp.trans hk') (hbel.trans hb')
  have hne:D'≠D:=fun e=>hd.1 (e ▸ hD')
  exact(World.putObj_heap_other hne).trans (hD D' (by simp[hD'])).2
theorem keepsOthers_grown {W W':World}{row:Option Nat}(hg:W.grownBy W' row)(hr:∀ r,row=some r→∃ o:Obj,W.heap[r]?=some o∧o.isCells=true):KeepsOthers W W':=
 ⟨hg.size,fun k o ho hc=>(hg.block k (Array.getElem?_eq_some_iff.1 ho).1 (fun e=>by
  obtain⟨o',ho',hc'⟩:=hr k e.symm
  rw[ho] at ho';cases ho';rw[hc] at hc';cases hc')).trans ho⟩
theorem own_row {w:World}{base:Nat}{e:TypeId}{size:Nat}{v:Value}{n:Nat}{xs:List Value}(h:w.ownsRow base e size v n xs):∀ r,v.ownBlock=some r→base≤r∧∃ cs,w.heap[r]?=some (.cells cs e (0,0)):=by
 intro r hr
 rcases h.2 with⟨rfl,_⟩ | ⟨g,cap,cur,rfl,hb,hg,_⟩
 ·cases hr
 ·cases hr;exact⟨hb,_,hg⟩
theorem own_kept {w w':World}{base:Nat}{e:TypeId}{size:Nat}{v:Value}{n:Nat}{xs:List Value}{row:Option Nat}(h:w.ownsRow base e size v n xs)(hg:w.grownBy w' row) 
  (hr:∀ r,row=some r→∃ o:Obj,w.heap[r]?=some o∧∀ cs,o≠.cells cs e (0,0)):w'.ownsRow base e size v n xs:=by
 refine h.kept hg ?_
 cases hv:v.ownBlock with
 | none=>exact .inl rfl
 | some g=>
  refine .inr fun e'=>?_
  obtain⟨_,cs,hc⟩:=own_row h g hv
  obtain⟨o,ho,hne⟩:=hr g e'.symm
  rw[hc] at ho;cases ho;exact hne cs rfl
structure OutAt (w:World) (Ds:List Nat) (vv:Value) (zs:List Int) (W:World):Prop where
 box:Blk W w.heap.size #[vv] 59
 own:W.ownsRow (w.heap.size+1) 3 1 vv zs.length (zs.map (Value.int .i64))
 nod:Ds.Nodup
 marks:∀ D∈Ds,w.heap.size+1≤D∧W.heap[D]?=some (.deferred (some []))
 below:Below w.heap.size w W
def OutG (B k:Nat)(t:TypeId):Prop:=k<B∨(B<k∧t≠3)
namespace OutAt
variable {w W W':World} {Ds:List Nat} {vv:Value} {zs:List Int}
theorem lt (h:OutAt w Ds vv zs W):∀ D∈Ds,D<W.heap.size:=fun D hD=>(Array.getElem?_eq_some_iff.1 (h.marks D hD).2).1
theorem blw (h:OutAt w Ds vv zs W)(hb:Below W.heap.size W W'):OutAt w Ds vv zs W':=
 ⟨h.box.below hb,ownsRow_below h.own hb,h.nod,fun D hD=>⟨(h.marks D hD).1,(hb.block D (h.lt D hD)).trans (h.marks D hD).2⟩,h.below.trans (hb.mono h.below.size)⟩
theorem alloc (h:OutAt w Ds vv zs W)(o:Obj):OutAt w Ds vv zs (W.alloc o):=h.blw ((Below.refl _ _).alloc (Nat.le_refl _) _)
theorem grown {B:Nat}{row:Option Nat}(h:OutAt w Ds vv zs W)(hlt:∀ D∈Ds,D<B)(hwB:w.heap.size<B)(hg:W.grownBy W' row) 
  (hr:∀ r,row=some r→B≤r∧∃ o:Obj,W.heap[r]?=some o∧∀ cs,o≠.cells cs 3 (0,0)):OutAt w Ds vv zs W':=
 ⟨h.box.grown hg (fun e=>by have:=(hr _ e).1;omega),own_kept h.own hg (fun r e=>(hr r e).2),h.nod,
  fun D hD=>⟨(h.marks D hD).1,(hg.block D (h.lt D hD) (fun e=>by have:=(hr _ e.symm).1;have:=hlt D hD;omega)).trans (h.marks D hD).2⟩,
  h.below.grown hg h.below.size (fun r e=>by have:=(hr r e).1;omega)⟩
theorem mark (h:OutAt w Ds vv zs W){D:Nat}(hD:W.heap[D]?=some (.deferred (some [])))(hn:∀ D'∈Ds,D'<D)(hw:w.heap.size+1≤D):OutAt w (D :: Ds) vv zs W:=
 ⟨h.box,h.own,List.nodup_cons.2 ⟨fun hm=>by have:=hn D hm;omega,h.nod⟩,fun D' h'=>by
  rcases List.mem_cons.1 h' with rfl | h'
  ·exact⟨hw,hD⟩
  ·exact h.marks D' h',h.below⟩
theorem push (h:OutAt w Ds vv zs W)(x:Int){w3:World}{v':Value}(hg:(W.alloc (.cells #[.int .i64 x] 3)).grownBy w3 vv.ownBlock) 
  (hown:w3.ownsRow (w.heap.size+1) 3 1 v' (zs.length+1) (zs.map (Value.int .i64)++[.int .i64 x])) :
  OutAt w Ds v' (zs++[x]) (w3.setCell ⟨w.heap.size,0,none⟩ v')∧KeepsOthers W (w3.setCell ⟨w.heap.size,0,none⟩ v')∧KeepC (OutG w.heap.size) W (w3.setCell ⟨w.heap.size,0,none⟩ v'):=by
 have ho1:=h.own.alloc (.cells #[.int .i64 x] 3)
 have h1:=h.alloc (.cells #[.int .i64 x] 3)
 have hrow:=own_row ho1
 have hk3:KeepsOthers (W.alloc (.cells #[.int .i64 x] 3)) w3:=keepsOthers_grown hg (fun r e=>by
  obtain⟨_,cs,hc⟩:=hrow r e;exact⟨_,hc,rfl⟩)
 have hbox3:Blk w3 w.heap.size #[vv] 59:=h1.box.grown hg (fun e=>by have:=(hrow _ e).1;omega)
 have hbel3:Below w.heap.size w w3:=h1.below.grown hg h1.below.size (fun r e=>by have:=(hrow r e).1;omega)
 have hkc:KeepC (OutG w.heap.size) (W.alloc (.cells #[.int .i64 x] 3)) w3:=⟨hg.size,fun k cs t fr hk hc=>(hg.block k (Array.getElem?_eq_some_iff.1 hc).1 (fun e=>by
  obtain⟨hle,cs',hc'⟩:=hrow k e.symm
  rw[hc] at hc';cases hc'
  rcases hk with hk | hk
  ·omega
  ·exact hk.2 rfl)).trans hc⟩
 refine⟨⟨hbox3.set 0 _,?_,h.nod,fun D hD=>⟨(h1.marks D hD).1,?_⟩,hbel3.setCell (by simp) _⟩,(((KeepsOthers.alloc W _).trans hk3).trans (KeepsOthers.setCell _ _ _)),?_⟩
 ·have:=ownsRow_setCell_below hown (a:=⟨w.heap.size,0,none⟩) (by simp) v'
  simpa using this
 ·exact(KeepsOthers.setCell w3 _ v').same D _ (hk3.same D _ (h1.marks D hD).2 rfl) rfl
 ·exact(((KeepC.refl _ W).alloc _).trans hkc).setCell _ _ (fun t ht=>by rcases ht with h | h <;> simp at h)
theorem push_box (h:OutAt w Ds vv zs W){x:Int}{w3:World}(hg:(W.alloc (.cells #[.int .i64 x] 3)).grownBy w3 vv.ownBlock):Blk w3 w.heap.size #[vv] 59:=
 (h.alloc (.cells #[.int .i64 x] 3)).box.grown hg (fun e=>by have:=(own_row (h.own.alloc (.cells #[.int .i64 x] 3)) _ e).1;omega)
theorem turned (h:OutAt w Ds vv zs W){ys:List Int}{W':World}(hg:W.grownBy W' vv.ownBlock){v':Value}(hown:W'.ownsRow (w.heap.size+1) 3 1 v' ys.length (ys.map (Value.int .i64))):
  (Blk W' w.heap.size #[vv] 59∧∀ D∈Ds,w.heap.size+1≤D∧W'.heap[D]?=some (.deferred (some [])))∧Below w.heap.size w W':=by
 have hrow:=own_row h.own
 refine⟨⟨h.box.grown hg (fun e=>by have:=(hrow _ e).1;omega),fun D hD=>⟨(h.marks D hD).1,?_⟩⟩,h.below.grown hg h.below.size (fun r e=>by have:=(hrow r e).1;omega)⟩
 refine(hg.block D (h.lt D hD) (fun e=>?_)).trans (h.marks D hD).2
 obtain⟨_,cs,hc⟩:=hrow D e.symm
 rw[(h.marks D hD).2] at hc;cases hc
theorem sorted (h:OutAt w Ds vv zs W){ys:List Int}{W':World}(hg:W.grownBy W' vv.ownBlock)(hown:W'.ownsRow (w.heap.size+1) 3 1 vv ys.length (ys.map (Value.int .i64))):OutAt w Ds vv ys W':=
 let q:=h.turned hg hown
 ⟨q.1.1,hown,h.nod,q.1.2,q.2⟩
theorem leave (h:OutAt w Ds vv zs W){ys:List Int}{W':World}(hg:W.grownBy W' vv.ownBlock){v':Value}(hown:W'.ownsRow (w.heap.size+1) 3 1 v' ys.length (ys.map (Value.int .i64))) 
  {F:Fence} {n:Nat} {P:Program} {fn:Func} {tmps:Array Value} (hr:∀ w3:World,(results fn tmps).run P w3=.ok v' w3) :
  LeavesInM F n P fn tmps (FreshInts ys w) (Ds.map fun D=>{ target:=.collected D,args:=#[] }) .returning W':=by
 obtain⟨⟨hb,hm⟩,hbel⟩:=h.turned hg hown
 refine leaves_marks (w.heap.size+1) Ds W' h.nod (by have:=hb.lt;omega) hm (fun w3 hk hb3=>?_)
 obtain⟨a,c,hv,hs⟩:=own_ints hown
 subst hv
 exact⟨_,hr w3,a,c,rfl,(hs.keep (fun k o u _ hu=>hk k o u trivial hu)).weaken (by decide) (fun q _ hq=>by omega),hbel.trans (hb3.mono (by omega))⟩
end OutAt
end Go.Proofs.YtflbnonbfmmchaaGreat
namespace Go.Proofs.YtflbnonbfmmchaaGreat
open Go.RowKit Go.Shelf
attribute [local go_sem] Oper.semAt_some
theorem tms_cells {F:Nat→Prop}{w:World}{v:Value}{l:List Tm}(h:IsSl rpTm F w v l):∃ a c,v=.slice a l.length c∧(l.length≤maxLen∧l.length≤c)∧∃ (bl off:Nat),
  (0<l.length→a=some ⟨bl,off,none⟩∧F bl)∧∀ j (hj:j<l.length),∃ b k i s,w.cell? ⟨bl,off+j * 4,none⟩=some b∧w.cell? ⟨bl,off+j * 4+1,none⟩=some k∧w.cell? ⟨bl,off+j * 4+2,none⟩=some i∧w.cell? ⟨bl,off+j * 4+3,none⟩=some s∧IsTm F w b k i s l[j]:=by
 obtain⟨a,c,bl,off,X,hv,hm,ha,h1,h2⟩:=h
 refine⟨a,c,hv,hm,bl,off,ha,fun j hj=>?_⟩
 obtain⟨b,k,i,s,hx,ht⟩:=h2 j hj
 exact⟨b,k,i,s,h1 j 0 b hj (by rw[hx];rfl),h1 j 1 k hj (by rw[hx];rfl),h1 j 2 i hj (by rw[hx];rfl),h1 j 3 s hj (by rw[hx];rfl),ht⟩
def metasP (l:List (Nat×Nat×Tm)):List Int:=l.filterMap fun p=>if p.2.2.kind=2 then some p.2.2.index else none
def metasL (l:List Tm):List Int:=l.flatMap fun t=>metasP (t.pre 0 1)
theorem metasL_take (l:List Tm)(j:Nat)(h:j<l.length):metasL (l.take (j+1))=metasL (l.take j)++metasP (l[j].pre 0 1):=by
 rw[List.take_succ_eq_append_getElem h];unfold metasL;rw[List.flatMap_append];simp
theorem metasL_len (l:List Tm)(m:Nat)(h:∀ t∈l,t.full≤m):(metasL l).length≤l.length * m:=by
 induction l with
 | nil=>simp[metasL]
 | cons t l ih=>
  have h1:=h t (by simp)
  have h2:=ih (fun u hu=>h u (by simp[hu]))
  have h3:(metasL (t :: l)).length=(metasP (t.pre 0 1)).length+(metasL l).length:=by simp[metasL]
  have h4:(metasP (t.pre 0 1)).length≤(t.pre 0 1).length:=List.length_filterMap_le _ _
  rw[Tm.pre_length] at h4
  have h5:=Tm.size_le_full t
  rw[h3,List.length_cons,Nat.succ_mul];omega
set_option maxRecDepth 100000 in
set_option maxHeartbeats 4000000 in
theorem metas6_k {F:Nat→Prop}{w:World}{v:Value}{l:List Tm}(h:IsSl rpTm F w v l)(hl:l.length≤9)(hsz:∀ t∈l,t.full≤90000):Calls Tryz.prog 31 #[v] w (FreshInts (sortU (metasL l)) w):=by
 refine(callsIn_wide (n:=9)).1 ?_
 have Ht:=Lib.hid (h.weaken (F':=fun _=>True) (by decide) fun _ _ _=>trivial)
 obtain⟨a,c,rfl,hm,bl,off,ha,hc⟩:=tms_cells Ht.out
 obtain⟨ll,hll⟩:∃ x,l.length=x:=⟨_,rfl⟩
 clear h Ht
 have Hm:=Lib.hid hm;clear hm
 have Hc:=Lib.hid hc;clear hc
 have Hsz:=Lib.hid hsz;clear hsz
 rw[hll] at ha hl ⊢
 obtain⟨i2,hi2,hz0,hz1,hz2⟩:=info_parts infoI
 refine callsIn_of_wp_marks Tryz.func31 rfl trivial ?_ rfl
 simp only[Tryz.ntmps31,List.size_toArray,List.length_cons,List.length_nil,Nat.reduceAdd,Nat.reduceSub,Array.replicate_succ,Array.replicate_zero,List.push_toArray,List.append_toArray,List.nil_append,List.cons_append]
 gi_wp2_with fail
 refine wpIn_loop (fun a' w'=>∃ (j:Nat) (Ds:List Nat) (zs:List Int) (vv u5 u11 u12 u13 u14 u15 u28:Value),a'={ tmps:=#[.slice a ll c,undef,.slice none 0 0,.pointer (some ⟨w.heap.size,0,none⟩),undef,u5,undef,undef,.slice a ll c,.int .i64 ll,.int .i64 j,u11,u12,u13,u14,u15,undef,undef,undef,undef,undef,undef,undef,undef,undef,undef,undef,undef,u28,undef,undef,undef,undef],defers:=Ds.map fun D=>{ target:=.collected D,args:=#[] } } ∧
   j≤ll∧Hid (zs=metasL (l.take j))∧OutAt w Ds vv zs w') (fun a' _=>ll-(intOf (a'.tmps.getD 10 undef)).toNat) ?start ?round
 case start=>
  refine⟨0,[],[],.slice none 0 0,undef,undef,undef,undef,undef,undef,undef,rfl,by omega,by show _=_;simp[metasL],?_⟩
  exact⟨Blk.new _ _ _ rfl,World.ownsRow_nil _ _ _ _,by simp,by simp,(Below.refl _ _).alloc (Nat.le_refl _) _⟩
 case round=>
  rintro a' W ⟨j,Ds,zs,vv,u5,u11,u12,u13,u14,u15,u28,rfl,hj,hzs,hO⟩
  have hj0:(0:Int)≤(j:Int):=Int.natCast_nonneg _
  have HO:=Lib.hid hO;clear hO
  by_cases hlt:j<ll
  ·have hj1:(j:Int)<(ll:Int):=by omega
   obtain⟨rfl,_⟩:=ha (by omega)
   obtain⟨vb,vk,vi,vs,e1,e2,e3,e4,hty⟩:=Hc.out j (by omega)
   have hW:=HO.out.below
   have e1:=((Keep.refl (fun _=>True) _).below hW) _ _ _ trivial e1
   have e2:=((Keep.refl (fun _=>True) _).below hW) _ _ _ trivial e2
   have e3:=((Keep.refl (fun _=>True) _).below hW) _ _ _ trivial e3
   have e4:=((Keep.refl (fun _=>True) _).below hW) _ _ _ trivial e4
   have Htk:=Lib.hid (metasL_take l j (by omega))
   have hts:=Hsz.out l[j] (List.getElem_mem _)
   obtain⟨t,ht⟩:∃ t,l[j]=t:=⟨_,rfl⟩
   rw[ht] at hty Htk hts
   clear ht
   obtain⟨pa,pc,qa,qc,rfl,rfl,rfl,rfl⟩:=hty.shape
   have Hty:=Lib.hid hty;clear hty
   obtain⟨x1,hx1⟩:∃ x,t.binds.length=x:=⟨_,rfl⟩
   obtain⟨x2,hx2⟩:∃ x,t.args.length=x:=⟨_,rfl⟩
   obtain⟨x3,hx3⟩:∃ x,t.kind=x:=⟨_,rfl⟩
   obtain⟨x4,hx4⟩:∃ x,t.index=x:=⟨_,rfl⟩
   rw[hx1,hx2,hx3,hx4] at Hty
   rw[hx1] at e1
   rw[hx3] at e2
   rw[hx4] at e3
   rw[hx2] at e4
   clear hx1 hx2 hx3 hx4
   gi_wp2_with fail
   refine⟨trivial,(each6_k _ _ _ _ _ _ ⟨_,_,_,rfl⟩ ⟨_,rfl⟩ ⟨_,rfl⟩ ⟨_,_,_,rfl⟩).mono ?_⟩
   rintro e w' ⟨rfl,rfl⟩
   gi_wp2_with fail
   have HO5:=Lib.hid ((HO.out.alloc (.cells #[.slice pa x1 pc,.int .i64 x3,.int .i64 x4,.slice qa x2 qc] 41)).alloc (.cells #[.slice pa x1 pc,.int .i64 x3,.int .i64 x4,.slice qa x2 qc] 41))
   obtain⟨w5,hw5⟩:∃ w5,(W.alloc (.cells #[.slice pa x1 pc,.int .i64 x3,.int .i64 x4,.slice qa x2 qc] 41)).alloc (.cells #[.slice pa x1 pc,.int .i64 x3,.int .i64 x4,.slice qa x2 qc] 41)=w5:=⟨_,rfl⟩
   have hz:w5.heap.size=W.heap.size+2:=by rw[←hw5];simp
   have y3:Blk w5 (W.heap.size+1) #[.slice pa x1 pc,.int .i64 x3,.int .i64 x4,.slice qa x2 qc] 41:=by rw[←hw5];exact Blk.new _ _ _ (by simp)
   rw[hw5] at HO5 ⊢
   clear hw5
   have hsz1:=HO.out.box.lt
   have hlts:=HO.out.lt
   clear HO
   have Hlts:Hid (∀ D∈Ds,D<w5.heap.size):=fun D hD=>by have:=hlts D hD;omega
   clear hlts
   refine range_softA (Ok:=SpotOk) (fun o h=>.inl h) rfl (by omega) (gf:=126) (lb:=#[.pointer (some ⟨W.heap.size+1,0,none⟩)]) rfl trivial (enters_of Tryz.func126 (by kernel_rfl) rfl)
    (each6_soft (OutG w.heap.size) (fun k _ _ hk=>.inl hk) Hty.out (by omega) (9-1) w5 (fun k _ hk ht=>.inr ⟨by omega,ht⟩) ((Keep.refl _ _).below HO5.out.below) (W.heap.size+1) y3)
    (fun h h'=>h.trans h') (fun W l o o' _ hl ho _=>KeepC.putObj _ W l o o' hl ho) (Below.refl _ _) (fun _=>rfl)
    (fun pre V=>∃ v',OutAt w Ds v' (zs++metasP (pre.map Hit6.key)) V)
    (fun _ _ _=>False)
    (fun pre A B row ⟨v',h⟩ hg hr=>⟨v',h.grown Hlts.out (by omega) hg (fun r e=>by
     obtain⟨h1,o,ho,hc⟩:=hr r e
     refine⟨h1,o,ho,fun cs e=>?_⟩
     subst e
     rcases hc with hc | ⟨cs',fr,hc⟩
     ·simp[Obj.isCells] at hc
     ·cases hc)⟩)
    (fun _ _ _ _ _ hs _ _=>hs)
    ⟨vv,by simpa[metasP] using HO5.out⟩
    (fun x a' V=>∃ Bx,Blk V Bx #[.slice x.pb x.t.binds.length x.cb,.int .i64 x.t.kind,.int .i64 x.t.index,.slice x.pa x.t.args.length x.ca] 41∧a'={ tmps:=#[.slice (some ⟨bl,off,none⟩) ll c,undef,.slice none 0 0,.pointer (some ⟨w.heap.size,0,none⟩),undef,.pointer (some ⟨W.heap.size,0,none⟩),undef,.pointer (some ⟨Bx,0,none⟩),.slice (some ⟨bl,off,none⟩) ll c,.int .i64 ll,.int .i64 j,.bool true,.pointer (some ⟨bl,off+j * 4,none⟩),.agg #[.slice pa x1 pc,.int .i64 x3,.int .i64 x4,.slice qa x2 qc],.agg #[.slice pa x1 pc,.int .i64 x3,.int .i64 x4,.slice qa x2 qc],.func (.func 126) #[] #[.pointer (some ⟨W.heap.size+1,0,none⟩)],.agg #[.int .i64 x.s,.int .i64 x.d],.agg #[.slice x.pb x.t.binds.length x.cb,.int .i64 x.t.kind,.int .i64 x.t.index,.slice x.pa x.t.args.length x.ca],undef,undef,undef,undef,undef,undef,undef,undef,undef,undef,u28,undef,undef,undef,undef],defers:=[] })
    (fun x a' W l o o' hl ho hoc=>by
     rintro⟨Bx,h2,h3⟩
     have hne:l≠Bx:=fun e=>by
      subst e
      have hb:W.heap[l]?=_:=h2
      rw[hb] at ho;cases ho;simp[Obj.isCells] at hoc
     exact⟨Bx,(World.putObj_heap_other (Ne.symm hne)).trans h2,h3⟩) ?assign ?body ?done ?stop
   case assign=>
    rintro l pre x V K ⟨v',hV⟩ hK
    have HK:=Lib.hid hK;clear hK
    have HV:=Lib.hid hV;clear hV
    simp only[Hit6.enc] at *
    gi_wp2
    exact HK.out _ _ ((KeepsOthers.alloc _ _).from _) ((KeepC.refl _ V).alloc _) ⟨v',HV.out.alloc _⟩ ⟨V.heap.size,Blk.new _ _ _ rfl,rfl⟩
   case body=>
    rintro l' pre x a' V ⟨v',hV⟩ hlt' ⟨Bx,bX,rfl⟩
    have c1:V.cell? ⟨w.heap.size,0,none⟩=some v':=hV.box.cell rfl
    have cx1:V.cell? ⟨Bx,1,none⟩=some (.int .i64 x.t.kind):=bX.cell rfl
    have cx2:V.cell? ⟨Bx,2,none⟩=some (.int .i64 x.t.index):=bX.cell rfl
    have hlen0:(zs++metasP (pre.map Hit6.key)).length≤900000:=by
     have h1:(metasL (l.take j)).length≤720000:=by
      have:=metasL_len (l.take j) 90000 (fun t ht=>Hsz.out t (List.mem_of_mem_take ht))
      have h2:(l.take j).length≤8:=by simp;omega
      exact Nat.le_trans this (Nat.le_trans (Nat.mul_le_mul_right 90000 h2) (by decide))
     have h2:(metasP (pre.map Hit6.key)).length≤pre.length:=by
      have:=List.length_filterMap_le (fun p:Nat×Nat×Tm=>if p.2.2.kind=2 then some p.2.2.index else none) (pre.map Hit6.key)
      simpa[metasP] using this
     have h3:=Tm.size_le_full t
     rw[hzs.out,List.length_append]
     omega
    have hkey:metasP ((pre++[x]).map Hit6.key)=metasP (pre.map Hit6.key)++(if x.t.kind=2 then [x.t.index] else []):=by
     unfold metasP
     rw[List.map_append,List.filterMap_append]
     congr 1
     by_cases hk:x.t.kind=2
     ·simp[Hit6.key,hk]
     ·simp[Hit6.key,hk]
    have hkey2:zs++metasP ((pre++[x]).map Hit6.key)=(zs++metasP (pre.map Hit6.key))++(if x.t.kind=2 then [x.t.index] else []):=by rw[hkey,List.append_assoc]
    clear hkey
    obtain⟨zp,hzp⟩:∃ zp,zs++metasP (pre.map Hit6.key)=zp:=⟨_,rfl⟩
    rw[hzp] at hV hkey2 hlen0
    obtain⟨kk,hkk⟩:∃ k,x.t.kind=k:=⟨_,rfl⟩
    obtain⟨ii,hii⟩:∃ k,x.t.index=k:=⟨_,rfl⟩
    rw[hkk,hii] at hkey2
    rw[hkk] at cx1 ⊢
    rw[hii] at cx2 ⊢
    clear hzp hkk hii
    have HV:=Lib.hid hV;clear hV
    have hsz3:=HV.out.below.size
    have f0:=HV.out.box.free 0
    by_cases hk:kk=2
    ·subst hk
     rw[if_pos rfl] at hkey2
     have Hkey:=Lib.hid hkey2;clear hkey2
     gi_wp2_with (gi_at_builtin;refine wpListIn_append_own _ rfl _ _ 59 rfl (w.heap.size+1) 3 i2 _ 1 8 Tryz.underlying59 hi2 hz0 hz1 hz2 rfl (by decide) v' zp.length (zp.map (Value.int .i64)) rfl (HV.out.own.alloc _) ⟨V.heap.size,0,none⟩ 1 1 [.int .i64 ii] rfl rfl (fun jj u hu=>by
       cases jj with
       | zero=>simp at hu;subst hu;exact(Blk.new V #[.int .i64 ii] 3 rfl).cell rfl
       | succ _=>simp at hu) (by simp[Value.oneCell']) (by simp[maxLen];omega) (by omega) (by have:=HV.out.box.lt;simp;omega) ?_;intro v2 w3 hown3 hg3 hnil3;have Hg3:=Lib.hid hg3;obtain⟨g3,cap3,rfl⟩:=ownsRow_succ hown3;have Hown3:=Lib.hid hown3;clear hown3 hg3 hnil3;have c3:=(HV.out.push_box Hg3.out).cell (i:=0) rfl;have f3:=(HV.out.push_box Hg3.out).free 0)
     obtain⟨q1,q2,q3⟩:=HV.out.push ii Hg3.out Hown3.out
     exact⟨q2.from _,q3,_,by rw[Hkey.out];exact q1⟩
    ·rw[if_neg hk,List.append_nil] at hkey2
     have Hkey:=Lib.hid hkey2;clear hkey2
     have hk':(kk==2)=false:=by simpa using hk
     gi_wp2
     exact⟨(KeepsOthers.refl _).from _,KeepC.refl _ _,_,by rw[Hkey.out];exact HV.out⟩
   case done=>
    rintro D ys V hD hys ⟨v',hV⟩ hK
    have hV2:=hV.mark hK (fun D' h'=>by have:=Hlts.out D' h';omega) (by omega)
    have Hz:Hid (zs++metasP (ys.map Hit6.key)=metasL (l.take (j+1))):=by show _=_;rw[hys,Htk.out,hzs.out]
    rw[Hz.out] at hV2
    clear hV hK hys
    have HV:=Lib.hid hV2;clear hV2
    gi_wp2_with fail
    refine⟨⟨j+1,D :: Ds,_,v',_,_,_,_,_,_,_,rfl,by omega,rfl,HV.out⟩,?_⟩
    simp[intOf];omega
   case stop=>
    rintro D cc pre V _ _ h _
    exact h.elim
  ·have hO:=HO.out
   have hz2:zs=metasL l:=by rw[hzs.out,List.take_of_length_le (by omega)]
   have hlen:zs.length≤1000000:=by
    have:=metasL_len l 90000 Hsz.out
    rw[hz2]
    exact Nat.le_trans this (Nat.le_trans (Nat.mul_le_mul_right 90000 (show l.length≤9 by omega)) (by decide))
   have c1:W.cell? ⟨w.heap.size,0,none⟩=some vv:=hO.box.cell rfl
   clear hO
   gi_wp2_with fail
   refine⟨trivial,(callsIn_wide.2 (sort_own (base:=w.heap.size+1) HO.out.own hlen)).mono ?_⟩
   rintro e W2 ⟨rfl,hown2,hg2⟩
   have hl2:=List.length_mergeSort (le:=fun x y:Int=>decide (x≤y)) zs
   have HO2:=Lib.hid (HO.out.sorted hg2 (by rw[hl2];exact hown2))
   clear HO hown2 hg2
   have c2:W2.cell? ⟨w.heap.size,0,none⟩=some vv:=HO2.out.box.cell rfl
   gi_wp2_with fail
   refine⟨trivial,(callsIn_wide.2 (compact_own (base:=w.heap.size+1) HO2.out.own (by rw[hl2];exact hlen))).mono ?_⟩
   rintro e W3 ⟨v',rfl,hown3,hg3⟩
   have Hown3:=Lib.hid hown3;have Hg3:=Lib.hid hg3
   clear hown3 hg3
   gi_wp2_with fail
   have h:=HO2.out.leave Hg3.out Hown3.out (F:=Fence.wide) (n:=9) (P:=Tryz.prog) (fn:=Tryz.f31) (tmps:=#[.slice a ll c,undef,v',.pointer (some ⟨w.heap.size,0,none⟩),undef,u5,undef,undef,.slice a ll c,.int .i64 ll,.int .i64 j,.bool false,u12,u13,u14,u15,undef,undef,undef,undef,undef,undef,undef,undef,undef,undef,undef,undef,u28,vv,.tuple #[],vv,v']) (fun w3=>results_tmp (t:=2) rfl _ _ w3)
   rw[hz2] at h
   exact h
end Go.Proofs.YtflbnonbfmmchaaGreat
namespace Go.Proofs.YtflbnonbfmmchaaGreat
open Go.RowKit
namespace Pn
variable {C M:List Ty}
mutual
def mtt:Tm→List Int
 | .mk _ k i a=>(if k=2 then [i] else [])++mtts a
def mtts:List Tm→List Int
 | []=>[]
 | t :: l=>mtt t++mtts l
end
theorem mtt_eq (b:List Ty)(k i:Int)(a:List Tm):mtt (.mk b k i a)=(if k=2 then [i] else [])++mtts a:=by rw[mtt]
theorem mtts_mem {n:Int}:∀ {l:List Tm},n∈mtts l↔∃ t∈l,n∈mtt t
 | []=>by simp[mtts]
 | t :: l=>by rw[mtts,List.mem_append,mtts_mem];simp
theorem metasP_pres_mtt {l:List Tm}(h:∀ t∈l,∀ s p,metasP (t.pre s p)=mtt t):∀ s p,metasP (Tm.pres l s p)=mtts l:=by
 induction l with
 | nil=>intro s p;rw[Tm.pres,mtts];rfl
 | cons t l ih=>
  intro s p
  rw[Tm.pres,mtts,←ih (fun u hu=>h u (by simp[hu])) s p,←h t (by simp) s p]
  unfold metasP;rw[List.filterMap_append]
theorem metasP_mtt (t:Tm):∀ s p,metasP (t.pre s p)=mtt t:=by
 induction t using Tm.ind with
 | h b k i a ih=>
  intro s p
  have hr:=metasP_pres_mtt ih (s+b.length) (p+1)
  rw[Tm.pre_eq,mtt_eq,←hr]
  unfold metasP
  rw[List.filterMap_cons]
  by_cases hk:k=2
  ·simp[hk,Tm.kind,Tm.index]
  ·simp[hk,Tm.kind,Tm.index]
theorem mem_mtt (t:Tm)(n:Int):n∈sortU (metasL [t])↔n∈mtt t:=by
 rw[(sortU_spec _).2]
 unfold metasL
 simp only[List.flatMap_cons,List.flatMap_nil,List.append_nil,metasP_mtt]
theorem eta_mtt (T:Ty):∀ i:Int,mtt (Ty.eta T 0 i)=[]:=by
 induction T using Ty.ind with
 | h a b ih=>
  intro i
  rw[Ty.eta_eq,if_pos rfl,mtt_eq,if_neg (by decide),List.nil_append,List.eq_nil_iff_forall_not_mem]
  intro n hn
  obtain⟨t,ht,hn⟩:=mtts_mem.1 hn
  obtain⟨j,hj,rfl⟩:=List.getElem_of_mem ht
  rw[Nm.etas_nth hj] at hn
  rw[ih _ (List.getElem_mem _)] at hn
  cases hn
end Pn
namespace Hs
mutual
def TW (P:Tm→List Tm→Tm)(τ:Int→Option Tm):Tm→Nat→Tm
 | .mk b k i a,z=>if k=2 then (match τ i with
   | some v=>wb b (P (Rn (· + (z+b.length)) v 0) (TWs P τ a (z+b.length)))
   | none=>.mk b k i (TWs P τ a (z+b.length)))
  else .mk b k i (TWs P τ a (z+b.length))
def TWs (P:Tm→List Tm→Tm)(τ:Int→Option Tm):List Tm→Nat→List Tm
 | [],_=>[]
 | t :: l,z=>TW P τ t z :: TWs P τ l z
end
variable {P:Tm→List Tm→Tm}
theorem TWs_map (τ:Int→Option Tm)(z:Nat):∀ l:List Tm,TWs P τ l z=l.map fun t=>TW P τ t z
 | []=>by rw[TWs];rfl
 | t :: l=>by rw[TWs,TWs_map τ z l];rfl
theorem TW_out (τ:Int→Option Tm)(b:List Ty)(k i:Int)(a:List Tm)(z:Nat)(h:k=2→τ i=none):TW P τ (.mk b k i a) z=.mk b k i (a.map fun t=>TW P τ t (z+b.length)):=by
 rw[TW,TWs_map]
 by_cases hk:k=2
 ·rw[if_pos hk,h hk]
 ·rw[if_neg hk]
theorem TW_m (τ:Int→Option Tm)(b:List Ty)(i:Int)(a:List Tm)(z:Nat){v:Tm}(h:τ i=some v):TW P τ (.mk b 2 i a) z=wb b (P (Rn (· + (z+b.length)) v 0) (a.map fun t=>TW P τ t (z+b.length))):=by
 rw[TW,TWs_map,if_pos rfl,h]
theorem cases_m (τ:Int→Option Tm)(k i:Int):(k=2→τ i=none)∨(k=2∧∃ v,τ i=some v):=by
 by_cases hk:k=2
 ·cases h:τ i with
  | none=>exact .inl fun _=>rfl
  | some v=>exact .inr ⟨hk,v,rfl⟩
 ·exact .inl fun h=>absurd h hk
theorem TW_wb (τ:Int→Option Tm)(b:List Ty)(w:Tm)(z:Nat):TW P τ (wb b w) z=wb b (TW P τ (bo w) (z+b.length)):=by
 obtain⟨b',k,i,a⟩:=w
 show TW P τ (.mk b k i a) z=wb b (TW P τ (.mk [] k i a) (z+b.length))
 rcases cases_m τ k i with h | ⟨rfl,v,h⟩
 ·rw[TW_out _ _ _ _ _ _ h,TW_out _ _ _ _ _ _ h];rfl
 ·rw[TW_m _ _ _ _ _ h,TW_m _ _ _ _ _ h];rfl
def T (F:Nat):(Int→Option Tm)→Tm→Nat→Tm:=TW (PF F)
variable (F:Nat)
structure Sb (f c:Nat) (τ τ2:Int→Option Tm) (ρ ρ2:Nat→Img):Prop where
 m:∀ i,(τ i=none∧τ2 i=none)∨∃ v v2,τ i=some v∧τ2 i=some v2∧H f ρ2 v2 0=Rn (· + c) v 0
 v:∀ d,(∃ k,ρ d=.v k∧ρ2 d=.v k)∨∃ x,ρ d=.t x∧ρ2 d=.t (T F τ x c)
theorem T_none (τ:Int→Option Tm)(t:Tm):(∀ i∈Pn.mtt t,τ i=none)→∀ z,T F τ t z=t:=by
 induction t using Tm.ind with
 | h b k i a ih=>
  intro hm z
  rw[Pn.mtt_eq] at hm
  have e1:T F τ (.mk b k i a) z=.mk b k i (a.map fun t=>T F τ t (z+b.length)):=TW_out _ _ _ _ _ _ fun hk=>hm i (by rw[if_pos hk];simp)
  rw[e1]
  congr 1
  refine Eq.trans (List.map_congr_left (g:=fun t=>t) fun t ht=>ih t ht (fun n hn=>hm n (List.mem_append_right _ (Pn.mtts_mem.2 ⟨t,ht,hn⟩))) _) (List.map_id' a)
end Hs
end Go.Proofs.YtflbnonbfmmchaaGreat
namespace Go.Proofs.YtflbnonbfmmchaaGreat
open Go.RowKit
namespace Hs
variable {C M:List Ty}
set_option maxHeartbeats 4000000 in
theorem adeq (C M:List Ty){B:Nat}(hB:B≤5000):∀ (f f':Nat) (xs:List Tm) (P X Z:List Ty) (t:Tm) (u:Ty) (s:Nm.St),f≤f'→WkOk s→Nm.Fu f s→(∀ x∈xs,Bnd B x)→Bnd B t→(∀ x∈xs,x.full≤8000000000000)→X.length+P.length+Z.length+(2 * B+2) * f≤800000000 →
  IsOfs C M xs X P→IsOf C M t (X++P++Z) u→(Nm.through f xs xs.length t (Z.length:Nat) s).2.e=0→s.e=0∧(Nm.through f xs xs.length t (Z.length:Nat) s).1=H f' (sg xs) t Z.length:=by
 intro f
 induction f with
 | zero=>exact fun f' xs P X Z t u s _ hs hf _ _ _ _ _ _ he=>absurd he fun he=>Nm.fu_zero hs hf he
 | succ f ih=>
  intro f' xs P X Z t u s hff hs hf hx ht hxf hz hxt htt he
  obtain⟨g,rfl⟩:∃ g,f'=g+1:=⟨f'-1,by omega⟩
  obtain⟨b,k,i,a⟩:=t
  obtain⟨t1,t2,t3⟩:=ht.inv
  obtain⟨hbu,h,hh,hbase,hargs⟩:=isOf_mk.1 htt
  have hbl:=Ty.le_sizes b
  have hmul:(2 * B+2) * (f+1)=(2 * B+2) * f+(2 * B+2):=by rw[Nat.mul_add];omega
  rw[hmul] at hz
  have hxl:=isOfs_len hxt
  have hZb:(Z++b).length=Z.length+b.length:=List.length_append
  have hwr:Nm.wr ((Z.length:Nat)+b.length)=(((Z.length+b.length:Nat)):Int):=by rw[wr_id (by omega) (by omega)];omega
  obtain⟨s0,w1,f1,he2,hqe⟩:=Nm.thr_step hs hf hwr he
  clear hwr
  have hassoc:X++P++Z++b=X++P++(Z++b):=List.append_assoc ..
  rw[hassoc] at hh hargs
  have hb2:X.length+P.length+(Z++b).length+(2 * B+2) * f≤800000000:=by
   rw[hZb];exact Nm.bnd_aux (N:=800000000) (K:=(2 * B+2) * f) hz hbl t1
  have hdrop:P.drop xs.length=[]:=List.drop_of_length_le (by omega)
  have hq:=Nm.seqM_keeps (C:=C) (M:=M) (f:=f) (g:=fun a s=>Nm.through f xs xs.length a ((Z.length+b.length:Nat):Int) s) (X:=X++P++(Z++b)) (X':=X++P.drop xs.length++(Z++b)) a h.args
   (fun v hv w s hs hf hw=>Nm.through_keeps C M B f xs xs.length v _ s X P (Z++b) w hs hf hx (t3 v hv) hxf hB (by omega) (by omega) (by rw[hZb]) hb2 (by rw[List.take_of_length_le (by omega)];exact hxt) hw) (fun u s h=>through_wk f _ _ _ _ _ h) (fun u s=>Nm.through_count f _ _ _ _ _) (Nm.unit s).2 w1 f1 hargs
  have hgr:=Nm.seqM_grow (B:=B) (f:=f) (g:=fun a s=>Nm.through f xs xs.length a ((Z.length+b.length:Nat):Int) s) a (fun u hu s hs hf=>Nm.through_grow B f xs xs.length u _ s hs hf hx (t3 u hu)) (fun u s h=>through_wk f _ _ _ _ _ h) (fun u s=>Nm.through_count f _ _ _ _ _) (Nm.unit s).2 w1 f1
  have hqw:=seqM_wk (g:=fun a s=>Nm.through f xs xs.length a ((Z.length+b.length:Nat):Int) s) (fun u s h=>through_wk f _ _ _ _ _ h) a _ w1
  have hqc:=Nm.seqM_count (g:=fun a s=>Nm.through f xs xs.length a ((Z.length+b.length:Nat):Int) s) (fun u s=>Nm.through_count f _ _ _ _ _) a (Nm.unit s).2
  have hqt:=(Nm.seqM_to (f:=f) (g:=fun a s=>Nm.through f xs xs.length a ((Z.length+b.length:Nat):Int) s) (fun u s h=>through_wk f _ _ _ _ _ h) (fun u s=>Nm.through_count f _ _ _ _ _) a (a.map fun t=>H (g+1) (sg xs) t (Z.length+b.length)) (List.length_map _) (fun j hj hj' s hs hf he=>by
   rw[List.getElem_map]
   have hal:=isOfs_len hargs
   have:=ih (g+1) xs P X (Z++b) a[j] _ s (by omega) hs hf hx (t3 _ (List.getElem_mem hj)) hxf hb2 hxt ((isOfs_iff.1 hargs).2 j hj (by omega)) (by rw[hZb];exact he)
   rw[hZb] at this;exact this) _ w1 f1 hqe).2
  have hql:=Nm.seqM_length (fun a s=>Nm.through f xs xs.length a ((Z.length+b.length:Nat):Int) s) a (Nm.unit s).2
  refine⟨s0,?_⟩
  rw[he2] at he ⊢
  generalize Nm.seqM (fun a s=>Nm.through f xs xs.length a ((Z.length+b.length:Nat):Int) s) a (Nm.unit s).2=q at hq hgr hqw hqc hqt hql hqe he ⊢
  have hqa:=(hq.2 hqe).2
  have hqg:=hgr hqe
  rcases cases_ix b k i Z.length with hc | ⟨rfl,d,rfl⟩
  ·have hc1:k≠0∨i<((Z.length+b.length:Nat):Int):=by
    by_cases hk:k=0
    ·exact .inr (by
      by_cases h2:i<((Z.length+b.length:Nat):Int)
      ·exact h2
      ·exact absurd ⟨hk,by omega⟩ hc)
    ·exact .inl hk
   rw[Nm.hit_low hc1,H_is,HW_out _ _ _ _ _ _ _ hc,hqt,H_is]
  ·rw[headTy_0,rev_app,if_neg (by omega),hZb,show Z.length+b.length+d-(Z.length+b.length)=d by omega,rev_app] at hh
   have hdlt:d<X.length+P.length:=by
    by_cases hdp:d<P.length
    ·omega
    ·rw[if_neg hdp] at hh
     have:=(List.getElem?_eq_some_iff.1 hh).1
     rw[List.length_reverse] at this;omega
   by_cases hd:d<xs.length
   ·have hjm:xs.length-1-d<xs.length:=by omega
    obtain⟨x,hxx⟩:∃ x,xs[xs.length-1-d]=x:=⟨_,rfl⟩
    obtain⟨g1,g2,g3,g4⟩:=Nm.hit_in (thr:=Nm.through f) (b:=b) (a:=a) (ins:=Z.length+b.length) (d:=d) (args:=q.1) (s:=q.2) hd (by omega) hxx he
    rw[g4]
    have hxm:x∈xs:=hxx ▸ List.getElem_mem hjm
    rw[if_pos (by omega),List.getElem?_reverse (by omega),List.getElem?_eq_getElem (by omega)] at hh
    have hPh:=Option.some.inj hh
    have hxj:IsOf C M x X h:=by
     have h1:=(isOfs_iff.1 hxt).2 (xs.length-1-d) hjm (by omega)
     rw[hxx] at h1
     rw[←hPh]
     have e:P.length-1-d=xs.length-1-d:=by omega
     simp only[e]
     exact h1
    have hgR:Nm.grown x ((Z.length+b.length:Nat):Int)=Rn (· + (Z.length+b.length)) x 0:=grown_Rn (by have:=hxf _ hxm;omega) hxj
    have hu1:=grown_isOf (Y:=Z++b) (by have:=hxf _ hxm;omega) hxj
    have hub:=(hx _ hxm).grown ((Z.length+b.length:Nat):Int)
    rw[hZb] at hu1
    rw[hgR] at g2 g3 hu1 hub ⊢
    have hH:H (g+1) (sg xs) (.mk b 0 ((Z.length+b.length+d:Nat):Int) a) Z.length=wb b (PF (g+1) (Rn (· + (Z.length+b.length)) x 0) (a.map fun t=>H (g+1) (sg xs) t (Z.length+b.length))):=by
     rw[H_is]
     refine HW_t _ _ _ _ _ _ _ ?_
     rw[sg_low hd,List.getD_eq_getElem?_getD,List.getElem?_eq_getElem hjm,Option.getD_some,hxx]
    rw[hH,←hqt]
    generalize Rn (· + (Z.length+b.length)) x 0=v at g2 g3 hu1 hub ⊢
    obtain⟨vb,vk,vi,va⟩:=v
    obtain⟨v1,v2,v3⟩:=hub.inv
    obtain⟨hvb,h',hvh,hvbase,hvargs⟩:=isOf_mk.1 hu1
    have hvbl:=Ty.le_sizes vb
    have hX':X++P.drop xs.length++(Z++b)=X++(Z++b):=by rw[hdrop,List.append_nil]
    rw[hX'] at hqa
    have hXl:(X++(Z++b)).length=X.length+(Z.length+b.length):=by rw[List.length_append,hZb]
    have g2:vb.length=q.1.length:=g2
    have hvb:vb=h.args:=hvb
    have hi2:=ih g q.1 vb (X++(Z++b)) [] (.mk [] vk vi va) (.mk [] h.base) q.2 (by omega) hqw (fun _=>by have:=f1 (by have:=hq.2 hqe;exact this.1);omega) hqg.2.2 (.mk _ _ _ _ (by simp[Ty.sizes]) v2 v3)
     (fun x hx=>by
      have h1:=Bnd.full x (hqg.2.2 x hx)
      have h2:x.size≤1000000000:=by
       have:=Tm.size_mem hx
       have:=hqg.2.1
       have:=w1.left.2
       have:=hqw.left.1
       omega
      have h3:x.size * (B+1)≤1000000000 * 5001:=Nat.mul_le_mul h2 (by omega)
      omega) (by rw[hXl];simp only[List.length_nil];omega) (by rw[hvb];exact hqa)
     (by rw[List.append_nil];exact isOf_mk.2 ⟨rfl,h',by rw[List.append_nil];exact hvh,hvbase,by rw[List.append_nil];exact hvargs⟩) g3
    have hPF:PF (g+1) (.mk vb vk vi va) q.1=bo (H g (sg q.1) (.mk [] vk vi va) 0):=by
     show pt (H g) _ _=_
     unfold pt
     rw[if_neg (fun hne=>hne g2)];rfl
    rw[hPF]
    have hi3:(Nm.through f q.1 q.1.length (.mk [] vk vi va) 0 q.2).1=H g (sg q.1) (.mk [] vk vi va) 0:=hi2.2
    show Tm.mk b (Nm.through f q.1 q.1.length (.mk [] vk vi va) 0 q.2).1.kind (Nm.through f q.1 q.1.length (.mk [] vk vi va) 0 q.2).1.index (Nm.through f q.1 q.1.length (.mk [] vk vi va) 0 q.2).1.args=_
    rw[hi3];rfl
   ·rw[Nm.hit_out (by omega) (by omega),H_is]
    rw[HW_v _ _ _ _ _ _ _ (sg_high (by omega)),hqt,H_is]
end Hs
namespace Hs
variable {C M:List Ty} {B:Nat}
set_option maxHeartbeats 4000000 in
theorem sadeq (hB:B≤1000)(l:List (Int×Tm))(X0:List Ty)(hl:∀ p∈l,(∃ h,headTy C M X0 2 p.1=some h∧IsOf C M p.2 X0 h)∧Bnd B p.2∧p.2.full≤1000000)(t:Tm):
  ∀ (Z:List Ty) (u:Ty) (s:Nm.St),IsOf C M t (X0++Z) u→Bnd B t→X0.length+Z.length+t.full≤100000000→InR s→(Sb.through l t (Z.length:Nat) s).2.e=0→s.e=0∧(Sb.through l t (Z.length:Nat) s).1=T 100002 (Sb.find l) t Z.length:=by
 induction t using Tm.ind with
 | h b k i a ih=>
  intro Z u s ht hbn hz hs he
  obtain⟨hbu,h,hh,hbase,hargs⟩:=isOf_mk.1 ht
  obtain⟨t1,t2,t3⟩:=hbn.inv
  have hbl:=Ty.le_sizes b
  rw[Tm.full_eq] at hz
  have hZb:(Z++b).length=Z.length+b.length:=List.length_append
  have hwr:Nm.wr ((Z.length:Nat)+b.length)=((Z.length+b.length:Nat):Int):=by rw[wr_id (by omega) (by omega)];omega
  obtain⟨s0,w1,hqe,he2⟩:=Sb.thr_step hs hwr he
  clear hwr
  refine⟨s0,?_⟩
  rw[List.append_assoc] at hh hargs
  have hal:=isOfs_len hargs
  have hq:=Sb.seq_keeps (C:=C) (M:=M) (g:=fun t s=>Sb.through l t ((Z.length+b.length:Nat):Int) s) (X:=X0++(Z++b)) (X':=X0++(Z++b)) a h.args
   (fun v hv w s hs hw=>by
    have:=Sb.keeps hB l X0 hl v (Z++b) w hw (t3 v hv) (by have:=Tm.full_mem hv;omega) s hs
    rw[hZb] at this;exact this) (fun v hv s hs=>through_in l v _ s hs) (Nm.spend s).2 w1 hargs
  have hgr:=Sb.seq_grow (B:=B) (g:=fun t s=>Sb.through l t ((Z.length+b.length:Nat):Int) s) a (fun v hv s hs=>Sb.grow l (fun p hp=>(hl p hp).2.1) v (t3 v hv) _ s hs) (fun v hv s hs=>through_in l v _ s hs) (Nm.spend s).2 w1
  have hqi:=seqM_in (g:=fun t s=>Sb.through l t ((Z.length+b.length:Nat):Int) s) a (fun v hv s hs=>through_in l v _ s hs) _ w1
  have hqt:=(Sb.seq_to (g:=fun t s=>Sb.through l t ((Z.length+b.length:Nat):Int) s) (fun t s hs=>through_in l t _ s hs) a (a.map fun t=>T 100002 (Sb.find l) t (Z.length+b.length)) (List.length_map _) (fun j hj hj' s hs he=>by
   rw[List.getElem_map]
   have:=Tm.full_mem (List.getElem_mem hj)
   have:=ih a[j] (List.getElem_mem hj) (Z++b) _ s ((isOfs_iff.1 hargs).2 j hj (by omega)) (t3 _ (List.getElem_mem hj)) (by omega) hs (by rw[hZb];exact he)
   rw[hZb] at this;exact this) _ w1 hqe).2
  have hql:=Nm.seqM_length (fun t s=>Sb.through l t ((Z.length+b.length:Nat):Int) s) a (Nm.spend s).2
  rw[he2] at he ⊢
  generalize Nm.seqM (fun t s=>Sb.through l t ((Z.length+b.length:Nat):Int) s) a (Nm.spend s).2=q at hq hgr hqi hqt hql hqe he ⊢
  rcases cases_m (Sb.find l) k i with hm | ⟨rfl,v,hm⟩
  ·have e1:T 100002 (Sb.find l) (.mk b k i a) Z.length=.mk b k i (a.map fun t=>T 100002 (Sb.find l) t (Z.length+b.length)):=TW_out _ _ _ _ _ _ hm
   rw[e1,←hqt]
   by_cases hk:k≠2
   ·rw[if_pos hk]
   ·rw[if_neg hk,hm (Classical.byContradiction hk)]
  ·have e1:T 100002 (Sb.find l) (.mk b 2 i a) Z.length=wb b (PF 100002 (Rn (· + (Z.length+b.length)) v 0) (a.map fun t=>T 100002 (Sb.find l) t (Z.length+b.length))):=TW_m _ _ _ _ _ hm
   rw[e1,←hqt]
   rw[if_neg (fun h=>h rfl),hm] at he ⊢
   dsimp only at he ⊢
   obtain⟨r1,r2,r3⟩:=Sb.replaced_e hqe he
   rw[r3]
   obtain⟨p,hp,rfl,rfl⟩:=Sb.find_at hm
   obtain⟨⟨h',hh',hvt⟩,hvb,hvf⟩:=hl p hp
   have hsame:h'=h:=by
    rw[headTy_ctx (X':=X0++(Z++b)) (by decide),hh] at hh'
    exact(Option.some.inj hh').symm
   subst hsame
   have hlR:=lift_Rn p.2 (Z.length+b.length) X0 [] h' (by simp only[List.length_nil];omega) (by rw[List.append_nil];exact hvt)
   have hlt:=lift_isOf p.2 X0 (Z++b) [] h' (by simp only[List.length_nil];omega) (by rw[List.append_nil];exact hvt)
   rw[List.append_nil,hZb] at hlt
   simp only[List.length_nil] at hlR hlt
   have e0:(((0:Nat):Int))=0:=rfl
   rw[e0] at hlR hlt
   have hlb:Bnd B (Nm.lift ((Z.length+b.length:Nat):Int) p.2 0):=Bnd.lift _ _ _ hvb
   rw[hlR] at r1 r2 hlt hlb ⊢
   obtain⟨p1,p2,p3,p4⟩:=Sb.Put_e r1 r2
   have hqa:=(hq.2 hqe).2
   have hqg:=hgr hqe
   have hfull:∀ x∈q.1,x.full≤8000000000000:=fun x hx=>by
    have h1:=Bnd.full x (hqg.2.2 x hx)
    have h2:x.size≤1000000000:=by
     have:=Tm.size_mem hx
     have:=hqg.2.1
     have:=w1.2
     have:=hqi.1
     omega
    have h3:x.size * (B+1)≤1000000000 * 1001:=Nat.mul_le_mul h2 (by omega)
    omega
   generalize Rn (· + (Z.length+b.length)) p.2 0=V at r1 r2 hlt hlb p1 p2 p3 p4 ⊢
   obtain⟨vb,vk,vi,va⟩:=V
   obtain⟨v1,v2,v3⟩:=hlb.inv
   obtain⟨hvb2,h2,hvh,hvbase,hvargs⟩:=isOf_mk.1 hlt
   have hvbl:=Ty.le_sizes vb
   have hvb2:vb=h'.args:=hvb2
   have r1:vb.length=q.1.length:=r1
   have hw0:WkOk ⟨q.2.left,q.2.dry,0,0⟩:=⟨hqi,⟨Int.le_refl 0,(by decide:(0:Int)≤100001)⟩,fun _=>(by decide:(0:Int)≤100000)⟩
   have hm2:(2 * B+2) * 100001≤2002 * 100001:=Nat.mul_le_mul_right _ (by omega)
   have hXl:(X0++(Z++b)).length=X0.length+(Z.length+b.length):=by rw[List.length_append,hZb]
   have hA:=adeq C M (B:=B) (by omega) 100001 100001 q.1 vb (X0++(Z++b)) [] (.mk [] vk vi va) (.mk [] h'.base) ⟨q.2.left,q.2.dry,0,0⟩ (Nat.le_refl _) hw0 (fun _=>by show (100001:Int)-0≤((100001:Nat):Int);decide) hqg.2.2 (.mk _ _ _ _ (by simp[Ty.sizes]) v2 v3) hfull (by rw[hXl];simp only[List.length_nil];omega)
    (by rw[hvb2];exact hqa) (by rw[List.append_nil];exact isOf_mk.2 ⟨rfl,h2,by rw[List.append_nil];exact hvh,hvbase,by rw[List.append_nil];exact hvargs⟩) p1
   have hPF:PF 100002 (.mk vb vk vi va) q.1=bo (H 100001 (sg q.1) (.mk [] vk vi va) 0):=by
    show pt (H 100001) _ _=_
    unfold pt
    rw[if_neg (fun hne=>hne r1)];rfl
   rw[hPF,p2,p3,p4]
   have hA2:(Nm.through 100001 q.1 q.1.length (.mk [] vk vi va) 0 ⟨q.2.left,q.2.dry,0,0⟩).1=H 100001 (sg q.1) (.mk [] vk vi va) 0:=hA.2
   show Tm.mk b (Nm.through 100001 q.1 q.1.length (.mk [] vk vi va) 0 ⟨q.2.left,q.2.dry,0,0⟩).1.kind (Nm.through 100001 q.1 q.1.length (.mk [] vk vi va) 0 ⟨q.2.left,q.2.dry,0,0⟩).1.index (Nm.through 100001 q.1 q.1.length (.mk [] vk vi va) 0 ⟨q.2.left,q.2.dry,0,0⟩).1.args=_
   rw[hA2];rfl
theorem apply_e {l:List (Int×Tm)}{t z:Tm}{left:Int}{dry:Bool}{st:Nm.St}(ha:Sb.apply l t left dry=(z,st))(he:st.e=0):Sb.right l=true∧(Sb.through l t 0 ⟨left,dry,0,0⟩).2.e=0∧(Sb.through l t 0 ⟨left,dry,0,0⟩).1=z:=by
 unfold Sb.apply at ha
 by_cases hr:Sb.right l=false
 ·rw[if_pos hr] at ha
  rw[←(Prod.mk.inj ha).2] at he;cases he
 rw[if_neg hr] at ha
 dsimp only at ha
 refine⟨by simpa using hr,?_⟩
 generalize Sb.through l t 0 ⟨left,dry,0,0⟩=r at ha
 by_cases hc:r.2.e=0∧¬ (r.1.size≤5000∧r.1.depth≤60)
 ·rw[if_pos hc] at ha
  have ha':(if (2:Int)≠0 then (Nm.tz,{ r.2 with e:=2 }) else (r.1,{ r.2 with e:=2 }))=(z,st):=ha
  rw[if_pos (by decide)] at ha'
  rw[←(Prod.mk.inj ha').2] at he;cases he
 ·rw[if_neg hc] at ha
  by_cases hr2:r.2.e=0
  ·rw[if_neg (fun h=>h hr2)] at ha
   exact⟨hr2,(Prod.mk.inj ha).1⟩
  ·rw[if_pos hr2] at ha
   rw[←(Prod.mk.inj ha).2] at he;exact absurd he hr2
theorem apply_T (hB:B≤1000){l:List (Int×Tm)}{X0:List Ty}(hl:∀ p∈l,(∃ h,headTy C M X0 2 p.1=some h∧IsOf C M p.2 X0 h)∧Bnd B p.2∧p.2.full≤1000000){t z:Tm}{u:Ty}{left:Int}{dry:Bool}{st:Nm.St}(ht:IsOf C M t X0 u)(hbn:Bnd B t)(hz:X0.length+t.full≤100000000)(h0:0≤left∧left≤1000000000) 
  (ha:Sb.apply l t left dry=(z,st)) (he:st.e=0):z=T 100002 (Sb.find l) t 0:=by
 obtain⟨h1,h2,h3⟩:=apply_e ha he
 have:=sadeq (C:=C) (M:=M) hB l X0 hl t [] u ⟨left,dry,0,0⟩ (by rw[List.append_nil];exact ht) hbn (by simp only[List.length_nil];omega) h0 h2
 rw[←h3];exact this.2
end Hs
section
variable {P:Program} {T:List (Nat×TI)} {cx:Cx} {Fr:Nat→Prop} {m:Mp} {Im:Nat→Nat→Prop} {w w':World} {a:Act} {σ σ':List (Key×D)}
theorem St.drew (h:St cx Fr m Im w a σ):St cx Fr m Im w.drew a σ:=h.below0 (Below.refl _ _).drew
end
section
variable {P:Program} {T:List (Nat×TI)} {cx:Cx} {m:Mp} {Im:Nat→Nat→Prop} {w:World} {a:Act} {σ:List (Key×D)} {ops:Array Oper} {Q:Exit→Act→World→Prop}
end
def ePP (p:Tm×Tm):List D:=eTm p.1++eTm p.2
def ePPs (l:List (Tm×Tm)):List (List D):=l.map ePP
theorem ePP_eq (p:Tm×Tm):ePP p=[.sl 2 (eTys p.1.binds) none,.v (.int .i64 p.1.kind),.v (.int .i64 p.1.index),.sl 4 (eTms p.1.args) none,.sl 2 (eTys p.2.binds) none,.v (.int .i64 p.2.kind),.v (.int .i64 p.2.index),.sl 4 (eTms p.2.args) none]:=by unfold ePP;rw[eTm_eq,eTm_eq];rfl
@[simp] theorem ePPs_ok (f g:Nat→Bool) (l:List (Tm×Tm)):D.okss f g (ePPs l)=true:=D.okss_map _ l fun p _=>by simp[ePP_eq,D.oks,D.ok,eTms_ok,eTys_ok]
theorem right_ss {b:List (Int×Tm)}(hk:(b.map (·.1)).Nodup):Sb.right (So.ss b)=true:=by
 have h1:=So.ss_srt b
 have h2:((So.ss b).map (·.1)).Nodup:=by
  have hp:(So.ss b).Perm b:=by
   unfold So.ss
   have key:∀ l:List (Int×Tm),(So.ssr l).Perm l:=by
    intro l
    induction l with
    | nil=>exact List.Perm.nil
    | cons x l ih=>
     have hi:∀ m:List (Int×Tm),(So.ins x m).Perm (x :: m):=by
      intro m
      induction m with
      | nil=>exact List.Perm.refl _
      | cons y m ihm=>
       rw[So.ins]
       split
       ·exact(List.Perm.cons y ihm).trans (List.Perm.swap _ _ _)
       ·exact List.Perm.refl _
     exact(hi _).trans (List.Perm.cons x ih)
   exact(key _).trans (List.reverse_perm b)
  exact(hp.map _).nodup_iff.2 hk
 unfold Sb.right
 rw[decide_eq_true_iff]
 have h3:(So.ss b).Pairwise fun a b=>a.1≠b.1:=List.pairwise_map.1 h2
 exact(h1.and h3).imp fun h=>by omega
namespace Pn
end Pn
namespace Pn
variable {C M:List Ty}
theorem find_ss (b:Bd)(m:Int):Sb.find (So.ss b) m=bfind b m:=by
 unfold Sb.find bfind
 rw[←List.head?_filter,←List.head?_filter,So.ss_same b m]
end Pn
namespace Ru
def ix (m:Int):List Int→Nat
 | []=>0
 | x :: l=>if x=m then 0 else ix m l+1
def met (o:List Int)(m:Int):List Int:=if m∈o then o else o++[m]
mutual
def tr:Tm→List Int→List Int×Tm
 | .mk b k i a,o=>((trs a (if k=2 then met o i else o)).1,.mk b k (if k=2 then (ix i o:Int) else i) (trs a (if k=2 then met o i else o)).2)
def trs:List Tm→List Int→List Int×List Tm
 | [],o=>(o,[])
 | t :: l,o=>((trs l (tr t o).1).1,(tr t o).2 :: (trs l (tr t o).1).2)
end
def eN:List Int→Nat→List (Int×D)
 | [],_=>[]
 | x :: l,n=>(x,.v (.int .i64 ((n:Nat):Int))) :: eN l (n+1)
@[simp] theorem eN_ok (f g:Nat→Bool):∀ (o:List Int) (n:Nat),D.okm f g (eN o n)=true
 | [],_=>by simp[eN,D.okm]
 | x :: l,n=>by simp[eN,D.okm,D.ok,eN_ok f g l (n+1)]
end Ru
namespace Ru
open Li (Pr)
def bad (M:List Ty)(x:Int):Bool:=decide (x<0∨(M.length:Int)≤x)
def mt (M:List Ty)(x:Int):Ty:=M.getD x.toNat (.mk [] 0)
def own (p:Pr):Pr×Int:=
 if (tr p.r (tr p.l []).1).1.any (bad p.m) then (.z,10) else (⟨(tr p.l []).2,(tr p.r (tr p.l []).1).2,(tr p.r (tr p.l []).1).1.map (mt p.m)⟩,0)
end Ru
namespace Ru
end Ru
namespace Ru
/-! renamed -/
mutual
def rn (l:List Int):Tm→Tm
 | .mk b k i a=>.mk b k (if k=2∧i∈l then (ix i l:Int) else i) (rns l a)
def rns (l:List Int):List Tm→List Tm
 | []=>[]
 | t :: r=>rn l t :: rns l r
end
end Ru
namespace Ru
end Ru
namespace Ru
def cur (l:List Int)(i:Int)(j:Nat):Int:=if i∈l.take j then (ix i l:Int) else i
end Ru
end Go.Proofs.YtflbnonbfmmchaaGreat
