/-
  What package audit does with steps, in plain words; a chain turned round. Package subst, walked in the deep way: Apply. Package subst, walked in the deep way: through, Apply. What forms grow to where terms are put for variables: no more heads than units that are spent; plain. Package subst's lists, walked in the deep way: Clone, Without, Set, Domain, Get. spot.Replace, walked in the deep way; copies of larger terms. What is asked of the forms on the way of subst.Apply holds with small budgets; plain. The type of a head: the program's and the document's. The type of a head: the document's. Whether a term is of a type: the plain law. Terms put for variables keep types; plain. Terms put for metavariables keep types; plain. Package rule, walked in the deep way: met, term. Package rule, walked in the deep way: Own, Of, Equal, Variant. The document's numbers of a pair (order, renamed) are those of package rule. The document's answer of layer 17: order, renamed, Own, Variant. Deep values: regions with steps through a map. Package match, walked in the deep way: what was found as a substitution; several at once. The known answer of the laws of layer 12. Lists of pairs, there and back. Lists of pairs in the laws of layer 9: To, Few. Package subst's lists, walked in the deep way: Set, Domain, Get, Equal; terms that are the same. Package subst's lists, walked in the deep way: Get, Equal. The document's lists of pairs, walked in the deep way: Sorted, Get, Without, Domain, Same. LiftSubsts, walked in the deep way. How large long forms are, and that their indexes fit. How large lifted terms are, and that their indexes fit. The document's Take, walked in the deep way; what is wrong with a pattern. The document's Like. The document's Metas. The document's Metas, walked in the deep way. Which of two types is less: by size, by how many arguments, argument by argument, by base; and what that order promises. Which of two terms is less: the plain law. sign, cmp.Compare and cmp.Or of ints. The document's order of types. The document's order of terms. A context with more binders: the program's and the document's. term.is: whether a term is of a type. The document's Is: whether a term is of a type. The document's Depth, Right, Check; term.Check. The document's answer of layer 22: lifted, Over, Closed. What the members of a gathering yield: a list of standard shapes. term.HeadType, term.TypeOf. The document's TypeOf. Whether a world may be: the program's RightWorld and the document's. The laws' worlds: World, Small; the document's RightWorld. The contracts of heads and types once more, where all of memory may be read. Checks of substitutions: what is called, as deep contracts.
-/
import Derived.Test.YtclihnccilkohaaGreatRowAuditChainsp6
import Derived.Test.YtclihnccilkohaaGreatRowAuditChainsp4
import Derived.Test.YtclihnccilkohaaGreatRowAuditChainsp5
import Derived.Test.YtclihnccilkohaaGreatRowAuditChainsp1
import Derived.Deep.QuietTactic
import Derived.BigQuiet
import Derived.WalkSmall
import Derived.Maps.RangeRun
set_option maxRecDepth 100000
set_option maxHeartbeats 1000000
set_option linter.unusedVariables false
set_option linter.unusedSimpArgs false
namespace Go.Proofs.YtclihnccilkohaaGreat
open Go.RowKit
namespace Au
structure St where
 eq:Int
 back:Bool
 path:List Int
 s:List (Int×Tm)
def flip (x:St):St:=⟨x.eq,!x.back,x.path,x.s⟩
def must (e:Int)(is:Bool)(c:Int):Int:=if e=0∧is=false then c else e
theorem must_true (e c:Int):must e true c=e:=if_neg (fun h=>by cases h.2)
theorem must_ne {e:Int}(h:e≠0)(is:Bool)(c:Int):must e is c=e:=if_neg (fun h2=>h h2.1)
theorem must_0 {e c:Int}{is:Bool}(hc:c≠0)(h:must e is c=0):e=0∧is=true:=by
 unfold must at h
 by_cases h2:e=0∧is=false
 ·rw[if_pos h2] at h;exact absurd h hc
 ·rw[if_neg h2] at h
  refine⟨h,?_⟩
  cases is with
  | true=>rfl
  | false=>exact absurd ⟨h,rfl⟩ h2
def replP:List Int→Tm→Tm→Option Tm
 | [],t,b=>some (.mk t.binds b.kind b.index b.args)
 | j :: p,t,b=>if 0≤j∧j<(t.args.length:Int) then (replP p (t.args.getD j.toNat Tm.zero) b).map fun x=>.mk t.binds t.kind t.index (t.args.set j.toNat x) else none
def repl (t b:Tm)(p:List Int):Tm×Int:=if b.binds≠[] then (Tm.zero,1) else match replP p t b with
 | none=>(Tm.zero,10)
 | some o=>(o,0)
theorem at_repl:∀ (p:List Int) (t b o th:Tm) (ar:List Ty),replP p t b=some o→Pn.atP p t=some (th,ar)→Pn.atP p o=some (.mk th.binds b.kind b.index b.args,ar)
 | [],t,b,o,th,ar,h,ha=>by
  rw[replP] at h
  rw[Pn.atP] at ha
  cases h
  obtain⟨rfl,rfl⟩:=Prod.mk.inj (Option.some.inj ha)
  rw[Pn.atP];rfl
 | j :: p,t,b,o,th,ar,h,ha=>by
  rw[replP] at h
  rw[Pn.atP] at ha
  by_cases hj:0≤j∧j<(t.args.length:Int)
  ·rw[if_pos hj] at h ha
   cases hr:replP p (t.args.getD j.toNat Tm.zero) b with
   | none=>rw[hr] at h;cases h
   | some x=>
    rw[hr] at h
    cases ht:Pn.atP p (t.args.getD j.toNat Tm.zero) with
    | none=>rw[ht] at ha;cases ha
    | some r=>
     rw[ht] at ha
     obtain⟨r1,r2⟩:=r
     have h:=Option.some.inj h
     obtain⟨rfl,rfl⟩:=Prod.mk.inj (Option.some.inj ha)
     have hi:=at_repl p _ b x _ _ hr ht
     subst h
     rw[Pn.atP]
     dsimp only
     have hjl:j.toNat<t.args.length:=by omega
     have hl:(t.args.set j.toNat x).length=t.args.length:=List.length_set
     rw[if_pos (show 0≤j∧j<(((Tm.mk t.binds t.kind t.index (t.args.set j.toNat x)).args).length:Int) by show 0≤j∧j<((t.args.set j.toNat x).length:Int);rw[hl];exact hj)]
     have hg:(t.args.set j.toNat x).getD j.toNat Tm.zero=x:=by
      rw[List.getD_eq_getElem?_getD,List.getElem?_set_self hjl];rfl
     show (Pn.atP p ((t.args.set j.toNat x).getD j.toNat Tm.zero)).map _=_
     rw[hg,hi];rfl
  ·rw[if_neg hj] at h;cases h
theorem repl_repl:∀ (p:List Int) (t b o th:Tm) (ar:List Ty),replP p t b=some o→Pn.atP p t=some (th,ar)→replP p o (Pn.nb th)=some t
 | [],t,b,o,th,ar,h,ha=>by
  rw[replP] at h
  rw[Pn.atP] at ha
  cases h
  obtain⟨rfl,rfl⟩:=Prod.mk.inj (Option.some.inj ha)
  rw[replP]
  cases t;rfl
 | j :: p,t,b,o,th,ar,h,ha=>by
  rw[replP] at h
  rw[Pn.atP] at ha
  by_cases hj:0≤j∧j<(t.args.length:Int)
  ·rw[if_pos hj] at h ha
   cases hr:replP p (t.args.getD j.toNat Tm.zero) b with
   | none=>rw[hr] at h;cases h
   | some x=>
    rw[hr] at h
    cases ht:Pn.atP p (t.args.getD j.toNat Tm.zero) with
    | none=>rw[ht] at ha;cases ha
    | some r=>
     rw[ht] at ha
     obtain⟨r1,r2⟩:=r
     have h:=Option.some.inj h
     obtain⟨rfl,rfl⟩:=Prod.mk.inj (Option.some.inj ha)
     have hi:=repl_repl p _ b x _ _ hr ht
     subst h
     rw[replP]
     dsimp only
     have hjl:j.toNat<t.args.length:=by omega
     have hl:(t.args.set j.toNat x).length=t.args.length:=List.length_set
     rw[if_pos (show 0≤j∧j<(((Tm.mk t.binds t.kind t.index (t.args.set j.toNat x)).args).length:Int) by show 0≤j∧j<((t.args.set j.toNat x).length:Int);rw[hl];exact hj)]
     have hg:(t.args.set j.toNat x).getD j.toNat Tm.zero=x:=by
      rw[List.getD_eq_getElem?_getD,List.getElem?_set_self hjl];rfl
     show (replP p ((t.args.set j.toNat x).getD j.toNat Tm.zero) (Pn.nb r1)).map _=_
     rw[hg,hi]
     show some (Tm.mk t.binds t.kind t.index ((t.args.set j.toNat x).set j.toNat (t.args.getD j.toNat Tm.zero)))=some t
     rw[List.set_set,List.getD_eq_getElem?_getD,List.getElem?_eq_getElem hjl,Option.getD_some,List.set_getElem_self]
     cases t;rfl
  ·rw[if_neg hj] at h;cases h
variable (code:List Ty→Tm→Ty→Int)
def subS (q:Li.Pr)(s:List (Int×Tm))(ar:List Ty)(e:Int):Int:=
 s.foldl (fun e p=>if e=0 then must e (decide (code ar p.2 (q.m.getD p.1.toNat (.mk [] 0))=0)) 5 else e)
  (s.foldl (fun e p=>must e (decide (0≤p.1∧p.1<(q.m.length:Int))) 1) (must e (Sb.right s&&decide (s.map (·.1)=sortU (metasL [q.l,q.r]))) 1))
def img (s:List (Int×Tm))(t:Tm)(e:Int):Tm×Int:=if e≠0 then (Tm.zero,e) else ((Sb.apply s t 100000 false).1,must e (decide ((Sb.apply s t 100000 false).2.e=0)) (Sb.apply s t 100000 false).2.e)
variable (eqs:List Li.Pr)
def eqAt (x:St):Li.Pr:=eqs.getD x.eq.toNat Li.Pr.z
def fin (x:St)(t th:Tm)(a b:Tm)(e:Int):Tm×Int:=
 if must e (decide (a=Pn.nb th)) 9≠0 then (Tm.zero,must e (decide (a=Pn.nb th)) 9)
 else if must (must (must e (decide (a=Pn.nb th)) 9) (decide ((repl t b x.path).2=0)) (repl t b x.path).2) (Li.rt (repl t b x.path).1) 2≠0 then (Tm.zero,must (must (must e (decide (a=Pn.nb th)) 9) (decide ((repl t b x.path).2=0)) (repl t b x.path).2) (Li.rt (repl t b x.path).1) 2)
 else ((repl t b x.path).1,0)
def step (x:St)(r:Tm×Int):Tm×Int:=
 match Pn.atP x.path r.1 with
 | none=>(Tm.zero,must (must r.2 (decide (0≤x.eq∧x.eq<(eqs.length:Int))) 10) false 10)
 | some (th,ar)=>
  if must r.2 (decide (0≤x.eq∧x.eq<(eqs.length:Int))) 10≠0 then (Tm.zero,must r.2 (decide (0≤x.eq∧x.eq<(eqs.length:Int))) 10)
  else fin x r.1 th (img x.s (if x.back then (eqAt eqs x).r else (eqAt eqs x).l) (subS code (eqAt eqs x) x.s ar 0)).1
   (img x.s (if x.back then (eqAt eqs x).l else (eqAt eqs x).r) (img x.s (if x.back then (eqAt eqs x).r else (eqAt eqs x).l) (subS code (eqAt eqs x) x.s ar 0)).2).1
   (img x.s (if x.back then (eqAt eqs x).l else (eqAt eqs x).r) (img x.s (if x.back then (eqAt eqs x).r else (eqAt eqs x).l) (subS code (eqAt eqs x) x.s ar 0)).2).2
def chain (l:List St)(t:Tm):Tm×Int:=
 if (l.foldl (fun r x=>step code eqs x r) (t,0)).2≠0 then (Tm.zero,(l.foldl (fun r x=>step code eqs x r) (t,0)).2) else l.foldl (fun r x=>step code eqs x r) (t,0)
theorem fin_ne {x:St}{t th a b:Tm}{e:Int}(h:(fin x t th a b e).2≠0):(fin x t th a b e).1=Tm.zero:=by
 unfold fin at h ⊢
 by_cases h1:must e (decide (a=Pn.nb th)) 9≠0
 ·rw[if_pos h1]
 ·rw[if_neg h1] at h ⊢
  by_cases h2:must (must (must e (decide (a=Pn.nb th)) 9) (decide ((repl t b x.path).2=0)) (repl t b x.path).2) (Li.rt (repl t b x.path).1) 2≠0
  ·rw[if_pos h2]
  ·rw[if_neg h2] at h;exact absurd rfl h
theorem step_e {x:St}{r:Tm×Int}(h:r.2≠0):step code eqs x r=(Tm.zero,r.2):=by
 unfold step
 rw[must_ne h,must_ne h]
 cases Pn.atP x.path r.1 with
 | none=>rfl
 | some y=>exact if_pos h
theorem step_ne {x:St}{r:Tm×Int}(h:(step code eqs x r).2≠0):(step code eqs x r).1=Tm.zero:=by
 unfold step at h ⊢
 cases ha:Pn.atP x.path r.1 with
 | none=>rfl
 | some y=>
  obtain⟨th,ar⟩:=y
  rw[ha] at h
  dsimp only at h ⊢
  by_cases h1:must r.2 (decide (0≤x.eq∧x.eq<(eqs.length:Int))) 10≠0
  ·rw[if_pos h1]
  ·rw[if_neg h1] at h ⊢
   exact fin_ne h
theorem img_0 {s:List (Int×Tm)}{t:Tm}{e:Int}(h:(img s t e).2=0):e=0∧(Sb.apply s t 100000 false).2.e=0∧img s t e=((Sb.apply s t 100000 false).1,0):=by
 have he:e=0:=by
  by_cases he:e=0
  ·exact he
  ·unfold img at h
   rw[if_pos he] at h;exact absurd h he
 subst he
 unfold img at h ⊢
 rw[if_neg (fun h=>h rfl)] at h ⊢
 by_cases h2:(Sb.apply s t 100000 false).2.e=0
 ·refine⟨rfl,h2,?_⟩
  rw[decide_eq_true h2,must_true]
 ·rw[decide_eq_false h2] at h
  have h:must 0 false (Sb.apply s t 100000 false).2.e=0:=h
  exact absurd (must_0 h2 h).2 (by decide)
theorem img_ok {s:List (Int×Tm)}{t:Tm}(h:(Sb.apply s t 100000 false).2.e=0):img s t 0=((Sb.apply s t 100000 false).1,0):=by
 unfold img
 rw[if_neg (fun h=>h rfl),decide_eq_true h,must_true]
theorem step_back {x:St}{t o:Tm}(h:step code eqs x (t,0)=(o,0))(hr:Li.rt t=true):Li.rt o=true∧step code eqs (flip x) (o,0)=(t,0):=by
 unfold step at h
 cases ha:Pn.atP x.path t with
 | none=>
  dsimp only at h
  rw[ha] at h
  have:=(must_0 (by decide) (Prod.mk.inj h).2).2
  cases this
 | some y=>
  obtain⟨th,ar⟩:=y
  dsimp only at h
  rw[ha] at h
  dsimp only at h
  by_cases h1:must 0 (decide (0≤x.eq∧x.eq<(eqs.length:Int))) 10≠0
  ·rw[if_pos h1] at h;exact absurd (Prod.mk.inj h).2 h1
  rw[if_neg h1] at h
  have h1:must 0 (decide (0≤x.eq∧x.eq<(eqs.length:Int))) 10=0:=Classical.byContradiction h1
  obtain⟨f,hf⟩:∃ f,(if x.back then (eqAt eqs x).r else (eqAt eqs x).l)=f:=⟨_,rfl⟩
  obtain⟨g,hg⟩:∃ g,(if x.back then (eqAt eqs x).l else (eqAt eqs x).r)=g:=⟨_,rfl⟩
  rw[hf,hg] at h
  unfold fin at h
  obtain⟨A,hA⟩:∃ A,img x.s f (subS code (eqAt eqs x) x.s ar 0)=A:=⟨_,rfl⟩
  rw[hA] at h
  obtain⟨B,hB⟩:∃ B,img x.s g A.2=B:=⟨_,rfl⟩
  rw[hB] at h
  by_cases h2:must B.2 (decide (A.1=Pn.nb th)) 9≠0
  ·rw[if_pos h2] at h;exact absurd (Prod.mk.inj h).2 h2
  rw[if_neg h2] at h
  have h2:must B.2 (decide (A.1=Pn.nb th)) 9=0:=Classical.byContradiction h2
  rw[h2] at h
  obtain⟨hB0,hAt⟩:=must_0 (by decide) h2
  have hAt:A.1=Pn.nb th:=of_decide_eq_true hAt
  by_cases h3:must (must 0 (decide ((repl t B.1 x.path).2=0)) (repl t B.1 x.path).2) (Li.rt (repl t B.1 x.path).1) 2≠0
  ·rw[if_pos h3] at h;exact absurd (Prod.mk.inj h).2 h3
  rw[if_neg h3] at h
  have h3:must (must 0 (decide ((repl t B.1 x.path).2=0)) (repl t B.1 x.path).2) (Li.rt (repl t B.1 x.path).1) 2=0:=Classical.byContradiction h3
  have ho:=(Prod.mk.inj h).1
  obtain⟨h4,h5⟩:=must_0 (by decide) h3
  rw[ho] at h5
  have h6:(repl t B.1 x.path).2=0:=by
   by_cases h6:(repl t B.1 x.path).2=0
   ·exact h6
   ·exact absurd (must_0 h6 h4).2 (by rw[decide_eq_false h6];decide)
  obtain⟨hb0,hbe,hbi⟩:=img_0 (by rw[hB];exact hB0:(img x.s g A.2).2=0)
  obtain⟨ha0,hae,hai⟩:=img_0 (by rw[hA];exact hb0:(img x.s f (subS code (eqAt eqs x) x.s ar 0)).2=0)
  have hbb:B.1.binds=[]∧replP x.path t B.1=some o:=by
   unfold repl at ho h6
   by_cases hb:B.1.binds≠[]
   ·rw[if_pos hb] at h6;cases h6
   ·rw[if_neg hb] at ho h6
    refine⟨Classical.byContradiction hb,?_⟩
    cases hp:replP x.path t B.1 with
    | none=>rw[hp] at h6;cases h6
    | some y=>rw[hp] at ho;rw[←ho]
  have hat:=at_repl _ _ _ _ _ _ hbb.2 ha
  have hrr:=repl_repl _ _ _ _ _ _ hbb.2 ha
  have hA1:A.1=(Sb.apply x.s f 100000 false).1:=by rw[←hA,hai]
  have hB1:B.1=(Sb.apply x.s g 100000 false).1:=by rw[←hB,hbi]
  refine⟨h5,?_⟩
  unfold step
  dsimp only
  show (match Pn.atP x.path o with | none=>_ | some (th,ar)=>_)=_
  rw[hat]
  dsimp only
  show (if must 0 (decide (0≤x.eq∧x.eq<(eqs.length:Int))) 10≠0 then _ else _)=_
  rw[if_neg (fun h=>h h1)]
  have hfl:(flip x).back=!x.back:=rfl
  have heq:eqAt eqs (flip x)=eqAt eqs x:=rfl
  have hf2:(if (flip x).back then (eqAt eqs (flip x)).r else (eqAt eqs (flip x)).l)=g:=by
   rw[heq,hfl,←hg];cases x.back <;> rfl
  have hg2:(if (flip x).back then (eqAt eqs (flip x)).l else (eqAt eqs (flip x)).r)=f:=by
   rw[heq,hfl,←hf];cases x.back <;> rfl
  rw[hf2,hg2,heq]
  show fin (flip x) o _ (img x.s g (subS code (eqAt eqs x) x.s ar 0)).1 (img x.s f (img x.s g (subS code (eqAt eqs x) x.s ar 0)).2).1 (img x.s f (img x.s g (subS code (eqAt eqs x) x.s ar 0)).2).2=_
  rw[ha0,img_ok hbe,img_ok hae,←hA1,←hB1]
  unfold fin
  have hnb:B.1=Pn.nb (.mk th.binds B.1.kind B.1.index B.1.args):=by
   generalize B.1=w at hbb
   obtain⟨wb,wk,wi,wa⟩:=w
   have:wb=[]:=hbb.1
   subst this;rfl
  rw[decide_eq_true hnb,must_true,if_neg (fun h=>h rfl)]
  have hrp:repl o A.1 (flip x).path=(t,0):=by
   unfold repl
   have hab:¬ A.1.binds≠[]:=fun h=>h (by rw[hAt];rfl)
   rw[if_neg hab,hAt]
   show (match replP x.path o (Pn.nb th) with | none=>_ | some o=>_)=_
   rw[hrr]
  rw[hrp]
  dsimp only
  rw[decide_eq_true rfl,must_true,hr,must_true,if_neg (fun h=>h rfl)]
theorem fold_e:∀ (l:List St) (r:Tm×Int),r.2≠0→(l.foldl (fun r x=>step code eqs x r) r).2=r.2
 | [],r,_=>rfl
 | x :: l,r,h=>by
  rw[List.foldl_cons,step_e code eqs h]
  exact fold_e l _ h
theorem chain_back:∀ (l:List St) (t o:Tm),l.foldl (fun r x=>step code eqs x r) (t,0)=(o,0)→Li.rt t=true→Li.rt o=true∧(l.reverse.map flip).foldl (fun r x=>step code eqs x r) (o,0)=(t,0)
 | [],t,o,h,hr=>by
  have h:(t,(0:Int))=(o,0):=h
  obtain⟨rfl,-⟩:=Prod.mk.inj h
  exact⟨hr,rfl⟩
 | x :: l,t,o,h,hr=>by
  rw[List.foldl_cons] at h
  have h0:(step code eqs x (t,0)).2=0:=Classical.byContradiction fun hne=>by
   have:=fold_e code eqs l _ hne
   rw[h] at this
   exact hne this.symm
  obtain⟨⟨m,me⟩,hm⟩:∃ m,step code eqs x (t,0)=m:=⟨_,rfl⟩
  rw[hm] at h h0
  have h0:me=0:=h0
  subst h0
  obtain⟨h1,h2⟩:=step_back code eqs hm hr
  obtain⟨h3,h4⟩:=chain_back l m o h h1
  refine⟨h3,?_⟩
  rw[List.reverse_cons,List.map_append,List.foldl_append,h4]
  exact h2
end Au
def TS2_62:TI:=⟨4,true,[Value.slice none 0 0,Value.int IntKind.i64 0,Value.int IntKind.i64 0,Value.slice none 0 0],[(0,1,false),(1,2,true),(3,1,false)],none,64,6,none,false⟩
theorem TS2_62_ok:TypOk Tryz.prog 62 TS2_62:=by constructor <;> kernel_rfl
def TS2_243:TI:=⟨3,true,[Value.pointer none,Value.slice none 0 0,Value.int IntKind.i64 0],[(0,1,false),(1,1,false),(2,1,false)],none,40,6,none,false⟩
theorem TS2_243_ok:TypOk Tryz.prog 243 TS2_243:=by constructor <;> kernel_rfl
def TS2_50:TI:=⟨1,false,[Value.int IntKind.i64 0],[],none,8,2,none,false⟩
theorem TS2_50_ok:TypOk Tryz.prog 50 TS2_50:=by constructor <;> kernel_rfl
def TS2_3:TI:=⟨1,false,[Value.int IntKind.i64 0],[],none,8,2,none,false⟩
theorem TS2_3_ok:TypOk Tryz.prog 3 TS2_3:=by constructor <;> kernel_rfl
def TS2_60:TI:=⟨1,false,[Value.slice none 0 0],[],some 62,24,5,none,false⟩
theorem TS2_60_ok:TypOk Tryz.prog 60 TS2_60:=by constructor <;> kernel_rfl
def TS2_41:TI:=⟨1,false,[Value.slice none 0 0],[],some 106,24,5,none,false⟩
theorem TS2_41_ok:TypOk Tryz.prog 41 TS2_41:=by constructor <;> kernel_rfl
def TS2_233:TI:=⟨1,false,[Value.pointer none],[],none,8,4,none,false⟩
theorem TS2_233_ok:TypOk Tryz.prog 233 TS2_233:=by constructor <;> kernel_rfl
def TS2_59:TI:=⟨2,true,[Value.int IntKind.i64 0,Value.int IntKind.i64 0],[(0,1,false),(1,1,false)],none,16,6,none,true⟩
theorem TS2_59_ok:TypOk Tryz.prog 59 TS2_59:=by constructor <;> kernel_rfl
def TS2_84:TI:=⟨1,false,[Value.slice none 0 0],[],some 110,24,5,none,false⟩
theorem TS2_84_ok:TypOk Tryz.prog 84 TS2_84:=by constructor <;> kernel_rfl
def TS2_241:TI:=⟨1,false,[Value.pointer none],[],none,8,4,none,false⟩
theorem TS2_241_ok:TypOk Tryz.prog 241 TS2_241:=by constructor <;> kernel_rfl
def TS2_110:TI:=⟨5,true,[Value.int IntKind.i64 0,Value.slice none 0 0,Value.int IntKind.i64 0,Value.int IntKind.i64 0,Value.slice none 0 0],[(0,1,false),(1,4,true)],none,72,6,none,false⟩
theorem TS2_110_ok:TypOk Tryz.prog 110 TS2_110:=by constructor <;> kernel_rfl
def TS2_270:TI:=⟨1,false,[Value.pointer none],[],none,8,4,none,false⟩
theorem TS2_270_ok:TypOk Tryz.prog 270 TS2_270:=by constructor <;> kernel_rfl
def TS2_106:TI:=⟨2,true,[Value.slice none 0 0,Value.int IntKind.i64 0],[(0,1,false),(1,1,false)],none,32,6,none,false⟩
theorem TS2_106_ok:TypOk Tryz.prog 106 TS2_106:=by constructor <;> kernel_rfl
def TS2:List (Nat×TI):=[(62,TS2_62),(243,TS2_243),(50,TS2_50),(3,TS2_3),(60,TS2_60),(41,TS2_41),(233,TS2_233),(59,TS2_59),(84,TS2_84),(241,TS2_241),(110,TS2_110),(270,TS2_270),(106,TS2_106)]
theorem TS2_ok:TabOk Tryz.prog TS2:=((((((((((((((TabOk.nil _).cons TS2_106_ok).cons TS2_270_ok).cons TS2_110_ok).cons TS2_241_ok).cons TS2_84_ok).cons TS2_59_ok).cons TS2_233_ok).cons TS2_41_ok).cons TS2_60_ok).cons TS2_3_ok).cons TS2_50_ok).cons TS2_243_ok).cons TS2_62_ok)
def swE (l:List (Int×Tm))(s:Nm.St):List (Key×D):=[(.c 0 0,.o 1),(.c 0 1,.sl 5 (ePairs l) none),(.c 0 2,.v (.int .i64 s.e)),(.o 1,.ob (BudJ s.left s.dry))]
theorem replaced_d (l:List (Int×Tm))(t u:Tm)(s:Nm.St)(h0:0≤s.left)(h1:s.left≤1000000000)(hu:Wide u)(ha:∀ a∈t.args,Wide a) 
  (ho:u.binds.length=t.args.length→(Nm.put 100001 u t.args ⟨s.left,s.dry,0,0⟩).2.e=0→DoneOk (Nm.put 100001 u t.args ⟨s.left,s.dry,0,0⟩).1) (he:s.e=0) :
  CallC Tryz.prog 159 [.p 0 0,.ag (eTm t),.ag (eTm u)] (swE l s) (swE l (Sb.replaced t u s).2) (.ag (eTm (Sb.replaced t u s).1)):=by
 have hP:=Put_d u t.args s.left s.dry h0 h1 hu ha
 obtain⟨left,dry,count,er⟩:=s
 dsimp only at he h0 h1 ho hP
 subst he
 obtain⟨bs,k,i,a⟩:=t
 dsimp only[Tm.args] at ho hP ha
 obtain⟨p,hp⟩:∃ p,Sb.replaced (.mk bs k i a) u ⟨left,dry,count,0⟩=p:=⟨_,rfl⟩
 rw[hp]
 have hpd:=hp.symm
 clear hp
 have hp1:u.binds.length≠a.length→p=(Nm.tz,⟨left,dry,count,1⟩):=fun h=>hpd.trans (if_pos h)
 have hp2:u.binds.length=a.length→p=if (Nm.Put u a left dry).2.e≠0 then (Nm.tz,⟨(Nm.Put u a left dry).2.left,(Nm.Put u a left dry).2.dry,count,(Nm.Put u a left dry).2.e⟩) else (.mk bs (Nm.Put u a left dry).1.kind (Nm.Put u a left dry).1.index (Nm.Put u a left dry).1.args,⟨(Nm.Put u a left dry).2.left,(Nm.Put u a left dry).2.dry,count,0⟩):=fun h=>hpd.trans (if_neg (fun h'=>h' h))
 clear hpd
 obtain⟨ub,uk,ui,ua⟩:=u
 rw[eTm_eq,eTm_eq (.mk ub uk ui ua)]
 dsimp only[Tm.binds] at hp1 hp2 ho
 refine call_of_dw 2 42 [ResultVar.cell 6 62] TS2_ok (by kernel_rfl) Tryz.func159 rfl Tryz.ntmps159 rfl (by simp) ?dwords ?dbody
 case dwords=>simp[wordsOk,swE,D.ok,D.oks,rnames,inN,ckey,eTm_ok,eTms_ok,eTys_ok,ePairs_ok]
 case dbody=>
  intro cx hnt hn0
  dsimp only[Tm.binds,Tm.kind,Tm.index,Tm.args]
  refine dw_seq ?_;refine dwk [] TS2_ok hnt fun _ z9=>z9 _ _ ?_;refine dw_seq (dw_seq ?_)
  by_cases hl:ub.length=a.length
  ·have hpd:=hp2 hl
   have hP:=hP (ho hl)
   obtain⟨r,hr⟩:∃ r,Nm.Put (.mk ub uk ui ua) a left dry=r:=⟨_,rfl⟩
   rw[hr] at hP hpd
   clear hr
   obtain⟨rt,rs⟩:=r
   dsimp only at hP hpd
   rw[eTm_eq,eTm_eq rt] at hP
   refine dwk [(15,.v (.bool false))] TS2_ok hnt fun K hK=>?_;refine And.intro (VLe.of_eq (by simp[eTys_len,eTms_len,hl])) ?_;refine hK _ _ ?_;clear hK K;refine dw_cond (t:=false) rfl ?_;rw[if_neg (by simp)];refine dw_skip ?_;refine dw_seq ?_;refine dwkD [] TS2_ok hnt fun K hK=>?_;refine dcl (hP) ?_;refine hK _ _ (by kernel_rfl) ?_;clear hK K;refine dw_seq (dw_seq ?_)
   by_cases hre:rs.e=0
   ·rw[if_neg (by simp[hre])] at hpd
    subst hpd
    refine dwk [(32,.v (.bool false))] TS2_ok hnt fun K hK=>?_;refine And.intro (VLe.of_eq (by simp[hre])) ?_;refine hK _ _ ?_;clear hK K;refine dw_cond (t:=false) rfl ?_;rw[if_neg (by simp)];refine dw_skip ?_;refine dw_seq ?_;refine dwk [] TS2_ok hnt fun _ z9=>z9 _ _ ?_;refine dw_seq ?_;refine dwk [] TS2_ok hnt fun _ z9=>z9 _ _ ?_;refine dw_ret ?_
    rw[eTm_eq]
    exact retv (N:=0) (.inr rfl) rfl (by repeat first | exact VLe.refl _ | exact VLe.nil _ | exact VLe.untag _ _ _ | refine VLe.ag ?_ | refine VLe.tu ?_ | refine VLeL.cons ?_ ?_ | exact VLeL.nil) (by repeat first | exact trivial | refine And.intro rfl ?_)
   ·rw[if_pos hre] at hpd
    subst hpd
    refine dwk [(32,.v (.bool true))] TS2_ok hnt fun K hK=>?_;refine And.intro (VLe.of_eq (by simp[hre])) ?_;refine hK _ _ ?_;clear hK K;refine dw_cond (t:=true) rfl ?_;rw[if_pos rfl];refine dw_seq ?_;refine dwk [] TS2_ok hnt fun _ z9=>z9 _ _ ?_;refine dw_seq ?_;refine dwk [] TS2_ok hnt fun _ z9=>z9 _ _ ?_;refine dw_ret ?_
    rw[tz_eq]
    exact retv (N:=0) (.inr rfl) rfl (by repeat first | exact VLe.refl _ | exact VLe.nil _ | exact VLe.untag _ _ _ | refine VLe.ag ?_ | refine VLe.tu ?_ | refine VLeL.cons ?_ ?_ | exact VLeL.nil) (by repeat first | exact trivial | refine And.intro rfl ?_)
  ·have hpd:=hp1 hl
   subst hpd
   refine dwk [(15,.v (.bool true))] TS2_ok hnt fun K hK=>?_;refine And.intro (VLe.of_eq (by simp[eTys_len,eTms_len];omega)) ?_;refine hK _ _ ?_;clear hK K;refine dw_cond (t:=true) rfl ?_;rw[if_pos rfl];refine dw_seq ?_;refine dwk [] TS2_ok hnt fun _ z9=>z9 _ _ ?_;refine dw_seq ?_;refine dwk [] TS2_ok hnt fun _ z9=>z9 _ _ ?_;refine dw_ret ?_
   rw[tz_eq]
   exact retv (N:=0) (.inr rfl) rfl (by repeat first | exact VLe.refl _ | exact VLe.nil _ | exact VLe.untag _ _ _ | refine VLe.ag ?_ | refine VLe.tu ?_ | refine VLeL.cons ?_ ?_ | exact VLeL.nil) (by repeat first | exact trivial | refine And.intro rfl ?_)
def repOk (l:List (Int×Tm))(k i ins:Int)(q:List Tm×Nm.St):Prop:=k=2→q.2.e=0→∀ u,Sb.find l i=some u →
 Wide u∧Wide (Nm.lift ins u 0)∧(∀ a∈q.1,Wide a)∧((Nm.lift ins u 0).binds.length=q.1.length→(Nm.put 100001 (Nm.lift ins u 0) q.1 ⟨q.2.left,q.2.dry,0,0⟩).2.e=0→DoneOk (Nm.put 100001 (Nm.lift ins u 0) q.1 ⟨q.2.left,q.2.dry,0,0⟩).1)
mutual
def thOk (l:List (Int×Tm)):Tm→Int→Nm.St→Prop
 | .mk b k i a,ins,s=>s.e=0→(Nm.spend s).1=true→thOks l a (Nm.wr (ins+b.length)) (Nm.spend s).2∧repOk l k i (Nm.wr (ins+b.length)) (Sb.throughs l a (Nm.wr (ins+b.length)) (Nm.spend s).2)
def thOks (l:List (Int×Tm)):List Tm→Int→Nm.St→Prop
 | [],_,_=>True
 | t :: r,ins,s=>thOk l t ins s∧thOks l r ins (Sb.through l t ins s).2
end
def InR (s:Nm.St):Prop:=0≤s.left∧s.left≤1000000000
theorem spend_in {s:Nm.St}(h:InR s):InR (Nm.spend s).2:=by
 unfold InR at *
 unfold Nm.spend
 split
 ·exact⟨Int.le_refl _,by show (0:Int)≤1000000000;decide⟩
 ·rename_i hc;dsimp only;omega
theorem done_in {p:Tm×Nm.St}(h:InR p.2):InR (Nm.done p).2:=by
 unfold Nm.done
 dsimp only
 have:InR (if p.2.e=0∧¬ (p.1.size≤5000∧p.1.depth≤60) then Nm.fail p.2 2 else p.2):=by
  split
  ·unfold Nm.fail;split <;> exact h
  ·exact h
 generalize (if p.2.e=0∧¬ (p.1.size≤5000∧p.1.depth≤60) then Nm.fail p.2 2 else p.2)=s at this ⊢
 split <;> exact this
theorem Put_in {t:Tm}{xs:List Tm}{left:Int}{dry:Bool}(h:0≤left∧left≤1000000000):InR (Nm.Put t xs left dry).2:=
 done_in (putW_wk (through_wk 100001) t xs ⟨left,dry,0,0⟩ ⟨h,⟨Int.le_refl 0,(by decide:(0:Int)≤100001)⟩,fun _=>(by decide:(0:Int)≤100000)⟩).left
theorem replaced_in {t u:Tm}{s:Nm.St}(h:InR s):InR (Sb.replaced t u s).2:=by
 unfold Sb.replaced
 dsimp only
 split
 ·exact h
 ·have:=Put_in (t:=u) (xs:=t.args) (dry:=s.dry) h
  split <;> exact this
theorem seqM_in {g:Tm→Nm.St→Tm×Nm.St}:∀ (l:List Tm) (hg:∀ t∈l,∀ s,InR s→InR (g t s).2) (s:Nm.St),InR s→InR (Nm.seqM g l s).2
 | [],_,_,h=>h
 | t :: l,hg,s,h=>seqM_in l (fun u hu=>hg u (by simp[hu])) _ (hg t (by simp) s h)
theorem through_in (l:List (Int×Tm)):∀ (t:Tm) (ins:Int) (s:Nm.St),InR s→InR (Sb.through l t ins s).2:=by
 intro t
 induction t using Tm.ind with
 | h bs k i a ih=>
  intro ins s h
  rw[Sb.through]
  dsimp only
  rw[Sb.throughs_seq]
  have hq:=seqM_in (g:=fun t s=>Sb.through l t (Nm.wr (ins+bs.length)) s) a (fun t ht s hs=>ih t ht _ s hs) _ (spend_in h)
  split
  ·exact h
  ·split
   ·exact spend_in h
   ·split
    ·exact hq
    ·split
     ·exact hq
     ·exact replaced_in hq
theorem thOks_at (l:List (Int×Tm))(ins:Int):∀ (a:List Tm) (s:Nm.St),thOks l a ins s→∀ j (h:j<a.length),thOk l a[j] ins (Nm.seqM (fun t s=>Sb.through l t ins s) (a.take j) s).2
 | t :: a,s,h,0,_=>by rw[thOks] at h;exact h.1
 | t :: a,s,h,j+1,hj=>by
  rw[thOks] at h
  exact thOks_at l ins a _ h.2 j (by simpa using hj)
theorem Sb_find_idx (l:List (Int×Tm))(m:Int):Sb.find l m=((idxOf m l).bind fun i=>l[i]?).map (·.2):=by
 rw[find_idx]
 cases idxOf m l <;> rfl
def sthE (l:List (Int×Tm))(s:Nm.St)(bs:List Ty)(k i:Int)(a:List Tm)(ins:Int):List (Key×D):=
  [(.t 0,.p 0 0),(.t 2,.v (.int .i64 ins)),(.t 4,.p 2 0),(.t 6,.p 3 0),(.t 7,.p 26 0),(.c 2 0,.sl 2 (eTys bs) none),(.c 2 1,.v (.int .i64 k)),(.c 2 2,.v (.int .i64 i)),(.c 2 3,.sl 4 (eTms a) none),
   (.c 3 0,.v (.slice none 0 0)),(.c 3 1,.v (.int .i64 0)),(.c 3 2,.v (.int .i64 0)),(.c 3 3,.v (.slice none 0 0)),(.c 26 0,.sl 2 (eTys bs) none),(.c 26 1,.v (.int .i64 k)),(.c 26 2,.v (.int .i64 i)),
   (.c 0 0,.o 1),(.c 0 1,.sl 5 (ePairs l) none),(.c 0 2,.v (.int .i64 s.e)),(.o 1,.ob (BudJ s.left s.dry))]
set_option maxHeartbeats 4000000 in
theorem sthr_d (l:List (Int×Tm))(hl:l.length≤1000000):∀ (t:Tm) (_:Wide t) (ins:Int) (s:Nm.St),InR s→thOk l t ins s →
  CallC Tryz.prog 149 [.p 0 0,.ag (eTm t),.v (.int .i64 ins)] (swE l s) (swE l (Sb.through l t ins s).2) (.ag (eTm (Sb.through l t ins s).1)):=by
 intro t
 induction t using Tm.ind with
 | h bs k i a ih=>
 intro ht ins s hs hok
 obtain⟨w1,w2,w3⟩:=ht.inv
 obtain⟨p,hp⟩:∃ p,Sb.through l (.mk bs k i a) ins s=p:=⟨_,rfl⟩
 rw[Sb.through,Sb.throughs_seq] at hp
 rw[thOk,Sb.throughs_seq] at hok
 obtain⟨m,hm⟩:∃ m,Nm.wr (ins+(bs.length:Int))=m:=⟨_,rfl⟩
 rw[hm] at hp hok
 have hp':Sb.through l (.mk bs k i a) ins s=p:=by rw[←hp,Sb.through,Sb.throughs_seq,hm]
 rw[hp',eTm_eq]
 have hpd:=hp.symm
 dsimp only at hpd
 clear hp hp'
 have hsp:=spend_d 1 s hs.1 hs.2
 have hsi:=spend_in hs
 have hse:=(Nm.spend_keeps s).2
 obtain⟨g,hg⟩:∃ g:Tm→Nm.St→Tm×Nm.St,(fun t s=>Sb.through l t m s)=g:=⟨_,rfl⟩
 have hat:=thOks_at l m a (Nm.spend s).2
 rw[hg] at hpd hok hat
 obtain⟨left,dry,count,er⟩:=s
 dsimp only at hsp hsi hse hpd hok hat
 refine call_of_dw 2 86 [ResultVar.cell 6 62] TS2_ok (by kernel_rfl) Tryz.func149 rfl Tryz.ntmps149 rfl (by simp) ?dwords ?dbody
 case dwords=>simp[wordsOk,swE,D.ok,D.oks,rnames,inN,ckey,eTm_ok,eTms_ok,eTys_ok,ePairs_ok]
 case dbody=>
  intro cx hnt hn0
  dsimp only[Tm.binds,Tm.kind,Tm.index,Tm.args]
  refine dw_seq ?_;refine dwk [] TS2_ok hnt fun _ z9=>z9 _ _ ?_;refine dw_seq (dw_seq ?_)
  by_cases he:er=0
  ·subst he
   refine dwk [(15,.v (.bool false))] TS2_ok hnt fun K hK=>?_;refine And.intro (VLe.refl _) ?_;refine hK _ _ ?_;clear hK K;refine dw_cond (t:=false) rfl ?_;rw[if_neg (by simp)];refine dw_skip ?_;rw[if_neg (by simp)] at hpd;refine dw_seq (dw_seq ?_)
   obtain⟨sp,hspq⟩:∃ sp,Nm.spend ⟨left,dry,count,0⟩=sp:=⟨_,rfl⟩
   rw[hspq] at hsp hsi hse hpd hok hat
   clear hspq
   obtain⟨b,s1⟩:=sp
   dsimp only at hsp hsi hse hpd hok hat
   cases b with
   | false=>
    rw[if_pos rfl] at hpd
    subst hpd
    refine dwk [] TS2_ok hnt fun K hK=>?_;refine dcl (hsp) ?_;refine hK _ _ ?_;clear hK K;refine dw_cond (t:=true) rfl ?_;rw[if_pos rfl];refine dw_seq ?_;refine dwk [] TS2_ok hnt fun _ z9=>z9 _ _ ?_;refine dw_seq ?_;refine dwk [] TS2_ok hnt fun _ z9=>z9 _ _ ?_;refine dw_ret ?_
    rw[tz_eq]
    exact retv (N:=0) (.inr rfl) rfl (by repeat first | exact VLe.refl _ | exact VLe.nil _ | exact VLe.untag _ _ _ | refine VLe.ag ?_ | refine VLe.tu ?_ | refine VLeL.cons ?_ ?_ | exact VLeL.nil) (by repeat first | exact trivial | refine And.intro rfl ?_)
   | true=>
    rw[if_neg (by simp)] at hpd
    obtain⟨hok1,hok2⟩:=hok rfl rfl
    have hat:=hat hok1
    clear hok hok1
    refine dwk [] TS2_ok hnt fun K hK=>?_;refine dcl (hsp) ?_;refine hK _ _ ?_;clear hK K;refine dw_cond (t:=false) rfl ?_;rw[if_neg (by simp)];refine dw_skip ?_;refine dw_seq ?_;refine dwk [(31,.v (.int .i64 m))] TS2_ok hnt fun K hK=>?_;refine And.intro (VLe.of_eq (by rw[eTys_len,←wr_wrap,hm])) ?_;refine hK _ _ ?_;clear hK K
    refine dw_cut (τ:=(.c 26 3,.v (.slice none 0 0)) :: sthE l ⟨s1.left,s1.dry,s1.count,0⟩ bs k i a m) (N1:=27) ?_ ?_
    ·skip
     refine dwk [] TS2_ok hnt fun _ z9=>z9 _ _ ?_
     exact cut_ok VS.toA
    ·have hs1:(⟨s1.left,s1.dry,s1.count,0⟩:Nm.St)=s1:=by rw[←hse]
     rw[hs1]
     dsimp only[sthE]
     refine dw_seq ?_;refine dw_seq ?_;refine dwk [(39,.v (.int .i64 a.length))] TS2_ok hnt fun K hK=>?_;refine And.intro (dintE (by rw[eTms_len])) ?_;refine hK _ _ ?_;clear hK K;refine dw_block ?_
     refine dw_loop (ι:=Nat) (fun j=>(.t 38,.sl 4 (eTms a) none) :: (.t 39,.v (.int .i64 a.length)) :: (.t 40,.v (.int .i64 j)) :: (.c 26 3,.sl 4 (eTms (Nm.seqM g (a.take j) s1).1) (some 31)) :: (.r 31,.rw 62 4 j) :: sthE l (Nm.seqM g (a.take j) s1).2 bs k i a m) 32 (fun j=>a.length-j) 0 (VS.trans (VS.row (k:=26) (off:=3) 62 4 rfl) VS.toA) fun j=>?_
     dsimp only[sthE]
     have hst:InR (Nm.seqM g (a.take j) s1).2:=seqM_in _ (fun t _ s h=>by rw[←hg];exact through_in l t m s h) _ hsi
     have hll:(Nm.seqM g (a.take j) s1).1.length=(a.take j).length:=Nm.seqM_length ..
     refine dw_seq ?_
     by_cases hlt:j<a.length
     ·have hcon:=ih a[j] (List.getElem_mem hlt) (w3 _ (List.getElem_mem hlt)) m (Nm.seqM g (a.take j) s1).2 hst (hat j hlt)
      have hg2:Sb.through l a[j] m (Nm.seqM g (a.take j) s1).2=g a[j] (Nm.seqM g (a.take j) s1).2:=by rw[←hg]
      rw[hg2] at hcon
      have hsq:=Nm.seqM_take g a j hlt s1
      rw[eTm_eq,eTm_eq] at hcon
      refine dwk [(41,.v (.bool true))] TS2_ok hnt fun K hK=>?_;refine And.intro (dtrue (by omega)) ?_;refine hK _ _ ?_;clear hK K;refine dw_seq (dw_cond (t:=true) rfl ?_);rw[if_pos rfl];refine dw_skip (dw_seq (dw_block (dw_seq ?_)));refine dwk [(42,.q [.sl 2 (eTys a[j].binds) none,.v (.int .i64 a[j].kind),.v (.int .i64 a[j].index),.sl 4 (eTms a[j].args) none])] TS2_ok hnt fun K hK=>?_
      refine And.intro (⟨by omega,by rw[eTms_len];omega⟩) ?_;refine And.intro (VLe.of_eq (by rw[Int.toNat_natCast,eTms_getD a j hlt,eTm_eq])) ?_;refine hK _ _ ?_;clear hK K;refine dwkD [(51,.sl 4 (eTms (Nm.seqM g (a.take (j+1)) s1).1) (some 31))] TS2_ok hnt fun K hK=>?_;refine dcl (hcon) ?_;refine And.intro (⟨by rw[eTms_len,hll,List.length_take];omega,by rw[eTms_len,hll,List.length_take];simp;omega⟩) ?_
      refine And.intro (VLe.of_eq (by rw[hsq,eTms_append,eTms,eTms,eTm_eq (g a[j] _).1])) ?_;refine hK _ _ (by kernel_rfl) ?_;clear hK K;refine dwk [(53,.v (.int .i64 ((j+1:Nat):Int)))] TS2_ok hnt fun K hK=>?_;refine And.intro (dintE (by rw[IntWalk.i64_in _ (by omega)];omega)) ?_;refine hK _ _ ?_;clear hK K
      refine⟨j+1,by omega,?_⟩
      have hl2:(eTms (Nm.seqM g (a.take j) s1).1).length=j:=by rw[eTms_len,hll,List.length_take];omega
      rw[hsq]
      exact(by try simp only[List.length_append,List.length_take,List.length_cons,List.length_nil,Nat.zero_add,hl2];exact VS.toA)
     ·rw[List.take_of_length_le (by omega)] at hst hll ⊢
      obtain⟨q,hq⟩:∃ q,Nm.seqM g a s1=q:=⟨_,rfl⟩
      rw[hq] at hst hll hpd hok2 ⊢
      clear hq
      obtain⟨as',s2⟩:=q
      dsimp only at hst hll hpd hok2 ⊢
      have hen:=eTms_len as'
      obtain⟨left,dry,count,er⟩:=s2
      dsimp only at hst hpd hok2 ⊢
      refine dwk [(41,.v (.bool false))] TS2_ok hnt fun K hK=>?_;refine And.intro (dfalse (by omega)) ?_;refine hK _ _ ?_;clear hK K;refine dw_seq (dw_cond (t:=false) rfl ?_);rw[if_neg (by simp)];refine dw_exit ?_;refine dw_seq ?_;refine dw_seq ?_
      by_cases hk:k≠2
      ·rw[if_pos (.inl hk)] at hpd
       subst hpd
       refine dwk [(57,.v (.bool true))] TS2_ok hnt fun K hK=>?_;refine And.intro (VLe.of_eq (by simp[hk])) ?_;refine hK _ _ ?_;clear hK K;refine dw_cond (t:=true) rfl ?_;rw[if_pos rfl];refine dw_seq ?_;refine dwk [] TS2_ok hnt fun _ z9=>z9 _ _ ?_;refine dw_ret ?_
       rw[eTm_eq]
       exact retv (N:=0) (.inr rfl) rfl (by repeat first | exact VLe.refl _ | exact VLe.nil _ | exact VLe.untag _ _ _ | refine VLe.ag ?_ | refine VLe.tu ?_ | refine VLeL.cons ?_ ?_ | exact VLeL.nil) (by repeat first | exact trivial | refine And.intro rfl ?_)
      ·have hk:k=2:=by simpa using hk
       by_cases her:er≠0
       ·rw[if_pos (.inr her)] at hpd
        subst hpd
        refine dwk [(57,.v (.bool false)),(63,.v (.bool true))] TS2_ok hnt fun K hK=>?_;refine And.intro (VLe.of_eq (by simp[hk])) ?_;refine And.intro (VLe.of_eq (by simp[her])) ?_;refine hK _ _ ?_;clear hK K;refine dw_cond (t:=true) rfl ?_;rw[if_pos rfl];refine dw_seq ?_;refine dwk [] TS2_ok hnt fun _ z9=>z9 _ _ ?_;refine dw_ret ?_
        rw[eTm_eq]
        exact retv (N:=0) (.inr rfl) rfl (by repeat first | exact VLe.refl _ | exact VLe.nil _ | exact VLe.untag _ _ _ | refine VLe.ag ?_ | refine VLe.tu ?_ | refine VLeL.cons ?_ ?_ | exact VLeL.nil) (by repeat first | exact trivial | refine And.intro rfl ?_)
       ·have her:er=0:=by simpa using her
        rw[if_neg (fun h=>h.elim (fun h=>h hk) fun h=>h her)] at hpd
        subst her
        have hok2:=hok2 hk rfl
        have hfind:=sfind_d l hl i
        rw[Sb_find_idx] at hpd hok2
        refine dwk [(57,.v (.bool false)),(63,.v (.bool false))] TS2_ok hnt fun K hK=>?_;refine And.intro (VLe.of_eq (by simp[hk])) ?_;refine And.intro (VLe.refl _) ?_;refine hK _ _ ?_;clear hK K;refine dw_cond (t:=false) rfl ?_;rw[if_neg (by simp)];refine dw_skip ?_;refine dw_seq ?_
        cases hx:(idxOf i l).bind fun i=>l[i]? with
        | none=>
         rw[hx] at hfind hpd
         dsimp only at hfind
         simp only[Option.map_none] at hpd
         subst hpd
         refine dwkD [] TS2_ok hnt fun K hK=>?_;refine dcl (hfind) ?_;refine hK _ _ (by kernel_rfl) ?_;clear hK K;refine dw_seq (dw_seq ?_);refine dwk [] TS2_ok hnt fun _ z9=>z9 _ _ ?_;refine dw_cond (t:=true) rfl ?_;rw[if_pos rfl];refine dw_seq ?_;refine dwk [] TS2_ok hnt fun _ z9=>z9 _ _ ?_;refine dw_ret ?_
         rw[eTm_eq]
         exact retv (N:=0) (.inr rfl) rfl (by repeat first | exact VLe.refl _ | exact VLe.nil _ | exact VLe.untag _ _ _ | refine VLe.ag ?_ | refine VLe.tu ?_ | refine VLeL.cons ?_ ?_ | exact VLeL.nil) (by repeat first | exact trivial | refine And.intro rfl ?_)
        | some pr=>
         rw[hx] at hfind hpd hok2
         simp only[Option.map_some] at hpd hok2
         obtain⟨o1,o2,o3,o4⟩:=hok2 pr.2 rfl
         have hgr:=grown_d pr.2 o1 m 0
         obtain⟨v,hv⟩:∃ v,Nm.lift m pr.2 0=v:=⟨_,rfl⟩
         rw[hv] at hpd hgr o2 o4
         have hrep:=replaced_d l (.mk bs k i as') v ⟨left,dry,count,0⟩ hst.1 hst.2 o2 o3 o4 rfl
         rw[←hpd] at hrep
         dsimp only at hfind
         rw[ePair_eq] at hfind
         rw[eTm_eq,eTm_eq] at hgr
         rw[eTm_eq,eTm_eq,eTm_eq] at hrep
         refine dwkD [] TS2_ok hnt fun K hK=>?_;refine dcl (hfind) ?_;refine hK _ _ (by kernel_rfl) ?_;clear hK K;refine dw_seq (dw_seq ?_);refine dwk [] TS2_ok hnt fun _ z9=>z9 _ _ ?_;refine dw_cond (t:=false) rfl ?_;rw[if_neg (by simp)];refine dw_skip ?_;refine dw_seq ?_;refine dwkD [(78,.ag [.sl 2 (eTys bs) none,.v (.int .i64 k),.v (.int .i64 i),.sl 4 (eTms as') none])] TS2_ok hnt fun K hK=>?_
         refine And.intro (auV) ?_;refine dcl (hgr) ?_;refine dcl (hrep) ?_;refine hK _ _ (by kernel_rfl) ?_;clear hK K;refine dw_ret ?_
         rw[eTm_eq]
         exact retv (N:=0) (.inr rfl) rfl (by repeat first | exact VLe.refl _ | exact VLe.nil _ | exact VLe.untag _ _ _ | refine VLe.ag ?_ | refine VLe.tu ?_ | refine VLeL.cons ?_ ?_ | exact VLeL.nil) (by repeat first | exact trivial | refine And.intro rfl ?_)
  ·rw[if_pos he] at hpd
   subst hpd
   refine dwk [(15,.v (.bool true))] TS2_ok hnt fun K hK=>?_;refine And.intro (VLe.of_eq (by simp[he])) ?_;refine hK _ _ ?_;clear hK K;refine dw_cond (t:=true) rfl ?_;rw[if_pos rfl];refine dw_seq ?_;refine dwk [] TS2_ok hnt fun _ z9=>z9 _ _ ?_;refine dw_ret ?_
   rw[tz_eq]
   exact retv (N:=0) (.inr rfl) rfl (by repeat first | exact VLe.refl _ | exact VLe.nil _ | exact VLe.untag _ _ _ | refine VLe.ag ?_ | refine VLe.tu ?_ | refine VLeL.cons ?_ ?_ | exact VLeL.nil) (by repeat first | exact trivial | refine And.intro rfl ?_)
inductive Bnd (B:Nat):Tm→Prop where
 | mk (b:List Ty) (k i:Int) (a:List Tm):Ty.sizes b≤B→-9223372036854775808≤i∧i≤9223372036854775807→(∀ u∈a,Bnd B u)→Bnd B (.mk b k i a)
namespace Bnd
variable {B:Nat}
theorem inv {b:List Ty}{k i:Int}{a:List Tm}(h:Bnd B (.mk b k i a)):Ty.sizes b≤B∧(-9223372036854775808≤i∧i≤9223372036854775807)∧∀ u∈a,Bnd B u:=by
 cases h with
 | mk _ _ _ _ h1 h2 h3=>exact⟨h1,h2,h3⟩
theorem parts {t:Tm}(h:Bnd B t):Ty.sizes t.binds≤B∧(-9223372036854775808≤t.index∧t.index≤9223372036854775807)∧∀ u∈t.args,Bnd B u:=by
 obtain⟨b,k,i,a⟩:=t;exact h.inv
theorem fit (t:Tm):Bnd B t→t.Fit:=by
 induction t using Tm.ind with
 | h b k i a ih=>
  intro h
  obtain⟨_,h2,h3⟩:=h.inv
  exact Tm.fit_iff.2 ⟨h2.1,h2.2,fun u hu=>ih u hu (h3 u hu)⟩
theorem fulls_of {l:List Tm}(h:∀ t∈l,t.full≤t.size * (B+1)):Tm.fulls l≤Tm.sizes l * (B+1):=by
 induction l with
 | nil=>simp[Tm.fulls,Tm.sizes]
 | cons t l ih=>
  have h1:=h t (by simp)
  have h2:=ih fun u hu=>h u (by simp[hu])
  simp only[Tm.fulls,Tm.sizes]
  rw[Nat.add_mul];omega
theorem full (t:Tm):Bnd B t→t.full≤t.size * (B+1):=by
 induction t using Tm.ind with
 | h b k i a ih=>
  intro h
  obtain⟨h1,_,h3⟩:=h.inv
  have:=fulls_of fun u hu=>ih u hu (h3 u hu)
  rw[Tm.full_eq,Tm.size_eq,Nat.add_mul];omega
theorem of_full (t:Tm):t.full≤B→t.Fit→Bnd B t:=by
 induction t using Tm.ind with
 | h b k i a ih=>
  intro h hf
  rw[Tm.full_eq] at h
  obtain⟨f1,f2,f3⟩:=Tm.fit_iff.1 hf
  exact .mk _ _ _ _ (by omega) ⟨f1,f2⟩ fun u hu=>ih u hu (by have:=Tm.full_mem hu;omega) (f3 u hu)
theorem wr_in (x:Int):-9223372036854775808≤Nm.wr x∧Nm.wr x≤9223372036854775807:=wf_i64 (wrap64_wf x)
theorem lift (t:Tm)(y ins:Int):Bnd B t→Bnd B (Nm.lift y t ins):=by
 induction t using Tm.ind generalizing ins with
 | h b k i a ih=>
  intro h
  obtain⟨h1,h2,h3⟩:=h.inv
  rw[Nm.lift_eq,Nm.lifts_map]
  refine .mk _ _ _ _ h1 (by split;exact wr_in _;exact h2) fun u hu=>?_
  obtain⟨v,hv,rfl⟩:=List.mem_map.1 hu
  exact ih v hv _ (h3 v hv)
theorem grown {t:Tm}(h:Bnd B t)(y:Int):Bnd B (Nm.grown t y):=by
 unfold Nm.grown;split
 ·exact h
 ·exact lift t y 0 h
theorem tz:Bnd B Nm.tz:=.mk _ _ _ _ (by simp[Ty.sizes]) (by decide) fun u h=>by cases h
theorem body {t:Tm}(h:Bnd B t):Bnd B (.mk [] t.kind t.index t.args):=.mk _ _ _ _ (by simp[Ty.sizes]) h.parts.2.1 h.parts.2.2
theorem drop_sizes (l:List Ty)(n:Nat):Ty.sizes (l.drop n)≤Ty.sizes l:=by
 have:=Ty.sizes_append (l.take n) (l.drop n)
 rw[List.take_append_drop] at this;omega
theorem getD {xs:List Tm}(h:∀ x∈xs,Bnd B x)(j:Nat):Bnd B (xs.getD j Nm.tz):=by
 rw[List.getD_eq_getElem?_getD]
 by_cases hj:j<xs.length
 ·rw[List.getElem?_eq_getElem hj];exact h _ (List.getElem_mem hj)
 ·rw[List.getElem?_eq_none (by omega)];exact tz
theorem wide (t:Tm):Bnd B t→t.size≤100000→B≤100000→Wide t:=by
 induction t using Tm.ind with
 | h b k i a ih=>
  intro h hs hB
  obtain⟨h1,_,h3⟩:=h.inv
  rw[Tm.size_eq] at hs
  refine .mk _ _ _ _ (by have:=Ty.le_sizes b;omega) (by have:=Tm.len_sizes a;omega) fun u hu=>ih u hu (h3 u hu) (by have:=Tm.size_mem hu;omega) hB
end Bnd
namespace Nm
theorem unit_left {s:St}(h:(unit s).1=true):(unit s).2.left=s.left-1:=by
 unfold unit at h ⊢
 split
 ·rename_i he;rw[if_pos he] at h;cases h
 ·rename_i he
  rw[if_neg he] at h
  split
  ·rename_i hc;rw[if_pos hc] at h;cases h
  ·rename_i hc
   rw[if_neg hc] at h
   have hsp:∀ p,spend s=p→p.1=true→p.2.left=s.left-1:=fun p hp h1=>by
    unfold spend at hp
    split at hp
    ·subst hp;cases h1
    ·subst hp;rfl
   generalize hp:spend s=p at h ⊢
   obtain⟨ok,s'⟩:=p
   cases ok
   ·cases h
   ·exact hsp (true,s') hp rfl
def Gr (B f:Nat)(t:Tm)(s:St)(p:Tm×St):Prop:=p.2.e=0→s.e=0∧(p.1.size:Int)+p.2.left≤s.left∧Bnd B p.1
def Fu (f:Nat)(s:St):Prop:=s.e=0→100001-s.count≤f
theorem seqM_grow {B f:Nat}{g:Tm→St→Tm×St}:∀ (l:List Tm) (hg:∀ t∈l,∀ s,WkOk s→Fu f s→Gr B f t s (g t s)) (hw:∀ t s,WkOk s→WkOk (g t s).2) (hc:∀ t s,s.count≤(g t s).2.count) (s:St),WkOk s→Fu f s →
  (seqM g l s).2.e=0→s.e=0∧(Tm.sizes (seqM g l s).1:Int)+(seqM g l s).2.left≤s.left∧∀ u∈(seqM g l s).1,Bnd B u
 | [],_,_,_,s,_,_,h=>⟨h,by simp[seqM,Tm.sizes],fun u hu=>by cases hu⟩
 | t :: l,hg,hw,hc,s,hs,hf,h=>by
  have h1:=hg t (by simp) s hs hf
  have h2:=seqM_grow l (fun u hu=>hg u (by simp[hu])) hw hc (g t s).2 (hw t s hs) (fun e=>by
   have:=hf (h1 e).1
   have:=hc t s
   omega) h
  have h3:=h1 h2.1
  refine⟨h3.1,?_,fun u hu=>?_⟩
  ·simp only[seqM,Tm.sizes]
   have:=h2.2.1
   have:=h3.2.1
   omega
  ·rcases List.mem_cons.1 hu with rfl | hu
   ·exact h3.2.2
   ·exact h2.2.2 u hu
theorem fail_ne (s:St):(fail s 1).e≠0:=by
 unfold fail;split
 ·show (1:Int)≠0;decide
 ·assumption
def GrThr (B f:Nat)(thr:Thr):Prop:=∀ xs n t ins s,WkOk s→Fu f s→(∀ x∈xs,Bnd B x)→Bnd B t→Gr B f t s (thr xs n t ins s)
theorem putW_grow {B f:Nat}{thr:Thr}(h:GrThr B f thr){t:Tm}{xs:List Tm}{s:St}(hs:WkOk s)(hf:Fu f s)(ht:Bnd B t)(hx:∀ x∈xs,Bnd B x):Gr B f t s (putW thr t xs s):=by
 unfold putW
 split
 ·intro e;exact absurd e (fail_ne s)
 ·intro e
  have h1:=h xs t.binds.length (.mk [] t.kind t.index t.args) 0 s hs hf hx ht.body e
  refine⟨h1.1,?_,?_⟩
  ·have hsz:(Tm.mk (t.binds.drop xs.length) (thr xs t.binds.length (.mk [] t.kind t.index t.args) 0 s).1.kind (thr xs t.binds.length (.mk [] t.kind t.index t.args) 0 s).1.index (thr xs t.binds.length (.mk [] t.kind t.index t.args) 0 s).1.args).size=(thr xs t.binds.length (.mk [] t.kind t.index t.args) 0 s).1.size:=by
    generalize (thr xs t.binds.length (.mk [] t.kind t.index t.args) 0 s).1=r
    obtain⟨b,k,i,a⟩:=r
    rw[Tm.size_eq,Tm.size_eq];rfl
   dsimp only
   rw[hsz];exact h1.2.1
  ·have hr:=h1.2.2.parts
   exact .mk _ _ _ _ (Nat.le_trans (Bnd.drop_sizes _ _) ht.parts.1) hr.2.1 hr.2.2
theorem hit_grow {B f:Nat}{thr:Thr}(h:GrThr B f thr){xs:List Tm}{n:Nat}{t:Tm}{ins:Int}{args:List Tm}{s:St}(hs:WkOk s)(hf:Fu f s)(ht:Bnd B t)(hx:∀ x∈xs,Bnd B x)(ha:∀ a∈args,Bnd B a):
  (hit thr xs n t ins args s).2.e=0→s.e=0∧((hit thr xs n t ins args s).1.size:Int)+(hit thr xs n t ins args s).2.left≤s.left+Tm.sizes args+1∧Bnd B (hit thr xs n t ins args s).1:=by
 obtain⟨t1,t2,t3⟩:=ht.parts
 unfold hit
 split
 ·intro e;exact⟨e,by dsimp only;rw[Tm.size_eq];omega,.mk _ _ _ _ t1 t2 ha⟩
 ·dsimp only
  split
  ·intro e;exact⟨e,by dsimp only;rw[Tm.size_eq];omega,.mk _ _ _ _ t1 t2 ha⟩
  ·split
   ·intro e;exact⟨e,by dsimp only;rw[Tm.size_eq];omega,.mk _ _ _ _ t1 (Bnd.wr_in _) ha⟩
   ·split
    ·intro e;exact absurd e (fail_ne s)
    ·intro e
     have hu:Bnd B (grown (xs.getD ((n:Int)-1-wr (t.index-ins)).toNat tz) (wr (wr (ins+n)-xs.length))):=(Bnd.getD hx _).grown _
     have h1:=putW_grow h hs hf hu ha e
     refine⟨h1.1,?_,?_⟩
     ·have h2:=h1.2.1
      generalize (putW thr (grown (xs.getD ((n:Int)-1-wr (t.index-ins)).toNat tz) (wr (wr (ins+n)-xs.length))) args s)=r at h2 ⊢
      obtain⟨⟨b,k,i,a⟩,s'⟩:=r
      dsimp only at h2 ⊢
      rw[Tm.size_eq] at h2 ⊢
      show ((Tm.sizes a+1:Nat):Int)+s'.left≤_
      omega
     ·have h2:=h1.2.2.parts
      exact .mk _ _ _ _ t1 h2.2.1 h2.2.2
theorem through_grow (B:Nat):∀ f,GrThr B f (through f)
 | 0=>fun xs n t ins s hs hf _ _ e=>by
  have e':s.e=0:=e
  have h1:=hf e'
  have h2:=hs.e0 e'
  omega
 | f+1=>fun xs n t ins s hs hf hx ht=>by
  have ih:=through_grow B f
  intro e
  unfold through at e ⊢
  dsimp only at e ⊢
  by_cases hu:(unit s).1=true
  ·rw[if_pos hu] at e ⊢
   obtain⟨u1,u2,u3⟩:=(unit_count s).2 hu
   have ul:=unit_left hu
   have hw:=unit_wk hs
   have hf1:Fu f (unit s).2:=fun _=>by have:=hf u2;omega
   have hq:=seqM_grow (B:=B) (f:=f) (g:=fun a s=>through f xs n a (wr (ins+t.binds.length)) s) t.args (fun u hu s hs hf=>ih xs n u _ s hs hf hx (ht.parts.2.2 u hu)) (fun u s h=>through_wk f _ _ _ _ _ h) (fun u s=>through_count f _ _ _ _ _) (unit s).2 hw hf1
   have hqw:=seqM_wk (g:=fun a s=>through f xs n a (wr (ins+t.binds.length)) s) (fun u s h=>through_wk f _ _ _ _ _ h) t.args _ hw
   have hqc:=seqM_count (g:=fun a s=>through f xs n a (wr (ins+t.binds.length)) s) (fun u s=>through_count f _ _ _ _ _) t.args (unit s).2
   generalize seqM (fun a s=>through f xs n a (wr (ins+t.binds.length)) s) t.args (unit s).2=q at e hq hqw hqc ⊢
   by_cases hqe:q.2.e=0
   ·have hq:=hq hqe
    have h1:=hit_grow ih (xs:=xs) (n:=n) (t:=t) (ins:=wr (ins+t.binds.length)) (args:=q.1) (s:=q.2) hqw (fun _=>by have:=hf1 u3;omega) ht hx hq.2.2 e
    exact⟨u2,by have:=h1.2.1;have:=hq.2.1;omega,h1.2.2⟩
   ·exfalso
    have hx2:∀ p,hit (through f) xs n t (wr (ins+t.binds.length)) q.1 q.2=p→p.2.e=0→q.2.e=0:=fun p hp hpe=>by
     unfold hit at hp
     split at hp
     ·subst hp;exact hpe
     ·dsimp only at hp
      split at hp
      ·subst hp;exact hpe
      ·split at hp
       ·subst hp;exact hpe
       ·split at hp
        ·subst hp;exact absurd hpe (fail_ne _)
        ·subst hp
         unfold putW at hpe
         rw[if_pos (.inl hqe)] at hpe
         exact absurd hpe (fail_ne _)
    exact hqe (hx2 _ rfl e)
  ·rw[if_neg hu] at e
   exfalso
   have:(unit s).1=false:=by simpa using hu
   have h2:∀ p,unit s=p→p.1=false→p.2.e≠0:=fun p hp h1=>by
    unfold unit at hp
    split at hp
    ·subst hp;assumption
    ·split at hp
     ·subst hp;show (2:Int)≠0;decide
     ·generalize spend s=r at hp
      obtain⟨ok,s'⟩:=r
      cases ok
      ·subst hp;show (11:Int)≠0;decide
      ·subst hp;cases h1
   exact h2 _ rfl this e
end Nm
theorem dw_freezeC {P:Program}{cx:Cx}{σ:List (Key×D)}{N:Nat}{Q:Exit→List (Key×D)→Nat→Prop}{c:Code}{k off g E n len:Nat}{l:List (List D)}(hx:get σ (.c k off)=some (.ps g len))(hg:get σ (.r g)=some (.rp E n l))(hl:l.length=len) 
  (h:DW P cx c (put1 (.c k off) (.sl n l (some g)) (put1 (.r g) (.rw E n l.length) σ)) N Q):DW P cx c σ N Q:=fun m Im w a hs=>by
 obtain⟨Im',hi,h2,h3⟩:=hs.freeze hg
 subst hl
 obtain⟨b,v,q1,q2,q3⟩:=hs.ce k off _ hx
 have hr:=h3 _ q3
 refine h m Im' w a { h2 with tm:=fun y d hy=>?_,ce:=fun k' off' d hy=>?_,ro:=fun k' d hy=>?_,jk:=fun d hy=>?_,ok:=fun k' d hy=>?_ }
 ·rw[get_put1,if_neg (by simp[Key.eq])] at hy;exact h2.tm y d hy
 ·rw[get_put1] at hy
  by_cases e:Key.eq (.c k off) (.c k' off')=true
  ·rw[if_pos e] at hy
   have:=Key.eq_iff.1 e;cases this
   cases hy;exact⟨b,v,q1,q2,hr⟩
  ·rw[if_neg e] at hy
   exact h2.ce k' off' d hy
 ·rw[get_put1,if_neg (by simp[Key.eq])] at hy;exact h2.ro k' d hy
 ·rw[get_put1,if_neg (by simp[Key.eq])] at hy;exact h2.jk d hy
 ·rw[get_put1,if_neg (by simp[Key.eq])] at hy;exact h2.ok k' d hy
def TAUC_62:TI:=⟨4,true,[Value.slice none 0 0,Value.int IntKind.i64 0,Value.int IntKind.i64 0,Value.slice none 0 0],[(0,1,false),(1,2,true),(3,1,false)],none,64,6,none,false⟩
theorem TAUC_62_ok:TypOk Tryz.prog 62 TAUC_62:=by constructor <;> kernel_rfl
def TAUC_60:TI:=⟨1,false,[Value.slice none 0 0],[],some 62,24,5,none,false⟩
theorem TAUC_60_ok:TypOk Tryz.prog 60 TAUC_60:=by constructor <;> kernel_rfl
def TAUC_71:TI:=⟨1,false,[Value.slice none 0 0],[],some 3,24,5,none,false⟩
theorem TAUC_71_ok:TypOk Tryz.prog 71 TAUC_71:=by constructor <;> kernel_rfl
def TAUC_3:TI:=⟨1,false,[Value.int IntKind.i64 0],[],none,8,2,none,false⟩
theorem TAUC_3_ok:TypOk Tryz.prog 3 TAUC_3:=by constructor <;> kernel_rfl
def TAUC_41:TI:=⟨1,false,[Value.slice none 0 0],[],some 106,24,5,none,false⟩
theorem TAUC_41_ok:TypOk Tryz.prog 41 TAUC_41:=by constructor <;> kernel_rfl
def TAUC_50:TI:=⟨1,false,[Value.int IntKind.i64 0],[],none,8,2,none,false⟩
theorem TAUC_50_ok:TypOk Tryz.prog 50 TAUC_50:=by constructor <;> kernel_rfl
def TAUC_59:TI:=⟨2,true,[Value.int IntKind.i64 0,Value.int IntKind.i64 0],[(0,1,false),(1,1,false)],none,16,6,none,true⟩
theorem TAUC_59_ok:TypOk Tryz.prog 59 TAUC_59:=by constructor <;> kernel_rfl
def TAUC_106:TI:=⟨2,true,[Value.slice none 0 0,Value.int IntKind.i64 0],[(0,1,false),(1,1,false)],none,32,6,none,false⟩
theorem TAUC_106_ok:TypOk Tryz.prog 106 TAUC_106:=by constructor <;> kernel_rfl
def TAUC:List (Nat×TI):=[(62,TAUC_62),(60,TAUC_60),(71,TAUC_71),(3,TAUC_3),(41,TAUC_41),(50,TAUC_50),(59,TAUC_59),(106,TAUC_106)]
theorem TAUC_ok:TabOk Tryz.prog TAUC:=(((((((((TabOk.nil _).cons TAUC_106_ok).cons TAUC_59_ok).cons TAUC_50_ok).cons TAUC_41_ok).cons TAUC_3_ok).cons TAUC_71_ok).cons TAUC_60_ok).cons TAUC_62_ok)
theorem cloneM_nil (a:Option Addr)(c nm:Nat):CallN Tryz.prog 151 [.v (.slice a 0 c)] [] nm [(.r nm,.rp 62 4 [])] (.ps nm 0):=by
 refine callPriv_of_dw 8 [ResultVar.tmp 2] TAUC_ok (by kernel_rfl) Tryz.func151 rfl Tryz.ntmps151 rfl (by simp) (by simp[D.ok]) (by simp[D.okss]) ?dbody nm
 case dbody=>
  intro cx hnt hn0
  refine dw_seq ?_;refine dwk [] TAUC_ok hnt fun _ z9=>z9 _ _ ?_
  cases a with
  | none=>
   refine dw_seq ?_;refine dw_seq ?_;refine dwk [(4,.v (.bool true))] TAUC_ok hnt fun K hK=>?_;refine And.intro (VLe.refl _) ?_;refine hK _ _ ?_;clear hK K;refine dw_cond (t:=true) rfl ?_;rw[if_pos rfl];refine dw_seq ?_;refine dwk [] TAUC_ok hnt fun _ z9=>z9 _ _ ?_
   refine DW.vs (VS.rowPT (x:=2) (by rw[hnt];decide) 62 4 rfl) ?_
   refine dw_ret ?_
   exact⟨.inr rfl,_,rfl,rfl⟩
  | some a=>
   refine dw_seq ?_;refine dw_seq ?_;refine dwk [(4,.v (.bool false))] TAUC_ok hnt fun K hK=>?_;refine And.intro (VLe.refl _) ?_;refine hK _ _ ?_;clear hK K;refine dw_cond (t:=false) rfl ?_;rw[if_neg (by simp)];refine dw_skip ?_;refine dw_seq ?_;refine dwk [(5,.ps 3 0)] TAUC_ok hnt fun K hK=>?_;refine And.intro (VLe.ps0 _ _) ?_;refine And.intro (by decide) ?_;refine hK _ _ ?_;clear hK K
   refine dw_ret ?_
   exact⟨.inr rfl,_,rfl,rfl⟩
theorem cloneM_cons (x:Tm)(l:List Tm)(hl:l.length≤900000)(nm:Nat):CallN Tryz.prog 151 [.sl 4 (eTms (x :: l)) none] [] nm [(.r nm,.rp 62 4 (eTms (x :: l)))] (.ps nm (x :: l).length):=by
 refine callPriv_of_dw 8 [ResultVar.tmp 2] TAUC_ok (by kernel_rfl) Tryz.func151 rfl Tryz.ntmps151 rfl (by simp) (by simp[D.ok,eTms_ok]) (by simp[D.okss,eTms_ok]) ?dbody nm
 case dbody=>
  intro cx hnt hn0
  refine dw_seq ?_;refine dwk [] TAUC_ok hnt fun _ z9=>z9 _ _ ?_;refine dw_seq ?_;refine dw_seq ?_;refine dwk [(4,.v (.bool false))] TAUC_ok hnt fun K hK=>?_;refine And.intro (VLe.refl _) ?_;refine hK _ _ ?_;clear hK K;refine dw_cond (t:=false) rfl ?_;rw[if_neg (by simp)];refine dw_skip ?_;refine dw_seq ?_;refine dwk [(5,.ps 3 0)] TAUC_ok hnt fun K hK=>?_
  refine And.intro (VLe.ps0 _ _) ?_;refine And.intro (by rw[eTms_len];simp;omega) ?_;refine hK _ _ ?_;clear hK K;refine dw_ret ?_
  exact⟨.inr rfl,3,by rw[show (x :: l).length=(eTms (x :: l)).length by rw[eTms_len]];rfl,rfl⟩
theorem cloneM_d (l:List Tm)(hl:l.length≤900000)(nm:Nat):CallN Tryz.prog 151 [.sl 4 (eTms l) none] [] nm [(.r nm,.rp 62 4 (eTms l))] (.ps nm l.length):=by
 cases l with
 | cons x l=>exact cloneM_cons x l (by simp at hl;omega) nm
 | nil=>
  refine⟨by kernel_rfl,fun cx Fr m Im w a σ vs hnm hs hv hR=>?_⟩
  match vs,hv with
  | [v],hv=>
   obtain⟨a0,c,bl,off,X,rfl,_⟩:=rel_sl hv.1
   exact(cloneM_nil a0 c nm).2 cx Fr m Im w a σ _ hnm hs ⟨.v _,trivial⟩ hR
theorem eTm_zr:eTm Tm.zero=[.sl 2 [] none,.v (.int .i64 0),.v (.int .i64 0),.sl 4 [] none]:=rfl
theorem eIs_tail (j:Int)(p:List Int):D.sl 1 (List.drop ((some (1:Int)).getD 0).toNat (List.take ((none:Option Int).getD ((eIs (j :: p)).length:Nat)).toNat (eIs (j :: p)))) none=D.sl 1 (eIs p) none:=by
 have h:List.take ((none:Option Int).getD ((eIs (j :: p)).length:Nat)).toNat (eIs (j :: p))=eIs (j :: p):=List.take_of_length_le (Nat.le_refl _)
 rw[h];rfl
theorem eTms_set (l:List Tm)(n:Nat)(x:Tm)(h:n<l.length):(eTms l).set n [.sl 2 (eTys x.binds) none,.v (.int .i64 x.kind),.v (.int .i64 x.index),.sl 4 (eTms x.args) none]=eTms (l.set n x):=by
 rw[←eTm_eq,eTms_map,eTms_map,List.map_set]
theorem eTms_put (l:List Tm)(n:Nat)(x:Tm)(h:n<l.length):(eTms l).set n (rowPut ((eTms l).getD n []) 0 4 [.sl 2 (eTys x.binds) none,.v (.int .i64 x.kind),.v (.int .i64 x.index),.sl 4 (eTms x.args) none])=eTms (l.set n x):=by
 rw[eTms_getD l n h,eTm_eq,show rowPut [.sl 2 (eTys (l[n]).binds) none,.v (.int .i64 (l[n]).kind),.v (.int .i64 (l[n]).index),.sl 4 (eTms (l[n]).args) none] 0 4 [.sl 2 (eTys x.binds) none,.v (.int .i64 x.kind),.v (.int .i64 x.index),.sl 4 (eTms x.args) none]=[.sl 2 (eTys x.binds) none,.v (.int .i64 x.kind),.v (.int .i64 x.index),.sl 4 (eTms x.args) none] from rfl]
 exact eTms_set l n x h
theorem set_sizes:∀ (l:List Tm) (n:Nat) (x:Tm) (h:n<l.length),Tm.sizes (l.set n x)+l[n].size=Tm.sizes l+x.size∧Tm.fulls (l.set n x)+l[n].full=Tm.fulls l+x.full
 | [],n,x,h=>by simp at h
 | t :: l,0,x,h=>by
  show Tm.sizes (x :: l)+t.size=_∧Tm.fulls (x :: l)+t.full=_
  rw[Tm.sizes,Tm.sizes,Tm.fulls,Tm.fulls];omega
 | t :: l,n+1,x,h=>by
  have h':n<l.length:=by simpa using h
  have ih:=set_sizes l n x h'
  show Tm.sizes (t :: l.set n x)+l[n].size=_∧Tm.fulls (t :: l.set n x)+l[n].full=_
  rw[Tm.sizes,Tm.sizes,Tm.fulls,Tm.fulls];omega
def repV (r:Option Tm):D:=match r with
 | some o=>.tu [.ag (eTm o),.v (.int .i64 0)]
 | none=>.tu [.ag (eTm Tm.zero),.v (.int .i64 10)]
set_option maxHeartbeats 2000000 in
theorem sreplaced_d (b:Tm):∀ (p:List Int) (t:Tm),p.length≤100000→t.full≤800000→PureC Tryz.prog 142 [.ag (eTm t),.ag (eTm b),.sl 1 (eIs p) none] (repV (Au.replP p t b)):=by
 intro p
 induction p with
 | nil=>
  intro t _ _
  rw[Au.replP]
  unfold repV
  rw[eTm_eq,eTm_eq,eTm_eq]
  refine calldw 0 60 [ResultVar.cell 6 62,ResultVar.tmp 7] TAUC_ok Tryz.func142 rfl Tryz.ntmps142 rfl fun cx hnt hn0=>?_
  ·skip
   refine dw_seq ?_;refine dwk [] TAUC_ok hnt fun _ z9=>z9 _ _ ?_;refine dw_seq ?_;refine dw_seq ?_;refine dwk [(12,.v (.int .i64 (0))),(13,.v (.bool true))] TAUC_ok hnt fun K hK=>?_;refine And.intro (dintE (by rfl)) ?_;refine And.intro (VLe.refl _) ?_;refine hK _ _ ?_;clear hK K;refine dw_cond (t:=true) rfl ?_;rw[if_pos rfl];refine dw_seq ?_;refine dwk [] TAUC_ok hnt fun K hK=>?_
   refine hK _ _ ?_;clear hK K;refine dw_ret ?_
   exact reta rfl
 | cons j p ih=>
  intro t hp hz
  have hft:=full_args t
  have hal:=fulls_len t.args
  have hpl:p.length≤100000:=by rw[List.length_cons] at hp;omega
  rw[Au.replP]
  by_cases hj:0≤j∧j<(t.args.length:Int)
  ·rw[if_pos hj]
   obtain⟨n,rfl⟩:∃ n:Nat,j=n:=⟨j.toNat,by omega⟩
   have hn:n<t.args.length:=by omega
   have hg:t.args.getD ((n:Int)).toNat Tm.zero=t.args[n]:=by rw[Int.toNat_natCast,List.getD_eq_getElem?_getD,List.getElem?_eq_getElem hn];rfl
   rw[hg]
   have hsub:=Tm.full_mem (List.getElem_mem hn)
   have hi:=ih t.args[n] hpl (by omega)
   have hcl:=cloneM_d t.args (by omega)
   have hgx:(eTms t.args).getD n []=[.sl 2 (eTys (t.args[n]).binds) none,.v (.int .i64 (t.args[n]).kind),.v (.int .i64 (t.args[n]).index),.sl 4 (eTms (t.args[n]).args) none]:=by rw[eTms_getD t.args n hn,eTm_eq]
   have hj0:¬ ((n:Int)<0):=by omega
   cases hr:Au.replP p t.args[n] b with
   | none=>
    rw[hr] at hi
    unfold repV at hi ⊢
    simp only[Option.map_none] at hi ⊢
    rw[eTm_eq t.args[n],eTm_eq b,eTm_zr] at hi
    rw[eTm_eq t,eTm_eq b,eTm_zr]
    refine calldw 0 60 [ResultVar.cell 6 62,ResultVar.tmp 7] TAUC_ok Tryz.func142 rfl Tryz.ntmps142 rfl fun cx hnt hn0=>?_
    ·skip
     refine dw_seq ?_;refine dwk [] TAUC_ok hnt fun _ z9=>z9 _ _ ?_;refine dw_seq ?_;refine dw_seq ?_;refine dwk [(12,.v (.int .i64 (↑(p.length+1)))),(13,.v (.bool false))] TAUC_ok hnt fun K hK=>?_;refine And.intro (dintE (by rw[eIs_len];simp)) ?_;refine And.intro (VLe.of_eq (by simp;omega)) ?_;refine hK _ _ ?_;clear hK K;refine dw_cond (t:=false) rfl ?_;rw[if_neg (by simp)]
     refine dw_skip ?_;refine dw_seq ?_;refine dwk [(22,.q [.v (.int .i64 ↑n)])] TAUC_ok hnt fun K hK=>?_;refine And.intro (⟨by omega,by rw[eIs_len];simp⟩) ?_;refine And.intro (VLe.of_eq rfl) ?_;refine hK _ _ ?_;clear hK K;refine dw_seq ?_;refine dw_seq ?_;refine dwk [(25,.v (.bool false)),(30,.v (.int .i64 (↑t.args.length))),(31,.v (.bool false))] TAUC_ok hnt fun K hK=>?_;refine And.intro (dfalse hj0) ?_
     refine And.intro (dintE (by rw[eTms_len])) ?_;refine And.intro auF ?_;refine hK _ _ ?_;clear hK K;refine dw_cond (t:=false) rfl ?_;rw[if_neg (by simp)];refine dw_skip ?_;refine dw_seq ?_;refine dwkD [(38,.q [.sl 2 (eTys (t.args[n]).binds) none,.v (.int .i64 (t.args[n]).kind),.v (.int .i64 (t.args[n]).index),.sl 4 (eTms (t.args[n]).args) none]),(42,.sl 1 (eIs p) none)] TAUC_ok hnt fun K hK=>?_
     refine And.intro (⟨by omega,by rw[eTms_len];omega⟩) ?_;refine And.intro (VLe.of_eq (by rw[Int.toNat_natCast,hgx])) ?_;refine And.intro (⟨by omega,by rw[eIs_len];simp;omega⟩) ?_;refine And.intro (VLe.of_eq (eIs_tail _ _)) ?_;refine dcl (hi) ?_;refine hK _ _ (by kernel_rfl) ?_;clear hK K;refine dw_seq ?_;refine dw_seq ?_;refine dwk [(47,.v (.bool true))] TAUC_ok hnt fun K hK=>?_
     refine And.intro (bneT (by decide)) ?_;refine hK _ _ ?_;clear hK K;refine dw_cond (t:=true) rfl ?_;rw[if_pos rfl];refine dw_seq ?_;refine dwk [] TAUC_ok hnt fun _ z9=>z9 _ _ ?_;refine dw_ret ?_
     exact reta rfl
   | some x=>
    rw[hr] at hi
    unfold repV at hi ⊢
    simp only[Option.map_some] at hi ⊢
    rw[eTm_eq,eTm_eq,eTm_eq] at hi
    rw[eTm_eq,eTm_eq,eTm_eq]
    refine calldw 0 60 [ResultVar.cell 6 62,ResultVar.tmp 7] TAUC_ok Tryz.func142 rfl Tryz.ntmps142 rfl fun cx hnt hn0=>?_
    ·skip
     refine dw_seq ?_;refine dwk [] TAUC_ok hnt fun _ z9=>z9 _ _ ?_;refine dw_seq ?_;refine dw_seq ?_;refine dwk [(12,.v (.int .i64 (↑(p.length+1)))),(13,.v (.bool false))] TAUC_ok hnt fun K hK=>?_;refine And.intro (dintE (by rw[eIs_len];simp)) ?_;refine And.intro (VLe.of_eq (by simp;omega)) ?_;refine hK _ _ ?_;clear hK K;refine dw_cond (t:=false) rfl ?_;rw[if_neg (by simp)]
     refine dw_skip ?_;refine dw_seq ?_;refine dwk [(22,.q [.v (.int .i64 ↑n)])] TAUC_ok hnt fun K hK=>?_;refine And.intro (⟨by omega,by rw[eIs_len];simp⟩) ?_;refine And.intro (VLe.of_eq rfl) ?_;refine hK _ _ ?_;clear hK K;refine dw_seq ?_;refine dw_seq ?_;refine dwk [(25,.v (.bool false)),(30,.v (.int .i64 (↑t.args.length))),(31,.v (.bool false))] TAUC_ok hnt fun K hK=>?_;refine And.intro (dfalse hj0) ?_
     refine And.intro (dintE (by rw[eTms_len])) ?_;refine And.intro auF ?_;refine hK _ _ ?_;clear hK K;refine dw_cond (t:=false) rfl ?_;rw[if_neg (by simp)];refine dw_skip ?_;refine dw_seq ?_;refine dwkD [(38,.q [.sl 2 (eTys (t.args[n]).binds) none,.v (.int .i64 (t.args[n]).kind),.v (.int .i64 (t.args[n]).index),.sl 4 (eTms (t.args[n]).args) none]),(42,.sl 1 (eIs p) none)] TAUC_ok hnt fun K hK=>?_
     refine And.intro (⟨by omega,by rw[eTms_len];omega⟩) ?_;refine And.intro (VLe.of_eq (by rw[Int.toNat_natCast,hgx])) ?_;refine And.intro (⟨by omega,by rw[eIs_len];simp;omega⟩) ?_;refine And.intro (VLe.of_eq (eIs_tail _ _)) ?_;refine dcl (hi) ?_;refine hK _ _ (by kernel_rfl) ?_;clear hK K;refine dw_seq ?_;refine dw_seq ?_;refine dwk [(47,.v (.bool false))] TAUC_ok hnt fun K hK=>?_
     refine And.intro (bneF rfl) ?_;refine hK _ _ ?_;clear hK K;refine dw_cond (t:=false) rfl ?_;rw[if_neg (by simp)];refine dw_skip ?_;refine dw_seq ?_;refine dwk [] TAUC_ok hnt fun K hK=>?_;refine dcn (hcl _) ?_;refine hK _ _ ?_;clear hK K;refine dw_seq ?_;refine dwk [(58,.pr 39 t.args.length 4 (n) 0)] TAUC_ok hnt fun K hK=>?_;refine And.intro ((by constructor <;> omega)) ?_;refine And.intro (VLe.of_eq (by simp;rfl)) ?_
     refine And.intro (⟨by rw[eTms_len],by omega⟩) ?_;refine hK _ _ ?_;clear hK K
     rw[eTms_put t.args n x hn]
     refine dw_freezeC (k:=0) (off:=3) (g:=39) rfl rfl (by rw[eTms_len,List.length_set]) ?_
     refine dw_seq ?_;refine dwk [] TAUC_ok hnt fun _ z9=>z9 _ _ ?_;refine dw_ret ?_
     exact reta rfl
  ·rw[if_neg hj]
   unfold repV
   dsimp only
   rw[eTm_eq t,eTm_eq b,eTm_zr]
   by_cases h0:j<0
   ·skip
    refine calldw 0 60 [ResultVar.cell 6 62,ResultVar.tmp 7] TAUC_ok Tryz.func142 rfl Tryz.ntmps142 rfl fun cx hnt hn0=>?_
    ·skip
     refine dw_seq ?_;refine dwk [] TAUC_ok hnt fun _ z9=>z9 _ _ ?_;refine dw_seq ?_;refine dw_seq ?_;refine dwk [(12,.v (.int .i64 (↑(p.length+1)))),(13,.v (.bool false))] TAUC_ok hnt fun K hK=>?_;refine And.intro (dintE (by rw[eIs_len];simp)) ?_;refine And.intro (VLe.of_eq (by simp;omega)) ?_;refine hK _ _ ?_;clear hK K;refine dw_cond (t:=false) rfl ?_;rw[if_neg (by simp)]
     refine dw_skip ?_;refine dw_seq ?_;refine dwk [(22,.q [.v (.int .i64 j)])] TAUC_ok hnt fun K hK=>?_;refine And.intro (⟨by omega,by rw[eIs_len];simp⟩) ?_;refine And.intro (VLe.of_eq rfl) ?_;refine hK _ _ ?_;clear hK K;refine dw_seq ?_;refine dw_seq ?_;refine dwk [(25,.v (.bool true))] TAUC_ok hnt fun K hK=>?_;refine And.intro (dtrue h0) ?_;refine hK _ _ ?_;clear hK K;refine dw_cond (t:=true) rfl ?_
     rw[if_pos rfl];refine dw_seq ?_;refine dwk [] TAUC_ok hnt fun _ z9=>z9 _ _ ?_;refine dw_ret ?_
     exact reta rfl
   ·skip
    refine calldw 0 60 [ResultVar.cell 6 62,ResultVar.tmp 7] TAUC_ok Tryz.func142 rfl Tryz.ntmps142 rfl fun cx hnt hn0=>?_
    ·skip
     refine dw_seq ?_;refine dwk [] TAUC_ok hnt fun _ z9=>z9 _ _ ?_;refine dw_seq ?_;refine dw_seq ?_;refine dwk [(12,.v (.int .i64 (↑(p.length+1)))),(13,.v (.bool false))] TAUC_ok hnt fun K hK=>?_;refine And.intro (dintE (by rw[eIs_len];simp)) ?_;refine And.intro (VLe.of_eq (by simp;omega)) ?_;refine hK _ _ ?_;clear hK K;refine dw_cond (t:=false) rfl ?_;rw[if_neg (by simp)]
     refine dw_skip ?_;refine dw_seq ?_;refine dwk [(22,.q [.v (.int .i64 j)])] TAUC_ok hnt fun K hK=>?_;refine And.intro (⟨by omega,by rw[eIs_len];simp⟩) ?_;refine And.intro (VLe.of_eq rfl) ?_;refine hK _ _ ?_;clear hK K;refine dw_seq ?_;refine dw_seq ?_;refine dwk [(25,.v (.bool false)),(30,.v (.int .i64 (↑t.args.length))),(31,.v (.bool true))] TAUC_ok hnt fun K hK=>?_;refine And.intro (dfalse h0) ?_
     refine And.intro (dintE (by rw[eTms_len])) ?_;refine And.intro auT ?_;refine hK _ _ ?_;clear hK K;refine dw_cond (t:=true) rfl ?_;rw[if_pos rfl];refine dw_seq ?_;refine dwk [] TAUC_ok hnt fun _ z9=>z9 _ _ ?_;refine dw_ret ?_
     exact reta rfl
set_option maxHeartbeats 1000000 in
theorem turnedB_d:∀ t:Tm,∀ ins:Int,0≤ins→ins+t.full≤4000000→t.size≤900000→Bnd 170 t→PureC Tryz.prog 118 [.ag (eTm t),.v (.int .i64 ins),.fn 119 []] (.ag (eTm t)):=by
 intro t
 induction t using Tm.ind with
 | h bs k i ar ih=>
  intro ins h0 hz hsz0 hbn
  rw[Tm.full_eq] at hz
  rw[Tm.size_eq] at hsz0
  have hft:=Bnd.fit _ hbn
  obtain⟨hb1,_,hb3⟩:=hbn.inv
  have hbl:=Ty.le_sizes bs
  obtain⟨hi0,hi1,_⟩:=Tm.fit_iff.1 hft
  have hs1:(Ty.mk [] 0).size=1:=by simp[Ty.size,Ty.sizes]
  have harr:=arrow_d (.mk [] 0) bs (by omega)
  dsimp only[Ty.args,Ty.base] at harr
  rw[List.append_nil,eTy_eq,eTy_eq] at harr
  dsimp only[Ty.args,Ty.base,eTys] at harr
  have hal:ar.length≤Tm.sizes ar:=Tm.len_sizes ar
  rw[eTm_eq]
  dsimp only[Tm.binds,Tm.kind,Tm.index,Tm.args]
  obtain⟨n,hn⟩:∃ n:Int,n=ins+bs.length:=⟨_,rfl⟩
  refine calldw 0 63 [ResultVar.cell 6 62] TCP_ok Tryz.func118 rfl Tryz.ntmps118 rfl fun cx hnt hn0=>?_
  ·skip
   refine dw_seq ?_;refine dwk [] TCP_ok hnt fun _ z9=>z9 _ _ ?_;refine dw_seq ?_;refine dwk [(14,.v (.int .i64 (n)))] TCP_ok hnt fun K hK=>?_;refine And.intro (dintE (by rw[eTys_len,IntWalk.i64_in _ (by omega)];omega)) ?_;refine hK _ _ ?_;clear hK K;refine dw_seq ?_;refine dwkD [(15,.ag [.sl 2 [] none,.v (.int .i64 0)])] TCP_ok hnt fun K hK=>?_;refine And.intro (auV) ?_
   refine dcl (harr) ?_;refine hK _ _ (by kernel_rfl) ?_;clear hK K
   refine dw_cut (τ:=[(.t 1,.v (.int .i64 n)),(.t 2,.fn 119 []),(.t 3,.p 0 0),(.t 6,.p 1 0),(.t 7,.p 16 0),(.c 0 0,.sl 2 (eTys bs) none),(.c 0 1,.v (.int .i64 k)),(.c 0 2,.v (.int .i64 i)),(.c 0 3,.sl 4 (eTms ar) none),(.c 1 0,.v (.slice none 0 0)),(.c 1 1,.v (.int .i64 0)),(.c 1 2,.v (.int .i64 0)),(.c 1 3,.v (.slice none 0 0)),(.c 16 0,.sl 2 (eTys bs) none),(.c 16 1,.v (.int .i64 k)),(.c 16 2,.v (.int .i64 i)),(.c 16 3,.v (.slice none 0 0))]) (N1:=17) ?_ ?_
   ·by_cases hk:k=0
    ·by_cases hge:i≥n
     ·have hc1:=copy1_d (i-n)
      refine dw_seq ?_;refine dwk [(26,.v (.bool true)),(32,.v (.bool true))] TCP_ok hnt fun K hK=>?_;refine And.intro (VLe.of_eq (by simp[hk])) ?_;refine And.intro auT ?_;refine hK _ _ ?_;clear hK K;refine dw_cond (t:=true) rfl ?_;rw[if_pos rfl];refine dwk [(40,.v (.int .i64 ((i-n)))),(42,.v (.int .i64 (i)))] TCP_ok hnt fun K hK=>?_;refine And.intro (dintE (by exact IntWalk.i64_in _ (by omega))) ?_
      refine dcl (hc1) ?_;refine And.intro (dintE (by (rw[show n+(i-n)=i by omega];exact IntWalk.i64_in _ (by omega)))) ?_;refine hK _ _ ?_;clear hK K
      exact cut_ok VS.toA
     ·skip
      refine dw_seq ?_;refine dwk [(26,.v (.bool true)),(32,.v (.bool false))] TCP_ok hnt fun K hK=>?_;refine And.intro (VLe.of_eq (by simp[hk])) ?_;refine And.intro auF ?_;refine hK _ _ ?_;clear hK K;refine dw_cond (t:=false) rfl ?_;rw[if_neg (by simp)];refine dw_skip ?_
      exact cut_ok VS.toA
    ·skip
     refine dw_seq ?_;refine dwk [(26,.v (.bool false))] TCP_ok hnt fun K hK=>?_;refine And.intro (VLe.of_eq (by simp[hk])) ?_;refine hK _ _ ?_;clear hK K;refine dw_cond (t:=false) rfl ?_;rw[if_neg (by simp)];refine dw_skip ?_
     exact cut_ok VS.toA
   ·refine DW.vs (VS.row (k:=16) (off:=3) 62 4 rfl) ?_
    refine dw_seq ?_;refine dw_seq ?_;refine dwk [(47,.v (.int .i64 (↑ar.length)))] TCP_ok hnt fun K hK=>?_;refine And.intro (dintE (by rw[eTms_len])) ?_;refine hK _ _ ?_;clear hK K;refine dw_block ?_
    refine dw_loop (ι:={ j:Nat // j≤ar.length }) (fun j=>[(.t 1,.v (.int .i64 n)),(.t 2,.fn 119 []),(.t 6,.p 1 0),(.t 7,.p 16 0),(.t 46,.sl 4 (eTms ar) none),(.t 47,.v (.int .i64 ↑ar.length)),(.t 48,.v (.int .i64 ↑j.1)),(.c 1 0,.v (.slice none 0 0)),(.c 1 1,.v (.int .i64 0)),(.c 1 2,.v (.int .i64 0)),(.c 1 3,.v (.slice none 0 0)),(.c 16 0,.sl 2 (eTys bs) none),(.c 16 1,.v (.int .i64 k)),(.c 16 2,.v (.int .i64 i)),(.c 16 3,.sl 4 (eTms (ar.take j.1)) (some 17)),(.r 17,.rw 62 4 j.1)]) 18 (fun j=>ar.length-j.1) (⟨0,Nat.zero_le _⟩) (VS.toA) fun j=>?_
    obtain⟨j,hj⟩:=j
    dsimp only
    by_cases hlt:j<ar.length
    ·have hmem:=List.getElem_mem hlt
     have hsz:=Tm.full_mem hmem
     have hsz1:=Tm.size_mem hmem
     have hc:=ih _ hmem n (by omega) (by omega) (by omega) (hb3 _ hmem)
     rw[eTm_eq] at hc
     have hl1:(eTms (ar.take j)).length=j:=by rw[eTms_len,List.length_take];omega
     have hl2:(eTms (ar.take (j+1))).length=j+1:=by rw[eTms_len,List.length_take];omega
     refine dw_seq ?_;refine dwk [(49,.v (.bool true))] TCP_ok hnt fun K hK=>?_;refine And.intro auT ?_;refine hK _ _ ?_;clear hK K;refine dw_seq ?_;refine dw_cond (t:=true) rfl ?_;rw[if_pos rfl];refine dw_skip ?_;refine dw_seq ?_;refine dw_block ?_;refine dw_seq ?_;refine dwk [(50,.q [.sl 2 (eTys ar[j].binds) none,.v (.int .i64 ar[j].kind),.v (.int .i64 ar[j].index),.sl 4 (eTms ar[j].args) none])] TCP_ok hnt fun K hK=>?_
     refine And.intro (elo (eTms_len ar)) ?_;refine And.intro (elv (eTms_getD ar j) (eTm_eq _)) ?_;refine hK _ _ ?_;clear hK K;refine dwkD [] TCP_ok hnt fun K hK=>?_;refine dcl (hc) ?_;refine And.intro (⟨by omega,by rw[hl1];simp;omega⟩) ?_;refine hK _ _ (by kernel_rfl) ?_;clear hK K
     rw[cEms_snoc ar j hlt,hl2]
     refine dwk [(61,.v (.int .i64 (↑(j+1))))] TCP_ok hnt fun K hK=>?_;refine And.intro auI ?_;refine hK _ _ ?_;clear hK K
     refine⟨⟨j+1,hlt⟩,by first | omega | (dsimp only;omega),VS.toA⟩
    ·rw[List.take_of_length_le (by omega)]
     refine dw_seq ?_;refine dwk [(49,.v (.bool false))] TCP_ok hnt fun K hK=>?_;refine And.intro auF ?_;refine hK _ _ ?_;clear hK K;refine dw_seq ?_;refine dw_cond (t:=false) rfl ?_;rw[if_neg (by simp)];refine dw_exit ?_;refine dw_seq ?_;refine dwk [] TCP_ok hnt fun _ z9=>z9 _ _ ?_;refine dw_ret ?_
     exact reta rfl
theorem copyB_d (t:Tm)(hsz:t.full≤4000000)(hs:t.size≤900000)(hb:Bnd 170 t):PureC Tryz.prog 96 [.ag (eTm t)] (.ag (eTm t)):=by
 have h:=turnedB_d t 0 (Int.le_refl _) (by omega) hs hb
 rw[eTm_eq] at h ⊢
 refine calldw 0 5 [ResultVar.cell 2 62] TCP_ok Tryz.func96 rfl Tryz.ntmps96 rfl fun cx hnt hn0=>?_
 ·skip
  refine dw_seq ?_;refine dwk [] TCP_ok hnt fun _ z9=>z9 _ _ ?_;refine dw_seq ?_;refine dwk [] TCP_ok hnt fun K hK=>?_;refine dcl (h) ?_;refine hK _ _ ?_;clear hK K;refine dw_ret ?_
  exact reta rfl
theorem replP_size:∀ (p:List Int) (t b o:Tm),Au.replP p t b=some o→o.size≤t.size+b.size∧o.full≤t.full+b.full∧(Bnd 170 t→Bnd 170 b→Bnd 170 o)
 | [],t,b,o,h=>by
  rw[Au.replP] at h
  cases h
  obtain⟨tb,tk,ti,ta⟩:=t
  obtain⟨bb,bk,bi,ba⟩:=b
  refine⟨?_,?_,fun h1 h2=>.mk _ _ _ _ h1.inv.1 h2.inv.2.1 h2.inv.2.2⟩
  ·show (Tm.mk tb bk bi ba).size≤_
   rw[Tm.size_eq,Tm.size_eq,Tm.size_eq];omega
  ·show (Tm.mk tb bk bi ba).full≤_
   rw[Tm.full_eq,Tm.full_eq,Tm.full_eq];omega
 | j :: p,t,b,o,h=>by
  rw[Au.replP] at h
  by_cases hj:0≤j∧j<(t.args.length:Int)
  ·rw[if_pos hj] at h
   cases hr:Au.replP p (t.args.getD j.toNat Tm.zero) b with
   | none=>rw[hr] at h;cases h
   | some x=>
    rw[hr] at h
    have h:=Option.some.inj h
    have hn:j.toNat<t.args.length:=by omega
    rw[List.getD_eq_getElem?_getD,List.getElem?_eq_getElem hn,Option.getD_some] at hr
    obtain⟨h1,h2,h3⟩:=replP_size p _ b x hr
    obtain⟨tb,tk,ti,ta⟩:=t
    have hn:j.toNat<ta.length:=hn
    have hs1:=set_sizes ta j.toNat x hn
    subst h
    refine⟨?_,?_,fun g1 g2=>.mk _ _ _ _ g1.inv.1 g1.inv.2.1 fun u hu=>?_⟩
    ·show (Tm.mk tb tk ti (ta.set j.toNat x)).size≤_
     rw[Tm.size_eq,Tm.size_eq]
     have h1:x.size≤(ta[j.toNat]).size+b.size:=h1
     omega
    ·show (Tm.mk tb tk ti (ta.set j.toNat x)).full≤_
     rw[Tm.full_eq,Tm.full_eq]
     have h2:x.full≤(ta[j.toNat]).full+b.full:=h2
     omega
    ·rcases List.mem_or_eq_of_mem_set hu with hu | rfl
     ·exact g1.inv.2.2 u hu
     ·exact h3 (g1.inv.2.2 _ (List.getElem_mem hn)) g2
  ·rw[if_neg hj] at h;cases h
theorem sreplace_d (t b:Tm)(p:List Int)(hp:p.length≤100000)(ht:t.full≤800000∧t.size≤100000∧Bnd 170 t)(hb:b.full≤800000∧b.size≤100000∧Bnd 170 b):
  PureC Tryz.prog 125 [.ag (eTm t),.ag (eTm b),.sl 1 (eIs p) none] (.tu [.ag (eTm (Au.repl t b p).1),.v (.int .i64 (Au.repl t b p).2)]):=by
 have hbl:=Ty.le_sizes b.binds
 have hft:=full_args b
 have hr:=sreplaced_d b p t hp ht.1
 unfold Au.repl
 by_cases h0:b.binds≠[]
 ·rw[if_pos h0]
  have hpos:0<b.binds.length:=List.length_pos_iff.2 h0
  dsimp only
  rw[eTm_eq t,eTm_eq b,eTm_zr]
  refine calldw 0 28 [ResultVar.cell 6 62,ResultVar.tmp 7] TAUC_ok Tryz.func125 rfl Tryz.ntmps125 rfl fun cx hnt hn0=>?_
  ·skip
   refine dw_seq ?_;refine dwk [] TAUC_ok hnt fun _ z9=>z9 _ _ ?_;refine dw_seq ?_;refine dw_seq ?_;refine dwk [(12,.v (.int .i64 (↑b.binds.length))),(13,.v (.bool true))] TAUC_ok hnt fun K hK=>?_;refine And.intro (dintE (by rw[eTys_len])) ?_;refine And.intro (VLe.of_eq (by simp;omega)) ?_;refine hK _ _ ?_;clear hK K;refine dw_cond (t:=true) rfl ?_;rw[if_pos rfl]
   refine dw_seq ?_;refine dwk [] TAUC_ok hnt fun _ z9=>z9 _ _ ?_;refine dw_ret ?_
   exact reta rfl
 ·rw[if_neg h0]
  have hb0:b.binds.length=0:=by rw[Classical.byContradiction h0];rfl
  cases hx:Au.replP p t b with
  | none=>
   rw[hx] at hr
   unfold repV at hr
   dsimp only at hr ⊢
   rw[eTm_eq t,eTm_eq b,eTm_zr] at hr ⊢
   refine calldw 0 28 [ResultVar.cell 6 62,ResultVar.tmp 7] TAUC_ok Tryz.func125 rfl Tryz.ntmps125 rfl fun cx hnt hn0=>?_
   ·skip
    refine dw_seq ?_;refine dwk [] TAUC_ok hnt fun _ z9=>z9 _ _ ?_;refine dw_seq ?_;refine dw_seq ?_;refine dwk [(12,.v (.int .i64 (↑b.binds.length))),(13,.v (.bool false))] TAUC_ok hnt fun K hK=>?_;refine And.intro (dintE (by rw[eTys_len])) ?_;refine And.intro (VLe.of_eq (by rw[hb0];rfl)) ?_;refine hK _ _ ?_;clear hK K;refine dw_cond (t:=false) rfl ?_;rw[if_neg (by simp)]
    refine dw_skip ?_;refine dw_seq ?_;refine dwk [] TAUC_ok hnt fun K hK=>?_;refine dcl (hr) ?_;refine hK _ _ ?_;clear hK K;refine dw_seq ?_;refine dw_seq ?_;refine dwk [(23,.v (.bool true))] TAUC_ok hnt fun K hK=>?_;refine And.intro (bneT (by decide)) ?_;refine hK _ _ ?_;clear hK K;refine dw_cond (t:=true) rfl ?_;rw[if_pos rfl];refine dw_seq ?_;refine dwk [] TAUC_ok hnt fun K hK=>?_
    refine hK _ _ ?_;clear hK K;refine dw_ret ?_
    exact reta rfl
  | some o=>
   rw[hx] at hr
   unfold repV at hr
   dsimp only at hr ⊢
   obtain⟨g1,g2,g3⟩:=replP_size p t b o hx
   have hc:=copyB_d o (by omega) (by omega) (g3 ht.2.2 hb.2.2)
   rw[eTm_eq t,eTm_eq b,eTm_eq o] at hr
   rw[eTm_eq] at hc
   rw[eTm_eq t,eTm_eq b,eTm_eq o]
   refine calldw 0 28 [ResultVar.cell 6 62,ResultVar.tmp 7] TAUC_ok Tryz.func125 rfl Tryz.ntmps125 rfl fun cx hnt hn0=>?_
   ·skip
    refine dw_seq ?_;refine dwk [] TAUC_ok hnt fun _ z9=>z9 _ _ ?_;refine dw_seq ?_;refine dw_seq ?_;refine dwk [(12,.v (.int .i64 (↑b.binds.length))),(13,.v (.bool false))] TAUC_ok hnt fun K hK=>?_;refine And.intro (dintE (by rw[eTys_len])) ?_;refine And.intro (VLe.of_eq (by rw[hb0];rfl)) ?_;refine hK _ _ ?_;clear hK K;refine dw_cond (t:=false) rfl ?_;rw[if_neg (by simp)]
    refine dw_skip ?_;refine dw_seq ?_;refine dwk [] TAUC_ok hnt fun K hK=>?_;refine dcl (hr) ?_;refine hK _ _ ?_;clear hK K;refine dw_seq ?_;refine dw_seq ?_;refine dwk [(23,.v (.bool false))] TAUC_ok hnt fun K hK=>?_;refine And.intro (bneF rfl) ?_;refine hK _ _ ?_;clear hK K;refine dw_cond (t:=false) rfl ?_;rw[if_neg (by simp)];refine dw_skip ?_;refine dw_seq ?_;refine dwk [] TAUC_ok hnt fun K hK=>?_
    refine dcl (hc) ?_;refine hK _ _ ?_;clear hK K;refine dw_ret ?_
    exact reta rfl
namespace Sb
variable {B:Nat}
theorem find_mem {l:List (Int×Tm)}{i:Int}{u:Tm}(h:find l i=some u):∃ p∈l,p.2=u:=by
 unfold find at h
 cases hf:l.find? (fun p=>p.1==i) with
 | none=>rw[hf] at h;cases h
 | some p=>rw[hf] at h;cases h;exact⟨p,List.mem_of_find?_eq_some hf,rfl⟩
theorem Put_grow {u:Tm}{xs:List Tm}{left:Int}{dry:Bool}(h0:0≤left∧left≤1000000000)(hu:Bnd B u)(hx:∀ x∈xs,Bnd B x):
  (Nm.Put u xs left dry).2.e=0→((Nm.Put u xs left dry).1.size:Int)+(Nm.Put u xs left dry).2.left≤left∧Bnd B (Nm.Put u xs left dry).1:=by
 have h1:=Nm.putW_grow (Nm.through_grow B 100001) (t:=u) (xs:=xs) (s:=⟨left,dry,0,0⟩) ⟨h0,⟨Int.le_refl 0,(by decide:(0:Int)≤100001)⟩,fun _=>(by decide:(0:Int)≤100000)⟩ (fun _=>by show (100001:Int)-0≤((100001:Nat):Int);decide) hu hx
 unfold Nm.Put Nm.done
 dsimp only
 show _
 have h2:Nm.put 100001 u xs ⟨left,dry,0,0⟩=Nm.putW (Nm.through 100001) u xs ⟨left,dry,0,0⟩:=rfl
 rw[h2]
 generalize Nm.putW (Nm.through 100001) u xs ⟨left,dry,0,0⟩=p at h1
 intro e
 have key:p.2.e=0∧(p.1.size≤5000∧p.1.depth≤60):=by
  by_cases hc:p.2.e=0∧¬ (p.1.size≤5000∧p.1.depth≤60)
  ·exfalso
   rw[if_pos hc] at e
   have hf:(Nm.fail p.2 2).e=2:=by unfold Nm.fail;rw[if_pos hc.1]
   rw[if_pos (by rw[hf];decide)] at e
   rw[hf] at e;cases e
  ·rw[if_neg hc] at e
   by_cases hp:p.2.e=0
   ·exact⟨hp,by
     by_cases h5:p.1.size≤5000∧p.1.depth≤60
     ·exact h5
     ·exact absurd ⟨hp,h5⟩ hc⟩
   ·rw[if_pos hp] at e;exact absurd e hp
 have hc:¬ (p.2.e=0∧¬ (p.1.size≤5000∧p.1.depth≤60)):=fun h=>h.2 key.2
 rw[if_neg hc,if_neg (fun h=>h key.1)]
 have h3:=h1 key.1
 exact⟨h3.2.1,h3.2.2⟩
theorem seq_grow {g:Tm→Nm.St→Tm×Nm.St}:∀ (a:List Tm) (hg:∀ t∈a,∀ s,InR s→(g t s).2.e=0→s.e=0∧((g t s).1.size:Int)+(g t s).2.left≤s.left∧Bnd B (g t s).1) (hi:∀ t∈a,∀ s,InR s→InR (g t s).2) (s:Nm.St),InR s →
  (Nm.seqM g a s).2.e=0→s.e=0∧(Tm.sizes (Nm.seqM g a s).1:Int)+(Nm.seqM g a s).2.left≤s.left∧∀ u∈(Nm.seqM g a s).1,Bnd B u
 | [],_,_,s,_,h=>⟨h,by simp[Nm.seqM,Tm.sizes],fun u hu=>by cases hu⟩
 | t :: a,hg,hi,s,hs,h=>by
  have h2:=seq_grow a (fun u hu=>hg u (by simp[hu])) (fun u hu=>hi u (by simp[hu])) (g t s).2 (hi t (by simp) s hs) h
  have h3:=hg t (by simp) s hs h2.1
  refine⟨h3.1,?_,fun u hu=>?_⟩
  ·simp only[Nm.seqM,Tm.sizes]
   have:=h2.2.1
   have:=h3.2.1
   omega
  ·rcases List.mem_cons.1 hu with rfl | hu
   ·exact h3.2.2
   ·exact h2.2.2 u hu
theorem spend_ok {s:Nm.St}(h:(Nm.spend s).1=true):(Nm.spend s).2.left=s.left-1∧(Nm.spend s).2.e=s.e:=by
 unfold Nm.spend at h ⊢
 split
 ·rename_i hc;rw[if_pos hc] at h;cases h
 ·exact⟨rfl,rfl⟩
theorem grow (l:List (Int×Tm))(hl:∀ p∈l,Bnd B p.2):∀ t:Tm,Bnd B t→∀ (ins:Int) (s:Nm.St),InR s→(through l t ins s).2.e=0→s.e=0∧((through l t ins s).1.size:Int)+(through l t ins s).2.left≤s.left∧Bnd B (through l t ins s).1:=by
 intro t
 induction t using Tm.ind with
 | h b k i a ih=>
  intro ht ins s hs
  obtain⟨t1,t2,t3⟩:=ht.inv
  rw[through]
  dsimp only
  split
  ·intro e;exact absurd e (by assumption)
  ·rename_i he
   have he0:s.e=0:=by omega
   split
   ·intro e;cases e
   ·rename_i hsp
    have hsp:(Nm.spend s).1=true:=by simpa using hsp
    obtain⟨s1,s2⟩:=spend_ok hsp
    rw[throughs_seq]
    have hin:=spend_in hs
    have hq:=seq_grow (B:=B) (g:=fun t s=>through l t (Nm.wr (ins+b.length)) s) a (fun u hu s hs=>ih u hu (t3 u hu) _ s hs) (fun u hu s hs=>through_in l u _ s hs) (Nm.spend s).2 hin
    have hqi:=seqM_in (g:=fun t s=>through l t (Nm.wr (ins+b.length)) s) a (fun u hu s hs=>through_in l u _ s hs) _ hin
    generalize Nm.seqM (fun t s=>through l t (Nm.wr (ins+b.length)) s) a (Nm.spend s).2=q at hq hqi ⊢
    have plain:q.2.e=0→s.e=0∧((Tm.mk b k i q.1).size:Int)+q.2.left≤s.left∧Bnd B (.mk b k i q.1):=fun e=>by
     have h1:=hq e
     refine⟨he0,?_,.mk _ _ _ _ t1 t2 h1.2.2⟩
     rw[Tm.size_eq]
     have:=h1.2.1
     omega
    split
    ·exact plain
    ·rename_i hk
     have hqe:q.2.e=0:=by
      by_cases h:q.2.e=0
      ·exact h
      ·exact absurd (.inr h) hk
     have h1:=hq hqe
     split
     ·exact plain
     ·rename_i u hu
      obtain⟨p,hp,rfl⟩:=find_mem hu
      unfold replaced
      split
      ·intro e;cases e
      ·dsimp only
       have hP:=Put_grow (B:=B) (u:=Nm.lift (Nm.wr (ins+b.length)) p.2 0) (xs:=q.1) (left:=q.2.left) (dry:=q.2.dry) hqi (Bnd.lift _ _ _ (hl p hp)) h1.2.2
       have harg:(Tm.mk b k i q.1).args=q.1:=rfl
       rw[harg]
       generalize Nm.Put (Nm.lift (Nm.wr (ins+b.length)) p.2 0) q.1 q.2.left q.2.dry=r at hP
       split
       ·rename_i hr;intro e;exact absurd e hr
       ·rename_i hr
        have hr0:r.2.e=0:=by omega
        obtain⟨h2,h3⟩:=hP hr0
        intro _
        obtain⟨⟨rb,rk,ri,rg⟩,rs⟩:=r
        dsimp only at h2 h3 ⊢
        have hp3:=h3.inv
        rw[Tm.size_eq] at h2
        have h4:=h1.2.1
        refine⟨he0,?_,.mk _ _ _ _ t1 hp3.2.1 hp3.2.2⟩
        show (((Tm.sizes rg+1:Nat)):Int)+rs.left≤s.left
        omega
theorem put_grow {u:Tm}{xs:List Tm}{left:Int}{dry:Bool}(h0:0≤left∧left≤1000000000)(hu:Bnd B u)(hx:∀ x∈xs,Bnd B x):
  (Nm.put 100001 u xs ⟨left,dry,0,0⟩).2.e=0→((Nm.put 100001 u xs ⟨left,dry,0,0⟩).1.size:Int)≤left∧Bnd B (Nm.put 100001 u xs ⟨left,dry,0,0⟩).1:=fun e=>by
 have hw:WkOk ⟨left,dry,0,0⟩:=⟨h0,⟨Int.le_refl 0,(by decide:(0:Int)≤100001)⟩,fun _=>(by decide:(0:Int)≤100000)⟩
 have h1:=Nm.putW_grow (Nm.through_grow B 100001) (t:=u) (xs:=xs) hw (fun _=>by show (100001:Int)-0≤((100001:Nat):Int);decide) hu hx e
 have h2:=(putW_wk (through_wk 100001) u xs _ hw).left.1
 have h3:=h1.2.1
 have h4:Nm.put 100001 u xs ⟨left,dry,0,0⟩=Nm.putW (Nm.through 100001) u xs ⟨left,dry,0,0⟩:=rfl
 rw[h4]
 exact⟨by dsimp only at h3;omega,h1.2.2⟩
theorem done_ok {L:Nat}(hLB:L * (B+1)≤17100000)(hB:B≤170){t:Tm}(h:Bnd B t)(hs:t.size≤L):DoneOk t:=by
 have h1:=Bnd.full t h
 have h2:t.size * (B+1)≤L * (B+1):=Nat.mul_le_mul_right _ hs
 refine⟨by omega,fun h3=>⟨?_,Bnd.fit t h⟩⟩
 have h4:t.size * (B+1)≤5000 * 171:=Nat.mul_le_mul h3.1 (by omega)
 omega
theorem size_mem' {t:Tm}{l:List Tm}(h:t∈l):t.size≤Tm.sizes l:=Tm.size_mem h
theorem th_ok (L:Nat)(hLB:L * (B+1)≤17100000)(hB:B≤170)(hL:L≤100000)(l:List (Int×Tm))(hl:∀ p∈l,Bnd B p.2∧Wide p.2):∀ t:Tm,Bnd B t→∀ (ins:Int) (s:Nm.St),InR s→(s.e=0→s.left≤L)→thOk l t ins s:=by
 have hl1:∀ p∈l,Bnd B p.2:=fun p hp=>(hl p hp).1
 intro t
 induction t using Tm.ind with
 | h b k i a ih=>
  intro ht ins s hs hle
  obtain⟨t1,t2,t3⟩:=ht.inv
  rw[thOk]
  intro he hsp
  obtain⟨s1,s2⟩:=spend_ok hsp
  have hin:=spend_in hs
  have hle0:=hle he
  constructor
  ·have key:∀ (a:List Tm),(∀ u∈a,Bnd B u)→(∀ u∈a,∀ ins s,InR s→(s.e=0→s.left≤L)→thOk l u ins s)→∀ (ins:Int) (s:Nm.St),InR s→(s.e=0→s.left≤L)→thOks l a ins s:=by
    intro a
    induction a with
    | nil=>intro _ _ ins s _ _;rw[thOks];trivial
    | cons u a ih2=>
     intro hb h ins s hs hle
     rw[thOks]
     refine⟨h u (by simp) ins s hs hle,ih2 (fun v hv=>hb v (by simp[hv])) (fun v hv=>h v (by simp[hv])) ins _ (through_in l u ins s hs) fun e=>?_⟩
     have h1:=grow l hl1 u (hb u (by simp)) ins s hs e
     have:=hle h1.1
     have:=h1.2.1
     omega
   exact key a t3 (fun u hu ins s=>ih u hu (t3 u hu) ins s) _ _ hin (fun _=>by omega)
  ·intro hk hqe u hu
   obtain⟨p,hp,rfl⟩:=find_mem hu
   rw[throughs_seq] at hqe ⊢
   have hq:=seq_grow (B:=B) (g:=fun t s=>through l t (Nm.wr (ins+b.length)) s) a (fun u hu s hs=>grow l hl1 u (t3 u hu) _ s hs) (fun u hu s hs=>through_in l u _ s hs) (Nm.spend s).2 hin
   have hqi:=seqM_in (g:=fun t s=>through l t (Nm.wr (ins+b.length)) s) a (fun u hu s hs=>through_in l u _ s hs) _ hin
   generalize Nm.seqM (fun t s=>through l t (Nm.wr (ins+b.length)) s) a (Nm.spend s).2=q at hqe hq hqi ⊢
   have h1:=hq hqe
   have hsz:=h1.2.1
   have hl0:=hqi.1
   refine⟨(hl p hp).2,(hl p hp).2.lift _ _,fun x hx=>Bnd.wide x (h1.2.2 x hx) (by have:=size_mem' hx;omega) (by omega),fun _ hpe=>?_⟩
   have h2:=put_grow (B:=B) (dry:=q.2.dry) hqi (Bnd.lift _ (Nm.wr (ins+b.length)) 0 (hl p hp).1) h1.2.2 hpe
   exact done_ok hLB hB h2.2 (by have:=h2.1;omega)
theorem apply_ok (L:Nat)(hLB:L * (B+1)≤17100000)(hB:B≤170)(hL:L≤100000)(l:List (Int×Tm))(hl:∀ p∈l,Bnd B p.2∧Wide p.2)(t:Tm)(ht:Bnd B t)(left:Int)(h0:0≤left∧left≤L)(dry:Bool):
  thOk l t 0 ⟨left,dry,0,0⟩∧((through l t 0 ⟨left,dry,0,0⟩).2.e=0→DoneOk (through l t 0 ⟨left,dry,0,0⟩).1):=by
 have hin:InR ⟨left,dry,0,0⟩:=⟨h0.1,by show left≤1000000000;omega⟩
 refine⟨th_ok L hLB hB hL l hl t ht 0 _ hin (fun _=>h0.2),fun e=>?_⟩
 have h1:=grow l (fun p hp=>(hl p hp).1) t ht 0 _ hin e
 have h2:=(through_in l t 0 _ hin).1
 have h3:=h1.2.1
 exact done_ok hLB hB h1.2.2 (by dsimp only at h3;omega)
end Sb
def headTy (C M X:List Ty)(k i:Int):Option Ty:=
 if i<0 then none else if k=0 then X.reverse[i.toNat]? else if k=1 then C[i.toNat]? else if k=2 then M[i.toNat]? else none
theorem headTy_neg {C M X:List Ty}{k i:Int}(h:i<0):headTy C M X k i=none:=by rw[headTy,if_pos h]
theorem headTy_0 {C M X:List Ty}(i:Nat):headTy C M X 0 i=X.reverse[i]?:=by rw[headTy,if_neg (by omega),if_pos rfl];rfl
theorem headTy_1 {C M X:List Ty}(i:Nat):headTy C M X 1 i=C[i]?:=by rw[headTy,if_neg (by omega),if_neg (by decide),if_pos rfl];rfl
theorem headTy_2 {C M X:List Ty}(i:Nat):headTy C M X 2 i=M[i]?:=by rw[headTy,if_neg (by omega),if_neg (by decide),if_neg (by decide),if_pos rfl];rfl
theorem headTy_o {C M X:List Ty}{k i:Int}(h0:k≠0)(h1:k≠1)(h2:k≠2):headTy C M X k i=none:=by
 rw[headTy,if_neg h0,if_neg h1,if_neg h2];split <;> rfl
def tyZ:Ty:=.mk [] 0
theorem sl_at {G F:Nat→Prop}{w:World}{a:Option Addr}{n c:Nat}{l:List Ty}(h:IsSl2 rpTy G F w (.slice a n c) l)(j:Nat)(hj:j<l.length):∃ bl off A N C B,a=some ⟨bl,off,none⟩∧G bl ∧
  w.cell? ⟨bl,off+j * 2,none⟩=some (.slice A N C)∧w.cell? ⟨bl,off+j * 2+1,none⟩=some (.int .i64 B)∧IsTy F w (.slice A N C) (.int .i64 B) l[j]:=by
 obtain⟨a',c',bl,off,X,hv,_,ha,h1,h2⟩:=h
 cases hv
 obtain⟨ha,hG⟩:=ha (by omega)
 obtain⟨s,b,hx,ht⟩:=h2 j hj
 obtain⟨sa,sc,rfl,rfl⟩:=ht.shape
 exact⟨bl,off,_,_,_,_,ha,hG,h1 j 0 _ hj (by rw[hx];rfl),h1 j 1 _ hj (by rw[hx];rfl),ht⟩
mutual
def IsOf (C M:List Ty):Tm→List Ty→Ty→Prop
 | .mk b k i a,X,u=>b=u.args∧∃ h,headTy C M (X++b) k i=some h∧h.base=u.base∧IsOfs C M a (X++b) h.args
def IsOfs (C M:List Ty):List Tm→List Ty→List Ty→Prop
 | [],_,[]=>True
 | [],_,_ :: _=>False
 | _ :: _,_,[]=>False
 | t :: l,X,u :: l'=>IsOf C M t X u∧IsOfs C M l X l'
end
theorem isOf_mk {C M:List Ty}{b:List Ty}{k i:Int}{a:List Tm}{X:List Ty}{u:Ty}:IsOf C M (.mk b k i a) X u↔b=u.args∧∃ h,headTy C M (X++b) k i=some h∧h.base=u.base∧IsOfs C M a (X++b) h.args:=by rw[IsOf]
theorem isOfs_iff {C M:List Ty}{X:List Ty}:∀ {l:List Tm} {l':List Ty},IsOfs C M l X l'↔l'.length=l.length∧∀ i (h:i<l.length) (h':i<l'.length),IsOf C M l[i] X l'[i]
 | [],[]=>by simp[IsOfs]
 | [],_ :: _=>by simp[IsOfs]
 | _ :: _,[]=>by simp[IsOfs]
 | t :: l,u :: l'=>by
  rw[IsOfs,isOfs_iff]
  constructor
  ·rintro⟨h1,h2,h3⟩
   refine⟨by simp[h2],fun i h h'=>?_⟩
   cases i with
   | zero=>exact h1
   | succ i=>exact h3 i (by simpa using h) (by simpa using h')
  ·rintro⟨h1,h2⟩
   exact⟨h2 0 (by simp) (by simp),by simpa using h1,fun i h h'=>h2 (i+1) (by simpa using h) (by simpa using h')⟩
section
variable {C M:List Ty}
theorem headTy_ctx {X X':List Ty}{k i:Int}(hk:k≠0):headTy C M X k i=headTy C M X' k i:=by
 unfold headTy
 by_cases h:i<0
 ·rw[if_pos h,if_pos h]
 ·rw[if_neg h,if_neg h,if_neg hk,if_neg hk]
theorem rev_app (X W:List Ty)(n:Nat):(X++W).reverse[n]?=if n<W.length then W.reverse[n]? else X.reverse[n-W.length]?:=by
 rw[List.reverse_append,List.getElem?_append,List.length_reverse]
theorem isOfs_map {g:Tm→Tm}{X X':List Ty}:∀ {l:List Tm} {l':List Ty},IsOfs C M l X l'→(∀ t∈l,∀ u,IsOf C M t X u→IsOf C M (g t) X' u)→IsOfs C M (l.map g) X' l'
 | [],[],_,_=>by rw[List.map_nil,IsOfs];trivial
 | [],_ :: _,h,_=>by rw[IsOfs] at h;exact h.elim
 | _ :: _,[],h,_=>by rw[IsOfs] at h;exact h.elim
 | t :: l,u :: l',h,hg=>by
  rw[IsOfs] at h
  rw[List.map_cons,IsOfs]
  exact⟨hg t (by simp) u h.1,isOfs_map h.2 fun v hv=>hg v (by simp[hv])⟩
theorem isOfs_len {X:List Ty}{l:List Tm}{l':List Ty}(h:IsOfs C M l X l'):l'.length=l.length:=(isOfs_iff.1 h).1
theorem wr_id {x:Int}(h0:-9223372036854775808≤x)(h1:x≤9223372036854775807):Nm.wr x=x:=by
 show wrap64 x=x
 unfold wrap64;omega
theorem lift_isOf (t:Tm):∀ (X Y Z:List Ty) (u:Ty),(X.length:Int)+Y.length+Z.length+t.full≤9000000000000→IsOf C M t (X++Z) u→IsOf C M (Nm.lift Y.length t Z.length) (X++Y++Z) u:=by
 induction t using Tm.ind with
 | h b k i a ih=>
  intro X Y Z u hz ht
  rw[Tm.full_eq] at hz
  have hbl:=Ty.le_sizes b
  obtain⟨rfl,h,h1,h2,h3⟩:=isOf_mk.1 ht
  have hw:Nm.wr (Z.length+u.args.length)=((Z++u.args).length:Nat):=by rw[List.length_append,wr_id (by omega) (by omega)];simp
  rw[Nm.lift_eq,Nm.lifts_map,hw]
  clear hw
  refine isOf_mk.2 ⟨rfl,h,?_,h2,?_⟩
  ·by_cases hk:k=0
   ·subst hk
    by_cases hi:i<0
    ·rw[headTy_neg hi] at h1;cases h1
    ·obtain⟨n,rfl⟩:∃ n:Nat,i=n:=⟨i.toNat,by omega⟩
     rw[headTy_0,List.append_assoc,rev_app] at h1
     by_cases hn:n<(Z++u.args).length
     ·rw[if_neg (by rintro⟨_,h⟩;omega),headTy_0,List.append_assoc,rev_app,if_pos hn]
      rw[if_pos hn] at h1;exact h1
     ·rw[if_neg hn] at h1
      have hlt:n-(Z++u.args).length<X.length:=by
       have:=(List.getElem?_eq_some_iff.1 h1).1
       rwa [List.length_reverse] at this
      have hsum:(Z++u.args).length=Z.length+u.args.length:=List.length_append
      rw[if_pos ⟨rfl,by omega⟩,wr_id (by omega) (by omega),show (n:Int)+Y.length=((n+Y.length:Nat):Int) by omega,headTy_0,List.append_assoc,rev_app,if_neg (by omega),rev_app,if_neg (by omega)]
      rw[←h1]
      congr 1
      omega
   ·rw[if_neg (fun h=>hk h.1),headTy_ctx (X':=X++Z++u.args) hk];exact h1
  ·rw[List.append_assoc] at h3 ⊢
   exact isOfs_map h3 fun v hv w hw=>ih v hv X Y (Z++u.args) w (by
    have:=Tm.full_mem hv
    rw[List.length_append];omega) hw
theorem grown_isOf {t:Tm}{X Y:List Ty}{u:Ty}(hz:(X.length:Int)+Y.length+t.full≤9000000000000)(h:IsOf C M t X u):IsOf C M (Nm.grown t Y.length) (X++Y) u:=by
 unfold Nm.grown
 split
 ·rename_i h0
  have:Y=[]:=List.length_eq_zero_iff.1 (by omega)
  subst this
  rw[List.append_nil];exact h
 ·have:=lift_isOf t X Y [] u (by simp;omega) (by rw[List.append_nil];exact h)
  rw[List.append_nil] at this;exact this
end
namespace Nm
def Kp (s:St)(p:Tm×St)(Q:Tm→Prop):Prop:=(s.e≠1→p.2.e≠1)∧(p.2.e=0→s.e=0∧Q p.1)
theorem unit_false {s:St}(h:(unit s).1≠true):(unit s).2.e≠0∧(s.e≠1→(unit s).2.e≠1):=by
 have hb:(unit s).1=false:=by simpa using h
 have h2:∀ p,unit s=p→p.1=false→p.2.e≠0∧(s.e≠1→p.2.e≠1):=fun p hp h1=>by
  unfold unit at hp
  split at hp
  ·subst hp;exact⟨by assumption,fun h=>h⟩
  ·split at hp
   ·subst hp;exact⟨by show (2:Int)≠0;decide,fun _=>by show (2:Int)≠1;decide⟩
   ·generalize spend s=r at hp
    obtain⟨ok,s'⟩:=r
    cases ok
    ·subst hp;exact⟨by show (11:Int)≠0;decide,fun _=>by show (11:Int)≠1;decide⟩
    ·subst hp;cases h1
 exact h2 _ rfl hb
theorem fail_e {s:St}(h:s.e≠0):(fail s 1).e=s.e:=by unfold fail;rw[if_neg h]
variable {C M:List Ty} {B:Nat}
theorem seqM_keeps {f:Nat}{g:Tm→St→Tm×St}{X X':List Ty}:∀ (l:List Tm) (us:List Ty) (hg:∀ t∈l,∀ u s,WkOk s→Fu f s→IsOf C M t X u→Kp s (g t s) fun r=>IsOf C M r X' u) (hw:∀ t s,WkOk s→WkOk (g t s).2) (hc:∀ t s,s.count≤(g t s).2.count) (s:St),WkOk s→Fu f s →
  IsOfs C M l X us→(s.e≠1→(seqM g l s).2.e≠1)∧((seqM g l s).2.e=0→s.e=0∧IsOfs C M (seqM g l s).1 X' us)
 | [],[],_,_,_,s,_,_,_=>⟨fun h=>h,fun h=>⟨h,by rw[seqM,IsOfs];trivial⟩⟩
 | [],_ :: _,_,_,_,s,_,_,h=>by rw[IsOfs] at h;exact h.elim
 | _ :: _,[],_,_,_,s,_,_,h=>by rw[IsOfs] at h;exact h.elim
 | t :: l,u :: us,hg,hw,hc,s,hs,hf,h=>by
  rw[IsOfs] at h
  have h1:=hg t (by simp) u s hs hf h.1
  have h2:=seqM_keeps l us (fun v hv=>hg v (by simp[hv])) hw hc (g t s).2 (hw t s hs) (fun e=>by
   have:=hf (h1.2 e).1
   have:=hc t s
   omega) h.2
  refine⟨fun e=>h2.1 (h1.1 e),fun e=>?_⟩
  have h3:=h2.2 e
  have h4:=h1.2 h3.1
  exact⟨h4.1,by rw[seqM,IsOfs];exact⟨h4.2,h3.2⟩⟩
theorem bnd_aux {x p z b B K N s:Nat}(h:x+p+z+(K+(2 * B+2))≤N)(h1:b≤s)(h2:s≤B):x+p+(z+b)+K≤N:=by omega
set_option maxHeartbeats 4000000 in
theorem through_keeps (C M:List Ty)(B:Nat):∀ (f:Nat) (xs:List Tm) (n:Nat) (t:Tm) (ins:Int) (s:St) (X P Z:List Ty) (u:Ty),WkOk s→Fu f s→(∀ x∈xs,Bnd B x)→Bnd B t→(∀ x∈xs,x.full≤8000000000000)→B≤5000→xs.length≤P.length→n=P.length→ins=(Z.length:Nat) →
  X.length+P.length+Z.length+(2 * B+2) * f≤800000000→IsOfs C M xs X (P.take xs.length)→IsOf C M t (X++P++Z) u→Kp s (through f xs n t ins s) fun r=>IsOf C M r (X++P.drop xs.length++Z) u:=by
 intro f
 induction f with
 | zero=>
  intro xs n t ins s X P Z u hs hf _ _ _ _ _ _ _ _ _ _
  exact⟨fun h=>h,fun e=>by
   have e':s.e=0:=e
   have h1:=hf e'
   have h2:=hs.e0 e'
   omega⟩
 | succ f ih=>
  intro xs n t ins s X P Z u hs hf hx ht hxf hB hm hn hins hb hxt htt
  subst hn;subst hins
  unfold through
  dsimp only
  by_cases hu:(unit s).1=true
  rotate_left
  ·rw[if_neg hu]
   have h1:=unit_false hu
   exact⟨h1.2,fun e=>absurd e h1.1⟩
  rw[if_pos hu]
  obtain⟨u1,u2,u3⟩:=(unit_count s).2 hu
  have hw:=unit_wk hs
  have hf1:Fu f (unit s).2:=fun _=>by have:=hf u2;omega
  obtain⟨b,k,i,a⟩:=t
  obtain⟨t1,t2,t3⟩:=ht.inv
  obtain⟨hbu,h,hh,hbase,hargs⟩:=isOf_mk.1 htt
  have hbl:=Ty.le_sizes b
  have hmul:(2 * B+2) * (f+1)=(2 * B+2) * f+(2 * B+2):=by rw[Nat.mul_add];omega
  rw[hmul] at hb
  obtain⟨K,hK⟩:∃ K,(2 * B+2) * f=K:=⟨_,rfl⟩
  rw[hK] at hb
  have hZb:(Z++b).length=Z.length+b.length:=List.length_append
  have hwr:wr ((Z.length:Nat)+(Tm.mk b k i a).binds.length)=(((Z++b).length:Nat):Int):=by
   show wr ((Z.length:Nat)+(b.length:Nat))=_
   rw[wr_id (by omega) (by omega),hZb];omega
  rw[hwr]
  clear hwr
  show Kp s (hit (through f) xs P.length (.mk b k i a) ((Z++b).length:Nat) (seqM (fun a s=>through f xs P.length a ((Z++b).length:Nat) s) a (unit s).2).1 (seqM (fun a s=>through f xs P.length a ((Z++b).length:Nat) s) a (unit s).2).2) _
  have hassoc:X++P++Z++b=X++P++(Z++b):=List.append_assoc ..
  have hb2:X.length+P.length+(Z++b).length+(2 * B+2) * f≤800000000:=by rw[hK,hZb];exact bnd_aux hb hbl t1
  rw[hassoc] at hh hargs
  have hq:=seqM_keeps (C:=C) (M:=M) (f:=f) (g:=fun a s=>through f xs P.length a ((Z++b).length:Nat) s) (X:=X++P++(Z++b)) (X':=X++P.drop xs.length++(Z++b)) a h.args
   (fun v hv w s hs hf hw=>ih xs P.length v _ s X P (Z++b) w hs hf hx (t3 v hv) hxf hB hm rfl rfl hb2 hxt hw) (fun u s h=>through_wk f _ _ _ _ _ h) (fun u s=>through_count f _ _ _ _ _) (unit s).2 hw hf1 hargs
  have hgr:=seqM_grow (B:=B) (f:=f) (g:=fun a s=>through f xs P.length a ((Z++b).length:Nat) s) a (fun u hu s hs hf=>through_grow B f xs P.length u _ s hs hf hx (t3 u hu)) (fun u s h=>through_wk f _ _ _ _ _ h) (fun u s=>through_count f _ _ _ _ _) (unit s).2 hw hf1
  have hqw:=seqM_wk (g:=fun a s=>through f xs P.length a ((Z++b).length:Nat) s) (fun u s h=>through_wk f _ _ _ _ _ h) a _ hw
  have hqc:=seqM_count (g:=fun a s=>through f xs P.length a ((Z++b).length:Nat) s) (fun u s=>through_count f _ _ _ _ _) a (unit s).2
  have hql:=seqM_length (fun a s=>through f xs P.length a ((Z++b).length:Nat) s) a (unit s).2
  generalize seqM (fun a s=>through f xs P.length a ((Z++b).length:Nat) s) a (unit s).2=q at hq hgr hqw hqc hql ⊢
  have hq1:s.e≠1→q.2.e≠1:=fun _=>hq.1 (by omega)
  have stays:∀ i':Int,headTy C M (X++P.drop xs.length++(Z++b)) k i'=some h→Kp s (.mk b k i' q.1,q.2) fun r=>IsOf C M r (X++P.drop xs.length++Z) u:=fun i' hi'=>
   ⟨hq1,fun e=>⟨u2,isOf_mk.2 ⟨hbu,h,by rw[List.append_assoc];exact hi',hbase,by rw[List.append_assoc];exact(hq.2 e).2⟩⟩⟩
  unfold hit
  have hdl:(P.drop xs.length).length=P.length-xs.length:=List.length_drop
  show Kp s (if k≠0∨i<(((Z++b).length:Nat):Int) then _ else _) _
  by_cases hc1:k≠0∨i<(((Z++b).length:Nat):Int)
  ·rw[if_pos hc1]
   refine stays i ?_
   by_cases hk:k=0
   ·subst hk
    have hi:i<(((Z++b).length:Nat):Int):=by rcases hc1 with h | h;exact absurd rfl h;exact h
    by_cases h0:i<0
    ·rw[headTy_neg h0] at hh;cases hh
    ·obtain⟨n,rfl⟩:∃ n:Nat,i=n:=⟨i.toNat,by omega⟩
     rw[headTy_0,rev_app,if_pos (by omega)] at hh ⊢;exact hh
   ·rw[headTy_ctx (X':=X++P++(Z++b)) hk];exact hh
  ·rw[if_neg hc1]
   have hk:k=0:=by
    by_cases h:k=0
    ·exact h
    ·exact absurd (.inl h) hc1
   have hi:(((Z++b).length:Nat):Int)≤i:=by
    by_cases h:i<(((Z++b).length:Nat):Int)
    ·exact absurd (.inr h) hc1
    ·omega
   subst hk
   obtain⟨n,rfl⟩:∃ n:Nat,i=n:=⟨i.toNat,by omega⟩
   obtain⟨d,hd⟩:∃ d,n=(Z++b).length+d:=⟨n-(Z++b).length,by omega⟩
   rw[headTy_0,rev_app,if_neg (by omega),show n-(Z++b).length=d by omega,rev_app] at hh
   have hdlt:d<X.length+P.length:=by
    by_cases hdp:d<P.length
    ·omega
    ·rw[if_neg hdp] at hh
     have:=(List.getElem?_eq_some_iff.1 hh).1
     rw[List.length_reverse] at this;omega
   have hwd:wr ((Tm.mk b 0 (n:Int) a).index-(((Z++b).length:Nat):Int))=(d:Int):=by
    show wr ((n:Int)-(((Z++b).length:Nat):Int))=_
    rw[wr_id (by omega) (by omega)];omega
   dsimp only
   rw[hwd]
   clear hwd
   by_cases hc2:(d:Int)<(P.length:Int)-xs.length
   ·rw[if_pos hc2]
    refine stays n ?_
    rw[headTy_0,rev_app,if_neg (by omega),show n-(Z++b).length=d by omega,rev_app,if_pos (by omega)]
    rw[if_pos (by omega)] at hh
    have e1:P=P.take xs.length++P.drop xs.length:=(List.take_append_drop ..).symm
    rw[e1,rev_app,if_pos (by omega)] at hh
    exact hh
   ·rw[if_neg hc2]
    by_cases hc3:(P.length:Int)≤(d:Int)
    ·rw[if_pos hc3]
     have hwn:wr ((Tm.mk b 0 (n:Int) a).index-xs.length)=((n-xs.length:Nat):Int):=by
      show wr ((n:Int)-xs.length)=_
      rw[wr_id (by omega) (by omega)];omega
     rw[hwn]
     clear hwn
     refine stays _ ?_
     rw[if_neg (by omega)] at hh
     rw[headTy_0,rev_app,if_neg (by omega),rev_app,if_neg (by omega),←hh]
     congr 1
     omega
    ·rw[if_neg hc3]
     rw[if_pos (by omega)] at hh
     obtain⟨j,hj⟩:∃ j,j=P.length-1-d:=⟨_,rfl⟩
     have hjm:j<xs.length:=by omega
     have hjP:j<P.length:=by omega
     have hPj:P[j]=h:=by
      rw[List.getElem?_reverse (by omega),←hj,List.getElem?_eq_getElem hjP] at hh
      exact Option.some.inj hh
     have hgd:xs.getD ((P.length:Int)-1-(d:Int)).toNat tz=xs[j]:=by
      rw[show ((P.length:Int)-1-(d:Int)).toNat=j by omega,List.getD_eq_getElem?_getD,List.getElem?_eq_getElem hjm];rfl
     have hxj:IsOf C M xs[j] X h:=by
      have h1:=(isOfs_iff.1 hxt).2 j hjm (by rw[List.length_take];omega)
      rw[List.getElem_take,hPj] at h1;exact h1
     have hYl:(P.drop xs.length++(Z++b)).length=P.length-xs.length+(Z++b).length:=by rw[List.length_append,hdl]
     have hwg:wr (wr ((((Z++b).length:Nat):Int)+P.length)-xs.length)=((P.drop xs.length++(Z++b)).length:Nat):=by
      rw[wr_id (x:=(((Z++b).length:Nat):Int)+P.length) (by omega) (by omega),wr_id (by omega) (by omega),hYl];omega
     rw[hgd,hwg]
     clear hgd hwg
     have hxm:xs[j]∈xs:=List.getElem_mem hjm
     have hu1:=grown_isOf (Y:=P.drop xs.length++(Z++b)) (by have:=hxf _ hxm;omega) hxj
     have hub:=(hx _ hxm).grown ((P.drop xs.length++(Z++b)).length:Nat)
     generalize grown xs[j] ((P.drop xs.length++(Z++b)).length:Nat)=v at hu1 hub ⊢
     obtain⟨vb,vk,vi,va⟩:=v
     obtain⟨v1,v2,v3⟩:=hub.inv
     obtain⟨hvb,h',hvh,hvbase,hvargs⟩:=isOf_mk.1 hu1
     have hal:=isOfs_len hargs
     have hvl:=Ty.le_sizes vb
     have hlen:vb.length=q.1.length:=by rw[hvb,hal,hql]
     show Kp s (if vb.length≠q.1.length then _ else _) _
     rw[if_neg (fun h=>h hlen)]
     unfold putW
     dsimp only
     by_cases hqe:q.2.e=0
     rotate_left
     ·rw[if_pos (.inl hqe)]
      refine⟨fun e=>?_,fun e=>?_⟩
      ·show (fail q.2 1).e≠1
       rw[fail_e hqe];exact hq1 e
      ·have e':(fail q.2 1).e=0:=e
       rw[fail_e hqe] at e';exact absurd e' hqe
     rw[if_neg (show ¬ (q.2.e≠0∨q.1.length>(Tm.mk vb vk vi va).binds.length) from fun h=>h.elim (fun h=>h hqe) fun h=>by have h':q.1.length>vb.length:=h;omega)]
     have hqa:=(hq.2 hqe).2
     have hqg:=hgr hqe
     have hX':X++(P.drop xs.length++(Z++b))=X++P.drop xs.length++(Z++b):=(List.append_assoc ..).symm
     rw[hX'] at hvh hvargs
     have hXl:(X++P.drop xs.length++(Z++b)).length=X.length+(P.length-xs.length)+(Z++b).length:=by rw[List.length_append,List.length_append,hdl]
     have hi2:=ih q.1 vb.length (.mk [] vk vi va) 0 q.2 (X++P.drop xs.length++(Z++b)) vb [] (.mk [] h.base) hqw (fun _=>by have:=hf1 u3;omega) hqg.2.2 (.mk _ _ _ _ (by simp[Ty.sizes]) v2 v3)
      (fun x hx=>by
       have h1:=Bnd.full x (hqg.2.2 x hx)
       have h2:x.size≤1000000000:=by
        have:=Tm.size_mem hx
        have:=hqg.2.1
        have:=hw.left.2
        have:=hqw.left.1
        omega
       have h3:x.size * (B+1)≤1000000000 * 5001:=Nat.mul_le_mul h2 (by omega)
       omega) hB (by omega) rfl rfl (by rw[hXl];simp only[List.length_nil];omega) (by rw[List.take_of_length_le (by omega),hvb];exact hqa)
      (by rw[List.append_nil];exact isOf_mk.2 ⟨rfl,h',by rw[List.append_nil];exact hvh,hvbase,by rw[List.append_nil];exact hvargs⟩)
     have hdr:vb.drop q.1.length=[]:=List.drop_of_length_le (by omega)
     rw[hdr,List.append_nil,List.append_nil] at hi2
     show Kp s (Tm.mk b (through f q.1 vb.length (.mk [] vk vi va) 0 q.2).1.kind (through f q.1 vb.length (.mk [] vk vi va) 0 q.2).1.index (through f q.1 vb.length (.mk [] vk vi va) 0 q.2).1.args,(through f q.1 vb.length (.mk [] vk vi va) 0 q.2).2) _
     generalize through f q.1 vb.length (.mk [] vk vi va) 0 q.2=r at hi2 ⊢
     obtain⟨⟨rb,rk,ri,ra⟩,rs⟩:=r
     refine⟨fun e=>hi2.1 (hq1 e),fun e=>⟨u2,?_⟩⟩
     obtain⟨hrb,h2,hrh,hrbase,hrargs⟩:=isOf_mk.1 (hi2.2 e).2
     have hrb:rb=[]:=hrb
     subst hrb
     rw[List.append_nil] at hrh hrargs
     exact isOf_mk.2 ⟨hbu,h2,by rw[List.append_assoc];exact hrh,hrbase.trans hbase,by rw[List.append_assoc];exact hrargs⟩
end Nm
namespace Sb
variable {C M:List Ty} {B:Nat}
theorem put_keeps {v:Tm}{xs:List Tm}{X:List Ty}{h:Ty}{left:Int}{dry:Bool}(h0:0≤left∧left≤1000000000)(hB:B≤1000)(hv:Bnd B v)(hx:∀ x∈xs,Bnd B x)(hxf:∀ x∈xs,x.full≤8000000000000)(hX:X.length≤500000000) 
  (hvt:IsOf C M v X h) (hxt:IsOfs C M xs X h.args) :
  (Nm.put 100001 v xs ⟨left,dry,0,0⟩).2.e≠1∧((Nm.put 100001 v xs ⟨left,dry,0,0⟩).2.e=0→IsOf C M (.mk [] (Nm.put 100001 v xs ⟨left,dry,0,0⟩).1.kind (Nm.put 100001 v xs ⟨left,dry,0,0⟩).1.index (Nm.put 100001 v xs ⟨left,dry,0,0⟩).1.args) X (.mk [] h.base)):=by
 have hw:WkOk ⟨left,dry,0,0⟩:=⟨h0,⟨Int.le_refl 0,(by decide:(0:Int)≤100001)⟩,fun _=>(by decide:(0:Int)≤100000)⟩
 obtain⟨vb,vk,vi,va⟩:=v
 obtain⟨v1,v2,v3⟩:=hv.inv
 obtain⟨rfl,h',hh,hb,ha⟩:=isOf_mk.1 hvt
 have hl:=isOfs_len hxt
 have hvl:=Ty.le_sizes h.args
 have hm:(2 * B+2) * 100001≤2002 * 100001:=Nat.mul_le_mul_right _ (by omega)
 have hk:=Nm.through_keeps C M B 100001 xs h.args.length (.mk [] vk vi va) 0 ⟨left,dry,0,0⟩ X h.args [] (.mk [] h.base) hw (fun _=>by show (100001:Int)-0≤((100001:Nat):Int);decide) hx (.mk _ _ _ _ (by simp[Ty.sizes]) v2 v3) hxf (by omega) (by omega) rfl rfl (by simp only[List.length_nil];omega)
  (by rw[List.take_of_length_le (by omega)];exact hxt) (by rw[List.append_nil];exact isOf_mk.2 ⟨rfl,h',by rw[List.append_nil];exact hh,hb,by rw[List.append_nil];exact ha⟩)
 rw[List.drop_of_length_le (by omega),List.append_nil,List.append_nil] at hk
 unfold Nm.put Nm.putW
 rw[if_neg (by rintro(h9 | h9);exact h9 rfl;exact absurd h9 (by show ¬ xs.length>h.args.length;omega))]
 dsimp only
 show (Nm.through 100001 xs h.args.length (.mk [] vk vi va) 0 ⟨left,dry,0,0⟩).2.e≠1∧_
 refine⟨hk.1 (by show (0:Int)≠1;decide),fun e=>?_⟩
 have h2:=(hk.2 e).2
 show IsOf C M (.mk [] (Nm.through 100001 xs h.args.length (.mk [] vk vi va) 0 ⟨left,dry,0,0⟩).1.kind (Nm.through 100001 xs h.args.length (.mk [] vk vi va) 0 ⟨left,dry,0,0⟩).1.index (Nm.through 100001 xs h.args.length (.mk [] vk vi va) 0 ⟨left,dry,0,0⟩).1.args) X (.mk [] h.base)
 generalize (Nm.through 100001 xs h.args.length (.mk [] vk vi va) 0 ⟨left,dry,0,0⟩).1=r at h2 ⊢
 obtain⟨rb,rk,ri,ra⟩:=r
 obtain⟨e1,hr⟩:=isOf_mk.1 h2
 have e1:rb=[]:=e1
 subst e1
 exact h2
theorem Put_keeps {v:Tm}{xs:List Tm}{X:List Ty}{h:Ty}{left:Int}{dry:Bool}(h0:0≤left∧left≤1000000000)(hB:B≤1000)(hv:Bnd B v)(hx:∀ x∈xs,Bnd B x)(hxf:∀ x∈xs,x.full≤8000000000000)(hX:X.length≤500000000) 
  (hvt:IsOf C M v X h) (hxt:IsOfs C M xs X h.args) :
  (Nm.Put v xs left dry).2.e≠1∧((Nm.Put v xs left dry).2.e=0→IsOf C M (.mk [] (Nm.Put v xs left dry).1.kind (Nm.Put v xs left dry).1.index (Nm.Put v xs left dry).1.args) X (.mk [] h.base)):=by
 have h1:=put_keeps (dry:=dry) h0 hB hv hx hxf hX hvt hxt
 unfold Nm.Put Nm.done
 dsimp only
 generalize Nm.put 100001 v xs ⟨left,dry,0,0⟩=p at h1
 by_cases hc:p.2.e=0∧¬ (p.1.size≤5000∧p.1.depth≤60)
 ·rw[if_pos hc]
  have hf:(Nm.fail p.2 2).e=2:=by unfold Nm.fail;rw[if_pos hc.1]
  rw[if_pos (by rw[hf];decide)]
  refine⟨by rw[hf];decide,fun e=>?_⟩
  rw[hf] at e;cases e
 ·rw[if_neg hc]
  by_cases hp:p.2.e=0
  ·rw[if_neg (fun h=>h hp)]
   exact h1
  ·rw[if_pos hp]
   exact⟨h1.1,fun e=>absurd e hp⟩
theorem find_at {l:List (Int×Tm)}{i:Int}{u:Tm}(h:find l i=some u):∃ p∈l,p.2=u∧p.1=i:=by
 unfold find at h
 cases hf:l.find? (fun p=>p.1==i) with
 | none=>rw[hf] at h;cases h
 | some p=>
  rw[hf] at h;cases h
  have:=List.find?_some hf
  exact⟨p,List.mem_of_find?_eq_some hf,rfl,by simpa using this⟩
theorem seq_keeps {g:Tm→Nm.St→Tm×Nm.St}{X X':List Ty}:∀ (a:List Tm) (us:List Ty) (hg:∀ t∈a,∀ u s,InR s→IsOf C M t X u→Nm.Kp s (g t s) fun r=>IsOf C M r X' u) (hi:∀ t∈a,∀ s,InR s→InR (g t s).2) (s:Nm.St),InR s →
  IsOfs C M a X us→(s.e≠1→(Nm.seqM g a s).2.e≠1)∧((Nm.seqM g a s).2.e=0→s.e=0∧IsOfs C M (Nm.seqM g a s).1 X' us)
 | [],[],_,_,s,_,_=>⟨fun h=>h,fun h=>⟨h,by rw[Nm.seqM,IsOfs];trivial⟩⟩
 | [],_ :: _,_,_,s,_,h=>by rw[IsOfs] at h;exact h.elim
 | _ :: _,[],_,_,s,_,h=>by rw[IsOfs] at h;exact h.elim
 | t :: a,u :: us,hg,hi,s,hs,h=>by
  rw[IsOfs] at h
  have h1:=hg t (by simp) u s hs h.1
  have h2:=seq_keeps a us (fun v hv=>hg v (by simp[hv])) (fun v hv=>hi v (by simp[hv])) (g t s).2 (hi t (by simp) s hs) h.2
  refine⟨fun e=>h2.1 (h1.1 e),fun e=>?_⟩
  have h3:=h2.2 e
  have h4:=h1.2 h3.1
  exact⟨h4.1,by rw[Nm.seqM,IsOfs];exact⟨h4.2,h3.2⟩⟩
theorem replaced_eq (b:List Ty)(k i:Int)(a:List Tm)(v:Tm)(s:Nm.St):replaced (.mk b k i a) v s=if v.binds.length≠a.length then (Nm.tz,{ s with e:=1 })
  else if (Nm.Put v a s.left s.dry).2.e≠0 then (Nm.tz,{ s with left:=(Nm.Put v a s.left s.dry).2.left,dry:=(Nm.Put v a s.left s.dry).2.dry,e:=(Nm.Put v a s.left s.dry).2.e })
  else (.mk b (Nm.Put v a s.left s.dry).1.kind (Nm.Put v a s.left s.dry).1.index (Nm.Put v a s.left s.dry).1.args,{ s with left:=(Nm.Put v a s.left s.dry).2.left,dry:=(Nm.Put v a s.left s.dry).2.dry }):=rfl
theorem keeps (hB:B≤1000)(l:List (Int×Tm))(X0:List Ty)(hl:∀ p∈l,(∃ h,headTy C M X0 2 p.1=some h∧IsOf C M p.2 X0 h)∧Bnd B p.2∧p.2.full≤1000000):
  ∀ (t:Tm) (Z:List Ty) (u:Ty),IsOf C M t (X0++Z) u→Bnd B t→X0.length+Z.length+t.full≤100000000→∀ s,InR s→Nm.Kp s (through l t (Z.length:Nat) s) fun r=>IsOf C M r (X0++Z) u:=by
 intro t
 induction t using Tm.ind with
 | h b k i a ih=>
  intro Z u ht hbn hz s hs
  obtain⟨hbu,h,hh,hbase,hargs⟩:=isOf_mk.1 ht
  obtain⟨t1,t2,t3⟩:=hbn.inv
  have hbl:=Ty.le_sizes b
  rw[Tm.full_eq] at hz
  have hZb:(Z++b).length=Z.length+b.length:=List.length_append
  have hwr:Nm.wr ((Z.length:Nat)+b.length)=(((Z++b).length:Nat):Int):=by rw[wr_id (by omega) (by omega),hZb];omega
  rw[through]
  dsimp only
  rw[hwr]
  clear hwr
  by_cases he:s.e=0
  rotate_left
  ·rw[if_pos he];exact⟨fun h=>h,fun e=>absurd e he⟩
  rw[if_neg (fun h=>h he)]
  by_cases hsp:(Nm.spend s).1=true
  rotate_left
  ·rw[if_pos (by simpa using hsp)]
   exact⟨fun _=>by show (11:Int)≠1;decide,fun e=>by cases e⟩
  rw[if_neg (by rw[hsp];simp)]
  obtain⟨s1,s2⟩:=spend_ok hsp
  have hin:=spend_in hs
  rw[throughs_seq]
  rw[List.append_assoc] at hh hargs
  have hq:=seq_keeps (C:=C) (M:=M) (g:=fun t s=>through l t ((Z++b).length:Nat) s) (X:=X0++(Z++b)) (X':=X0++(Z++b)) a h.args
   (fun v hv w s hs hw=>ih v hv (Z++b) w hw (t3 v hv) (by have:=Tm.full_mem hv;omega) s hs) (fun v hv s hs=>through_in l v _ s hs) (Nm.spend s).2 hin hargs
  have hgr:=seq_grow (B:=B) (g:=fun t s=>through l t ((Z++b).length:Nat) s) a (fun v hv s hs=>grow l (fun p hp=>(hl p hp).2.1) v (t3 v hv) _ s hs) (fun v hv s hs=>through_in l v _ s hs) (Nm.spend s).2 hin
  have hqi:=seqM_in (g:=fun t s=>through l t ((Z++b).length:Nat) s) a (fun v hv s hs=>through_in l v _ s hs) _ hin
  have hql:=Nm.seqM_length (fun t s=>through l t ((Z++b).length:Nat) s) a (Nm.spend s).2
  generalize Nm.seqM (fun t s=>through l t ((Z++b).length:Nat) s) a (Nm.spend s).2=q at hq hgr hqi hql ⊢
  have hq1:q.2.e≠1:=hq.1 (by omega)
  have stays:Nm.Kp s (.mk b k i q.1,q.2) fun r=>IsOf C M r (X0++Z) u:=
   ⟨fun _=>hq1,fun e=>⟨he,isOf_mk.2 ⟨hbu,h,by rw[List.append_assoc];exact hh,hbase,by rw[List.append_assoc];exact(hq.2 e).2⟩⟩⟩
  by_cases hk:k≠2∨q.2.e≠0
  ·rw[if_pos hk];exact stays
  rw[if_neg hk]
  have hk2:k=2:=by
   by_cases h:k=2
   ·exact h
   ·exact absurd (.inl h) hk
  have hqe:q.2.e=0:=by
   by_cases h:q.2.e=0
   ·exact h
   ·exact absurd (.inr h) hk
  subst hk2
  cases hfi:find l i with
  | none=>exact stays
  | some v=>
   obtain⟨p,hp,rfl,rfl⟩:=find_at hfi
   obtain⟨⟨h',hh',hvt⟩,hvb,hvf⟩:=hl p hp
   have hsame:h'=h:=by
    rw[headTy_ctx (X':=X0++(Z++b)) (by decide),hh] at hh'
    exact(Option.some.inj hh').symm
   subst hsame
   have hlt:=lift_isOf p.2 X0 (Z++b) [] h' (by simp only[List.length_nil];omega) (by rw[List.append_nil];exact hvt)
   rw[List.append_nil] at hlt
   have hlb:Bnd B (Nm.lift ((Z++b).length:Nat) p.2 0):=Bnd.lift _ _ _ hvb
   have hqa:=(hq.2 hqe).2
   have hqg:=hgr hqe
   have hfull:∀ x∈q.1,x.full≤8000000000000:=fun x hx=>by
    have h1:=Bnd.full x (hqg.2.2 x hx)
    have h2:x.size≤1000000000:=by
     have:=Tm.size_mem hx
     have:=hqg.2.1
     have:=hin.2
     have:=hqi.1
     omega
    have h3:x.size * (B+1)≤1000000000 * 1001:=Nat.mul_le_mul h2 (by omega)
    omega
   have hPk:=Put_keeps (dry:=q.2.dry) (left:=q.2.left) hqi hB hlb hqg.2.2 hfull (by rw[List.length_append];omega) hlt hqa
   have hbl2:(Nm.lift ((Z++b).length:Nat) p.2 0).binds=h'.args:=by
    generalize Nm.lift ((Z++b).length:Nat) p.2 0=v at hlt
    obtain⟨vb,vk,vi,va⟩:=v
    exact(isOf_mk.1 hlt).1
   have hal:=isOfs_len hargs
   show Nm.Kp s (replaced (.mk b 2 p.1 q.1) (Nm.lift ((Z++b).length:Nat) p.2 0) q.2) _
   rw[replaced_eq,if_neg (fun hne=>hne (by rw[hbl2,hal,hql]))]
   generalize Nm.Put (Nm.lift ((Z++b).length:Nat) p.2 0) q.1 q.2.left q.2.dry=r at hPk ⊢
   by_cases hr:r.2.e=0
   ·rw[if_neg (fun h=>h hr)]
    refine⟨fun _=>hq1,fun _=>⟨he,?_⟩⟩
    obtain⟨_,h2,hrh,hrbase,hrargs⟩:=isOf_mk.1 (hPk.2 hr)
    rw[List.append_nil] at hrh hrargs
    exact isOf_mk.2 ⟨hbu,h2,by rw[List.append_assoc];exact hrh,hrbase.trans hbase,by rw[List.append_assoc];exact hrargs⟩
   ·rw[if_pos hr]
    exact⟨fun _=>hPk.1,fun e=>absurd e hr⟩
end Sb
namespace Ru
def ix (m:Int):List Int→Nat
 | []=>0
 | x :: l=>if x=m then 0 else ix m l+1
def met (o:List Int)(m:Int):List Int:=if m∈o then o else o++[m]
mutual
def tr:Tm→List Int→List Int×Tm
 | .mk b k i a,o=>((trs a (if k=2 then met o i else o)).1,.mk b k (if k=2 then (ix i o:Int) else i) (trs a (if k=2 then met o i else o)).2)
def trs:List Tm→List Int→List Int×List Tm
 | [],o=>(o,[])
 | t :: l,o=>((trs l (tr t o).1).1,(tr t o).2 :: (trs l (tr t o).1).2)
end
def eN:List Int→Nat→List (Int×D)
 | [],_=>[]
 | x :: l,n=>(x,.v (.int .i64 ((n:Nat):Int))) :: eN l (n+1)
@[simp] theorem eN_ok (f g:Nat→Bool):∀ (o:List Int) (n:Nat),D.okm f g (eN o n)=true
 | [],_=>by simp[eN,D.okm]
 | x :: l,n=>by simp[eN,D.okm,D.ok,eN_ok f g l (n+1)]
end Ru
def TRB_106:TI:=⟨2,true,[Value.slice none 0 0,Value.int IntKind.i64 0],[(0,1,false),(1,1,false)],none,32,6,none,false⟩
theorem TRB_106_ok:TypOk Tryz.prog 106 TRB_106:=by constructor <;> kernel_rfl
def TRB_41:TI:=⟨1,false,[Value.slice none 0 0],[],some 106,24,5,none,false⟩
theorem TRB_41_ok:TypOk Tryz.prog 41 TRB_41:=by constructor <;> kernel_rfl
def TRB_64:TI:=⟨9,true,[Value.slice none 0 0,Value.int IntKind.i64 0,Value.int IntKind.i64 0,Value.slice none 0 0,Value.slice none 0 0,Value.int IntKind.i64 0,Value.int IntKind.i64 0,Value.slice none 0 0,Value.slice none 0 0],[(0,4,true),(4,4,true),(8,1,false)],none,152,6,none,false⟩
theorem TRB_64_ok:TypOk Tryz.prog 64 TRB_64:=by constructor <;> kernel_rfl
def TRB_62:TI:=⟨4,true,[Value.slice none 0 0,Value.int IntKind.i64 0,Value.int IntKind.i64 0,Value.slice none 0 0],[(0,1,false),(1,2,true),(3,1,false)],none,64,6,none,false⟩
theorem TRB_62_ok:TypOk Tryz.prog 62 TRB_62:=by constructor <;> kernel_rfl
def TRB_3:TI:=⟨1,false,[Value.int IntKind.i64 0],[],none,8,2,none,false⟩
theorem TRB_3_ok:TypOk Tryz.prog 3 TRB_3:=by constructor <;> kernel_rfl
def TRB_143:TI:=⟨1,false,[Value.nilFunc],[],none,8,8,none,false⟩
theorem TRB_143_ok:TypOk Tryz.prog 143 TRB_143:=by constructor <;> kernel_rfl
def TRB:List (Nat×TI):=[(106,TRB_106),(41,TRB_41),(64,TRB_64),(62,TRB_62),(3,TRB_3),(143,TRB_143)]
theorem TRB_ok:TabOk Tryz.prog TRB:=(((((((TabOk.nil _).cons TRB_143_ok).cons TRB_3_ok).cons TRB_62_ok).cons TRB_64_ok).cons TRB_41_ok).cons TRB_106_ok)
namespace Ru
open Li (Pr)
def bad (M:List Ty)(x:Int):Bool:=decide (x<0∨(M.length:Int)≤x)
def mt (M:List Ty)(x:Int):Ty:=M.getD x.toNat (.mk [] 0)
def own (p:Pr):Pr×Int:=
 if (tr p.r (tr p.l []).1).1.any (bad p.m) then (.z,10) else (⟨(tr p.l []).2,(tr p.r (tr p.l []).1).2,(tr p.r (tr p.l []).1).1.map (mt p.m)⟩,0)
end Ru
theorem ruequal_d (p q:Li.Pr):PureC Tryz.prog 52 [.ag (ePr p),.ag (ePr q)] (.v (.bool (decide (p=q)))):=by
 obtain⟨L,R,M⟩:=p
 obtain⟨L',R',M'⟩:=q
 have c1:=equal2_d L L'
 have c2:=equal2_d R R'
 have c3:=eqTys_d M M' 67 rfl
 have e:decide ((⟨L,R,M⟩:Li.Pr)=⟨L',R',M'⟩)=((decide (L=L')&&decide (R=R'))&&decide (M=M')):=by
  rw[Bool.eq_iff_iff];simp[and_assoc]
 rw[e]
 rw[eTm_eq L,eTm_eq L'] at c1
 rw[eTm_eq R,eTm_eq R'] at c2
 rw[ePr_eq,ePr_eq]
 cases hA:decide (L=L') with
 | false=>
  rw[hA] at c1
  rw[Bool.false_and,Bool.false_and]
  refine calldw 0 24 [ResultVar.tmp 4] TRB_ok Tryz.func52 rfl Tryz.ntmps52 rfl fun cx hnt hn0=>?_
  ·skip
   refine dw_seq ?_;refine dwk [] TRB_ok hnt fun _ z9=>z9 _ _ ?_;refine dw_seq ?_;refine dwk [] TRB_ok hnt fun K hK=>?_;refine dcl (c1) ?_;refine hK _ _ ?_;clear hK K;refine dw_ret ?_
   exact reta rfl
 | true=>
  rw[hA] at c1
  cases hB:decide (R=R') with
  | false=>
   rw[hB] at c2
   rw[Bool.and_false,Bool.false_and]
   refine calldw 0 24 [ResultVar.tmp 4] TRB_ok Tryz.func52 rfl Tryz.ntmps52 rfl fun cx hnt hn0=>?_
   ·skip
    refine dw_seq ?_;refine dwk [] TRB_ok hnt fun _ z9=>z9 _ _ ?_;refine dw_seq ?_;refine dwk [] TRB_ok hnt fun K hK=>?_;refine dcl (c1) ?_;refine dcl (c2) ?_;refine hK _ _ ?_;clear hK K;refine dw_ret ?_
    exact reta rfl
  | true=>
   rw[hB] at c2
   rw[Bool.and_true,Bool.true_and]
   refine calldw 0 24 [ResultVar.tmp 4] TRB_ok Tryz.func52 rfl Tryz.ntmps52 rfl fun cx hnt hn0=>?_
   ·skip
    refine dw_seq ?_;refine dwk [] TRB_ok hnt fun _ z9=>z9 _ _ ?_;refine dw_seq ?_;refine dwk [] TRB_ok hnt fun K hK=>?_;refine dcl (c1) ?_;refine dcl (c2) ?_;refine dcl (c3) ?_;refine hK _ _ ?_;clear hK K;refine dw_ret ?_
    exact reta rfl
namespace Ru
end Ru
namespace Ru
/-! renamed -/
mutual
def rn (l:List Int):Tm→Tm
 | .mk b k i a=>.mk b k (if k=2∧i∈l then (ix i l:Int) else i) (rns l a)
def rns (l:List Int):List Tm→List Tm
 | []=>[]
 | t :: r=>rn l t :: rns l r
end
end Ru
namespace Ru
end Ru
namespace Ru
def cur (l:List Int)(i:Int)(j:Nat):Int:=if i∈l.take j then (ix i l:Int) else i
end Ru
section
variable {P:Program} {T:List (Nat×TI)} {cx:Cx} {Fr:Nat→Prop} {m:Mp} {Im:Nat→Nat→Prop} {w w':World} {a:Act} {σ σ':List (Key×D)}
theorem St.drew (h:St cx Fr m Im w a σ):St cx Fr m Im w.drew a σ:=h.below0 (Below.refl _ _).drew
end
section
variable {P:Program} {T:List (Nat×TI)} {cx:Cx} {m:Mp} {Im:Nat→Nat→Prop} {w:World} {a:Act} {σ:List (Key×D)} {ops:Array Oper} {Q:Exit→Act→World→Prop}
end
def ePP (p:Tm×Tm):List D:=eTm p.1++eTm p.2
def ePPs (l:List (Tm×Tm)):List (List D):=l.map ePP
theorem ePP_eq (p:Tm×Tm):ePP p=[.sl 2 (eTys p.1.binds) none,.v (.int .i64 p.1.kind),.v (.int .i64 p.1.index),.sl 4 (eTms p.1.args) none,.sl 2 (eTys p.2.binds) none,.v (.int .i64 p.2.kind),.v (.int .i64 p.2.index),.sl 4 (eTms p.2.args) none]:=by unfold ePP;rw[eTm_eq,eTm_eq];rfl
@[simp] theorem ePPs_ok (f g:Nat→Bool) (l:List (Tm×Tm)):D.okss f g (ePPs l)=true:=D.okss_map _ l fun p _=>by simp[ePP_eq,D.oks,D.ok,eTms_ok,eTys_ok]
namespace Pn
end Pn
/-! the examples -/
def mb (i:Int):Tm:=.mk [] 0 i []
def mc (i:Int)(l:List Tm):Tm:=.mk [] 1 i l
theorem ePairs_take (l:List (Int×Tm))(j:Nat)(h:j<l.length):ePairs (l.take (j+1))=ePairs (l.take j)++[ePair l[j]]:=by
 unfold ePairs;rw[List.take_succ_eq_append_getElem h,List.map_append];rfl
def TL10_3:TI:=⟨1,false,[Value.int IntKind.i64 0],[],none,8,2,none,false⟩
theorem TL10_3_ok:TypOk Tryz.prog 3 TL10_3:=by constructor <;> kernel_rfl
def TL10_72:TI:=⟨1,false,[Value.slice none 0 0],[],some 130,24,5,none,false⟩
theorem TL10_72_ok:TypOk Tryz.prog 72 TL10_72:=by constructor <;> kernel_rfl
def TL10_130:TI:=⟨5,true,[Value.int IntKind.i64 0,Value.slice none 0 0,Value.int IntKind.i64 0,Value.int IntKind.i64 0,Value.slice none 0 0],[(0,1,false),(1,4,true)],none,72,6,none,false⟩
theorem TL10_130_ok:TypOk Tryz.prog 130 TL10_130:=by constructor <;> kernel_rfl
def TL10_31:TI:=⟨4,true,[Value.slice none 0 0,Value.int IntKind.i64 0,Value.int IntKind.i64 0,Value.slice none 0 0],[(0,1,false),(1,2,true),(3,1,false)],none,64,6,none,false⟩
theorem TL10_31_ok:TypOk Tryz.prog 31 TL10_31:=by constructor <;> kernel_rfl
def TL10_29:TI:=⟨1,false,[Value.slice none 0 0],[],some 31,24,5,none,false⟩
theorem TL10_29_ok:TypOk Tryz.prog 29 TL10_29:=by constructor <;> kernel_rfl
def TL10_84:TI:=⟨1,false,[Value.slice none 0 0],[],some 110,24,5,none,false⟩
theorem TL10_84_ok:TypOk Tryz.prog 84 TL10_84:=by constructor <;> kernel_rfl
def TL10_110:TI:=⟨5,true,[Value.int IntKind.i64 0,Value.slice none 0 0,Value.int IntKind.i64 0,Value.int IntKind.i64 0,Value.slice none 0 0],[(0,1,false),(1,4,true)],none,72,6,none,false⟩
theorem TL10_110_ok:TypOk Tryz.prog 110 TL10_110:=by constructor <;> kernel_rfl
def TL10:List (Nat×TI):=[(3,TL10_3),(72,TL10_72),(130,TL10_130),(31,TL10_31),(29,TL10_29),(84,TL10_84),(110,TL10_110)]
theorem TL10_ok:TabOk Tryz.prog TL10:=((((((((TabOk.nil _).cons TL10_110_ok).cons TL10_84_ok).cons TL10_29_ok).cons TL10_31_ok).cons TL10_130_ok).cons TL10_72_ok).cons TL10_3_ok)
theorem to6_d (t:Tm)(h:t.full≤900000):PureC Tryz.prog 27 [.ag (eTm t)] (.ag (eTm t)):=to6D_d t h
set_option maxHeartbeats 1000000 in
theorem to9_d (l:List (Int×Tm))(hl:l.length≤9223372036854775807)(hf:∀ p∈l.take 10,p.2.full≤900000):PureC Tryz.prog 55 [.sl 5 (ePairs l) none] (.sl 5 (ePairs (l.take 10)) none):=by
 refine call_of_dw 0 31 [ResultVar.tmp 2] TL10_ok (by kernel_rfl) Tryz.func55 rfl Tryz.ntmps55 rfl (by simp) ?dwords ?dbody
 case dwords=>simp[wordsOk,D.ok,D.oks,rnames,ePairs_ok]
 case dbody=>
  intro cx hnt hn0
  refine dw_seq ?_;refine dwk [] TL10_ok hnt fun _ z9=>z9 _ _ ?_;refine dw_seq ?_;refine dwk [] TL10_ok hnt fun _ z9=>z9 _ _ ?_;refine dw_seq (dw_seq ?_);refine dwk [] TL10_ok hnt fun _ z9=>z9 _ _ ?_;refine dw_block ?_
  refine dw_loop (ι:={ j:Nat // j≤10 }) (fun j=>(.t 0,.sl 5 (ePairs l) none) :: (.t 4,.v (.int .i64 (j.1:Int))) :: (.t 3,.sl 5 (ePairs (l.take j.1)) (some 3)) :: (.r 3,.rw 110 5 (l.take j.1).length) :: []) 4 (fun j=>l.length-j.1) ⟨0,by decide⟩ (VS.trans (VS.rowT (x:=3) (by rw[hnt];decide) 110 5 rfl) VS.toA) fun j=>?_
  obtain⟨j,hj⟩:=j
  dsimp only
  refine dw_seq (dw_seq ?_)
  have end_:¬ (j<l.length∧j<10)→l.take j=l.take 10:=fun h=>by
   by_cases h1:j<10
   ·have:l.length≤j:=by omega
    rw[List.take_of_length_le this,List.take_of_length_le (by omega)]
   ·rw[show j=10 by omega]
  by_cases hlt:j<l.length
  ·by_cases h10:j<10
   ·have hjt:l[j]∈l.take 10:=by
     have:j<(l.take 10).length:=by rw[List.length_take];omega
     have h2:(l.take 10)[j]=l[j]:=by simp
     rw[←h2];exact List.getElem_mem this
    have ho:=to6_d l[j].2 (hf _ hjt)
    rw[eTm_eq] at ho
    have hq:(ePairs l).getD (j:Int).toNat []=[.v (.int .i64 l[j].1),.sl 2 (eTys l[j].2.binds) none,.v (.int .i64 l[j].2.kind),.v (.int .i64 l[j].2.index),.sl 4 (eTms l[j].2.args) none]:=by rw[Int.toNat_natCast,ePairs_getD l j hlt,ePair_eq]
    have hb:(0:Int)≤(j:Int)∧(j:Int)<((ePairs l).length:Int):=⟨by omega,by rw[ePairs_len];omega⟩
    refine dwk [(8,.v (.bool true)),(11,.v (.bool true))] TL10_ok hnt fun K hK=>?_;refine And.intro (dtrue (by rw[ePairs_len];omega)) ?_;refine And.intro (dtrue (by omega)) ?_;refine hK _ _ ?_;clear hK K;refine dw_cond (t:=true) rfl ?_;rw[if_pos rfl];refine dw_skip ?_;refine dw_seq (dw_block ?_);refine dwkD [(18,.q [.v (.int .i64 l[j].1),.sl 2 (eTys l[j].2.binds) none,.v (.int .i64 l[j].2.kind),.v (.int .i64 l[j].2.index),.sl 4 (eTms l[j].2.args) none]),(23,.q [.v (.int .i64 l[j].1),.sl 2 (eTys l[j].2.binds) none,.v (.int .i64 l[j].2.kind),.v (.int .i64 l[j].2.index),.sl 4 (eTms l[j].2.args) none]),(29,.sl 5 (ePairs (l.take (j+1))) (some 3))] TL10_ok hnt fun K hK=>?_
    refine And.intro (hb) ?_;refine And.intro (VLe.of_eq (by rw[hq])) ?_;refine And.intro (hb) ?_;refine And.intro (VLe.of_eq (by rw[hq])) ?_;refine dcl (ho) ?_;refine And.intro (⟨by rw[ePairs_len],by rw[ePairs_len,List.length_take];simp;omega⟩) ?_;refine And.intro (VLe.of_eq (by rw[ePairs_take l j hlt,ePair_eq])) ?_;refine hK _ _ (by kernel_rfl) ?_;clear hK K;refine dwk [(14,.v (.int .i64 ((j+1:Nat):Int)))] TL10_ok hnt fun K hK=>?_
    refine And.intro (dintE (by rw[IntWalk.i64_in _ (by omega)];omega)) ?_;refine hK _ _ ?_;clear hK K
    have hl2:(l.take (j+1)).length=j+1:=by rw[List.length_take];omega
    have hl3:(ePairs (l.take j)).length=j:=by rw[ePairs_len,List.length_take];omega
    refine⟨⟨j+1,by omega⟩,by dsimp only;omega,?_⟩
    rw[hl2]
    exact(by try simp only[List.length_append,List.length_take,List.length_cons,List.length_nil,Nat.zero_add,hl3];exact VS.toA)
   ·skip
    refine dwk [(8,.v (.bool true)),(11,.v (.bool false))] TL10_ok hnt fun K hK=>?_;refine And.intro (dtrue (by rw[ePairs_len];omega)) ?_;refine And.intro (dfalse (by omega)) ?_;refine hK _ _ ?_;clear hK K;refine dw_cond (t:=false) rfl ?_;rw[if_neg (by simp)];refine dw_exit ?_;refine dw_seq ?_
    rw[end_ (fun h=>h10 h.2)]
    refine dwk [] TL10_ok hnt fun _ z9=>z9 _ _ ?_;refine dw_ret ?_
    exact retv (N:=0) (.inr rfl) rfl (by repeat first | exact VLe.refl _ | exact VLe.nil _ | exact VLe.untag _ _ _ | refine VLe.ag ?_ | refine VLe.tu ?_ | refine VLeL.cons ?_ ?_ | exact VLeL.nil) trivial
  ·skip
   refine dwk [(8,.v (.bool false))] TL10_ok hnt fun K hK=>?_;refine And.intro (dfalse (by rw[ePairs_len];omega)) ?_;refine hK _ _ ?_;clear hK K;refine dw_cond (t:=false) rfl ?_;rw[if_neg (by simp)];refine dw_exit ?_;refine dw_seq ?_
   rw[end_ (fun h=>hlt h.1)]
   refine dwk [] TL10_ok hnt fun _ z9=>z9 _ _ ?_;refine dw_ret ?_
   exact retv (N:=0) (.inr rfl) rfl (by repeat first | exact VLe.refl _ | exact VLe.nil _ | exact VLe.untag _ _ _ | refine VLe.ag ?_ | refine VLe.tu ?_ | refine VLeL.cons ?_ ?_ | exact VLeL.nil) trivial
def few9 (l:List (Int×Tm)):Bool:=(l.take 10).all fun p=>fewB p.2&&lowB p.2
set_option maxHeartbeats 1000000 in
theorem few9_d (l:List (Int×Tm))(hl:l.length≤9223372036854775807)(hw:∀ p∈l.take 10,fewB p.2=true→Wide p.2):PureC Tryz.prog 54 [.sl 5 (ePairs l) none] (.v (.bool (few9 l))):=by
 refine call_of_dw 0 32 [ResultVar.tmp 2] TL10_ok (by kernel_rfl) Tryz.func54 rfl Tryz.ntmps54 rfl (by simp) ?dwords ?dbody
 case dwords=>simp[wordsOk,D.ok,D.oks,rnames,ePairs_ok]
 case dbody=>
  intro cx hnt hn0
  refine dw_seq ?_;refine dwk [] TL10_ok hnt fun _ z9=>z9 _ _ ?_;refine dw_seq (dw_seq ?_);refine dwk [] TL10_ok hnt fun _ z9=>z9 _ _ ?_;refine dw_block ?_
  refine dw_loop (ι:={ j:Nat // j≤10∧∀ i (h:i<l.length),i<j→(fewB l[i].2&&lowB l[i].2)=true }) (fun j=>[(.t 0,.sl 5 (ePairs l) none),(.t 3,.v (.int .i64 (j.1:Int)))]) 1 (fun j=>l.length-j.1) ⟨0,by decide,fun i h1 h2=>by omega⟩ VS.toA fun j=>?_
  obtain⟨j,hj10,hj⟩:=j
  dsimp only
  refine dw_seq (dw_seq ?_)
  have end_:¬ (j<l.length∧j<10)→few9 l=true:=fun h=>by
   unfold few9
   rw[List.all_eq_true]
   intro p hp
   obtain⟨i,hi,rfl⟩:=List.getElem_of_mem hp
   rw[List.length_take] at hi
   have:=hj i (by omega) (by omega)
   simpa using this
  by_cases hlt:j<l.length
  ·by_cases h10:j<10
   ·have hjt:l[j]∈l.take 10:=by
     have:j<(l.take 10).length:=by rw[List.length_take];omega
     have h2:(l.take 10)[j]=l[j]:=by simp
     rw[←h2];exact List.getElem_mem this
    have hF:=lawFew_d [l[j].2] (by simp)
    have hq:(ePairs l).getD (j:Int).toNat []=[.v (.int .i64 l[j].1),.sl 2 (eTys l[j].2.binds) none,.v (.int .i64 l[j].2.kind),.v (.int .i64 l[j].2.index),.sl 4 (eTms l[j].2.args) none]:=by rw[Int.toNat_natCast,ePairs_getD l j hlt,ePair_eq]
    have hb:(0:Int)≤(j:Int)∧(j:Int)<((ePairs l).length:Int):=⟨by omega,by rw[ePairs_len];omega⟩
    have hs:∀ g,VLe (.sl 4 [[.sl 2 (eTys l[j].2.binds) none,.v (.int .i64 l[j].2.kind),.v (.int .i64 l[j].2.index),.sl 4 (eTms l[j].2.args) none]] g) (.sl 4 (eTms [l[j].2]) none):=fun g=>by
     rw[eTms,eTms,eTm_eq];exact VLe.untag _ _ _
    refine dwk [(7,.v (.bool true)),(10,.v (.bool true))] TL10_ok hnt fun K hK=>?_;refine And.intro (dtrue (by rw[ePairs_len];omega)) ?_;refine And.intro (dtrue (by omega)) ?_;refine hK _ _ ?_;clear hK K;refine dw_cond (t:=true) rfl ?_;rw[if_pos rfl];refine dw_skip ?_;refine dw_seq (dw_block (dw_seq ?_))
    cases hf:fewB l[j].2 with
    | false=>
     have hn:few9 l=false:=by
      unfold few9;rw[List.all_eq_false];exact⟨l[j],hjt,by rw[hf];simp⟩
     rw[hn]
     simp only[List.all_cons,List.all_nil,Bool.and_true,hf] at hF
     refine dwk [(16,.q [.v (.int .i64 l[j].1),.sl 2 (eTys l[j].2.binds) none,.v (.int .i64 l[j].2.kind),.v (.int .i64 l[j].2.index),.sl 4 (eTms l[j].2.args) none]),(19,.sl 4 (eTms [l[j].2]) none)] TL10_ok hnt fun K hK=>?_;refine And.intro (hb) ?_;refine And.intro (VLe.of_eq (by rw[hq])) ?_;refine And.intro (hs _) ?_;refine dcl (hF) ?_;refine hK _ _ ?_;clear hK K;refine dw_cond (t:=true) rfl ?_
     rw[if_pos rfl];refine dw_seq ?_;refine dwk [] TL10_ok hnt fun _ z9=>z9 _ _ ?_;refine dw_ret ?_
     exact retv (N:=0) (.inr rfl) rfl (VLe.refl _) trivial
    | true=>
     have hL:=low_d [l[j].2] (by simp) (fun t ht=>by simp at ht;subst ht;exact hw _ hjt hf)
     simp only[List.all_cons,List.all_nil,Bool.and_true,hf] at hF
     simp only[lowsB,Bool.and_true] at hL
     cases hlo:lowB l[j].2 with
     | false=>
      have hn:few9 l=false:=by
       unfold few9;rw[List.all_eq_false];exact⟨l[j],hjt,by rw[hlo];simp⟩
      rw[hn]
      rw[hlo] at hL
      refine dwk [(16,.q [.v (.int .i64 l[j].1),.sl 2 (eTys l[j].2.binds) none,.v (.int .i64 l[j].2.kind),.v (.int .i64 l[j].2.index),.sl 4 (eTms l[j].2.args) none]),(19,.sl 4 (eTms [l[j].2]) none),(25,.q [.v (.int .i64 l[j].1),.sl 2 (eTys l[j].2.binds) none,.v (.int .i64 l[j].2.kind),.v (.int .i64 l[j].2.index),.sl 4 (eTms l[j].2.args) none]),(28,.sl 4 (eTms [l[j].2]) none)] TL10_ok hnt fun K hK=>?_
      refine And.intro (hb) ?_;refine And.intro (VLe.of_eq (by rw[hq])) ?_;refine And.intro (hs _) ?_;refine dcl (hF) ?_;refine And.intro (hb) ?_;refine And.intro (VLe.of_eq (by rw[hq])) ?_;refine And.intro (hs _) ?_;refine dcl (hL) ?_;refine hK _ _ ?_;clear hK K;refine dw_cond (t:=true) rfl ?_;rw[if_pos rfl];refine dw_seq ?_;refine dwk [] TL10_ok hnt fun _ z9=>z9 _ _ ?_
      refine dw_ret ?_
      exact retv (N:=0) (.inr rfl) rfl (VLe.refl _) trivial
     | true=>
      rw[hlo] at hL
      refine dwk [(16,.q [.v (.int .i64 l[j].1),.sl 2 (eTys l[j].2.binds) none,.v (.int .i64 l[j].2.kind),.v (.int .i64 l[j].2.index),.sl 4 (eTms l[j].2.args) none]),(19,.sl 4 (eTms [l[j].2]) none),(25,.q [.v (.int .i64 l[j].1),.sl 2 (eTys l[j].2.binds) none,.v (.int .i64 l[j].2.kind),.v (.int .i64 l[j].2.index),.sl 4 (eTms l[j].2.args) none]),(28,.sl 4 (eTms [l[j].2]) none)] TL10_ok hnt fun K hK=>?_
      refine And.intro (hb) ?_;refine And.intro (VLe.of_eq (by rw[hq])) ?_;refine And.intro (hs _) ?_;refine dcl (hF) ?_;refine And.intro (hb) ?_;refine And.intro (VLe.of_eq (by rw[hq])) ?_;refine And.intro (hs _) ?_;refine dcl (hL) ?_;refine hK _ _ ?_;clear hK K;refine dw_cond (t:=false) rfl ?_;rw[if_neg (by simp)];refine dw_skip ?_;refine dwk [(13,.v (.int .i64 ((j+1:Nat):Int)))] TL10_ok hnt fun K hK=>?_
      refine And.intro (dintE (by rw[IntWalk.i64_in _ (by omega)];omega)) ?_;refine hK _ _ ?_;clear hK K
      refine⟨⟨j+1,by omega,fun i h1 h2=>?_⟩,by dsimp only;omega,VS.toA⟩
      by_cases he:i=j
      ·subst he;rw[hf,hlo];rfl
      ·exact hj i h1 (by omega)
   ·rw[end_ (fun h=>h10 h.2)]
    refine dwk [(7,.v (.bool true)),(10,.v (.bool false))] TL10_ok hnt fun K hK=>?_;refine And.intro (dtrue (by rw[ePairs_len];omega)) ?_;refine And.intro (dfalse (by omega)) ?_;refine hK _ _ ?_;clear hK K;refine dw_cond (t:=false) rfl ?_;rw[if_neg (by simp)];refine dw_exit ?_;refine dw_seq ?_;refine dwk [] TL10_ok hnt fun _ z9=>z9 _ _ ?_;refine dw_ret ?_
    exact retv (N:=0) (.inr rfl) rfl (VLe.refl _) trivial
  ·rw[end_ (fun h=>hlt h.1)]
   refine dwk [(7,.v (.bool false))] TL10_ok hnt fun K hK=>?_;refine And.intro (dfalse (by rw[ePairs_len];omega)) ?_;refine hK _ _ ?_;clear hK K;refine dw_cond (t:=false) rfl ?_;rw[if_neg (by simp)];refine dw_exit ?_;refine dw_seq ?_;refine dwk [] TL10_ok hnt fun _ z9=>z9 _ _ ?_;refine dw_ret ?_
   exact retv (N:=0) (.inr rfl) rfl (VLe.refl _) trivial
def TSQ_110:TI:=⟨5,true,[Value.int IntKind.i64 0,Value.slice none 0 0,Value.int IntKind.i64 0,Value.int IntKind.i64 0,Value.slice none 0 0],[(0,1,false),(1,4,true)],none,72,6,none,false⟩
theorem TSQ_110_ok:TypOk Tryz.prog 110 TSQ_110:=by constructor <;> kernel_rfl
def TSQ_3:TI:=⟨1,false,[Value.int IntKind.i64 0],[],none,8,2,none,false⟩
theorem TSQ_3_ok:TypOk Tryz.prog 3 TSQ_3:=by constructor <;> kernel_rfl
def TSQ_71:TI:=⟨1,false,[Value.slice none 0 0],[],some 3,24,5,none,false⟩
theorem TSQ_71_ok:TypOk Tryz.prog 71 TSQ_71:=by constructor <;> kernel_rfl
def TSQ_84:TI:=⟨1,false,[Value.slice none 0 0],[],some 110,24,5,none,false⟩
theorem TSQ_84_ok:TypOk Tryz.prog 84 TSQ_84:=by constructor <;> kernel_rfl
def TSQ:List (Nat×TI):=[(110,TSQ_110),(3,TSQ_3),(71,TSQ_71),(84,TSQ_84)]
theorem TSQ_ok:TabOk Tryz.prog TSQ:=(((((TabOk.nil _).cons TSQ_84_ok).cons TSQ_71_ok).cons TSQ_3_ok).cons TSQ_110_ok)
theorem ePairs_snoc (l:List (Int×Tm))(p:Int×Tm):ePairs l++[[.v (.int .i64 p.1),.sl 2 (eTys p.2.binds) none,.v (.int .i64 p.2.kind),.v (.int .i64 p.2.index),.sl 4 (eTms p.2.args) none]]=ePairs (l++[p]):=by
 rw[←ePair_eq];unfold ePairs;rw[List.map_append];rfl
theorem domain_d (l:List (Int×Tm))(hl:l.length≤900000):PureC Tryz.prog 139 [.sl 5 (ePairs l) none] (.sl 1 (eIs (l.map (·.1))) none):=by
 refine calldw 0 19 [ResultVar.tmp 2] TSQ_ok Tryz.func139 rfl Tryz.ntmps139 rfl fun cx hnt hn0=>?_
 ·skip
  refine dw_seq ?_;refine dwk [] TSQ_ok hnt fun _ z9=>z9 _ _ ?_
  refine dw_cut (τ:=[(.t 0,.sl 5 (ePairs l) none),(.t 3,.v (.slice none 0 0))]) (N1:=0) ?_ ?_
  ·skip
   refine dwk [] TSQ_ok hnt fun _ z9=>z9 _ _ ?_
   exact cut_ok (VS.toK (by omega) (by repeat first | exact trivial | refine And.intro (And.intro (by first | rfl | simp[D.ok,D.oks,D.okss,D.okm,upto,keyOk,argsT]) (by first | exact Or.inl rfl | exact Or.inr ⟨_,rfl,(by repeat first | exact VLe.refl _ | exact VLe.nil _ | exact VLe.untag _ _ _ | refine VLe.ag ?_ | refine VLe.tu ?_ | refine VLeL.cons ?_ ?_ | exact VLeL.nil),trivial⟩ | simp[get,Key.eq,argsT])) ?_))
  ·refine DW.vs (VS.rowT (x:=3) (by rw[hnt];decide) 3 1 rfl) ?_
   refine dw_seq ?_;refine dw_seq ?_;refine dwk [(7,.v (.int .i64 (↑l.length)))] TSQ_ok hnt fun K hK=>?_;refine And.intro (dintE (by rw[ePairs_len])) ?_;refine hK _ _ ?_;clear hK K;refine dw_block ?_
   refine dw_loop (ι:={ k:Nat // k≤l.length }) (fun k=>[(.t 3,.sl 1 (eIs ((l.take k.1).map (·.1))) (some 0)),(.t 6,.sl 5 (ePairs l) none),(.t 7,.v (.int .i64 ↑l.length)),(.t 8,.v (.int .i64 ↑k.1)),(.r 0,.rw 3 1 k.1)]) 1 (fun k=>l.length-k.1) (⟨0,Nat.zero_le _⟩) ((VS.toK (by omega) (by repeat first | exact trivial | refine And.intro (And.intro (by first | rfl | simp[D.ok,D.oks,D.okss,D.okm,upto,keyOk,argsT]) (by first | exact Or.inl rfl | exact Or.inr ⟨_,rfl,(by repeat first | exact VLe.refl _ | exact VLe.nil _ | exact VLe.untag _ _ _ | refine VLe.ag ?_ | refine VLe.tu ?_ | refine VLeL.cons ?_ ?_ | exact VLeL.nil),trivial⟩ | simp[get,Key.eq,argsT])) ?_))) fun k=>?_
   obtain⟨k,hk⟩:=k
   dsimp only
   by_cases hlt:k<l.length
   ·have htk:eIs ((l.take k).map (·.1))++[[.v (.int .i64 l[k].1)]]=eIs ((l.take (k+1)).map (·.1)):=by
     rw[List.take_add_one,List.getElem?_eq_getElem hlt,Option.toList_some,List.map_append,eIs_append];rfl
    have hle:(eIs ((l.take k).map (·.1))).length=k:=by rw[eIs_len];simp;omega
    have hle2:(eIs ((l.take (k+1)).map (·.1))).length=k+1:=by rw[eIs_len];simp;omega
    refine dw_seq ?_;refine dwk [(9,.v (.bool true))] TSQ_ok hnt fun K hK=>?_;refine And.intro auT ?_;refine hK _ _ ?_;clear hK K;refine dw_seq ?_;refine dw_cond (t:=true) rfl ?_;rw[if_pos rfl];refine dw_skip ?_;refine dw_seq ?_;refine dw_block ?_;refine dw_seq ?_;refine dwk [(10,.q [.v (.int .i64 l[k].1),.sl 2 (eTys l[k].2.binds) none,.v (.int .i64 l[k].2.kind),.v (.int .i64 l[k].2.index),.sl 4 (eTms l[k].2.args) none])] TSQ_ok hnt fun K hK=>?_
    refine And.intro (elo (ePairs_len l)) ?_;refine And.intro (elv (ePairs_getD l k) (ePair_eq _)) ?_;refine hK _ _ ?_;clear hK K;refine dwk [] TSQ_ok hnt fun K hK=>?_;refine And.intro (⟨by omega,by rw[hle];simp;omega⟩) ?_;refine hK _ _ ?_;clear hK K
    rw[htk,hle2]
    refine dwk [(17,.v (.int .i64 (↑(k+1))))] TSQ_ok hnt fun K hK=>?_;refine And.intro auI ?_;refine hK _ _ ?_;clear hK K
    refine⟨⟨k+1,by omega⟩,by first | omega | (dsimp only;omega),VS.toA⟩
   ·rw[List.take_of_length_le (by omega)]
    refine dw_seq ?_;refine dwk [(9,.v (.bool false))] TSQ_ok hnt fun K hK=>?_;refine And.intro auF ?_;refine hK _ _ ?_;clear hK K;refine dw_seq ?_;refine dw_cond (t:=false) rfl ?_;rw[if_neg (by simp)];refine dw_exit ?_;refine dw_seq ?_;refine dwk [] TSQ_ok hnt fun _ z9=>z9 _ _ ?_;refine dw_ret ?_
    exact reta rfl
/-! the example -/
namespace Li
def kA:Ty:=.mk [] 0
def kX:Tm:=.mk [] 2 0 []
def kC:Tm:=.mk [] 1 0 [kX]
def kB:Tm:=.mk [] 0 0 []
def kP:Pr:=⟨.mk [kA] 1 0 [.mk [] 2 0 [kB]],.mk [kA] 2 0 [kB],[.mk [kA] 0]⟩
end Li
/-! the law -/
theorem sizes_le22 {l:List Ty}{n:Nat}(h:∀ t∈l,t.size≤n):Ty.sizes l≤l.length * n:=by
 induction l with
 | nil=>simp[Ty.sizes]
 | cons t l ih=>
  have h1:=h t (by simp)
  have h2:=ih fun u hu=>h u (by simp[hu])
  rw[Ty.sizes,List.length_cons,Nat.add_mul];omega
namespace Li
end Li
namespace Pn
end Pn
def eHs (l:List (Int×Int)):List (List D):=l.map fun h=>[.v (.int .i64 h.1),.v (.int .i64 h.2)]
@[simp] theorem eHs_ok (f g:Nat→Bool) (l:List (Int×Int)):D.okss f g (eHs l)=true:=D.okss_map _ l fun _ _=>rfl
def sgn (x y:Int):Int:=if x<y then -1 else if y<x then 1 else 0
def orl (a b:Int):Int:=if a=0 then b else a
@[simp] theorem orl_zero (b:Int):orl 0 b=b:=by simp[orl]
@[simp] theorem orl_zero_right (a:Int):orl a 0=a:=by unfold orl;split <;> simp_all
namespace Ty
mutual
def cmp:Ty→Ty→Int
 | .mk l b,.mk l' b'=>orl (orl (orl (sgn (Ty.sizes l+1:Nat) (Ty.sizes l'+1:Nat)) (sgn (l.length:Nat) (l'.length:Nat))) (cmps l l')) (sgn b b')
def cmps:List Ty→List Ty→Int
 | [],_=>0
 | _ :: _,[]=>0
 | t :: l,u :: l'=>orl (cmp t u) (cmps l l')
end
@[simp] theorem cmps_nil (l:List Ty):cmps [] l=0:=by rw[cmps]
end Ty
namespace Tm
def cmpB (l l':List Ty):Int:=orl (sgn (l.length:Nat) (l'.length:Nat)) (Ty.cmps l l')
mutual
def cmp:Tm→Tm→Int
 | .mk b k i a,.mk b' k' i' a'=>orl (sgn (Tm.sizes a+1:Nat) (Tm.sizes a'+1:Nat)) (orl (cmpB b b') (orl (sgn k k') (orl (sgn i i') (orl (sgn (a.length:Nat) (a'.length:Nat)) (cmps a a')))))
def cmps:List Tm→List Tm→Int
 | [],_=>0
 | _ :: _,[]=>0
 | t :: l,u :: l'=>orl (cmp t u) (cmps l l')
end
@[simp] theorem cmps_nil (l:List Tm):cmps [] l=0:=by rw[cmps]
end Tm
namespace Ty
end Ty
set_option maxRecDepth 100000 in
theorem size6_r:∀ t:Tm,∀ {F:Nat→Prop} {w0:World} {b k i a:Value} (_:IsTm F w0 b k i a t) (w:World),t.size≤1000000→Keep F w0 w→Calls Tryz.prog 75 #[.agg #[b,k,i,a]] w (RetI t.size w):=Tm.ind fun binds k0 i0 args ih=>by
 intro F w0 b k i a ht w hsz hw
 obtain⟨pa,pc,qa,qc,rfl,rfl,rfl,rfl⟩:=ht.shape
 simp only[Tm.binds,Tm.kind,Tm.index,Tm.args] at ht ⊢
 obtain⟨_,_,_,hsl⟩:=ht.inv
 simp only[Tm.args] at hsl
 obtain⟨_,hm,bl,off,PA,A,PN,PC,N',C,Kd,Ix,ha,h1,h2,h3,h4,h5⟩:=sl_cells6 hsl
 clear ht hsl hm
 have hlen:args.length≤1000000:=by have:=Tm.len_sizes args;rw[Tm.size_eq] at hsz;omega
 have Hsz:Hid (∀ i (h:i<args.length),args[i].size≤1000000∧Tm.sizes (args.take i)+args[i].size≤1000000):=fun i h=>by
  have:=Tm.sizes_take args i h;have:=Tm.sizes_take_le args (i+1);rw[Tm.size_eq] at hsz;omega
 have Hend:Hid ((Tm.mk binds k0 i0 args).size=Tm.sizes args+1):=Tm.size_eq _ _ _ _
 have Hih:=Lib.hid ih;clear ih hsz
 go_enter Tryz.func75,Tryz.ntmps75
 go_wp2_with fail
 go_loopw [3,4] (fun x i wr=>∃ k:Nat,i=.int .i64 k∧x=.int .i64 ((Tm.sizes (args.take k):Int)+1)∧k≤args.length∧Below w.heap.size w wr∧Blk wr w.heap.size #[.slice pa binds.length pc,.int .i64 k0,.int .i64 i0,.slice qa args.length qc] 31) (fun _ i _=>args.length-(intOf i).toNat)
 case atStart=>exact⟨0,rfl,rfl,by omega,(Below.refl _ _).alloc (Nat.le_refl _) _,Blk.new _ _ _ rfl⟩
 case round=>
  obtain⟨k,rfl,rfl,hk,hb,hbox⟩:=hrel
  have c0:wr.cell? ⟨w.heap.size,3,none⟩=some (.slice qa args.length qc):=hbox.cell rfl
  have hlt0:=hbox.lt
  by_cases hlt:k<args.length
  ·obtain⟨rfl,hF⟩:=ha (by omega)
   have e1:=(hw.below hb) _ _ _ hF (h1 k hlt)
   have e2:=(hw.below hb) _ _ _ hF (h2 k hlt)
   have e3:=(hw.below hb) _ _ _ hF (h3 k hlt)
   have e4:=(hw.below hb) _ _ _ hF (h4 k hlt)
   have hs:Tm.sizes (args.take k)≤1000000∧args[k].size≤1000000:=by have:=Hsz.out k hlt;omega
   go_wp2_with fail
   refine(Hih.out _ (List.getElem_mem hlt) (h5 k hlt) _ (Hsz.out k hlt).1 (hw.below hb)).mono ?_
   rintro e w1 ⟨rfl,hb1⟩
   go_wp2_with fail
   go_roundw
   case rel=>exact⟨k+1,by go_num,by rw[Tm.sizes_take _ _ hlt];go_num,by omega,hb.trans (hb1.mono (by omega)),hbox.below hb1⟩
   case measure=>simp[intOf];omega
  ·go_wp2_with fail
   go_ret
   refine⟨?_,hb⟩
   rw[Hend.out,List.take_of_length_le (by omega)];rfl
theorem IsSl.bel {α:Type}{r:Rp α}{F:Nat→Prop}{w w':World}{v:Value}{l:List α}(h:IsSl r F w v l)(hb:Below w.heap.size w w'):IsSl r F w' v l:=h.keep ((Keep.refl _ _).below hb)
def checkCode (C M:List Ty)(t:Tm)(X:List Ty)(u:Ty)(c:Int):Prop:=(¬ (t.size≤5000∧t.depth≤60)∧c=2)∨((t.size≤5000∧t.depth≤60)∧¬ IsOf C M t X u∧c=5)∨((t.size≤5000∧t.depth≤60)∧IsOf C M t X u∧c=0)
namespace Li
def bad (M:List Ty)(x:Int):Bool:=decide (x<0∨(M.length:Int)≤x)
end Li
def RightTy (bases:Int)(t:Ty):Prop:=t.size≤1000∧t.depth≤60∧Ty.Low bases t
set_option maxRecDepth 100000 in
theorem rightWorld1_k {F:Nat→Prop}{w:World}{s d:Value}{t:Ty}{b:Int}{B:Nat}(ht:IsTy F w s d t)(hz:t.size≤400000)(hB:w.cell? ⟨B,0,none⟩=some (.int .i64 b)):
  Calls Tryz.prog 106 #[.agg #[s,d],.pointer (some ⟨B,0,none⟩)] w (RetB (¬ RightTy b t) w):=by
 have Hr:=Lib.hid fun(w':World) (hb:Below w.heap.size w w')=>right_k (ht.bel hb) b (by omega)
 obtain⟨a,c,rfl,rfl⟩:=ht.shape
 clear ht
 obtain⟨n1,hn1⟩:∃ n,t.args.length=n:=⟨_,rfl⟩
 obtain⟨n2,hn2⟩:∃ n,t.base=n:=⟨_,rfl⟩
 rw[hn1,hn2] at Hr ⊢
 clear hn1 hn2
 have hl:=Keep.lt hB
 go_enter Tryz.func106,Tryz.ntmps106
 go_wp2_with fail
 have hb1:Below w.heap.size w (w.alloc (.cells #[.slice a n1 c,.int .i64 n2] 106)):=(Below.refl _ _).alloc (Nat.le_refl _) _
 refine(Hr.out _ hb1).mono ?_
 intro e w2 h
 obtain⟨r,Hq,rfl,hb2⟩:=of_retB' h
 clear h
 go_wp2_with fail
 go_ret
 exact⟨_,by have:=Hq.out;unfold RightTy;cases r <;> simp_all,rfl,hb1.trans (hb2.mono hb1.size)⟩
set_option maxRecDepth 100000 in
theorem indexFunc_k {G F:Nat→Prop}{w:World}{v:Value}{l:List Ty}{b:Int}{B:Nat}(h:IsSl2 rpTy G F w v l)(hz:∀ t∈l,t.size≤400000)(hB:w.cell? ⟨B,0,none⟩=some (.int .i64 b)):
  Calls Tryz.prog 128 #[v,.func (.func 106) #[] #[.pointer (some ⟨B,0,none⟩)]] w fun e w'=>∃ i:Int,Hid (0≤i↔∃ t∈l,¬ RightTy b t)∧e=.returned (.int .i64 i)∧Below w.heap.size w w':=by
 obtain⟨a,c,rfl⟩:=h.shape
 have Hat:=Lib.hid (sl_at h)
 have hl:(l.length:Int)≤9223372036854775807:=by obtain⟨_,_,_,_,_,_,hm,_⟩:=h;unfold maxLen at hm;omega
 clear h
 have Hz:=Lib.hid hz;clear hz
 go_enter Tryz.func128,Tryz.ntmps128
 go_wp2_with fail
 go_loopw [5,8] (fun _ i wr=>∃ k:Nat,i=.int .i64 k∧k≤l.length∧Hid (∀ m (h:m<l.length),m<k→RightTy b l[m])∧Below w.heap.size w wr) (fun _ i _=>l.length-(intOf i).toNat)
 case atStart=>exact⟨0,rfl,by omega,fun m _ h=>absurd h (by omega),Below.refl _ _⟩
 case round=>
  obtain⟨k,rfl,hk,hrel,hb⟩:=hrel
  by_cases hlt:k<l.length
  ·obtain⟨bl,off,A,N,C,Bb,rfl,_,e1,e2,hT⟩:=Hat.out k hlt
   have hkx:Keep (fun _=>True) w wr:=(Keep.refl _ _).below hb
   have e1:=hkx _ _ _ trivial e1
   have e2:=hkx _ _ _ trivial e2
   have HT:=Lib.hid (hT.bel hb);clear hT
   have i1:(k:Int)<(l.length:Int):=by omega
   have HB:=Lib.hid (hkx _ _ _ trivial hB)
   clear hkx
   go_wp2_with fail
   refine(rightWorld1_k HT.out (Hz.out _ (List.getElem_mem hlt)) HB.out).mono ?_
   intro e w2 h
   obtain⟨r,Hq,rfl,hb2⟩:=of_retB' h
   clear h e1 e2
   cases r
   ·have Hq2:=Lib.hid (no_of Hq.out)
    go_wp2_with fail
    go_roundw
    case rel=>exact⟨k+1,by go_num,by omega,fun m h hm=>by
     by_cases hmk:m<k
     ·exact hrel.out m h hmk
     ·obtain rfl:m=k:=by omega
      exact Classical.not_not.1 Hq2.out,hb.trans (hb2.mono hb.size)⟩
    case measure=>simp[intOf];omega
   ·have Hq2:=Lib.hid (yes_of Hq.out)
    go_wp2_with fail
    go_ret
    exact⟨_,⟨fun _=>⟨_,List.getElem_mem hlt,Hq2.out⟩,fun _=>by omega⟩,rfl,hb.trans (hb2.mono hb.size)⟩
  ·go_wp2_with fail
   go_ret
   refine⟨_,⟨fun h=>absurd h (by omega),fun⟨t,ht,hn⟩=>?_⟩,rfl,hb⟩
   obtain⟨m,hm,rfl⟩:=List.getElem_of_mem ht
   exact absurd (hrel.out m hm (by omega)) hn
set_option maxRecDepth 100000 in
theorem containsFunc_k {G F:Nat→Prop}{w:World}{v:Value}{l:List Ty}{b:Int}{B:Nat}(h:IsSl2 rpTy G F w v l)(hz:∀ t∈l,t.size≤400000)(hB:w.cell? ⟨B,0,none⟩=some (.int .i64 b)):
  Calls Tryz.prog 104 #[v,.func (.func 106) #[] #[.pointer (some ⟨B,0,none⟩)]] w (RetB (∃ t∈l,¬ RightTy b t) w):=by
 have Hi:=Lib.hid (indexFunc_k h hz hB)
 obtain⟨a,c,rfl⟩:=h.shape
 clear h hz hB
 go_enter Tryz.func104,Tryz.ntmps104
 go_wp2_with fail
 refine Hi.out.mono ?_
 rintro e w1 ⟨i,hi,rfl,hb⟩
 go_wp2_with fail
 go_ret
 exact⟨_,by rw[←hi.out];simp,rfl,hb⟩
def RightWd (b:Int)(C M:List Ty):Prop:=C.length+M.length≤1000∧∀ t∈C++M,RightTy b t
set_option maxRecDepth 100000 in
set_option maxHeartbeats 1000000 in
theorem RightWorld_k {F:Nat→Prop}{w:World}{b:Int}{cv mv:Value}{C M:List Ty}(hc:IsSl rpTy F w cv C)(hm:IsSl rpTy F w mv M)(hz:∀ t∈C++M,t.size≤400000):
  Calls Tryz.prog 80 #[.agg #[.int .i64 b,cv,mv]] w (RetB (RightWd b C M) w):=by
 obtain⟨ca,cc,rfl⟩:=hc.shape
 obtain⟨ma,mc,rfl⟩:=hm.shape
 have hlc:(C.length:Int)≤9223372036854775807:=by obtain⟨_,_,_,_,_,_,h,_⟩:=hc;unfold maxLen at h;omega
 have hlm:(M.length:Int)≤9223372036854775807:=by obtain⟨_,_,_,_,_,_,h,_⟩:=hm;unfold maxLen at h;omega
 have Hc:=Lib.hid hc;have Hm:=Lib.hid hm;have Hz:=Lib.hid hz
 clear hc hm hz
 by_cases g1:(1000:Int)<(C.length:Int)
 ·skip
  go_enter Tryz.func80,Tryz.ntmps80
  go_wp2_with fail
  go_ret
  exact⟨false,by unfold RightWd;simp;omega,rfl,(Below.refl _ _).alloc (Nat.le_refl _) _⟩
 have hq:IntKind.i64.wrap (1000-(C.length:Int))=1000-(C.length:Int):=IntWalk.i64_in _ (by omega)
 by_cases g2:1000-(C.length:Int)<(M.length:Int)
 ·skip
  go_enter Tryz.func80,Tryz.ntmps80
  go_wp2_with fail
  go_ret
  exact⟨false,by unfold RightWd;simp;omega,rfl,(Below.refl _ _).alloc (Nat.le_refl _) _⟩
 go_enter Tryz.func80,Tryz.ntmps80
 go_wp2_with fail
 obtain⟨w2,hw2⟩:∃ w2,(w.alloc (.cells #[.int .i64 b,.slice ca C.length cc,.slice ma M.length mc] 43)).alloc (.cells #[.slice ca C.length cc,.slice ma M.length mc] 41)=w2:=⟨_,rfl⟩
 have B2:Below w.heap.size w w2:=by rw[←hw2];exact((Below.refl _ _).alloc (Nat.le_refl _) _).alloc (by simp) _
 have x0:Blk w2 w.heap.size #[.int .i64 b,.slice ca C.length cc,.slice ma M.length mc] 43:=by rw[←hw2];exact(Blk.new _ _ _ rfl).alloc _
 have x1:Blk w2 (w.heap.size+1) #[.slice ca C.length cc,.slice ma M.length mc] 41:=by rw[←hw2];exact Blk.new _ _ _ (by simp)
 rw[hw2]
 clear hw2
 refine(concat_any2 x1 (IsSl2.of (Hc.out.bel B2)) (IsSl2.of (Hm.out.bel B2)) (by omega)).mono ?_
 rintro e w3 ⟨a3,c3,rfl,hT,hb3⟩
 have HT:=Lib.hid hT;clear hT
 have x0':=x0.below hb3
 have B3:=B2.trans (hb3.mono B2.size)
 obtain⟨Y,hY⟩:∃ Y,C++M=Y:=⟨_,rfl⟩
 have HY:=Lib.hid hY
 rw[hY] at HT Hz ⊢
 clear hY
 go_wp2_with fail
 refine(containsFunc_k HT.out Hz.out (x0'.cell rfl)).mono ?_
 intro e w4 h
 obtain⟨r,Hq,rfl,hb4⟩:=of_retB' h
 clear h
 go_wp2_with fail
 go_ret
 refine⟨_,?_,rfl,B3.trans (hb4.mono B3.size)⟩
 have h2:(r=true↔∃ t∈Y,¬ RightTy b t):=Hq.out
 have h3:C.length+M.length≤1000:=by omega
 unfold RightWd
 rw[HY.out]
 cases r
 ·simp only[Bool.not_false,true_iff]
  refine⟨h3,fun t ht=>Classical.not_not.1 fun hn=>?_⟩
  exact absurd (h2.2 ⟨t,ht,hn⟩) (by simp)
 ·simp only[Bool.not_true,Bool.false_eq_true,false_iff]
  rintro⟨_,h⟩
  obtain⟨t,ht,hn⟩:=h2.1 rfl
  exact hn (h t ht)
section
variable {w:World} {b:Int} {cv mv xv tb tk ti ta s ub:Value} {C M X:List Ty} {t:Tm} {u:Ty}
end
theorem isTrue {F:Nat→Prop}{w:World}{v:Value}{l:List Ty}(h:IsSl rpTy F w v l):IsSl rpTy (fun _=>True) w v l:=h.weaken (by decide) fun _ _ _=>trivial
theorem slTy9 {m:Mp}{Im:Nat→Nat→Prop}{w:World}{v:Value}{l:List Ty}(h:Rel m Im w v (.sl 2 (eTys l) none)):IsSl rpTy (fun _=>True) w v l:=
 isTrue (sl_of_rel (r:=rpTy) (e:=eTy) eTy_len (fun x t hx _=>ty_of_rel t hx) (by decide) (by rw[eTys_map] at h;exact h))
theorem agWorld {m:Mp}{Im:Nat→Nat→Prop}{w:World}{x:Value}{b:Int}{C M:List Ty}(h:Rel m Im w x (.ag [.v (.int .i64 b),.sl 2 (eTys C) none,.sl 2 (eTys M) none])):∃ cv mv,x=.agg #[.int .i64 b,cv,mv]∧IsSl rpTy (fun _=>True) w cv C∧IsSl rpTy (fun _=>True) w mv M:=by
 obtain⟨cs,rfl,hr⟩:=rel_ag.1 h
 match cs,hr with
 | [x,y,z],hr=>
  have:=rel_v.1 hr.1;subst this
  exact⟨y,z,rfl,slTy9 hr.2.1,slTy9 hr.2.2.1⟩
theorem tyZ_eq:eTy tyZ=[.sl 2 [] none,.v (.int .i64 0)]:=rfl
end Go.Proofs.YtclihnccilkohaaGreat
