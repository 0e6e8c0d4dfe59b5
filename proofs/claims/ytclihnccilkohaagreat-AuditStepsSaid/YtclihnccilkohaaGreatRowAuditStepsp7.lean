/-
  slices.Sort and slices.Compact of ints of the call's own; what they hand back rises. A function that has run loops over functions leaves with a mark for each; rows of ints that grow within such rounds. term.Metas. Package lift, walked in the deep way: may, done, Over, Closed, Subst; spot.Close. What package audit does with steps, in plain words; a chain turned round. Package subst, walked in the deep way: Apply. Package subst, walked in the deep way: through, Apply. What forms grow to where terms are put for variables: no more heads than units that are spent; plain. Package subst's lists, walked in the deep way: Clone, Without, Set, Domain, Get. spot.Replace, walked in the deep way; copies of larger terms. What is asked of the forms on the way of subst.Apply holds with small budgets; plain. The type of a head: the program's and the document's. The type of a head: the document's. Whether a term is of a type: the plain law. Terms put for variables keep types; plain. Terms put for metavariables keep types; plain. Package rule, walked in the deep way: met, term. Package rule, walked in the deep way: Own, Of, Equal, Variant. The document's numbers of a pair (order, renamed) are those of package rule. The document's answer of layer 17: order, renamed, Own, Variant. Deep values: regions with steps through a map. Package match, walked in the deep way: what was found as a substitution; several at once. The known answer of the laws of layer 12. Lists of pairs, there and back. Lists of pairs in the laws of layer 9: To, Few. Package subst's lists, walked in the deep way: Set, Domain, Get, Equal; terms that are the same. Package subst's lists, walked in the deep way: Get, Equal. The document's lists of pairs, walked in the deep way: Sorted, Get, Without, Domain, Same. LiftSubsts, walked in the deep way. How large long forms are, and that their indexes fit. How large lifted terms are, and that their indexes fit. The document's Take, walked in the deep way; what is wrong with a pattern. The document's Like. The document's Metas.
-/
import Derived.Test.YtclihnccilkohaaGreatRowAuditStepsp1
import Derived.Test.YtclihnccilkohaaGreatRowAuditStepsp6
import Derived.Lib.OwnBridge
import Derived.Sort.OwnSortedInts
import Derived.Test.YtclihnccilkohaaGreatRowAuditStepsp5
import Derived.RangeFuncBox
import Derived.Test.YtclihnccilkohaaGreatRowAuditStepsp4
import Derived.Deep.QuietTactic
import Derived.BigQuiet
import Derived.WalkSmall
import Derived.Maps.RangeRun
set_option maxRecDepth 100000
set_option maxHeartbeats 1000000
set_option linter.unusedVariables false
set_option linter.unusedSimpArgs false
namespace Go.Proofs.YtclihnccilkohaaGreat
open Go.RowKit
def X3 (zs:List Int):List Int:=Lib.compact (zs.mergeSort fun x y=>decide (x≤y))
theorem PP (d:Array Int):Lib.keeps d 0=true:=by simp[Lib.keeps]
theorem P1 (d:Array Int):∀ m,m≤d.size→(∀ i j,i≤j→j<d.size→d[i]! ≤ d[j]!)→(Lib.compactUpTo d m).Pairwise (· < ·)∧(∀ x∈Lib.compactUpTo d m,∃ j,j<m∧d[j]! = x)∧(∀ j,j<m→d[j]! ∈ Lib.compactUpTo d m):=by
 intro m
 induction m with
 | zero=>intro _ _;simp[Lib.compactUpTo]
 | succ m ih=>
  intro hm hs
  obtain⟨h1,h2,h3⟩:=ih (by omega) hs
  rw[Lib.compactUpTo_succ]
  by_cases hk:Lib.keeps d m=true
  ·rw[if_pos hk]
   refine⟨?_,?_,?_⟩
   ·rw[List.pairwise_append]
    refine⟨h1,by simp,fun a ha b hb=>?_⟩
    obtain⟨j,hj,rfl⟩:=h2 a ha
    simp at hb;subst hb
    have hle:=hs j (m-1) (by omega) (by omega)
    have hle2:=hs (m-1) m (by omega) (by omega)
    have hne:d[m-1]! ≠ d[m]! := by
     cases m with
     | zero=>omega
     | succ k=>
      have:d[k+1]! ≠ d[k]! := by simpa[Lib.keeps] using hk
      exact fun e=>this e.symm
    omega
   ·intro x hx
    rcases List.mem_append.1 hx with hx | hx
    ·obtain⟨j,hj,e⟩:=h2 x hx;exact⟨j,by omega,e⟩
    ·simp at hx;exact⟨m,by omega,hx.symm⟩
   ·intro j hj
    rw[List.mem_append]
    by_cases hjm:j=m
    ·subst hjm;right;simp
    ·left;exact h3 j (by omega)
  ·rw[if_neg hk,List.append_nil]
   refine⟨h1,fun x hx=>by obtain⟨j,hj,e⟩:=h2 x hx;exact⟨j,by omega,e⟩,fun j hj=>?_⟩
   by_cases hjm:j=m
   ·subst hjm
    cases j with
    | zero=>exact absurd (PP d) hk
    | succ k=>
     have:d[k+1]! = d[k]! := by simpa[Lib.keeps] using hk
     rw[this];exact h3 k (by omega)
   ·exact h3 j (by omega)
theorem YC (zs:List Int):(X3 zs).Pairwise (· < ·)∧∀ x,x∈X3 zs↔x∈zs:=by
 obtain⟨ss,hss⟩:∃ ss,(zs.mergeSort fun x y=>decide (x≤y))=ss:=⟨_,rfl⟩
 have hp:ss.Perm zs:=by rw[←hss];exact List.mergeSort_perm _ _
 have hs:ss.Pairwise (fun x y=>x≤y):=by
  have:=List.pairwise_mergeSort (le:=fun x y:Int=>decide (x≤y)) (fun a b c h1 h2=>by simp at *;omega) (fun a b=>by simp;omega) zs
  rw[hss] at this
  simpa using this
 have hs':∀ i j,i≤j→j<ss.toArray.size→ss.toArray[i]! ≤ ss.toArray[j]! := by
  intro i j hij hj
  have hj':j<ss.length:=by simpa using hj
  have hi':i<ss.length:=by omega
  simp only[List.getElem!_toArray,getElem!_pos ss i hi',getElem!_pos ss j hj']
  by_cases e:i=j
  ·subst e;exact Int.le_refl _
  ·exact List.pairwise_iff_getElem.1 hs i j hi' hj' (by omega)
 obtain⟨h1,h2,h3⟩:=P1 ss.toArray ss.length (by simp) hs'
 unfold X3
 rw[hss]
 refine⟨h1,fun x=>?_⟩
 rw[←hp.mem_iff]
 constructor
 ·intro hx
  obtain⟨j,hj,e⟩:=h2 x hx
  rw[←e]
  simp only[List.getElem!_toArray,getElem!_pos ss j hj]
  exact List.getElem_mem hj
 ·intro hx
  obtain⟨j,hj,e⟩:=List.getElem_of_mem hx
  have:=h3 j hj
  simp only[List.getElem!_toArray,getElem!_pos ss j hj,e] at this
  exact this
theorem Tl:∀ {l r:List Int},l.Pairwise (· < ·)→r.Pairwise (· < ·)→(∀ x,x∈l↔x∈r)→l=r
 | [],[],_,_,_=>rfl
 | [],b :: r,_,_,h=>absurd ((h b).2 (by simp)) (by simp)
 | a :: l,[],_,_,h=>absurd ((h a).1 (by simp)) (by simp)
 | a :: l,b :: r,h1,h2,h=>by
  rw[List.pairwise_cons] at h1 h2
  have hab:a=b:=by
   have ha:=(h a).1 (by simp)
   have hb:=(h b).2 (by simp)
   rcases List.mem_cons.1 ha with e | ha
   ·exact e
   rcases List.mem_cons.1 hb with e | hb
   ·exact e.symm
   have:=h2.1 a ha;have:=h1.1 b hb;omega
  subst hab
  rw[Tl h1.2 h2.2 fun x=>?_]
  constructor
  ·intro hx
   rcases List.mem_cons.1 ((h x).1 (by simp[hx])) with e | hx'
   ·have:=h1.1 x hx;omega
   ·exact hx'
  ·intro hx
   rcases List.mem_cons.1 ((h x).2 (by simp[hx])) with e | hx'
   ·have:=h2.1 x hx;omega
   ·exact hx'
theorem Rf (zs:List Int):X3 (zs++zs)=X3 zs:=
 Tl (YC _).1 (YC _).1 fun x=>by rw[(YC _).2,(YC _).2];simp
theorem GE {base:Nat}{w:World}{v:Value}{zs:List Int}(h:w.ownsRow base 3 1 v zs.length (zs.map (Value.int .i64)))(hl:zs.length≤1000000):
  Calls Tryz.prog 146 #[v] w fun e w'=>e=.returned (.tuple #[])∧w'.ownsRow base 3 1 v zs.length ((zs.mergeSort fun x y=>decide (x≤y)).map (Value.int .i64))∧w.grownBy w' v.ownBlock:=by
 by_cases hv:v=.slice none 0 0
 ·subst hv
  have h0:zs=[]:=by
   rcases h.2 with⟨_,e⟩ | ⟨_,_,_,e,_⟩
   ·exact List.eq_nil_of_length_eq_zero e
   ·cases e
  subst h0
  refine(Tryz.slices_Sort_int_none none 0 w).mono ?_
  rintro e w' ⟨rfl,rfl⟩
  exact⟨rfl,by simpa using h,⟨rfl,rfl,rfl,Nat.le_refl _,fun _ _ _=>rfl⟩⟩
 ·obtain⟨g,cap,rfl,hb,hlt,hn,hm,_,hH⟩:=Lib.holds_of_ownsRow h hv
  refine(Tryz.slices_Sort_int g 0 cap zs w hH hlt (by omega)).mono ?_
  rintro e w' ⟨rfl,n,os,rfl⟩
  refine⟨rfl,?_,grownBy_sortedI _⟩
  rcases h.2 with⟨e,_⟩ | ⟨g',cap',cur,e,_,hg,_,_,hc,_⟩
  ·cases e
  ·cases e
   exact ownsRow_sortedI (ss:=zs) (by simp) hb hg hn hm hc
theorem Qn {base:Nat}{w:World}{v:Value}{zs:List Int}(h:w.ownsRow base 3 1 v zs.length (zs.map (Value.int .i64)))(hl:zs.length≤1000000):
  Calls Tryz.prog 147 #[v] w fun e w'=>∃ v',e=.returned v'∧w'.ownsRow base 3 1 v' (Lib.compact zs).length ((Lib.compact zs).map (Value.int .i64))∧w.grownBy w' v.ownBlock:=by
 by_cases hv:v=.slice none 0 0
 ·subst hv
  have h0:zs=[]:=by
   rcases h.2 with⟨_,e⟩ | ⟨_,_,_,e,_⟩
   ·exact List.eq_nil_of_length_eq_zero e
   ·cases e
  subst h0
  refine(Tryz.slices_Compact_int_empty none 0 w).mono ?_
  rintro e w' ⟨rfl,rfl⟩
  exact⟨_,rfl,h,⟨rfl,rfl,rfl,Nat.le_refl _,fun _ _ _=>rfl⟩⟩
 ·obtain⟨g,cap,rfl,hb,hlt,hn,hm,_,hH⟩:=Lib.holds_of_ownsRow h hv
  refine(Tryz.slices_Compact_int g 0 cap zs w hH (by omega) hn).mono ?_
  rintro e w' ⟨rfl,q,rfl⟩
  have hcl:=Lib.compact_length_le zs
  refine⟨_,rfl,?_,?_⟩
  ·have:=Lib.ownsRow_putRow (q:=q) (k:=(Lib.compact zs).length) (ys:=Lib.compact zs++List.replicate (zs.length-(Lib.compact zs).length) 0) h (by simp;omega) hcl
   simpa using this
  ·have:=grownBy_sortedI (w:=w) (g:=g) (n:=q) (os:=#[]) (Lib.compact zs++List.replicate (zs.length-(Lib.compact zs).length) 0).toArray
   simpa[Value.ownBlock] using this
theorem F3 {base:Nat}{w:World}{v:Value}{l:List Int}(h:w.ownsRow base 3 1 v l.length (l.map (Value.int .i64))):∃ a c,v=.slice a l.length c∧Yd K4 (fun q=>base≤q) w v l:=by
 have hA:Acc K4 3 base (fun _=>False) w v l:=by
  refine⟨l.map (fun z=>[.int .i64 z]),by simp,?_,fun i hi=>⟨[.int .i64 l[i]],by simp[List.getElem?_eq_getElem hi],rfl⟩⟩
  have:(l.map (fun z=>[Value.int .i64 z])).flatten=l.map (Value.int .i64):=by
   clear h
   induction l with
   | nil=>rfl
   | cons a l ih=>simp only[List.map_cons,List.flatten_cons,ih];rfl
  rw[this];exact h
 obtain⟨a,c,hv⟩:=hA.len_shape
 exact⟨a,c,hv,hA.sl (fun _ _ h=>h.elim) (fun _ h=>h)⟩
theorem Uk {F:Fence}{n:Nat}{P:Program}{fn:Func}{tmps:Array Value}{R:Ending→World→Prop}(B:Nat):∀ (Ds:List Nat) (w:World),Ds.Nodup→B≤w.heap.size→(∀ D∈Ds,B≤D∧w.heap[D]?=some (.deferred (some []))) →
  (∀ w',Keep (fun _=>True) w w'→Below B w w'→LeavesIn F n P fn tmps R [] .returning w')→LeavesInM F n P fn tmps R (Ds.map fun D=>{ target:=.collected D,args:=#[] }) .returning w
 | [],w,_,_,_,hk=>hk w (Keep.refl _ _) (Below.refl _ _)
 | D :: Ds,w,hd,hB,hD,hk=>by
  rw[List.nodup_cons] at hd
  have h1:=hD D (by simp)
  have hlt:D<w.heap.size:=(Array.getElem?_eq_some_iff.1 h1.2).1
  refine⟨by simp,.inl ⟨D,_,rfl,run_takeDeferred h1.2,?_⟩⟩
  have hbel:Below B w (w.putObj D (.deferred none)):=(Below.refl _ _).grown (grownBy_putObj' w D (.deferred none)) hB (fun r e=>by cases e;exact h1.1)
  have hkp:Keep (fun _=>True) w (w.putObj D (.deferred none)):=fun o v k _ hv=>cell_kept hv (grownBy_putObj' _ D (.deferred none)) (fun r e=>by cases e;exact⟨_,h1.2,rfl⟩)
  refine Uk B Ds _ hd.2 (by simpa using hB) (fun D' hD'=>⟨(hD D' (by simp[hD'])).1,?_⟩) fun w' hk' hb'=>hk w' (hkp.trans hk') (hbel.trans hb')
  have hne:D'≠D:=fun e=>hd.1 (e ▸ hD')
  exact(World.putObj_heap_other hne).trans (hD D' (by simp[hD'])).2
theorem Ui {W W':World}{row:Option Nat}(hg:W.grownBy W' row)(hr:∀ r,row=some r→∃ o:Obj,W.heap[r]?=some o∧o.isCells=true):KeepsOthers W W':=
 ⟨hg.size,fun k o ho hc=>(hg.block k (Array.getElem?_eq_some_iff.1 ho).1 (fun e=>by
  obtain⟨o',ho',hc'⟩:=hr k e.symm
  rw[ho] at ho';cases ho';rw[hc] at hc';cases hc')).trans ho⟩
theorem UG {w:World}{base:Nat}{e:TypeId}{size:Nat}{v:Value}{n:Nat}{xs:List Value}(h:w.ownsRow base e size v n xs):∀ r,v.ownBlock=some r→base≤r∧∃ cs,w.heap[r]?=some (.cells cs e (0,0)):=by
 intro r hr
 rcases h.2 with⟨rfl,_⟩ | ⟨g,cap,cur,rfl,hb,hg,_⟩
 ·cases hr
 ·cases hr;exact⟨hb,_,hg⟩
theorem F2 {w w':World}{base:Nat}{e:TypeId}{size:Nat}{v:Value}{n:Nat}{xs:List Value}{row:Option Nat}(h:w.ownsRow base e size v n xs)(hg:w.grownBy w' row) 
  (hr:∀ r,row=some r→∃ o:Obj,w.heap[r]?=some o∧∀ cs,o≠.cells cs e (0,0)):w'.ownsRow base e size v n xs:=by
 refine h.kept hg ?_
 cases hv:v.ownBlock with
 | none=>exact .inl rfl
 | some g=>
  refine .inr fun e'=>?_
  obtain⟨_,cs,hc⟩:=UG h g hv
  obtain⟨o,ho,hne⟩:=hr g e'.symm
  rw[hc] at ho;cases ho;exact hne cs rfl
structure OutAt (w:World) (Ds:List Nat) (vv:Value) (zs:List Int) (W:World):Prop where
 box:Blk W w.heap.size #[vv] 71
 own:W.ownsRow (w.heap.size+1) 3 1 vv zs.length (zs.map (Value.int .i64))
 nod:Ds.Nodup
 marks:∀ D∈Ds,w.heap.size+1≤D∧W.heap[D]?=some (.deferred (some []))
 below:Below w.heap.size w W
def Ar (B k:Nat)(t:TypeId):Prop:=k<B∨(B<k∧t≠3)
namespace OutAt
variable {w W W':World} {Ds:List Nat} {vv:Value} {zs:List Int}
theorem lt (h:OutAt w Ds vv zs W):∀ D∈Ds,D<W.heap.size:=fun D hD=>(Array.getElem?_eq_some_iff.1 (h.marks D hD).2).1
theorem blw (h:OutAt w Ds vv zs W)(hb:Below W.heap.size W W'):OutAt w Ds vv zs W':=
 ⟨h.box.below hb,VT h.own hb,h.nod,fun D hD=>⟨(h.marks D hD).1,(hb.block D (h.lt D hD)).trans (h.marks D hD).2⟩,h.below.trans (hb.mono h.below.size)⟩
theorem alloc (h:OutAt w Ds vv zs W)(o:Obj):OutAt w Ds vv zs (W.alloc o):=h.blw ((Below.refl _ _).alloc (Nat.le_refl _) _)
theorem grown {B:Nat}{row:Option Nat}(h:OutAt w Ds vv zs W)(hlt:∀ D∈Ds,D<B)(hwB:w.heap.size<B)(hg:W.grownBy W' row) 
  (hr:∀ r,row=some r→B≤r∧∃ o:Obj,W.heap[r]?=some o∧∀ cs,o≠.cells cs 3 (0,0)):OutAt w Ds vv zs W':=
 ⟨h.box.grown hg (fun e=>by have:=(hr _ e).1;omega),F2 h.own hg (fun r e=>(hr r e).2),h.nod,
  fun D hD=>⟨(h.marks D hD).1,(hg.block D (h.lt D hD) (fun e=>by have:=(hr _ e.symm).1;have:=hlt D hD;omega)).trans (h.marks D hD).2⟩,
  h.below.grown hg h.below.size (fun r e=>by have:=(hr r e).1;omega)⟩
theorem mark (h:OutAt w Ds vv zs W){D:Nat}(hD:W.heap[D]?=some (.deferred (some [])))(hn:∀ D'∈Ds,D'<D)(hw:w.heap.size+1≤D):OutAt w (D :: Ds) vv zs W:=
 ⟨h.box,h.own,List.nodup_cons.2 ⟨fun hm=>by have:=hn D hm;omega,h.nod⟩,fun D' h'=>by
  rcases List.mem_cons.1 h' with rfl | h'
  ·exact⟨hw,hD⟩
  ·exact h.marks D' h',h.below⟩
theorem push (h:OutAt w Ds vv zs W)(x:Int){w3:World}{v':Value}(hg:(W.alloc (.cells #[.int .i64 x] 3)).grownBy w3 vv.ownBlock) 
  (hown:w3.ownsRow (w.heap.size+1) 3 1 v' (zs.length+1) (zs.map (Value.int .i64)++[.int .i64 x])) :
  OutAt w Ds v' (zs++[x]) (w3.setCell ⟨w.heap.size,0,none⟩ v')∧KeepsOthers W (w3.setCell ⟨w.heap.size,0,none⟩ v')∧KeepC (Ar w.heap.size) W (w3.setCell ⟨w.heap.size,0,none⟩ v'):=by
 have ho1:=h.own.alloc (.cells #[.int .i64 x] 3)
 have h1:=h.alloc (.cells #[.int .i64 x] 3)
 have hrow:=UG ho1
 have hk3:KeepsOthers (W.alloc (.cells #[.int .i64 x] 3)) w3:=Ui hg (fun r e=>by
  obtain⟨_,cs,hc⟩:=hrow r e;exact⟨_,hc,rfl⟩)
 have hbox3:Blk w3 w.heap.size #[vv] 71:=h1.box.grown hg (fun e=>by have:=(hrow _ e).1;omega)
 have hbel3:Below w.heap.size w w3:=h1.below.grown hg h1.below.size (fun r e=>by have:=(hrow r e).1;omega)
 have hkc:KeepC (Ar w.heap.size) (W.alloc (.cells #[.int .i64 x] 3)) w3:=⟨hg.size,fun k cs t fr hk hc=>(hg.block k (Array.getElem?_eq_some_iff.1 hc).1 (fun e=>by
  obtain⟨hle,cs',hc'⟩:=hrow k e.symm
  rw[hc] at hc';cases hc'
  rcases hk with hk | hk
  ·omega
  ·exact hk.2 rfl)).trans hc⟩
 refine⟨⟨hbox3.set 0 _,?_,h.nod,fun D hD=>⟨(h1.marks D hD).1,?_⟩,hbel3.setCell (by simp) _⟩,(((KeepsOthers.alloc W _).trans hk3).trans (KeepsOthers.setCell _ _ _)),?_⟩
 ·have:=ownsRow_setCell_below hown (a:=⟨w.heap.size,0,none⟩) (by simp) v'
  simpa using this
 ·exact(KeepsOthers.setCell w3 _ v').same D _ (hk3.same D _ (h1.marks D hD).2 rfl) rfl
 ·exact(((KeepC.refl _ W).alloc _).trans hkc).setCell _ _ (fun t ht=>by rcases ht with h | h <;> simp at h)
theorem push_box (h:OutAt w Ds vv zs W){x:Int}{w3:World}(hg:(W.alloc (.cells #[.int .i64 x] 3)).grownBy w3 vv.ownBlock):Blk w3 w.heap.size #[vv] 71:=
 (h.alloc (.cells #[.int .i64 x] 3)).box.grown hg (fun e=>by have:=(UG (h.own.alloc (.cells #[.int .i64 x] 3)) _ e).1;omega)
theorem turned (h:OutAt w Ds vv zs W){ys:List Int}{W':World}(hg:W.grownBy W' vv.ownBlock){v':Value}(hown:W'.ownsRow (w.heap.size+1) 3 1 v' ys.length (ys.map (Value.int .i64))):
  (Blk W' w.heap.size #[vv] 71∧∀ D∈Ds,w.heap.size+1≤D∧W'.heap[D]?=some (.deferred (some [])))∧Below w.heap.size w W':=by
 have hrow:=UG h.own
 refine⟨⟨h.box.grown hg (fun e=>by have:=(hrow _ e).1;omega),fun D hD=>⟨(h.marks D hD).1,?_⟩⟩,h.below.grown hg h.below.size (fun r e=>by have:=(hrow r e).1;omega)⟩
 refine(hg.block D (h.lt D hD) (fun e=>?_)).trans (h.marks D hD).2
 obtain⟨_,cs,hc⟩:=hrow D e.symm
 rw[(h.marks D hD).2] at hc;cases hc
theorem sorted (h:OutAt w Ds vv zs W){ys:List Int}{W':World}(hg:W.grownBy W' vv.ownBlock)(hown:W'.ownsRow (w.heap.size+1) 3 1 vv ys.length (ys.map (Value.int .i64))):OutAt w Ds vv ys W':=
 let q:=h.turned hg hown
 ⟨q.1.1,hown,h.nod,q.1.2,q.2⟩
theorem leave (h:OutAt w Ds vv zs W){ys:List Int}{W':World}(hg:W.grownBy W' vv.ownBlock){v':Value}(hown:W'.ownsRow (w.heap.size+1) 3 1 v' ys.length (ys.map (Value.int .i64))) 
  {F:Fence} {n:Nat} {P:Program} {fn:Func} {tmps:Array Value} (hr:∀ w3:World,(results fn tmps).run P w3=.ok v' w3) :
  LeavesInM F n P fn tmps (SW ys w) (Ds.map fun D=>{ target:=.collected D,args:=#[] }) .returning W':=by
 obtain⟨⟨hb,hm⟩,hbel⟩:=h.turned hg hown
 refine Uk (w.heap.size+1) Ds W' h.nod (by have:=hb.lt;omega) hm (fun w3 hk hb3=>?_)
 obtain⟨a,c,hv,hs⟩:=F3 hown
 subst hv
 exact⟨_,hr w3,a,c,rfl,(hs.keep (fun k o u _ hu=>hk k o u trivial hu)).weaken (by decide) (fun q _ hq=>by omega),hbel.trans (hb3.mono (by omega))⟩
end OutAt
end Go.Proofs.YtclihnccilkohaaGreat
namespace Go.Proofs.YtclihnccilkohaaGreat
open Go.RowKit Go.Shelf
attribute [local go_sem] Oper.semAt_some
theorem KA {F:Nat→Prop}{w:World}{v:Value}{l:List Tm}(h:Yd VZ F w v l):∃ a c,v=.slice a l.length c∧(l.length≤maxLen∧l.length≤c)∧∃ (bl off:Nat),
  (0<l.length→a=some ⟨bl,off,none⟩∧F bl)∧∀ j (hj:j<l.length),∃ b k i s,w.cell? ⟨bl,off+j * 4,none⟩=some b∧w.cell? ⟨bl,off+j * 4+1,none⟩=some k∧w.cell? ⟨bl,off+j * 4+2,none⟩=some i∧w.cell? ⟨bl,off+j * 4+3,none⟩=some s∧Xv F w b k i s l[j]:=by
 obtain⟨a,c,bl,off,X,hv,hm,ha,h1,h2⟩:=h
 refine⟨a,c,hv,hm,bl,off,ha,fun j hj=>?_⟩
 obtain⟨b,k,i,s,hx,ht⟩:=h2 j hj
 exact⟨b,k,i,s,h1 j 0 b hj (by rw[hx];rfl),h1 j 1 k hj (by rw[hx];rfl),h1 j 2 i hj (by rw[hx];rfl),h1 j 3 s hj (by rw[hx];rfl),ht⟩
def XE (l:List (Int×Int)):List Int:=l.filterMap fun p=>if p.1=2 then some p.2 else none
def Xs (l:List (Nat×Nat×Tm)):List Int:=l.filterMap fun p=>if p.2.2.kind=2 then some p.2.2.index else none
def Yj (l:List Tm):List Int:=l.flatMap fun t=>Xs (t.pre 0 1)
theorem RU (l:List Tm)(j:Nat)(h:j<l.length):Yj (l.take (j+1))=Yj (l.take j)++Xs (l[j].pre 0 1):=by
 rw[List.take_succ_eq_append_getElem h];unfold Yj;rw[List.flatMap_append];simp
theorem VN (l:List Tm)(m:Nat)(h:∀ t∈l,t.full≤m):(Yj l).length≤l.length * m:=by
 induction l with
 | nil=>simp[Yj]
 | cons t l ih=>
  have h1:=h t (by simp)
  have h2:=ih (fun u hu=>h u (by simp[hu]))
  have h3:(Yj (t :: l)).length=(Xs (t.pre 0 1)).length+(Yj l).length:=by simp[Yj]
  have h4:(Xs (t.pre 0 1)).length≤(t.pre 0 1).length:=List.length_filterMap_le _ _
  rw[Tm.pre_length] at h4
  have h5:=Tm.size_le_full t
  rw[h3,List.length_cons,Nat.succ_mul];omega
theorem PU (t:Tm)(hf:t.Fit):XE (t.heads 0)=Xs (t.pre 0 1):=by
 have e:=J9 t 0 1 hf
 rw[show t.heads 0=t.heads ((0:Nat):Int) from rfl,e]
 unfold XE Xs
 rw[List.filterMap_filterMap]
 congr 1
 funext p
 unfold hdOf
 by_cases h0:p.2.2.kind=0
 ·by_cases h1:(p.1:Int)≤p.2.2.index
  ·simp[h0,h1]
  ·simp[h0,h1]
 ·simp[h0]
set_option maxRecDepth 100000 in
set_option maxHeartbeats 4000000 in
theorem FY {F:Nat→Prop}{w:World}{v:Value}{l:List Tm}(h:Yd VZ F w v l)(hl:l.length≤9)(hsz:∀ t∈l,t.full≤90000):Calls Tryz.prog 136 #[v] w (SW (X3 (Yj l)) w):=by
 refine(callsIn_wide (n:=9)).1 ?_
 have Ht:=Lib.hid (h.weaken (F':=fun _=>True) (by decide) fun _ _ _=>trivial)
 obtain⟨a,c,rfl,hm,bl,off,ha,hc⟩:=KA Ht.out
 obtain⟨ll,hll⟩:∃ x,l.length=x:=⟨_,rfl⟩
 clear h Ht
 have Hm:=Lib.hid hm;clear hm
 have Hc:=Lib.hid hc;clear hc
 have Hsz:=Lib.hid hsz;clear hsz
 rw[hll] at ha hl ⊢
 obtain⟨i2,hi2,hz0,hz1,hz2⟩:=info_parts AS
 refine callsIn_of_wp_marks Tryz.func136 rfl trivial ?_ rfl
 simp only[Tryz.ntmps136,List.size_toArray,List.length_cons,List.length_nil,Nat.reduceAdd,Nat.reduceSub,Array.replicate_succ,Array.replicate_zero,List.push_toArray,List.append_toArray,List.nil_append,List.cons_append]
 gi_wp2_with fail
 refine wpIn_loop (fun a' w'=>∃ (j:Nat) (Ds:List Nat) (zs:List Int) (vv u5 u11 u12 u13 u14 u15 u28:Value),a'={ tmps:=#[.slice a ll c,undef,.slice none 0 0,.pointer (some ⟨w.heap.size,0,none⟩),undef,u5,undef,undef,.slice a ll c,.int .i64 ll,.int .i64 j,u11,u12,u13,u14,u15,undef,undef,undef,undef,undef,undef,undef,undef,undef,undef,undef,undef,u28,undef,undef,undef,undef],defers:=Ds.map fun D=>{ target:=.collected D,args:=#[] } } ∧
   j≤ll∧Hid (zs=Yj (l.take j))∧OutAt w Ds vv zs w') (fun a' _=>ll-(intOf (a'.tmps.getD 10 undef)).toNat) ?start ?round
 case start=>
  refine⟨0,[],[],.slice none 0 0,undef,undef,undef,undef,undef,undef,undef,rfl,by omega,by show _=_;simp[Yj],?_⟩
  exact⟨Blk.new _ _ _ rfl,World.ownsRow_nil _ _ _ _,by simp,by simp,(Below.refl _ _).alloc (Nat.le_refl _) _⟩
 case round=>
  rintro a' W ⟨j,Ds,zs,vv,u5,u11,u12,u13,u14,u15,u28,rfl,hj,hzs,hO⟩
  have hj0:(0:Int)≤(j:Int):=Int.natCast_nonneg _
  have HO:=Lib.hid hO;clear hO
  by_cases hlt:j<ll
  ·have hj1:(j:Int)<(ll:Int):=by omega
   obtain⟨rfl,_⟩:=ha (by omega)
   obtain⟨vb,vk,vi,vs,e1,e2,e3,e4,hty⟩:=Hc.out j (by omega)
   have hW:=HO.out.below
   have e1:=((Keep.refl (fun _=>True) _).below hW) _ _ _ trivial e1
   have e2:=((Keep.refl (fun _=>True) _).below hW) _ _ _ trivial e2
   have e3:=((Keep.refl (fun _=>True) _).below hW) _ _ _ trivial e3
   have e4:=((Keep.refl (fun _=>True) _).below hW) _ _ _ trivial e4
   have Htk:=Lib.hid (RU l j (by omega))
   have hts:=Hsz.out l[j] (List.getElem_mem _)
   obtain⟨t,ht⟩:∃ t,l[j]=t:=⟨_,rfl⟩
   rw[ht] at hty Htk hts
   clear ht
   obtain⟨pa,pc,qa,qc,rfl,rfl,rfl,rfl⟩:=hty.shape
   have Hty:=Lib.hid hty;clear hty
   obtain⟨x1,hx1⟩:∃ x,t.binds.length=x:=⟨_,rfl⟩
   obtain⟨x2,hx2⟩:∃ x,t.args.length=x:=⟨_,rfl⟩
   obtain⟨x3,hx3⟩:∃ x,t.kind=x:=⟨_,rfl⟩
   obtain⟨x4,hx4⟩:∃ x,t.index=x:=⟨_,rfl⟩
   rw[hx1,hx2,hx3,hx4] at Hty
   rw[hx1] at e1
   rw[hx3] at e2
   rw[hx4] at e3
   rw[hx2] at e4
   clear hx1 hx2 hx3 hx4
   gi_wp2_with fail
   refine⟨trivial,(KO _ _ _ _ _ _ ⟨_,_,_,rfl⟩ ⟨_,rfl⟩ ⟨_,rfl⟩ ⟨_,_,_,rfl⟩).mono ?_⟩
   rintro e w' ⟨rfl,rfl⟩
   gi_wp2_with fail
   have HO5:=Lib.hid ((HO.out.alloc (.cells #[.slice pa x1 pc,.int .i64 x3,.int .i64 x4,.slice qa x2 qc] 62)).alloc (.cells #[.slice pa x1 pc,.int .i64 x3,.int .i64 x4,.slice qa x2 qc] 62))
   obtain⟨w5,hw5⟩:∃ w5,(W.alloc (.cells #[.slice pa x1 pc,.int .i64 x3,.int .i64 x4,.slice qa x2 qc] 62)).alloc (.cells #[.slice pa x1 pc,.int .i64 x3,.int .i64 x4,.slice qa x2 qc] 62)=w5:=⟨_,rfl⟩
   have hz:w5.heap.size=W.heap.size+2:=by rw[←hw5];simp
   have y3:Blk w5 (W.heap.size+1) #[.slice pa x1 pc,.int .i64 x3,.int .i64 x4,.slice qa x2 qc] 62:=by rw[←hw5];exact Blk.new _ _ _ (by simp)
   rw[hw5] at HO5 ⊢
   clear hw5
   have hsz1:=HO.out.box.lt
   have hlts:=HO.out.lt
   clear HO
   have Hlts:Hid (∀ D∈Ds,D<w5.heap.size):=fun D hD=>by have:=hlts D hD;omega
   clear hlts
   refine UR (Ok:=Vg) (fun o h=>.inl h) rfl (by omega) (gf:=98) (lb:=#[.pointer (some ⟨W.heap.size+1,0,none⟩)]) rfl trivial (enters_of Tryz.func98 (by kernel_rfl) rfl)
    (TS (Ar w.heap.size) (fun k _ _ hk=>.inl hk) Hty.out (by omega) (9-1) w5 (fun k _ hk ht=>.inr ⟨by omega,ht⟩) ((Keep.refl _ _).below HO5.out.below) (W.heap.size+1) y3)
    (fun h h'=>h.trans h') (fun W l o o' _ hl ho _=>KeepC.putObj _ W l o o' hl ho) (Below.refl _ _) (fun _=>rfl)
    (fun pre V=>∃ v',OutAt w Ds v' (zs++Xs (pre.map Xz.key)) V)
    (fun _ _ _=>False)
    (fun pre A B row ⟨v',h⟩ hg hr=>⟨v',h.grown Hlts.out (by omega) hg (fun r e=>by
     obtain⟨h1,o,ho,hc⟩:=hr r e
     refine⟨h1,o,ho,fun cs e=>?_⟩
     subst e
     rcases hc with hc | ⟨cs',fr,hc⟩
     ·simp[Obj.isCells] at hc
     ·cases hc)⟩)
    (fun _ _ _ _ _ hs _ _=>hs)
    ⟨vv,by simpa[Xs] using HO5.out⟩
    (fun x a' V=>∃ Bx,Blk V Bx #[.slice x.pb x.t.binds.length x.cb,.int .i64 x.t.kind,.int .i64 x.t.index,.slice x.pa x.t.args.length x.ca] 62∧a'={ tmps:=#[.slice (some ⟨bl,off,none⟩) ll c,undef,.slice none 0 0,.pointer (some ⟨w.heap.size,0,none⟩),undef,.pointer (some ⟨W.heap.size,0,none⟩),undef,.pointer (some ⟨Bx,0,none⟩),.slice (some ⟨bl,off,none⟩) ll c,.int .i64 ll,.int .i64 j,.bool true,.pointer (some ⟨bl,off+j * 4,none⟩),.agg #[.slice pa x1 pc,.int .i64 x3,.int .i64 x4,.slice qa x2 qc],.agg #[.slice pa x1 pc,.int .i64 x3,.int .i64 x4,.slice qa x2 qc],.func (.func 98) #[] #[.pointer (some ⟨W.heap.size+1,0,none⟩)],.agg #[.int .i64 x.s,.int .i64 x.d],.agg #[.slice x.pb x.t.binds.length x.cb,.int .i64 x.t.kind,.int .i64 x.t.index,.slice x.pa x.t.args.length x.ca],undef,undef,undef,undef,undef,undef,undef,undef,undef,undef,u28,undef,undef,undef,undef],defers:=[] })
    (fun x a' W l o o' hl ho hoc=>by
     rintro⟨Bx,h2,h3⟩
     have hne:l≠Bx:=fun e=>by
      subst e
      have hb:W.heap[l]?=_:=h2
      rw[hb] at ho;cases ho;simp[Obj.isCells] at hoc
     exact⟨Bx,(World.putObj_heap_other (Ne.symm hne)).trans h2,h3⟩) ?assign ?body ?done ?stop
   case assign=>
    rintro l pre x V K ⟨v',hV⟩ hK
    have HK:=Lib.hid hK;clear hK
    have HV:=Lib.hid hV;clear hV
    simp only[Xz.enc] at *
    gi_wp2
    exact HK.out _ _ ((KeepsOthers.alloc _ _).from _) ((KeepC.refl _ V).alloc _) ⟨v',HV.out.alloc _⟩ ⟨V.heap.size,Blk.new _ _ _ rfl,rfl⟩
   case body=>
    rintro l' pre x a' V ⟨v',hV⟩ hlt' ⟨Bx,bX,rfl⟩
    have c1:V.cell? ⟨w.heap.size,0,none⟩=some v':=hV.box.cell rfl
    have cx1:V.cell? ⟨Bx,1,none⟩=some (.int .i64 x.t.kind):=bX.cell rfl
    have cx2:V.cell? ⟨Bx,2,none⟩=some (.int .i64 x.t.index):=bX.cell rfl
    have hlen0:(zs++Xs (pre.map Xz.key)).length≤900000:=by
     have h1:(Yj (l.take j)).length≤720000:=by
      have:=VN (l.take j) 90000 (fun t ht=>Hsz.out t (List.mem_of_mem_take ht))
      have h2:(l.take j).length≤8:=by simp;omega
      exact Nat.le_trans this (Nat.le_trans (Nat.mul_le_mul_right 90000 h2) (by decide))
     have h2:(Xs (pre.map Xz.key)).length≤pre.length:=by
      have:=List.length_filterMap_le (fun p:Nat×Nat×Tm=>if p.2.2.kind=2 then some p.2.2.index else none) (pre.map Xz.key)
      simpa[Xs] using this
     have h3:=Tm.size_le_full t
     rw[hzs.out,List.length_append]
     omega
    have hkey:Xs ((pre++[x]).map Xz.key)=Xs (pre.map Xz.key)++(if x.t.kind=2 then [x.t.index] else []):=by
     unfold Xs
     rw[List.map_append,List.filterMap_append]
     congr 1
     by_cases hk:x.t.kind=2
     ·simp[Xz.key,hk]
     ·simp[Xz.key,hk]
    have hkey2:zs++Xs ((pre++[x]).map Xz.key)=(zs++Xs (pre.map Xz.key))++(if x.t.kind=2 then [x.t.index] else []):=by rw[hkey,List.append_assoc]
    clear hkey
    obtain⟨zp,hzp⟩:∃ zp,zs++Xs (pre.map Xz.key)=zp:=⟨_,rfl⟩
    rw[hzp] at hV hkey2 hlen0
    obtain⟨kk,hkk⟩:∃ k,x.t.kind=k:=⟨_,rfl⟩
    obtain⟨ii,hii⟩:∃ k,x.t.index=k:=⟨_,rfl⟩
    rw[hkk,hii] at hkey2
    rw[hkk] at cx1 ⊢
    rw[hii] at cx2 ⊢
    clear hzp hkk hii
    have HV:=Lib.hid hV;clear hV
    have hsz3:=HV.out.below.size
    have f0:=HV.out.box.free 0
    by_cases hk:kk=2
    ·subst hk
     rw[if_pos rfl] at hkey2
     have Hkey:=Lib.hid hkey2;clear hkey2
     gi_wp2_with (gi_at_builtin;refine wpListIn_append_own _ rfl _ _ 71 rfl (w.heap.size+1) 3 i2 _ 1 8 Tryz.underlying71 hi2 hz0 hz1 hz2 rfl (by decide) v' zp.length (zp.map (Value.int .i64)) rfl (HV.out.own.alloc _) ⟨V.heap.size,0,none⟩ 1 1 [.int .i64 ii] rfl rfl (fun jj u hu=>by
       cases jj with
       | zero=>simp at hu;subst hu;exact(Blk.new V #[.int .i64 ii] 3 rfl).cell rfl
       | succ _=>simp at hu) (by simp[Value.oneCell']) (by simp[maxLen];omega) (by omega) (by have:=HV.out.box.lt;simp;omega) ?_;intro v2 w3 hown3 hg3 hnil3;have Hg3:=Lib.hid hg3;obtain⟨g3,cap3,rfl⟩:=ownsRow_succ hown3;have Hown3:=Lib.hid hown3;clear hown3 hg3 hnil3;have c3:=(HV.out.push_box Hg3.out).cell (i:=0) rfl;have f3:=(HV.out.push_box Hg3.out).free 0)
     obtain⟨q1,q2,q3⟩:=HV.out.push ii Hg3.out Hown3.out
     exact⟨q2.from _,q3,_,by rw[Hkey.out];exact q1⟩
    ·rw[if_neg hk,List.append_nil] at hkey2
     have Hkey:=Lib.hid hkey2;clear hkey2
     have hk':(kk==2)=false:=by simpa using hk
     gi_wp2
     exact⟨(KeepsOthers.refl _).from _,KeepC.refl _ _,_,by rw[Hkey.out];exact HV.out⟩
   case done=>
    rintro D ys V hD hys ⟨v',hV⟩ hK
    have hV2:=hV.mark hK (fun D' h'=>by have:=Hlts.out D' h';omega) (by omega)
    have Hz:Hid (zs++Xs (ys.map Xz.key)=Yj (l.take (j+1))):=by show _=_;rw[hys,Htk.out,hzs.out]
    rw[Hz.out] at hV2
    clear hV hK hys
    have HV:=Lib.hid hV2;clear hV2
    gi_wp2_with fail
    refine⟨⟨j+1,D :: Ds,_,v',_,_,_,_,_,_,_,rfl,by omega,rfl,HV.out⟩,?_⟩
    simp[intOf];omega
   case stop=>
    rintro D cc pre V _ _ h _
    exact h.elim
  ·have hO:=HO.out
   have hz2:zs=Yj l:=by rw[hzs.out,List.take_of_length_le (by omega)]
   have hlen:zs.length≤1000000:=by
    have:=VN l 90000 Hsz.out
    rw[hz2]
    exact Nat.le_trans this (Nat.le_trans (Nat.mul_le_mul_right 90000 (show l.length≤9 by omega)) (by decide))
   have c1:W.cell? ⟨w.heap.size,0,none⟩=some vv:=hO.box.cell rfl
   clear hO
   gi_wp2_with fail
   refine⟨trivial,(callsIn_wide.2 (GE (base:=w.heap.size+1) HO.out.own hlen)).mono ?_⟩
   rintro e W2 ⟨rfl,hown2,hg2⟩
   have hl2:=List.length_mergeSort (le:=fun x y:Int=>decide (x≤y)) zs
   have HO2:=Lib.hid (HO.out.sorted hg2 (by rw[hl2];exact hown2))
   clear HO hown2 hg2
   have c2:W2.cell? ⟨w.heap.size,0,none⟩=some vv:=HO2.out.box.cell rfl
   gi_wp2_with fail
   refine⟨trivial,(callsIn_wide.2 (Qn (base:=w.heap.size+1) HO2.out.own (by rw[hl2];exact hlen))).mono ?_⟩
   rintro e W3 ⟨v',rfl,hown3,hg3⟩
   have Hown3:=Lib.hid hown3;have Hg3:=Lib.hid hg3
   clear hown3 hg3
   gi_wp2_with fail
   have h:=HO2.out.leave Hg3.out Hown3.out (F:=Fence.wide) (n:=9) (P:=Tryz.prog) (fn:=Tryz.f136) (tmps:=#[.slice a ll c,undef,v',.pointer (some ⟨w.heap.size,0,none⟩),undef,u5,undef,undef,.slice a ll c,.int .i64 ll,.int .i64 j,.bool false,u12,u13,u14,u15,undef,undef,undef,undef,undef,undef,undef,undef,undef,undef,undef,undef,u28,vv,.tuple #[],vv,v']) (fun w3=>results_tmp (t:=2) rfl _ _ w3)
   rw[hz2] at h
   exact h
end Go.Proofs.YtclihnccilkohaaGreat
namespace Go.Proofs.YtclihnccilkohaaGreat
open Go.RowKit
theorem DD (l:List Tm)(hl:l.length≤9)(hz:∀ t∈l,t.full≤90000):Zd Tryz.prog 136 [.sl 4 (eTms l) none] (.sl 1 (Y4 (X3 (Yj l))) none):=by
 refine Wn (by kernel_rfl) fun m Im w vs hv=>?_
 match vs,hv with
 | [x],hv=>
  have hs:Yd VZ (fun _=>True) w x l:=(Uc (r:=VZ) (e:=eTm) WJ (fun x t hx _=>Sz t hx) (by decide) (by rw[YW] at hv;exact hv.1)).weaken (by decide) fun _ _ _=>trivial
  refine(FY hs hl hz).mono ?_
  rintro e w' ⟨a,c,rfl,h1,h2⟩
  refine⟨_,rfl,h2,fun Im' _ hI=>?_⟩
  exact X4 (r:=K4) (e:=fun i=>[.v (.int .i64 i)]) (fun b o v hq hc=>hI b o v hq hc) (fun _=>rfl) (fun x a h=>by
   have:x=[.int .i64 a]:=h
   subst this;exact⟨.v _,trivial⟩) h1
namespace Li
def rt (t:Tm):Bool:=decide (t.size≤5000∧t.depth≤60)
def done (p:Pr):Pr×Int:=if (rt p.l&&rt p.r)=true then (p,0) else (.z,2)
end Li
theorem RX:∀ (l m:List Int),l.Nodup→(∀ x∈l,x∈m)→l.length≤m.length
 | [],m,_,_=>Nat.zero_le _
 | x :: l,m,h1,h2=>by
  have hx:=h2 x (by simp)
  have:=RX l (m.erase x) (List.nodup_cons.1 h1).2 fun y hy=>(List.mem_erase_of_ne fun e=>(List.nodup_cons.1 h1).1 (by rw[←e];exact hy)).2 (h2 y (by simp[hy]))
  rw[List.length_erase_of_mem hx] at this
  have:=List.length_pos_of_mem hx
  simp;omega
namespace Au
structure St where
 eq:Int
 back:Bool
 path:List Int
 s:List (Int×Tm)
def must (e:Int)(is:Bool)(c:Int):Int:=if e=0∧is=false then c else e
theorem must_true (e c:Int):must e true c=e:=if_neg (fun h=>by cases h.2)
theorem must_ne {e:Int}(h:e≠0)(is:Bool)(c:Int):must e is c=e:=if_neg (fun h2=>h h2.1)
theorem must_0 {e c:Int}{is:Bool}(hc:c≠0)(h:must e is c=0):e=0∧is=true:=by
 unfold must at h
 by_cases h2:e=0∧is=false
 ·rw[if_pos h2] at h;exact absurd h hc
 ·rw[if_neg h2] at h
  refine⟨h,?_⟩
  cases is with
  | true=>rfl
  | false=>exact absurd ⟨h,rfl⟩ h2
def replP:List Int→Tm→Tm→Option Tm
 | [],t,b=>some (.mk t.binds b.kind b.index b.args)
 | j :: p,t,b=>if 0≤j∧j<(t.args.length:Int) then (replP p (t.args.getD j.toNat Tm.zero) b).map fun x=>.mk t.binds t.kind t.index (t.args.set j.toNat x) else none
def repl (t b:Tm)(p:List Int):Tm×Int:=if b.binds≠[] then (Tm.zero,1) else match replP p t b with
 | none=>(Tm.zero,10)
 | some o=>(o,0)
variable (code:List Ty→Tm→Ty→Int)
def subS (q:Li.Pr)(s:List (Int×Tm))(ar:List Ty)(e:Int):Int:=
 s.foldl (fun e p=>if e=0 then must e (decide (code ar p.2 (q.m.getD p.1.toNat (.mk [] 0))=0)) 5 else e)
  (s.foldl (fun e p=>must e (decide (0≤p.1∧p.1<(q.m.length:Int))) 1) (must e (Sb.right s&&decide (s.map (·.1)=X3 (Yj [q.l,q.r]))) 1))
def img (s:List (Int×Tm))(t:Tm)(e:Int):Tm×Int:=if e≠0 then (Tm.zero,e) else ((Sb.apply s t 100000 false).1,must e (decide ((Sb.apply s t 100000 false).2.e=0)) (Sb.apply s t 100000 false).2.e)
variable (eqs:List Li.Pr)
def eqAt (x:St):Li.Pr:=eqs.getD x.eq.toNat Li.Pr.z
def fin (x:St)(t th:Tm)(a b:Tm)(e:Int):Tm×Int:=
 if must e (decide (a=Pn.nb th)) 9≠0 then (Tm.zero,must e (decide (a=Pn.nb th)) 9)
 else if must (must (must e (decide (a=Pn.nb th)) 9) (decide ((repl t b x.path).2=0)) (repl t b x.path).2) (Li.rt (repl t b x.path).1) 2≠0 then (Tm.zero,must (must (must e (decide (a=Pn.nb th)) 9) (decide ((repl t b x.path).2=0)) (repl t b x.path).2) (Li.rt (repl t b x.path).1) 2)
 else ((repl t b x.path).1,0)
def step (x:St)(r:Tm×Int):Tm×Int:=
 match Pn.atP x.path r.1 with
 | none=>(Tm.zero,must (must r.2 (decide (0≤x.eq∧x.eq<(eqs.length:Int))) 10) false 10)
 | some (th,ar)=>
  if must r.2 (decide (0≤x.eq∧x.eq<(eqs.length:Int))) 10≠0 then (Tm.zero,must r.2 (decide (0≤x.eq∧x.eq<(eqs.length:Int))) 10)
  else fin x r.1 th (img x.s (if x.back then (eqAt eqs x).r else (eqAt eqs x).l) (subS code (eqAt eqs x) x.s ar 0)).1
   (img x.s (if x.back then (eqAt eqs x).l else (eqAt eqs x).r) (img x.s (if x.back then (eqAt eqs x).r else (eqAt eqs x).l) (subS code (eqAt eqs x) x.s ar 0)).2).1
   (img x.s (if x.back then (eqAt eqs x).l else (eqAt eqs x).r) (img x.s (if x.back then (eqAt eqs x).r else (eqAt eqs x).l) (subS code (eqAt eqs x) x.s ar 0)).2).2
def chain (l:List St)(t:Tm):Tm×Int:=
 if (l.foldl (fun r x=>step code eqs x r) (t,0)).2≠0 then (Tm.zero,(l.foldl (fun r x=>step code eqs x r) (t,0)).2) else l.foldl (fun r x=>step code eqs x r) (t,0)
theorem fin_e {x:St}{t th a b:Tm}{e:Int}(h:e≠0):fin x t th a b e=(Tm.zero,e):=by
 unfold fin
 rw[must_ne h,if_pos h]
theorem fin_ne {x:St}{t th a b:Tm}{e:Int}(h:(fin x t th a b e).2≠0):(fin x t th a b e).1=Tm.zero:=by
 unfold fin at h ⊢
 by_cases h1:must e (decide (a=Pn.nb th)) 9≠0
 ·rw[if_pos h1]
 ·rw[if_neg h1] at h ⊢
  by_cases h2:must (must (must e (decide (a=Pn.nb th)) 9) (decide ((repl t b x.path).2=0)) (repl t b x.path).2) (Li.rt (repl t b x.path).1) 2≠0
  ·rw[if_pos h2]
  ·rw[if_neg h2] at h;exact absurd rfl h
theorem step_ne {x:St}{r:Tm×Int}(h:(step code eqs x r).2≠0):(step code eqs x r).1=Tm.zero:=by
 unfold step at h ⊢
 cases ha:Pn.atP x.path r.1 with
 | none=>rfl
 | some y=>
  obtain⟨th,ar⟩:=y
  rw[ha] at h
  dsimp only at h ⊢
  by_cases h1:must r.2 (decide (0≤x.eq∧x.eq<(eqs.length:Int))) 10≠0
  ·rw[if_pos h1]
  ·rw[if_neg h1] at h ⊢
   exact fin_ne h
end Au
def TS2_62:TI:=⟨4,true,[Value.slice none 0 0,Value.int IntKind.i64 0,Value.int IntKind.i64 0,Value.slice none 0 0],[(0,1,false),(1,2,true),(3,1,false)],none,64,6,none,false⟩
theorem Ii:TypOk Tryz.prog 62 TS2_62:=by constructor <;> kernel_rfl
def TS2_243:TI:=⟨3,true,[Value.pointer none,Value.slice none 0 0,Value.int IntKind.i64 0],[(0,1,false),(1,1,false),(2,1,false)],none,40,6,none,false⟩
theorem O3:TypOk Tryz.prog 243 TS2_243:=by constructor <;> kernel_rfl
def TS2_50:TI:=⟨1,false,[Value.int IntKind.i64 0],[],none,8,2,none,false⟩
theorem Ie:TypOk Tryz.prog 50 TS2_50:=by constructor <;> kernel_rfl
def TS2_3:TI:=⟨1,false,[Value.int IntKind.i64 0],[],none,8,2,none,false⟩
theorem EE:TypOk Tryz.prog 3 TS2_3:=by constructor <;> kernel_rfl
def TS2_60:TI:=⟨1,false,[Value.slice none 0 0],[],some 62,24,5,none,false⟩
theorem Ih:TypOk Tryz.prog 60 TS2_60:=by constructor <;> kernel_rfl
def TS2_41:TI:=⟨1,false,[Value.slice none 0 0],[],some 106,24,5,none,false⟩
theorem Ic:TypOk Tryz.prog 41 TS2_41:=by constructor <;> kernel_rfl
def TS2_233:TI:=⟨1,false,[Value.pointer none],[],none,8,4,none,false⟩
theorem O5:TypOk Tryz.prog 233 TS2_233:=by constructor <;> kernel_rfl
def TS2_59:TI:=⟨2,true,[Value.int IntKind.i64 0,Value.int IntKind.i64 0],[(0,1,false),(1,1,false)],none,16,6,none,true⟩
theorem Ig:TypOk Tryz.prog 59 TS2_59:=by constructor <;> kernel_rfl
def TS2_84:TI:=⟨1,false,[Value.slice none 0 0],[],some 110,24,5,none,false⟩
theorem Ij:TypOk Tryz.prog 84 TS2_84:=by constructor <;> kernel_rfl
def TS2_241:TI:=⟨1,false,[Value.pointer none],[],none,8,4,none,false⟩
theorem O4:TypOk Tryz.prog 241 TS2_241:=by constructor <;> kernel_rfl
def TS2_110:TI:=⟨5,true,[Value.int IntKind.i64 0,Value.slice none 0 0,Value.int IntKind.i64 0,Value.int IntKind.i64 0,Value.slice none 0 0],[(0,1,false),(1,4,true)],none,72,6,none,false⟩
theorem O6:TypOk Tryz.prog 110 TS2_110:=by constructor <;> kernel_rfl
def TS2_270:TI:=⟨1,false,[Value.pointer none],[],none,8,4,none,false⟩
theorem O2:TypOk Tryz.prog 270 TS2_270:=by constructor <;> kernel_rfl
def TS2_106:TI:=⟨2,true,[Value.slice none 0 0,Value.int IntKind.i64 0],[(0,1,false),(1,1,false)],none,32,6,none,false⟩
theorem O7:TypOk Tryz.prog 106 TS2_106:=by constructor <;> kernel_rfl
def TS2:List (Nat×TI):=[(62,TS2_62),(243,TS2_243),(50,TS2_50),(3,TS2_3),(60,TS2_60),(41,TS2_41),(233,TS2_233),(59,TS2_59),(84,TS2_84),(241,TS2_241),(110,TS2_110),(270,TS2_270),(106,TS2_106)]
theorem ZR:Zh Tryz.prog TS2:=((((((((((((((Zh.nil _).cons O7).cons O2).cons O6).cons O4).cons Ij).cons Ig).cons O5).cons Ic).cons Ih).cons EE).cons Ie).cons O3).cons Ii)
def DY (l:List (Int×Tm))(s:Nm.St):List (Key×D):=[(.c 0 0,.o 1),(.c 0 1,.sl 5 (Z1 l) none),(.c 0 2,.v (.int .i64 s.e)),(.o 1,.ob (Ve s.left s.dry))]
theorem P8 (l:List (Int×Tm))(t u:Tm)(s:Nm.St)(h0:0≤s.left)(h1:s.left≤1000000000)(hu:ZB u)(ha:∀ a∈t.args,ZB a) 
  (ho:u.binds.length=t.args.length→(Nm.put 100001 u t.args ⟨s.left,s.dry,0,0⟩).2.e=0→WA (Nm.put 100001 u t.args ⟨s.left,s.dry,0,0⟩).1) (he:s.e=0) :
  ZE Tryz.prog 159 [.p 0 0,.ag (eTm t),.ag (eTm u)] (DY l s) (DY l (Sb.replaced t u s).2) (.ag (eTm (Sb.replaced t u s).1)):=by
 have hP:=Za0 u t.args s.left s.dry h0 h1 hu ha
 obtain⟨left,dry,count,er⟩:=s
 dsimp only at he h0 h1 ho hP
 subst he
 obtain⟨bs,k,i,a⟩:=t
 dsimp only[Tm.args] at ho hP ha
 obtain⟨p,hp⟩:∃ p,Sb.replaced (.mk bs k i a) u ⟨left,dry,count,0⟩=p:=⟨_,rfl⟩
 rw[hp]
 have hpd:=hp.symm
 clear hp
 have hp1:u.binds.length≠a.length→p=(Nm.tz,⟨left,dry,count,1⟩):=fun h=>hpd.trans (if_pos h)
 have hp2:u.binds.length=a.length→p=if (Nm.Put u a left dry).2.e≠0 then (Nm.tz,⟨(Nm.Put u a left dry).2.left,(Nm.Put u a left dry).2.dry,count,(Nm.Put u a left dry).2.e⟩) else (.mk bs (Nm.Put u a left dry).1.kind (Nm.Put u a left dry).1.index (Nm.Put u a left dry).1.args,⟨(Nm.Put u a left dry).2.left,(Nm.Put u a left dry).2.dry,count,0⟩):=fun h=>hpd.trans (if_neg (fun h'=>h' h))
 clear hpd
 obtain⟨ub,uk,ui,ua⟩:=u
 rw[Zv,Zv (.mk ub uk ui ua)]
 dsimp only[Tm.binds] at hp1 hp2 ho
 refine Z9 2 42 [ResultVar.cell 6 62] ZR (by kernel_rfl) Tryz.func159 rfl Tryz.ntmps159 rfl (by simp) ?dwords ?dbody
 case dwords=>simp[ZF,DY,D.ok,D.oks,ZQ,YF,XC,Y5,Yk,Yw,Yb]
 case dbody=>
  intro cx hnt hn0
  dsimp only[Tm.binds,Tm.kind,Tm.index,Tm.args]
  refine Zz ?_;refine Zx [] ZR hnt fun _ z9=>z9 _ _ ?_;refine Zz (Zz ?_)
  by_cases hl:ub.length=a.length
  ·have hpd:=hp2 hl
   have hP:=hP (ho hl)
   obtain⟨r,hr⟩:∃ r,Nm.Put (.mk ub uk ui ua) a left dry=r:=⟨_,rfl⟩
   rw[hr] at hP hpd
   clear hr
   obtain⟨rt,rs⟩:=r
   dsimp only at hP hpd
   rw[Zv,Zv rt] at hP
   refine Zx [(15,.v (.bool false))] ZR hnt fun K hK=>?_;refine And.intro (Zn.of_eq (by simp[Zr,Zs,hl])) ?_;refine hK _ _ ?_;clear hK K;refine Zy (t:=false) rfl ?_;rw[if_neg (by simp)];refine Zw ?_;refine Zz ?_;refine ZP [] ZR hnt fun K hK=>?_;refine Ze (hP) ?_;refine hK _ _ (by kernel_rfl) ?_;clear hK K;refine Zz (Zz ?_)
   by_cases hre:rs.e=0
   ·rw[if_neg (by simp[hre])] at hpd
    subst hpd
    refine Zx [(32,.v (.bool false))] ZR hnt fun K hK=>?_;refine And.intro (Zn.of_eq (by simp[hre])) ?_;refine hK _ _ ?_;clear hK K;refine Zy (t:=false) rfl ?_;rw[if_neg (by simp)];refine Zw ?_;refine Zz ?_;refine Zx [] ZR hnt fun _ z9=>z9 _ _ ?_;refine Zz ?_;refine Zx [] ZR hnt fun _ z9=>z9 _ _ ?_;refine Zu ?_
    rw[Zv]
    exact Yq (N:=0) (.inr rfl) rfl (by repeat first | exact Zn.refl _ | exact Zn.nil _ | exact Zn.untag _ _ _ | refine Zn.ag ?_ | refine Zn.tu ?_ | refine ZS.cons ?_ ?_ | exact ZS.nil) (by repeat first | exact trivial | refine And.intro rfl ?_)
   ·rw[if_pos hre] at hpd
    subst hpd
    refine Zx [(32,.v (.bool true))] ZR hnt fun K hK=>?_;refine And.intro (Zn.of_eq (by simp[hre])) ?_;refine hK _ _ ?_;clear hK K;refine Zy (t:=true) rfl ?_;rw[if_pos rfl];refine Zz ?_;refine Zx [] ZR hnt fun _ z9=>z9 _ _ ?_;refine Zz ?_;refine Zx [] ZR hnt fun _ z9=>z9 _ _ ?_;refine Zu ?_
    rw[Xy]
    exact Yq (N:=0) (.inr rfl) rfl (by repeat first | exact Zn.refl _ | exact Zn.nil _ | exact Zn.untag _ _ _ | refine Zn.ag ?_ | refine Zn.tu ?_ | refine ZS.cons ?_ ?_ | exact ZS.nil) (by repeat first | exact trivial | refine And.intro rfl ?_)
  ·have hpd:=hp1 hl
   subst hpd
   refine Zx [(15,.v (.bool true))] ZR hnt fun K hK=>?_;refine And.intro (Zn.of_eq (by simp[Zr,Zs];omega)) ?_;refine hK _ _ ?_;clear hK K;refine Zy (t:=true) rfl ?_;rw[if_pos rfl];refine Zz ?_;refine Zx [] ZR hnt fun _ z9=>z9 _ _ ?_;refine Zz ?_;refine Zx [] ZR hnt fun _ z9=>z9 _ _ ?_;refine Zu ?_
   rw[Xy]
   exact Yq (N:=0) (.inr rfl) rfl (by repeat first | exact Zn.refl _ | exact Zn.nil _ | exact Zn.untag _ _ _ | refine Zn.ag ?_ | refine Zn.tu ?_ | refine ZS.cons ?_ ?_ | exact ZS.nil) (by repeat first | exact trivial | refine And.intro rfl ?_)
def Ac (l:List (Int×Tm))(k i ins:Int)(q:List Tm×Nm.St):Prop:=k=2→q.2.e=0→∀ u,Sb.find l i=some u →
 ZB u∧ZB (Nm.lift ins u 0)∧(∀ a∈q.1,ZB a)∧((Nm.lift ins u 0).binds.length=q.1.length→(Nm.put 100001 (Nm.lift ins u 0) q.1 ⟨q.2.left,q.2.dry,0,0⟩).2.e=0→WA (Nm.put 100001 (Nm.lift ins u 0) q.1 ⟨q.2.left,q.2.dry,0,0⟩).1)
mutual
def Tv (l:List (Int×Tm)):Tm→Int→Nm.St→Prop
 | .mk b k i a,ins,s=>s.e=0→(Nm.spend s).1=true→thOks l a (Nm.wr (ins+b.length)) (Nm.spend s).2∧Ac l k i (Nm.wr (ins+b.length)) (Sb.throughs l a (Nm.wr (ins+b.length)) (Nm.spend s).2)
def thOks (l:List (Int×Tm)):List Tm→Int→Nm.St→Prop
 | [],_,_=>True
 | t :: r,ins,s=>Tv l t ins s∧thOks l r ins (Sb.through l t ins s).2
end
def VC (s:Nm.St):Prop:=0≤s.left∧s.left≤1000000000
theorem Vs {s:Nm.St}(h:VC s):VC (Nm.spend s).2:=by
 unfold VC at *
 unfold Nm.spend
 split
 ·exact⟨Int.le_refl _,by show (0:Int)≤1000000000;decide⟩
 ·rename_i hc;dsimp only;omega
theorem Ci {p:Tm×Nm.St}(h:VC p.2):VC (Nm.done p).2:=by
 unfold Nm.done
 dsimp only
 have:VC (if p.2.e=0∧¬ (p.1.size≤5000∧p.1.depth≤60) then Nm.fail p.2 2 else p.2):=by
  split
  ·unfold Nm.fail;split <;> exact h
  ·exact h
 generalize (if p.2.e=0∧¬ (p.1.size≤5000∧p.1.depth≤60) then Nm.fail p.2 2 else p.2)=s at this ⊢
 split <;> exact this
theorem At {t:Tm}{xs:List Tm}{left:Int}{dry:Bool}(h:0≤left∧left≤1000000000):VC (Nm.Put t xs left dry).2:=
 Ci (UH (Xp 100001) t xs ⟨left,dry,0,0⟩ ⟨h,⟨Int.le_refl 0,(by decide:(0:Int)≤100001)⟩,fun _=>(by decide:(0:Int)≤100000)⟩).left
theorem R7 {t u:Tm}{s:Nm.St}(h:VC s):VC (Sb.replaced t u s).2:=by
 unfold Sb.replaced
 dsimp only
 split
 ·exact h
 ·have:=At (t:=u) (xs:=t.args) (dry:=s.dry) h
  split <;> exact this
theorem Uu {g:Tm→Nm.St→Tm×Nm.St}:∀ (l:List Tm) (hg:∀ t∈l,∀ s,VC s→VC (g t s).2) (s:Nm.St),VC s→VC (Nm.seqM g l s).2
 | [],_,_,h=>h
 | t :: l,hg,s,h=>Uu l (fun u hu=>hg u (by simp[hu])) _ (hg t (by simp) s h)
theorem YQ (l:List (Int×Tm)):∀ (t:Tm) (ins:Int) (s:Nm.St),VC s→VC (Sb.through l t ins s).2:=by
 intro t
 induction t using Tm.ind with
 | h bs k i a ih=>
  intro ins s h
  rw[Sb.through]
  dsimp only
  rw[Sb.throughs_seq]
  have hq:=Uu (g:=fun t s=>Sb.through l t (Nm.wr (ins+bs.length)) s) a (fun t ht s hs=>ih t ht _ s hs) _ (Vs h)
  split
  ·exact h
  ·split
   ·exact Vs h
   ·split
    ·exact hq
    ·split
     ·exact hq
     ·exact R7 hq
theorem Ri (l:List (Int×Tm))(ins:Int):∀ (a:List Tm) (s:Nm.St),thOks l a ins s→∀ j (h:j<a.length),Tv l a[j] ins (Nm.seqM (fun t s=>Sb.through l t ins s) (a.take j) s).2
 | t :: a,s,h,0,_=>by rw[thOks] at h;exact h.1
 | t :: a,s,h,j+1,hj=>by
  rw[thOks] at h
  exact Ri l ins a _ h.2 j (by simpa using hj)
theorem Pb (l:List (Int×Tm))(m:Int):Sb.find l m=((YJ m l).bind fun i=>l[i]?).map (·.2):=by
 rw[Qy]
 cases YJ m l <;> rfl
def DU (l:List (Int×Tm))(s:Nm.St)(bs:List Ty)(k i:Int)(a:List Tm)(ins:Int):List (Key×D):=
  [(.t 0,.p 0 0),(.t 2,.v (.int .i64 ins)),(.t 4,.p 2 0),(.t 6,.p 3 0),(.t 7,.p 26 0),(.c 2 0,.sl 2 (eTys bs) none),(.c 2 1,.v (.int .i64 k)),(.c 2 2,.v (.int .i64 i)),(.c 2 3,.sl 4 (eTms a) none),
   (.c 3 0,.v (.slice none 0 0)),(.c 3 1,.v (.int .i64 0)),(.c 3 2,.v (.int .i64 0)),(.c 3 3,.v (.slice none 0 0)),(.c 26 0,.sl 2 (eTys bs) none),(.c 26 1,.v (.int .i64 k)),(.c 26 2,.v (.int .i64 i)),
   (.c 0 0,.o 1),(.c 0 1,.sl 5 (Z1 l) none),(.c 0 2,.v (.int .i64 s.e)),(.o 1,.ob (Ve s.left s.dry))]
set_option maxHeartbeats 4000000 in
theorem CC (l:List (Int×Tm))(hl:l.length≤1000000):∀ (t:Tm) (_:ZB t) (ins:Int) (s:Nm.St),VC s→Tv l t ins s →
  ZE Tryz.prog 149 [.p 0 0,.ag (eTm t),.v (.int .i64 ins)] (DY l s) (DY l (Sb.through l t ins s).2) (.ag (eTm (Sb.through l t ins s).1)):=by
 intro t
 induction t using Tm.ind with
 | h bs k i a ih=>
 intro ht ins s hs hok
 obtain⟨w1,w2,w3⟩:=ht.inv
 obtain⟨p,hp⟩:∃ p,Sb.through l (.mk bs k i a) ins s=p:=⟨_,rfl⟩
 rw[Sb.through,Sb.throughs_seq] at hp
 rw[Tv,Sb.throughs_seq] at hok
 obtain⟨m,hm⟩:∃ m,Nm.wr (ins+(bs.length:Int))=m:=⟨_,rfl⟩
 rw[hm] at hp hok
 have hp':Sb.through l (.mk bs k i a) ins s=p:=by rw[←hp,Sb.through,Sb.throughs_seq,hm]
 rw[hp',Zv]
 have hpd:=hp.symm
 dsimp only at hpd
 clear hp hp'
 have hsp:=Kc 1 s hs.1 hs.2
 have hsi:=Vs hs
 have hse:=(Nm.spend_keeps s).2
 obtain⟨g,hg⟩:∃ g:Tm→Nm.St→Tm×Nm.St,(fun t s=>Sb.through l t m s)=g:=⟨_,rfl⟩
 have hat:=Ri l m a (Nm.spend s).2
 rw[hg] at hpd hok hat
 obtain⟨left,dry,count,er⟩:=s
 dsimp only at hsp hsi hse hpd hok hat
 refine Z9 2 86 [ResultVar.cell 6 62] ZR (by kernel_rfl) Tryz.func149 rfl Tryz.ntmps149 rfl (by simp) ?dwords ?dbody
 case dwords=>simp[ZF,DY,D.ok,D.oks,ZQ,YF,XC,Y5,Yk,Yw,Yb]
 case dbody=>
  intro cx hnt hn0
  dsimp only[Tm.binds,Tm.kind,Tm.index,Tm.args]
  refine Zz ?_;refine Zx [] ZR hnt fun _ z9=>z9 _ _ ?_;refine Zz (Zz ?_)
  by_cases he:er=0
  ·subst he
   refine Zx [(15,.v (.bool false))] ZR hnt fun K hK=>?_;refine And.intro (Zn.refl _) ?_;refine hK _ _ ?_;clear hK K;refine Zy (t:=false) rfl ?_;rw[if_neg (by simp)];refine Zw ?_;rw[if_neg (by simp)] at hpd;refine Zz (Zz ?_)
   obtain⟨sp,hspq⟩:∃ sp,Nm.spend ⟨left,dry,count,0⟩=sp:=⟨_,rfl⟩
   rw[hspq] at hsp hsi hse hpd hok hat
   clear hspq
   obtain⟨b,s1⟩:=sp
   dsimp only at hsp hsi hse hpd hok hat
   cases b with
   | false=>
    rw[if_pos rfl] at hpd
    subst hpd
    refine Zx [] ZR hnt fun K hK=>?_;refine Ze (hsp) ?_;refine hK _ _ ?_;clear hK K;refine Zy (t:=true) rfl ?_;rw[if_pos rfl];refine Zz ?_;refine Zx [] ZR hnt fun _ z9=>z9 _ _ ?_;refine Zz ?_;refine Zx [] ZR hnt fun _ z9=>z9 _ _ ?_;refine Zu ?_
    rw[Xy]
    exact Yq (N:=0) (.inr rfl) rfl (by repeat first | exact Zn.refl _ | exact Zn.nil _ | exact Zn.untag _ _ _ | refine Zn.ag ?_ | refine Zn.tu ?_ | refine ZS.cons ?_ ?_ | exact ZS.nil) (by repeat first | exact trivial | refine And.intro rfl ?_)
   | true=>
    rw[if_neg (by simp)] at hpd
    obtain⟨hok1,hok2⟩:=hok rfl rfl
    have hat:=hat hok1
    clear hok hok1
    refine Zx [] ZR hnt fun K hK=>?_;refine Ze (hsp) ?_;refine hK _ _ ?_;clear hK K;refine Zy (t:=false) rfl ?_;rw[if_neg (by simp)];refine Zw ?_;refine Zz ?_;refine Zx [(31,.v (.int .i64 m))] ZR hnt fun K hK=>?_;refine And.intro (Zn.of_eq (by rw[Zr,←Yh,hm])) ?_;refine hK _ _ ?_;clear hK K
    refine XW (τ:=(.c 26 3,.v (.slice none 0 0)) :: DU l ⟨s1.left,s1.dry,s1.count,0⟩ bs k i a m) (N1:=27) ?_ ?_
    ·skip
     refine Zx [] ZR hnt fun _ z9=>z9 _ _ ?_
     exact Ym VS.toA
    ·have hs1:(⟨s1.left,s1.dry,s1.count,0⟩:Nm.St)=s1:=by rw[←hse]
     rw[hs1]
     dsimp only[DU]
     refine Zz ?_;refine Zz ?_;refine Zx [(39,.v (.int .i64 a.length))] ZR hnt fun K hK=>?_;refine And.intro (Zq (by rw[Zs])) ?_;refine hK _ _ ?_;clear hK K;refine Zt ?_
     refine Z4 (ι:=Nat) (fun j=>(.t 38,.sl 4 (eTms a) none) :: (.t 39,.v (.int .i64 a.length)) :: (.t 40,.v (.int .i64 j)) :: (.c 26 3,.sl 4 (eTms (Nm.seqM g (a.take j) s1).1) (some 31)) :: (.r 31,.rw 62 4 j) :: DU l (Nm.seqM g (a.take j) s1).2 bs k i a m) 32 (fun j=>a.length-j) 0 (VS.trans (VS.row (k:=26) (off:=3) 62 4 rfl) VS.toA) fun j=>?_
     dsimp only[DU]
     have hst:VC (Nm.seqM g (a.take j) s1).2:=Uu _ (fun t _ s h=>by rw[←hg];exact YQ l t m s h) _ hsi
     have hll:(Nm.seqM g (a.take j) s1).1.length=(a.take j).length:=Nm.seqM_length ..
     refine Zz ?_
     by_cases hlt:j<a.length
     ·have hcon:=ih a[j] (List.getElem_mem hlt) (w3 _ (List.getElem_mem hlt)) m (Nm.seqM g (a.take j) s1).2 hst (hat j hlt)
      have hg2:Sb.through l a[j] m (Nm.seqM g (a.take j) s1).2=g a[j] (Nm.seqM g (a.take j) s1).2:=by rw[←hg]
      rw[hg2] at hcon
      have hsq:=Nm.seqM_take g a j hlt s1
      rw[Zv,Zv] at hcon
      refine Zx [(41,.v (.bool true))] ZR hnt fun K hK=>?_;refine And.intro (ZZ (by omega)) ?_;refine hK _ _ ?_;clear hK K;refine Zz (Zy (t:=true) rfl ?_);rw[if_pos rfl];refine Zw (Zz (Zt (Zz ?_)));refine Zx [(42,.q [.sl 2 (eTys a[j].binds) none,.v (.int .i64 a[j].kind),.v (.int .i64 a[j].index),.sl 4 (eTms a[j].args) none])] ZR hnt fun K hK=>?_
      refine And.intro (⟨by omega,by rw[Zs];omega⟩) ?_;refine And.intro (Zn.of_eq (by rw[Int.toNat_natCast,ZX a j hlt,Zv])) ?_;refine hK _ _ ?_;clear hK K;refine ZP [(51,.sl 4 (eTms (Nm.seqM g (a.take (j+1)) s1).1) (some 31))] ZR hnt fun K hK=>?_;refine Ze (hcon) ?_;refine And.intro (⟨by rw[Zs,hll,List.length_take];omega,by rw[Zs,hll,List.length_take];simp;omega⟩) ?_
      refine And.intro (Zn.of_eq (by rw[hsq,YV,eTms,eTms,Zv (g a[j] _).1])) ?_;refine hK _ _ (by kernel_rfl) ?_;clear hK K;refine Zx [(53,.v (.int .i64 ((j+1:Nat):Int)))] ZR hnt fun K hK=>?_;refine And.intro (Zq (by rw[IntWalk.i64_in _ (by omega)];omega)) ?_;refine hK _ _ ?_;clear hK K
      refine⟨j+1,by omega,?_⟩
      have hl2:(eTms (Nm.seqM g (a.take j) s1).1).length=j:=by rw[Zs,hll,List.length_take];omega
      rw[hsq]
      exact(by try simp only[List.length_append,List.length_take,List.length_cons,List.length_nil,Nat.zero_add,hl2];exact VS.toA)
     ·rw[List.take_of_length_le (by omega)] at hst hll ⊢
      obtain⟨q,hq⟩:∃ q,Nm.seqM g a s1=q:=⟨_,rfl⟩
      rw[hq] at hst hll hpd hok2 ⊢
      clear hq
      obtain⟨as',s2⟩:=q
      dsimp only at hst hll hpd hok2 ⊢
      have hen:=Zs as'
      obtain⟨left,dry,count,er⟩:=s2
      dsimp only at hst hpd hok2 ⊢
      refine Zx [(41,.v (.bool false))] ZR hnt fun K hK=>?_;refine And.intro (Zf (by omega)) ?_;refine hK _ _ ?_;clear hK K;refine Zz (Zy (t:=false) rfl ?_);rw[if_neg (by simp)];refine Zc ?_;refine Zz ?_;refine Zz ?_
      by_cases hk:k≠2
      ·rw[if_pos (.inl hk)] at hpd
       subst hpd
       refine Zx [(57,.v (.bool true))] ZR hnt fun K hK=>?_;refine And.intro (Zn.of_eq (by simp[hk])) ?_;refine hK _ _ ?_;clear hK K;refine Zy (t:=true) rfl ?_;rw[if_pos rfl];refine Zz ?_;refine Zx [] ZR hnt fun _ z9=>z9 _ _ ?_;refine Zu ?_
       rw[Zv]
       exact Yq (N:=0) (.inr rfl) rfl (by repeat first | exact Zn.refl _ | exact Zn.nil _ | exact Zn.untag _ _ _ | refine Zn.ag ?_ | refine Zn.tu ?_ | refine ZS.cons ?_ ?_ | exact ZS.nil) (by repeat first | exact trivial | refine And.intro rfl ?_)
      ·have hk:k=2:=by simpa using hk
       by_cases her:er≠0
       ·rw[if_pos (.inr her)] at hpd
        subst hpd
        refine Zx [(57,.v (.bool false)),(63,.v (.bool true))] ZR hnt fun K hK=>?_;refine And.intro (Zn.of_eq (by simp[hk])) ?_;refine And.intro (Zn.of_eq (by simp[her])) ?_;refine hK _ _ ?_;clear hK K;refine Zy (t:=true) rfl ?_;rw[if_pos rfl];refine Zz ?_;refine Zx [] ZR hnt fun _ z9=>z9 _ _ ?_;refine Zu ?_
        rw[Zv]
        exact Yq (N:=0) (.inr rfl) rfl (by repeat first | exact Zn.refl _ | exact Zn.nil _ | exact Zn.untag _ _ _ | refine Zn.ag ?_ | refine Zn.tu ?_ | refine ZS.cons ?_ ?_ | exact ZS.nil) (by repeat first | exact trivial | refine And.intro rfl ?_)
       ·have her:er=0:=by simpa using her
        rw[if_neg (fun h=>h.elim (fun h=>h hk) fun h=>h her)] at hpd
        subst her
        have hok2:=hok2 hk rfl
        have hfind:=DQ l hl i
        rw[Pb] at hpd hok2
        refine Zx [(57,.v (.bool false)),(63,.v (.bool false))] ZR hnt fun K hK=>?_;refine And.intro (Zn.of_eq (by simp[hk])) ?_;refine And.intro (Zn.refl _) ?_;refine hK _ _ ?_;clear hK K;refine Zy (t:=false) rfl ?_;rw[if_neg (by simp)];refine Zw ?_;refine Zz ?_
        cases hx:(YJ i l).bind fun i=>l[i]? with
        | none=>
         rw[hx] at hfind hpd
         dsimp only at hfind
         simp only[Option.map_none] at hpd
         subst hpd
         refine ZP [] ZR hnt fun K hK=>?_;refine Ze (hfind) ?_;refine hK _ _ (by kernel_rfl) ?_;clear hK K;refine Zz (Zz ?_);refine Zx [] ZR hnt fun _ z9=>z9 _ _ ?_;refine Zy (t:=true) rfl ?_;rw[if_pos rfl];refine Zz ?_;refine Zx [] ZR hnt fun _ z9=>z9 _ _ ?_;refine Zu ?_
         rw[Zv]
         exact Yq (N:=0) (.inr rfl) rfl (by repeat first | exact Zn.refl _ | exact Zn.nil _ | exact Zn.untag _ _ _ | refine Zn.ag ?_ | refine Zn.tu ?_ | refine ZS.cons ?_ ?_ | exact ZS.nil) (by repeat first | exact trivial | refine And.intro rfl ?_)
        | some pr=>
         rw[hx] at hfind hpd hok2
         simp only[Option.map_some] at hpd hok2
         obtain⟨o1,o2,o3,o4⟩:=hok2 pr.2 rfl
         have hgr:=Ct pr.2 o1 m 0
         obtain⟨v,hv⟩:∃ v,Nm.lift m pr.2 0=v:=⟨_,rfl⟩
         rw[hv] at hpd hgr o2 o4
         have hrep:=P8 l (.mk bs k i as') v ⟨left,dry,count,0⟩ hst.1 hst.2 o2 o3 o4 rfl
         rw[←hpd] at hrep
         dsimp only at hfind
         rw[ZK] at hfind
         rw[Zv,Zv] at hgr
         rw[Zv,Zv,Zv] at hrep
         refine ZP [] ZR hnt fun K hK=>?_;refine Ze (hfind) ?_;refine hK _ _ (by kernel_rfl) ?_;clear hK K;refine Zz (Zz ?_);refine Zx [] ZR hnt fun _ z9=>z9 _ _ ?_;refine Zy (t:=false) rfl ?_;rw[if_neg (by simp)];refine Zw ?_;refine Zz ?_;refine ZP [(78,.ag [.sl 2 (eTys bs) none,.v (.int .i64 k),.v (.int .i64 i),.sl 4 (eTms as') none])] ZR hnt fun K hK=>?_
         refine And.intro (Xl) ?_;refine Ze (hgr) ?_;refine Ze (hrep) ?_;refine hK _ _ (by kernel_rfl) ?_;clear hK K;refine Zu ?_
         rw[Zv]
         exact Yq (N:=0) (.inr rfl) rfl (by repeat first | exact Zn.refl _ | exact Zn.nil _ | exact Zn.untag _ _ _ | refine Zn.ag ?_ | refine Zn.tu ?_ | refine ZS.cons ?_ ?_ | exact ZS.nil) (by repeat first | exact trivial | refine And.intro rfl ?_)
  ·rw[if_pos he] at hpd
   subst hpd
   refine Zx [(15,.v (.bool true))] ZR hnt fun K hK=>?_;refine And.intro (Zn.of_eq (by simp[he])) ?_;refine hK _ _ ?_;clear hK K;refine Zy (t:=true) rfl ?_;rw[if_pos rfl];refine Zz ?_;refine Zx [] ZR hnt fun _ z9=>z9 _ _ ?_;refine Zu ?_
   rw[Xy]
   exact Yq (N:=0) (.inr rfl) rfl (by repeat first | exact Zn.refl _ | exact Zn.nil _ | exact Zn.untag _ _ _ | refine Zn.ag ?_ | refine Zn.tu ?_ | refine ZS.cons ?_ ?_ | exact ZS.nil) (by repeat first | exact trivial | refine And.intro rfl ?_)
inductive Bnd (B:Nat):Tm→Prop where
 | mk (b:List Ty) (k i:Int) (a:List Tm):Ty.sizes b≤B→-9223372036854775808≤i∧i≤9223372036854775807→(∀ u∈a,Bnd B u)→Bnd B (.mk b k i a)
namespace Bnd
variable {B:Nat}
theorem inv {b:List Ty}{k i:Int}{a:List Tm}(h:Bnd B (.mk b k i a)):Ty.sizes b≤B∧(-9223372036854775808≤i∧i≤9223372036854775807)∧∀ u∈a,Bnd B u:=by
 cases h with
 | mk _ _ _ _ h1 h2 h3=>exact⟨h1,h2,h3⟩
theorem parts {t:Tm}(h:Bnd B t):Ty.sizes t.binds≤B∧(-9223372036854775808≤t.index∧t.index≤9223372036854775807)∧∀ u∈t.args,Bnd B u:=by
 obtain⟨b,k,i,a⟩:=t;exact h.inv
theorem fit (t:Tm):Bnd B t→t.Fit:=by
 induction t using Tm.ind with
 | h b k i a ih=>
  intro h
  obtain⟨_,h2,h3⟩:=h.inv
  exact Tm.fit_iff.2 ⟨h2.1,h2.2,fun u hu=>ih u hu (h3 u hu)⟩
theorem fulls_of {l:List Tm}(h:∀ t∈l,t.full≤t.size * (B+1)):Tm.fulls l≤Tm.sizes l * (B+1):=by
 induction l with
 | nil=>simp[Tm.fulls,Tm.sizes]
 | cons t l ih=>
  have h1:=h t (by simp)
  have h2:=ih fun u hu=>h u (by simp[hu])
  simp only[Tm.fulls,Tm.sizes]
  rw[Nat.add_mul];omega
theorem full (t:Tm):Bnd B t→t.full≤t.size * (B+1):=by
 induction t using Tm.ind with
 | h b k i a ih=>
  intro h
  obtain⟨h1,_,h3⟩:=h.inv
  have:=fulls_of fun u hu=>ih u hu (h3 u hu)
  rw[Tm.full_eq,Tm.size_eq,Nat.add_mul];omega
theorem of_full (t:Tm):t.full≤B→t.Fit→Bnd B t:=by
 induction t using Tm.ind with
 | h b k i a ih=>
  intro h hf
  rw[Tm.full_eq] at h
  obtain⟨f1,f2,f3⟩:=Tm.fit_iff.1 hf
  exact .mk _ _ _ _ (by omega) ⟨f1,f2⟩ fun u hu=>ih u hu (by have:=Tm.full_mem hu;omega) (f3 u hu)
theorem wr_in (x:Int):-9223372036854775808≤Nm.wr x∧Nm.wr x≤9223372036854775807:=SU (wrap64_wf x)
theorem lift (t:Tm)(y ins:Int):Bnd B t→Bnd B (Nm.lift y t ins):=by
 induction t using Tm.ind generalizing ins with
 | h b k i a ih=>
  intro h
  obtain⟨h1,h2,h3⟩:=h.inv
  rw[Nm.lift_eq,Nm.lifts_map]
  refine .mk _ _ _ _ h1 (by split;exact wr_in _;exact h2) fun u hu=>?_
  obtain⟨v,hv,rfl⟩:=List.mem_map.1 hu
  exact ih v hv _ (h3 v hv)
theorem grown {t:Tm}(h:Bnd B t)(y:Int):Bnd B (Nm.grown t y):=by
 unfold Nm.grown;split
 ·exact h
 ·exact lift t y 0 h
theorem tz:Bnd B Nm.tz:=.mk _ _ _ _ (by simp[Ty.sizes]) (by decide) fun u h=>by cases h
theorem body {t:Tm}(h:Bnd B t):Bnd B (.mk [] t.kind t.index t.args):=.mk _ _ _ _ (by simp[Ty.sizes]) h.parts.2.1 h.parts.2.2
theorem drop_sizes (l:List Ty)(n:Nat):Ty.sizes (l.drop n)≤Ty.sizes l:=by
 have:=Ty.sizes_append (l.take n) (l.drop n)
 rw[List.take_append_drop] at this;omega
theorem getD {xs:List Tm}(h:∀ x∈xs,Bnd B x)(j:Nat):Bnd B (xs.getD j Nm.tz):=by
 rw[List.getD_eq_getElem?_getD]
 by_cases hj:j<xs.length
 ·rw[List.getElem?_eq_getElem hj];exact h _ (List.getElem_mem hj)
 ·rw[List.getElem?_eq_none (by omega)];exact tz
theorem wide (t:Tm):Bnd B t→t.size≤100000→B≤100000→ZB t:=by
 induction t using Tm.ind with
 | h b k i a ih=>
  intro h hs hB
  obtain⟨h1,_,h3⟩:=h.inv
  rw[Tm.size_eq] at hs
  refine .mk _ _ _ _ (by have:=Ty.le_sizes b;omega) (by have:=Tm.len_sizes a;omega) fun u hu=>ih u hu (h3 u hu) (by have:=Tm.size_mem hu;omega) hB
end Bnd
namespace Nm
theorem unit_left {s:St}(h:(unit s).1=true):(unit s).2.left=s.left-1:=by
 unfold unit at h ⊢
 split
 ·rename_i he;rw[if_pos he] at h;cases h
 ·rename_i he
  rw[if_neg he] at h
  split
  ·rename_i hc;rw[if_pos hc] at h;cases h
  ·rename_i hc
   rw[if_neg hc] at h
   have hsp:∀ p,spend s=p→p.1=true→p.2.left=s.left-1:=fun p hp h1=>by
    unfold spend at hp
    split at hp
    ·subst hp;cases h1
    ·subst hp;rfl
   generalize hp:spend s=p at h ⊢
   obtain⟨ok,s'⟩:=p
   cases ok
   ·cases h
   ·exact hsp (true,s') hp rfl
def Gr (B f:Nat)(t:Tm)(s:St)(p:Tm×St):Prop:=p.2.e=0→s.e=0∧(p.1.size:Int)+p.2.left≤s.left∧Bnd B p.1
def Fu (f:Nat)(s:St):Prop:=s.e=0→100001-s.count≤f
theorem seqM_grow {B f:Nat}{g:Tm→St→Tm×St}:∀ (l:List Tm) (hg:∀ t∈l,∀ s,YE s→Fu f s→Gr B f t s (g t s)) (hw:∀ t s,YE s→YE (g t s).2) (hc:∀ t s,s.count≤(g t s).2.count) (s:St),YE s→Fu f s →
  (seqM g l s).2.e=0→s.e=0∧(Tm.sizes (seqM g l s).1:Int)+(seqM g l s).2.left≤s.left∧∀ u∈(seqM g l s).1,Bnd B u
 | [],_,_,_,s,_,_,h=>⟨h,by simp[seqM,Tm.sizes],fun u hu=>by cases hu⟩
 | t :: l,hg,hw,hc,s,hs,hf,h=>by
  have h1:=hg t (by simp) s hs hf
  have h2:=seqM_grow l (fun u hu=>hg u (by simp[hu])) hw hc (g t s).2 (hw t s hs) (fun e=>by
   have:=hf (h1 e).1
   have:=hc t s
   omega) h
  have h3:=h1 h2.1
  refine⟨h3.1,?_,fun u hu=>?_⟩
  ·simp only[seqM,Tm.sizes]
   have:=h2.2.1
   have:=h3.2.1
   omega
  ·rcases List.mem_cons.1 hu with rfl | hu
   ·exact h3.2.2
   ·exact h2.2.2 u hu
theorem fail_ne (s:St):(fail s 1).e≠0:=by
 unfold fail;split
 ·show (1:Int)≠0;decide
 ·assumption
def GrThr (B f:Nat)(thr:Thr):Prop:=∀ xs n t ins s,YE s→Fu f s→(∀ x∈xs,Bnd B x)→Bnd B t→Gr B f t s (thr xs n t ins s)
theorem putW_grow {B f:Nat}{thr:Thr}(h:GrThr B f thr){t:Tm}{xs:List Tm}{s:St}(hs:YE s)(hf:Fu f s)(ht:Bnd B t)(hx:∀ x∈xs,Bnd B x):Gr B f t s (putW thr t xs s):=by
 unfold putW
 split
 ·intro e;exact absurd e (fail_ne s)
 ·intro e
  have h1:=h xs t.binds.length (.mk [] t.kind t.index t.args) 0 s hs hf hx ht.body e
  refine⟨h1.1,?_,?_⟩
  ·have hsz:(Tm.mk (t.binds.drop xs.length) (thr xs t.binds.length (.mk [] t.kind t.index t.args) 0 s).1.kind (thr xs t.binds.length (.mk [] t.kind t.index t.args) 0 s).1.index (thr xs t.binds.length (.mk [] t.kind t.index t.args) 0 s).1.args).size=(thr xs t.binds.length (.mk [] t.kind t.index t.args) 0 s).1.size:=by
    generalize (thr xs t.binds.length (.mk [] t.kind t.index t.args) 0 s).1=r
    obtain⟨b,k,i,a⟩:=r
    rw[Tm.size_eq,Tm.size_eq];rfl
   dsimp only
   rw[hsz];exact h1.2.1
  ·have hr:=h1.2.2.parts
   exact .mk _ _ _ _ (Nat.le_trans (Bnd.drop_sizes _ _) ht.parts.1) hr.2.1 hr.2.2
theorem hit_grow {B f:Nat}{thr:Thr}(h:GrThr B f thr){xs:List Tm}{n:Nat}{t:Tm}{ins:Int}{args:List Tm}{s:St}(hs:YE s)(hf:Fu f s)(ht:Bnd B t)(hx:∀ x∈xs,Bnd B x)(ha:∀ a∈args,Bnd B a):
  (hit thr xs n t ins args s).2.e=0→s.e=0∧((hit thr xs n t ins args s).1.size:Int)+(hit thr xs n t ins args s).2.left≤s.left+Tm.sizes args+1∧Bnd B (hit thr xs n t ins args s).1:=by
 obtain⟨t1,t2,t3⟩:=ht.parts
 unfold hit
 split
 ·intro e;exact⟨e,by dsimp only;rw[Tm.size_eq];omega,.mk _ _ _ _ t1 t2 ha⟩
 ·dsimp only
  split
  ·intro e;exact⟨e,by dsimp only;rw[Tm.size_eq];omega,.mk _ _ _ _ t1 t2 ha⟩
  ·split
   ·intro e;exact⟨e,by dsimp only;rw[Tm.size_eq];omega,.mk _ _ _ _ t1 (Bnd.wr_in _) ha⟩
   ·split
    ·intro e;exact absurd e (fail_ne s)
    ·intro e
     have hu:Bnd B (grown (xs.getD ((n:Int)-1-wr (t.index-ins)).toNat tz) (wr (wr (ins+n)-xs.length))):=(Bnd.getD hx _).grown _
     have h1:=putW_grow h hs hf hu ha e
     refine⟨h1.1,?_,?_⟩
     ·have h2:=h1.2.1
      generalize (putW thr (grown (xs.getD ((n:Int)-1-wr (t.index-ins)).toNat tz) (wr (wr (ins+n)-xs.length))) args s)=r at h2 ⊢
      obtain⟨⟨b,k,i,a⟩,s'⟩:=r
      dsimp only at h2 ⊢
      rw[Tm.size_eq] at h2 ⊢
      show ((Tm.sizes a+1:Nat):Int)+s'.left≤_
      omega
     ·have h2:=h1.2.2.parts
      exact .mk _ _ _ _ t1 h2.2.1 h2.2.2
theorem through_grow (B:Nat):∀ f,GrThr B f (through f)
 | 0=>fun xs n t ins s hs hf _ _ e=>by
  have e':s.e=0:=e
  have h1:=hf e'
  have h2:=hs.e0 e'
  omega
 | f+1=>fun xs n t ins s hs hf hx ht=>by
  have ih:=through_grow B f
  intro e
  unfold through at e ⊢
  dsimp only at e ⊢
  by_cases hu:(unit s).1=true
  ·rw[if_pos hu] at e ⊢
   obtain⟨u1,u2,u3⟩:=(unit_count s).2 hu
   have ul:=unit_left hu
   have hw:=Uz hs
   have hf1:Fu f (unit s).2:=fun _=>by have:=hf u2;omega
   have hq:=seqM_grow (B:=B) (f:=f) (g:=fun a s=>through f xs n a (wr (ins+t.binds.length)) s) t.args (fun u hu s hs hf=>ih xs n u _ s hs hf hx (ht.parts.2.2 u hu)) (fun u s h=>Xp f _ _ _ _ _ h) (fun u s=>through_count f _ _ _ _ _) (unit s).2 hw hf1
   have hqw:=Uv (g:=fun a s=>through f xs n a (wr (ins+t.binds.length)) s) (fun u s h=>Xp f _ _ _ _ _ h) t.args _ hw
   have hqc:=seqM_count (g:=fun a s=>through f xs n a (wr (ins+t.binds.length)) s) (fun u s=>through_count f _ _ _ _ _) t.args (unit s).2
   generalize seqM (fun a s=>through f xs n a (wr (ins+t.binds.length)) s) t.args (unit s).2=q at e hq hqw hqc ⊢
   by_cases hqe:q.2.e=0
   ·have hq:=hq hqe
    have h1:=hit_grow ih (xs:=xs) (n:=n) (t:=t) (ins:=wr (ins+t.binds.length)) (args:=q.1) (s:=q.2) hqw (fun _=>by have:=hf1 u3;omega) ht hx hq.2.2 e
    exact⟨u2,by have:=h1.2.1;have:=hq.2.1;omega,h1.2.2⟩
   ·exfalso
    have hx2:∀ p,hit (through f) xs n t (wr (ins+t.binds.length)) q.1 q.2=p→p.2.e=0→q.2.e=0:=fun p hp hpe=>by
     unfold hit at hp
     split at hp
     ·subst hp;exact hpe
     ·dsimp only at hp
      split at hp
      ·subst hp;exact hpe
      ·split at hp
       ·subst hp;exact hpe
       ·split at hp
        ·subst hp;exact absurd hpe (fail_ne _)
        ·subst hp
         unfold putW at hpe
         rw[if_pos (.inl hqe)] at hpe
         exact absurd hpe (fail_ne _)
    exact hqe (hx2 _ rfl e)
  ·rw[if_neg hu] at e
   exfalso
   have:(unit s).1=false:=by simpa using hu
   have h2:∀ p,unit s=p→p.1=false→p.2.e≠0:=fun p hp h1=>by
    unfold unit at hp
    split at hp
    ·subst hp;assumption
    ·split at hp
     ·subst hp;show (2:Int)≠0;decide
     ·generalize spend s=r at hp
      obtain⟨ok,s'⟩:=r
      cases ok
      ·subst hp;show (11:Int)≠0;decide
      ·subst hp;cases h1
   exact h2 _ rfl this e
end Nm
theorem Oy {P:Program}{cx:Cx}{σ:List (Key×D)}{N:Nat}{Q:Exit→List (Key×D)→Nat→Prop}{c:Code}{k off g E n len:Nat}{l:List (List D)}(hx:get σ (.c k off)=some (.ps g len))(hg:get σ (.r g)=some (.rp E n l))(hl:l.length=len) 
  (h:DW P cx c (Xt (.c k off) (.sl n l (some g)) (Xt (.r g) (.rw E n l.length) σ)) N Q):DW P cx c σ N Q:=fun m Im w a hs=>by
 obtain⟨Im',hi,h2,h3⟩:=hs.freeze hg
 subst hl
 obtain⟨b,v,q1,q2,q3⟩:=hs.ce k off _ hx
 have hr:=h3 _ q3
 refine h m Im' w a { h2 with tm:=fun y d hy=>?_,ce:=fun k' off' d hy=>?_,ro:=fun k' d hy=>?_,jk:=fun d hy=>?_,ok:=fun k' d hy=>?_ }
 ·rw[Zo,if_neg (by simp[Key.eq])] at hy;exact h2.tm y d hy
 ·rw[Zo] at hy
  by_cases e:Key.eq (.c k off) (.c k' off')=true
  ·rw[if_pos e] at hy
   have:=Key.eq_iff.1 e;cases this
   cases hy;exact⟨b,v,q1,q2,hr⟩
  ·rw[if_neg e] at hy
   exact h2.ce k' off' d hy
 ·rw[Zo,if_neg (by simp[Key.eq])] at hy;exact h2.ro k' d hy
 ·rw[Zo,if_neg (by simp[Key.eq])] at hy;exact h2.jk d hy
 ·rw[Zo,if_neg (by simp[Key.eq])] at hy;exact h2.ok k' d hy
def TAUC_62:TI:=⟨4,true,[Value.slice none 0 0,Value.int IntKind.i64 0,Value.int IntKind.i64 0,Value.slice none 0 0],[(0,1,false),(1,2,true),(3,1,false)],none,64,6,none,false⟩
theorem Kv:TypOk Tryz.prog 62 TAUC_62:=by constructor <;> kernel_rfl
def TAUC_60:TI:=⟨1,false,[Value.slice none 0 0],[],some 62,24,5,none,false⟩
theorem Ku:TypOk Tryz.prog 60 TAUC_60:=by constructor <;> kernel_rfl
def TAUC_71:TI:=⟨1,false,[Value.slice none 0 0],[],some 3,24,5,none,false⟩
theorem Kw:TypOk Tryz.prog 71 TAUC_71:=by constructor <;> kernel_rfl
def TAUC_3:TI:=⟨1,false,[Value.int IntKind.i64 0],[],none,8,2,none,false⟩
theorem GX:TypOk Tryz.prog 3 TAUC_3:=by constructor <;> kernel_rfl
def TAUC_41:TI:=⟨1,false,[Value.slice none 0 0],[],some 106,24,5,none,false⟩
theorem Kr:TypOk Tryz.prog 41 TAUC_41:=by constructor <;> kernel_rfl
def TAUC_50:TI:=⟨1,false,[Value.int IntKind.i64 0],[],none,8,2,none,false⟩
theorem Ks:TypOk Tryz.prog 50 TAUC_50:=by constructor <;> kernel_rfl
def TAUC_59:TI:=⟨2,true,[Value.int IntKind.i64 0,Value.int IntKind.i64 0],[(0,1,false),(1,1,false)],none,16,6,none,true⟩
theorem Kt:TypOk Tryz.prog 59 TAUC_59:=by constructor <;> kernel_rfl
def TAUC_106:TI:=⟨2,true,[Value.slice none 0 0,Value.int IntKind.i64 0],[(0,1,false),(1,1,false)],none,32,6,none,false⟩
theorem Ph:TypOk Tryz.prog 106 TAUC_106:=by constructor <;> kernel_rfl
def TAUC:List (Nat×TI):=[(62,TAUC_62),(60,TAUC_60),(71,TAUC_71),(3,TAUC_3),(41,TAUC_41),(50,TAUC_50),(59,TAUC_59),(106,TAUC_106)]
theorem Z7:Zh Tryz.prog TAUC:=(((((((((Zh.nil _).cons Ph).cons Kt).cons Ks).cons Kr).cons GX).cons Kw).cons Ku).cons Kv)
theorem Ov (a:Option Addr)(c nm:Nat):Wa Tryz.prog 151 [.v (.slice a 0 c)] [] nm [(.r nm,.rp 62 4 [])] (.ps nm 0):=by
 refine YI 8 [ResultVar.tmp 2] Z7 (by kernel_rfl) Tryz.func151 rfl Tryz.ntmps151 rfl (by simp) (by simp[D.ok]) (by simp[D.okss]) ?dbody nm
 case dbody=>
  intro cx hnt hn0
  refine Zz ?_;refine Zx [] Z7 hnt fun _ z9=>z9 _ _ ?_
  cases a with
  | none=>
   refine Zz ?_;refine Zz ?_;refine Zx [(4,.v (.bool true))] Z7 hnt fun K hK=>?_;refine And.intro (Zn.refl _) ?_;refine hK _ _ ?_;clear hK K;refine Zy (t:=true) rfl ?_;rw[if_pos rfl];refine Zz ?_;refine Zx [] Z7 hnt fun _ z9=>z9 _ _ ?_
   refine DW.vs (VS.rowPT (x:=2) (by rw[hnt];decide) 62 4 rfl) ?_
   refine Zu ?_
   exact⟨.inr rfl,_,rfl,rfl⟩
  | some a=>
   refine Zz ?_;refine Zz ?_;refine Zx [(4,.v (.bool false))] Z7 hnt fun K hK=>?_;refine And.intro (Zn.refl _) ?_;refine hK _ _ ?_;clear hK K;refine Zy (t:=false) rfl ?_;rw[if_neg (by simp)];refine Zw ?_;refine Zz ?_;refine Zx [(5,.ps 3 0)] Z7 hnt fun K hK=>?_;refine And.intro (Zn.ps0 _ _) ?_;refine And.intro (by decide) ?_;refine hK _ _ ?_;clear hK K
   refine Zu ?_
   exact⟨.inr rfl,_,rfl,rfl⟩
theorem Qk (x:Tm)(l:List Tm)(hl:l.length≤900000)(nm:Nat):Wa Tryz.prog 151 [.sl 4 (eTms (x :: l)) none] [] nm [(.r nm,.rp 62 4 (eTms (x :: l)))] (.ps nm (x :: l).length):=by
 refine YI 8 [ResultVar.tmp 2] Z7 (by kernel_rfl) Tryz.func151 rfl Tryz.ntmps151 rfl (by simp) (by simp[D.ok,Yk]) (by simp[D.okss,Yk]) ?dbody nm
 case dbody=>
  intro cx hnt hn0
  refine Zz ?_;refine Zx [] Z7 hnt fun _ z9=>z9 _ _ ?_;refine Zz ?_;refine Zz ?_;refine Zx [(4,.v (.bool false))] Z7 hnt fun K hK=>?_;refine And.intro (Zn.refl _) ?_;refine hK _ _ ?_;clear hK K;refine Zy (t:=false) rfl ?_;rw[if_neg (by simp)];refine Zw ?_;refine Zz ?_;refine Zx [(5,.ps 3 0)] Z7 hnt fun K hK=>?_
  refine And.intro (Zn.ps0 _ _) ?_;refine And.intro (by rw[Zs];simp;omega) ?_;refine hK _ _ ?_;clear hK K;refine Zu ?_
  exact⟨.inr rfl,3,by rw[show (x :: l).length=(eTms (x :: l)).length by rw[Zs]];rfl,rfl⟩
theorem EZ (l:List Tm)(hl:l.length≤900000)(nm:Nat):Wa Tryz.prog 151 [.sl 4 (eTms l) none] [] nm [(.r nm,.rp 62 4 (eTms l))] (.ps nm l.length):=by
 cases l with
 | cons x l=>exact Qk x l (by simp at hl;omega) nm
 | nil=>
  refine⟨by kernel_rfl,fun cx Fr m Im w a σ vs hnm hs hv hR=>?_⟩
  match vs,hv with
  | [v],hv=>
   obtain⟨a0,c,bl,off,X,rfl,_⟩:=XZ hv.1
   exact(Ov a0 c nm).2 cx Fr m Im w a σ _ hnm hs ⟨.v _,trivial⟩ hR
theorem UZ:eTm Tm.zero=[.sl 2 [] none,.v (.int .i64 0),.v (.int .i64 0),.sl 4 [] none]:=rfl
theorem Qr (j:Int)(p:List Int):D.sl 1 (List.drop ((some (1:Int)).getD 0).toNat (List.take ((none:Option Int).getD ((Y4 (j :: p)).length:Nat)).toNat (Y4 (j :: p)))) none=D.sl 1 (Y4 p) none:=by
 have h:List.take ((none:Option Int).getD ((Y4 (j :: p)).length:Nat)).toNat (Y4 (j :: p))=Y4 (j :: p):=List.take_of_length_le (Nat.le_refl _)
 rw[h];rfl
theorem Ei (l:List Tm)(n:Nat)(x:Tm)(h:n<l.length):(eTms l).set n [.sl 2 (eTys x.binds) none,.v (.int .i64 x.kind),.v (.int .i64 x.index),.sl 4 (eTms x.args) none]=eTms (l.set n x):=by
 rw[←Zv,YW,YW,List.map_set]
theorem Eh (l:List Tm)(n:Nat)(x:Tm)(h:n<l.length):(eTms l).set n (U2 ((eTms l).getD n []) 0 4 [.sl 2 (eTys x.binds) none,.v (.int .i64 x.kind),.v (.int .i64 x.index),.sl 4 (eTms x.args) none])=eTms (l.set n x):=by
 rw[ZX l n h,Zv,show U2 [.sl 2 (eTys (l[n]).binds) none,.v (.int .i64 (l[n]).kind),.v (.int .i64 (l[n]).index),.sl 4 (eTms (l[n]).args) none] 0 4 [.sl 2 (eTys x.binds) none,.v (.int .i64 x.kind),.v (.int .i64 x.index),.sl 4 (eTms x.args) none]=[.sl 2 (eTys x.binds) none,.v (.int .i64 x.kind),.v (.int .i64 x.index),.sl 4 (eTms x.args) none] from rfl]
 exact Ei l n x h
theorem Sx:∀ (l:List Tm) (n:Nat) (x:Tm) (h:n<l.length),Tm.sizes (l.set n x)+l[n].size=Tm.sizes l+x.size∧Tm.fulls (l.set n x)+l[n].full=Tm.fulls l+x.full
 | [],n,x,h=>by simp at h
 | t :: l,0,x,h=>by
  show Tm.sizes (x :: l)+t.size=_∧Tm.fulls (x :: l)+t.full=_
  rw[Tm.sizes,Tm.sizes,Tm.fulls,Tm.fulls];omega
 | t :: l,n+1,x,h=>by
  have h':n<l.length:=by simpa using h
  have ih:=Sx l n x h'
  show Tm.sizes (t :: l.set n x)+l[n].size=_∧Tm.fulls (t :: l.set n x)+l[n].full=_
  rw[Tm.sizes,Tm.sizes,Tm.fulls,Tm.fulls];omega
def P9 (r:Option Tm):D:=match r with
 | some o=>.tu [.ag (eTm o),.v (.int .i64 0)]
 | none=>.tu [.ag (eTm Tm.zero),.v (.int .i64 10)]
set_option maxHeartbeats 2000000 in
theorem Rg (b:Tm):∀ (p:List Int) (t:Tm),p.length≤100000→t.full≤800000→Zd Tryz.prog 142 [.ag (eTm t),.ag (eTm b),.sl 1 (Y4 p) none] (P9 (Au.replP p t b)):=by
 intro p
 induction p with
 | nil=>
  intro t _ _
  rw[Au.replP]
  unfold P9
  rw[Zv,Zv,Zv]
  refine Zm 0 60 [ResultVar.cell 6 62,ResultVar.tmp 7] Z7 Tryz.func142 rfl Tryz.ntmps142 rfl fun cx hnt hn0=>?_
  ·skip
   refine Zz ?_;refine Zx [] Z7 hnt fun _ z9=>z9 _ _ ?_;refine Zz ?_;refine Zz ?_;refine Zx [(12,.v (.int .i64 (0))),(13,.v (.bool true))] Z7 hnt fun K hK=>?_;refine And.intro (Zq (by rfl)) ?_;refine And.intro (Zn.refl _) ?_;refine hK _ _ ?_;clear hK K;refine Zy (t:=true) rfl ?_;rw[if_pos rfl];refine Zz ?_;refine Zx [] Z7 hnt fun K hK=>?_
   refine hK _ _ ?_;clear hK K;refine Zu ?_
   exact Zj rfl
 | cons j p ih=>
  intro t hp hz
  have hft:=X6 t
  have hal:=Sa t.args
  have hpl:p.length≤100000:=by rw[List.length_cons] at hp;omega
  rw[Au.replP]
  by_cases hj:0≤j∧j<(t.args.length:Int)
  ·rw[if_pos hj]
   obtain⟨n,rfl⟩:∃ n:Nat,j=n:=⟨j.toNat,by omega⟩
   have hn:n<t.args.length:=by omega
   have hg:t.args.getD ((n:Int)).toNat Tm.zero=t.args[n]:=by rw[Int.toNat_natCast,List.getD_eq_getElem?_getD,List.getElem?_eq_getElem hn];rfl
   rw[hg]
   have hsub:=Tm.full_mem (List.getElem_mem hn)
   have hi:=ih t.args[n] hpl (by omega)
   have hcl:=EZ t.args (by omega)
   have hgx:(eTms t.args).getD n []=[.sl 2 (eTys (t.args[n]).binds) none,.v (.int .i64 (t.args[n]).kind),.v (.int .i64 (t.args[n]).index),.sl 4 (eTms (t.args[n]).args) none]:=by rw[ZX t.args n hn,Zv]
   have hj0:¬ ((n:Int)<0):=by omega
   cases hr:Au.replP p t.args[n] b with
   | none=>
    rw[hr] at hi
    unfold P9 at hi ⊢
    simp only[Option.map_none] at hi ⊢
    rw[Zv t.args[n],Zv b,UZ] at hi
    rw[Zv t,Zv b,UZ]
    refine Zm 0 60 [ResultVar.cell 6 62,ResultVar.tmp 7] Z7 Tryz.func142 rfl Tryz.ntmps142 rfl fun cx hnt hn0=>?_
    ·skip
     refine Zz ?_;refine Zx [] Z7 hnt fun _ z9=>z9 _ _ ?_;refine Zz ?_;refine Zz ?_;refine Zx [(12,.v (.int .i64 (↑(p.length+1)))),(13,.v (.bool false))] Z7 hnt fun K hK=>?_;refine And.intro (Zq (by rw[Zi];simp)) ?_;refine And.intro (Zn.of_eq (by simp;omega)) ?_;refine hK _ _ ?_;clear hK K;refine Zy (t:=false) rfl ?_;rw[if_neg (by simp)]
     refine Zw ?_;refine Zz ?_;refine Zx [(22,.q [.v (.int .i64 ↑n)])] Z7 hnt fun K hK=>?_;refine And.intro (⟨by omega,by rw[Zi];simp⟩) ?_;refine And.intro (Zn.of_eq rfl) ?_;refine hK _ _ ?_;clear hK K;refine Zz ?_;refine Zz ?_;refine Zx [(25,.v (.bool false)),(30,.v (.int .i64 (↑t.args.length))),(31,.v (.bool false))] Z7 hnt fun K hK=>?_;refine And.intro (Zf hj0) ?_
     refine And.intro (Zq (by rw[Zs])) ?_;refine And.intro Xq ?_;refine hK _ _ ?_;clear hK K;refine Zy (t:=false) rfl ?_;rw[if_neg (by simp)];refine Zw ?_;refine Zz ?_;refine ZP [(38,.q [.sl 2 (eTys (t.args[n]).binds) none,.v (.int .i64 (t.args[n]).kind),.v (.int .i64 (t.args[n]).index),.sl 4 (eTms (t.args[n]).args) none]),(42,.sl 1 (Y4 p) none)] Z7 hnt fun K hK=>?_
     refine And.intro (⟨by omega,by rw[Zs];omega⟩) ?_;refine And.intro (Zn.of_eq (by rw[Int.toNat_natCast,hgx])) ?_;refine And.intro (⟨by omega,by rw[Zi];simp;omega⟩) ?_;refine And.intro (Zn.of_eq (Qr _ _)) ?_;refine Ze (hi) ?_;refine hK _ _ (by kernel_rfl) ?_;clear hK K;refine Zz ?_;refine Zz ?_;refine Zx [(47,.v (.bool true))] Z7 hnt fun K hK=>?_
     refine And.intro (Y6 (by decide)) ?_;refine hK _ _ ?_;clear hK K;refine Zy (t:=true) rfl ?_;rw[if_pos rfl];refine Zz ?_;refine Zx [] Z7 hnt fun _ z9=>z9 _ _ ?_;refine Zu ?_
     exact Zj rfl
   | some x=>
    rw[hr] at hi
    unfold P9 at hi ⊢
    simp only[Option.map_some] at hi ⊢
    rw[Zv,Zv,Zv] at hi
    rw[Zv,Zv,Zv]
    refine Zm 0 60 [ResultVar.cell 6 62,ResultVar.tmp 7] Z7 Tryz.func142 rfl Tryz.ntmps142 rfl fun cx hnt hn0=>?_
    ·skip
     refine Zz ?_;refine Zx [] Z7 hnt fun _ z9=>z9 _ _ ?_;refine Zz ?_;refine Zz ?_;refine Zx [(12,.v (.int .i64 (↑(p.length+1)))),(13,.v (.bool false))] Z7 hnt fun K hK=>?_;refine And.intro (Zq (by rw[Zi];simp)) ?_;refine And.intro (Zn.of_eq (by simp;omega)) ?_;refine hK _ _ ?_;clear hK K;refine Zy (t:=false) rfl ?_;rw[if_neg (by simp)]
     refine Zw ?_;refine Zz ?_;refine Zx [(22,.q [.v (.int .i64 ↑n)])] Z7 hnt fun K hK=>?_;refine And.intro (⟨by omega,by rw[Zi];simp⟩) ?_;refine And.intro (Zn.of_eq rfl) ?_;refine hK _ _ ?_;clear hK K;refine Zz ?_;refine Zz ?_;refine Zx [(25,.v (.bool false)),(30,.v (.int .i64 (↑t.args.length))),(31,.v (.bool false))] Z7 hnt fun K hK=>?_;refine And.intro (Zf hj0) ?_
     refine And.intro (Zq (by rw[Zs])) ?_;refine And.intro Xq ?_;refine hK _ _ ?_;clear hK K;refine Zy (t:=false) rfl ?_;rw[if_neg (by simp)];refine Zw ?_;refine Zz ?_;refine ZP [(38,.q [.sl 2 (eTys (t.args[n]).binds) none,.v (.int .i64 (t.args[n]).kind),.v (.int .i64 (t.args[n]).index),.sl 4 (eTms (t.args[n]).args) none]),(42,.sl 1 (Y4 p) none)] Z7 hnt fun K hK=>?_
     refine And.intro (⟨by omega,by rw[Zs];omega⟩) ?_;refine And.intro (Zn.of_eq (by rw[Int.toNat_natCast,hgx])) ?_;refine And.intro (⟨by omega,by rw[Zi];simp;omega⟩) ?_;refine And.intro (Zn.of_eq (Qr _ _)) ?_;refine Ze (hi) ?_;refine hK _ _ (by kernel_rfl) ?_;clear hK K;refine Zz ?_;refine Zz ?_;refine Zx [(47,.v (.bool false))] Z7 hnt fun K hK=>?_
     refine And.intro (Yy rfl) ?_;refine hK _ _ ?_;clear hK K;refine Zy (t:=false) rfl ?_;rw[if_neg (by simp)];refine Zw ?_;refine Zz ?_;refine Zx [] Z7 hnt fun K hK=>?_;refine Al (hcl _) ?_;refine hK _ _ ?_;clear hK K;refine Zz ?_;refine Zx [(58,.pr 39 t.args.length 4 (n) 0)] Z7 hnt fun K hK=>?_;refine And.intro ((by constructor <;> omega)) ?_;refine And.intro (Zn.of_eq (by simp;rfl)) ?_
     refine And.intro (⟨by rw[Zs],by omega⟩) ?_;refine hK _ _ ?_;clear hK K
     rw[Eh t.args n x hn]
     refine Oy (k:=0) (off:=3) (g:=39) rfl rfl (by rw[Zs,List.length_set]) ?_
     refine Zz ?_;refine Zx [] Z7 hnt fun _ z9=>z9 _ _ ?_;refine Zu ?_
     exact Zj rfl
  ·rw[if_neg hj]
   unfold P9
   dsimp only
   rw[Zv t,Zv b,UZ]
   by_cases h0:j<0
   ·skip
    refine Zm 0 60 [ResultVar.cell 6 62,ResultVar.tmp 7] Z7 Tryz.func142 rfl Tryz.ntmps142 rfl fun cx hnt hn0=>?_
    ·skip
     refine Zz ?_;refine Zx [] Z7 hnt fun _ z9=>z9 _ _ ?_;refine Zz ?_;refine Zz ?_;refine Zx [(12,.v (.int .i64 (↑(p.length+1)))),(13,.v (.bool false))] Z7 hnt fun K hK=>?_;refine And.intro (Zq (by rw[Zi];simp)) ?_;refine And.intro (Zn.of_eq (by simp;omega)) ?_;refine hK _ _ ?_;clear hK K;refine Zy (t:=false) rfl ?_;rw[if_neg (by simp)]
     refine Zw ?_;refine Zz ?_;refine Zx [(22,.q [.v (.int .i64 j)])] Z7 hnt fun K hK=>?_;refine And.intro (⟨by omega,by rw[Zi];simp⟩) ?_;refine And.intro (Zn.of_eq rfl) ?_;refine hK _ _ ?_;clear hK K;refine Zz ?_;refine Zz ?_;refine Zx [(25,.v (.bool true))] Z7 hnt fun K hK=>?_;refine And.intro (ZZ h0) ?_;refine hK _ _ ?_;clear hK K;refine Zy (t:=true) rfl ?_
     rw[if_pos rfl];refine Zz ?_;refine Zx [] Z7 hnt fun _ z9=>z9 _ _ ?_;refine Zu ?_
     exact Zj rfl
   ·skip
    refine Zm 0 60 [ResultVar.cell 6 62,ResultVar.tmp 7] Z7 Tryz.func142 rfl Tryz.ntmps142 rfl fun cx hnt hn0=>?_
    ·skip
     refine Zz ?_;refine Zx [] Z7 hnt fun _ z9=>z9 _ _ ?_;refine Zz ?_;refine Zz ?_;refine Zx [(12,.v (.int .i64 (↑(p.length+1)))),(13,.v (.bool false))] Z7 hnt fun K hK=>?_;refine And.intro (Zq (by rw[Zi];simp)) ?_;refine And.intro (Zn.of_eq (by simp;omega)) ?_;refine hK _ _ ?_;clear hK K;refine Zy (t:=false) rfl ?_;rw[if_neg (by simp)]
     refine Zw ?_;refine Zz ?_;refine Zx [(22,.q [.v (.int .i64 j)])] Z7 hnt fun K hK=>?_;refine And.intro (⟨by omega,by rw[Zi];simp⟩) ?_;refine And.intro (Zn.of_eq rfl) ?_;refine hK _ _ ?_;clear hK K;refine Zz ?_;refine Zz ?_;refine Zx [(25,.v (.bool false)),(30,.v (.int .i64 (↑t.args.length))),(31,.v (.bool true))] Z7 hnt fun K hK=>?_;refine And.intro (Zf h0) ?_
     refine And.intro (Zq (by rw[Zs])) ?_;refine And.intro YD ?_;refine hK _ _ ?_;clear hK K;refine Zy (t:=true) rfl ?_;rw[if_pos rfl];refine Zz ?_;refine Zx [] Z7 hnt fun _ z9=>z9 _ _ ?_;refine Zu ?_
     exact Zj rfl
set_option maxHeartbeats 1000000 in
theorem KB:∀ t:Tm,∀ ins:Int,0≤ins→ins+t.full≤4000000→t.size≤900000→Bnd 170 t→Zd Tryz.prog 118 [.ag (eTm t),.v (.int .i64 ins),.fn 119 []] (.ag (eTm t)):=by
 intro t
 induction t using Tm.ind with
 | h bs k i ar ih=>
  intro ins h0 hz hsz0 hbn
  rw[Tm.full_eq] at hz
  rw[Tm.size_eq] at hsz0
  have hft:=Bnd.fit _ hbn
  obtain⟨hb1,_,hb3⟩:=hbn.inv
  have hbl:=Ty.le_sizes bs
  obtain⟨hi0,hi1,_⟩:=Tm.fit_iff.1 hft
  have hs1:(Ty.mk [] 0).size=1:=by simp[Ty.size,Ty.sizes]
  have harr:=Tz (.mk [] 0) bs (by omega)
  dsimp only[Ty.args,Ty.base] at harr
  rw[List.append_nil,Zb,Zb] at harr
  dsimp only[Ty.args,Ty.base,eTys] at harr
  have hal:ar.length≤Tm.sizes ar:=Tm.len_sizes ar
  rw[Zv]
  dsimp only[Tm.binds,Tm.kind,Tm.index,Tm.args]
  obtain⟨n,hn⟩:∃ n:Int,n=ins+bs.length:=⟨_,rfl⟩
  refine Zm 0 63 [ResultVar.cell 6 62] Yz Tryz.func118 rfl Tryz.ntmps118 rfl fun cx hnt hn0=>?_
  ·skip
   refine Zz ?_;refine Zx [] Yz hnt fun _ z9=>z9 _ _ ?_;refine Zz ?_;refine Zx [(14,.v (.int .i64 (n)))] Yz hnt fun K hK=>?_;refine And.intro (Zq (by rw[Zr,IntWalk.i64_in _ (by omega)];omega)) ?_;refine hK _ _ ?_;clear hK K;refine Zz ?_;refine ZP [(15,.ag [.sl 2 [] none,.v (.int .i64 0)])] Yz hnt fun K hK=>?_;refine And.intro (Xl) ?_
   refine Ze (harr) ?_;refine hK _ _ (by kernel_rfl) ?_;clear hK K
   refine XW (τ:=[(.t 1,.v (.int .i64 n)),(.t 2,.fn 119 []),(.t 3,.p 0 0),(.t 6,.p 1 0),(.t 7,.p 16 0),(.c 0 0,.sl 2 (eTys bs) none),(.c 0 1,.v (.int .i64 k)),(.c 0 2,.v (.int .i64 i)),(.c 0 3,.sl 4 (eTms ar) none),(.c 1 0,.v (.slice none 0 0)),(.c 1 1,.v (.int .i64 0)),(.c 1 2,.v (.int .i64 0)),(.c 1 3,.v (.slice none 0 0)),(.c 16 0,.sl 2 (eTys bs) none),(.c 16 1,.v (.int .i64 k)),(.c 16 2,.v (.int .i64 i)),(.c 16 3,.v (.slice none 0 0))]) (N1:=17) ?_ ?_
   ·by_cases hk:k=0
    ·by_cases hge:i≥n
     ·have hc1:=KJ (i-n)
      refine Zz ?_;refine Zx [(26,.v (.bool true)),(32,.v (.bool true))] Yz hnt fun K hK=>?_;refine And.intro (Zn.of_eq (by simp[hk])) ?_;refine And.intro YD ?_;refine hK _ _ ?_;clear hK K;refine Zy (t:=true) rfl ?_;rw[if_pos rfl];refine Zx [(40,.v (.int .i64 ((i-n)))),(42,.v (.int .i64 (i)))] Yz hnt fun K hK=>?_;refine And.intro (Zq (by exact IntWalk.i64_in _ (by omega))) ?_
      refine Ze (hc1) ?_;refine And.intro (Zq (by (rw[show n+(i-n)=i by omega];exact IntWalk.i64_in _ (by omega)))) ?_;refine hK _ _ ?_;clear hK K
      exact Ym VS.toA
     ·skip
      refine Zz ?_;refine Zx [(26,.v (.bool true)),(32,.v (.bool false))] Yz hnt fun K hK=>?_;refine And.intro (Zn.of_eq (by simp[hk])) ?_;refine And.intro Xq ?_;refine hK _ _ ?_;clear hK K;refine Zy (t:=false) rfl ?_;rw[if_neg (by simp)];refine Zw ?_
      exact Ym VS.toA
    ·skip
     refine Zz ?_;refine Zx [(26,.v (.bool false))] Yz hnt fun K hK=>?_;refine And.intro (Zn.of_eq (by simp[hk])) ?_;refine hK _ _ ?_;clear hK K;refine Zy (t:=false) rfl ?_;rw[if_neg (by simp)];refine Zw ?_
     exact Ym VS.toA
   ·refine DW.vs (VS.row (k:=16) (off:=3) 62 4 rfl) ?_
    refine Zz ?_;refine Zz ?_;refine Zx [(47,.v (.int .i64 (↑ar.length)))] Yz hnt fun K hK=>?_;refine And.intro (Zq (by rw[Zs])) ?_;refine hK _ _ ?_;clear hK K;refine Zt ?_
    refine Z4 (ι:={ j:Nat // j≤ar.length }) (fun j=>[(.t 1,.v (.int .i64 n)),(.t 2,.fn 119 []),(.t 6,.p 1 0),(.t 7,.p 16 0),(.t 46,.sl 4 (eTms ar) none),(.t 47,.v (.int .i64 ↑ar.length)),(.t 48,.v (.int .i64 ↑j.1)),(.c 1 0,.v (.slice none 0 0)),(.c 1 1,.v (.int .i64 0)),(.c 1 2,.v (.int .i64 0)),(.c 1 3,.v (.slice none 0 0)),(.c 16 0,.sl 2 (eTys bs) none),(.c 16 1,.v (.int .i64 k)),(.c 16 2,.v (.int .i64 i)),(.c 16 3,.sl 4 (eTms (ar.take j.1)) (some 17)),(.r 17,.rw 62 4 j.1)]) 18 (fun j=>ar.length-j.1) (⟨0,Nat.zero_le _⟩) (VS.toA) fun j=>?_
    obtain⟨j,hj⟩:=j
    dsimp only
    by_cases hlt:j<ar.length
    ·have hmem:=List.getElem_mem hlt
     have hsz:=Tm.full_mem hmem
     have hsz1:=Tm.size_mem hmem
     have hc:=ih _ hmem n (by omega) (by omega) (by omega) (hb3 _ hmem)
     rw[Zv] at hc
     have hl1:(eTms (ar.take j)).length=j:=by rw[Zs,List.length_take];omega
     have hl2:(eTms (ar.take (j+1))).length=j+1:=by rw[Zs,List.length_take];omega
     refine Zz ?_;refine Zx [(49,.v (.bool true))] Yz hnt fun K hK=>?_;refine And.intro YD ?_;refine hK _ _ ?_;clear hK K;refine Zz ?_;refine Zy (t:=true) rfl ?_;rw[if_pos rfl];refine Zw ?_;refine Zz ?_;refine Zt ?_;refine Zz ?_;refine Zx [(50,.q [.sl 2 (eTys ar[j].binds) none,.v (.int .i64 ar[j].kind),.v (.int .i64 ar[j].index),.sl 4 (eTms ar[j].args) none])] Yz hnt fun K hK=>?_
     refine And.intro (Xg (Zs ar)) ?_;refine And.intro (Xh (ZX ar j) (Zv _)) ?_;refine hK _ _ ?_;clear hK K;refine ZP [] Yz hnt fun K hK=>?_;refine Ze (hc) ?_;refine And.intro (⟨by omega,by rw[hl1];simp;omega⟩) ?_;refine hK _ _ (by kernel_rfl) ?_;clear hK K
     rw[SY ar j hlt,hl2]
     refine Zx [(61,.v (.int .i64 (↑(j+1))))] Yz hnt fun K hK=>?_;refine And.intro XR ?_;refine hK _ _ ?_;clear hK K
     refine⟨⟨j+1,hlt⟩,by first | omega | (dsimp only;omega),VS.toA⟩
    ·rw[List.take_of_length_le (by omega)]
     refine Zz ?_;refine Zx [(49,.v (.bool false))] Yz hnt fun K hK=>?_;refine And.intro Xq ?_;refine hK _ _ ?_;clear hK K;refine Zz ?_;refine Zy (t:=false) rfl ?_;rw[if_neg (by simp)];refine Zc ?_;refine Zz ?_;refine Zx [] Yz hnt fun _ z9=>z9 _ _ ?_;refine Zu ?_
     exact Zj rfl
theorem Ce (t:Tm)(hsz:t.full≤4000000)(hs:t.size≤900000)(hb:Bnd 170 t):Zd Tryz.prog 96 [.ag (eTm t)] (.ag (eTm t)):=by
 have h:=KB t 0 (Int.le_refl _) (by omega) hs hb
 rw[Zv] at h ⊢
 refine Zm 0 5 [ResultVar.cell 2 62] Yz Tryz.func96 rfl Tryz.ntmps96 rfl fun cx hnt hn0=>?_
 ·skip
  refine Zz ?_;refine Zx [] Yz hnt fun _ z9=>z9 _ _ ?_;refine Zz ?_;refine Zx [] Yz hnt fun K hK=>?_;refine Ze (h) ?_;refine hK _ _ ?_;clear hK K;refine Zu ?_
  exact Zj rfl
theorem WQ:∀ (p:List Int) (t b o:Tm),Au.replP p t b=some o→o.size≤t.size+b.size∧o.full≤t.full+b.full∧(Bnd 170 t→Bnd 170 b→Bnd 170 o)
 | [],t,b,o,h=>by
  rw[Au.replP] at h
  cases h
  obtain⟨tb,tk,ti,ta⟩:=t
  obtain⟨bb,bk,bi,ba⟩:=b
  refine⟨?_,?_,fun h1 h2=>.mk _ _ _ _ h1.inv.1 h2.inv.2.1 h2.inv.2.2⟩
  ·show (Tm.mk tb bk bi ba).size≤_
   rw[Tm.size_eq,Tm.size_eq,Tm.size_eq];omega
  ·show (Tm.mk tb bk bi ba).full≤_
   rw[Tm.full_eq,Tm.full_eq,Tm.full_eq];omega
 | j :: p,t,b,o,h=>by
  rw[Au.replP] at h
  by_cases hj:0≤j∧j<(t.args.length:Int)
  ·rw[if_pos hj] at h
   cases hr:Au.replP p (t.args.getD j.toNat Tm.zero) b with
   | none=>rw[hr] at h;cases h
   | some x=>
    rw[hr] at h
    have h:=Option.some.inj h
    have hn:j.toNat<t.args.length:=by omega
    rw[List.getD_eq_getElem?_getD,List.getElem?_eq_getElem hn,Option.getD_some] at hr
    obtain⟨h1,h2,h3⟩:=WQ p _ b x hr
    obtain⟨tb,tk,ti,ta⟩:=t
    have hn:j.toNat<ta.length:=hn
    have hs1:=Sx ta j.toNat x hn
    subst h
    refine⟨?_,?_,fun g1 g2=>.mk _ _ _ _ g1.inv.1 g1.inv.2.1 fun u hu=>?_⟩
    ·show (Tm.mk tb tk ti (ta.set j.toNat x)).size≤_
     rw[Tm.size_eq,Tm.size_eq]
     have h1:x.size≤(ta[j.toNat]).size+b.size:=h1
     omega
    ·show (Tm.mk tb tk ti (ta.set j.toNat x)).full≤_
     rw[Tm.full_eq,Tm.full_eq]
     have h2:x.full≤(ta[j.toNat]).full+b.full:=h2
     omega
    ·rcases List.mem_or_eq_of_mem_set hu with hu | rfl
     ·exact g1.inv.2.2 u hu
     ·exact h3 (g1.inv.2.2 _ (List.getElem_mem hn)) g2
  ·rw[if_neg hj] at h;cases h
theorem Ts (t b:Tm)(p:List Int)(hp:p.length≤100000)(ht:t.full≤800000∧t.size≤100000∧Bnd 170 t)(hb:b.full≤800000∧b.size≤100000∧Bnd 170 b):
  Zd Tryz.prog 125 [.ag (eTm t),.ag (eTm b),.sl 1 (Y4 p) none] (.tu [.ag (eTm (Au.repl t b p).1),.v (.int .i64 (Au.repl t b p).2)]):=by
 have hbl:=Ty.le_sizes b.binds
 have hft:=X6 b
 have hr:=Rg b p t hp ht.1
 unfold Au.repl
 by_cases h0:b.binds≠[]
 ·rw[if_pos h0]
  have hpos:0<b.binds.length:=List.length_pos_iff.2 h0
  dsimp only
  rw[Zv t,Zv b,UZ]
  refine Zm 0 28 [ResultVar.cell 6 62,ResultVar.tmp 7] Z7 Tryz.func125 rfl Tryz.ntmps125 rfl fun cx hnt hn0=>?_
  ·skip
   refine Zz ?_;refine Zx [] Z7 hnt fun _ z9=>z9 _ _ ?_;refine Zz ?_;refine Zz ?_;refine Zx [(12,.v (.int .i64 (↑b.binds.length))),(13,.v (.bool true))] Z7 hnt fun K hK=>?_;refine And.intro (Zq (by rw[Zr])) ?_;refine And.intro (Zn.of_eq (by simp;omega)) ?_;refine hK _ _ ?_;clear hK K;refine Zy (t:=true) rfl ?_;rw[if_pos rfl]
   refine Zz ?_;refine Zx [] Z7 hnt fun _ z9=>z9 _ _ ?_;refine Zu ?_
   exact Zj rfl
 ·rw[if_neg h0]
  have hb0:b.binds.length=0:=by rw[Classical.byContradiction h0];rfl
  cases hx:Au.replP p t b with
  | none=>
   rw[hx] at hr
   unfold P9 at hr
   dsimp only at hr ⊢
   rw[Zv t,Zv b,UZ] at hr ⊢
   refine Zm 0 28 [ResultVar.cell 6 62,ResultVar.tmp 7] Z7 Tryz.func125 rfl Tryz.ntmps125 rfl fun cx hnt hn0=>?_
   ·skip
    refine Zz ?_;refine Zx [] Z7 hnt fun _ z9=>z9 _ _ ?_;refine Zz ?_;refine Zz ?_;refine Zx [(12,.v (.int .i64 (↑b.binds.length))),(13,.v (.bool false))] Z7 hnt fun K hK=>?_;refine And.intro (Zq (by rw[Zr])) ?_;refine And.intro (Zn.of_eq (by rw[hb0];rfl)) ?_;refine hK _ _ ?_;clear hK K;refine Zy (t:=false) rfl ?_;rw[if_neg (by simp)]
    refine Zw ?_;refine Zz ?_;refine Zx [] Z7 hnt fun K hK=>?_;refine Ze (hr) ?_;refine hK _ _ ?_;clear hK K;refine Zz ?_;refine Zz ?_;refine Zx [(23,.v (.bool true))] Z7 hnt fun K hK=>?_;refine And.intro (Y6 (by decide)) ?_;refine hK _ _ ?_;clear hK K;refine Zy (t:=true) rfl ?_;rw[if_pos rfl];refine Zz ?_;refine Zx [] Z7 hnt fun K hK=>?_
    refine hK _ _ ?_;clear hK K;refine Zu ?_
    exact Zj rfl
  | some o=>
   rw[hx] at hr
   unfold P9 at hr
   dsimp only at hr ⊢
   obtain⟨g1,g2,g3⟩:=WQ p t b o hx
   have hc:=Ce o (by omega) (by omega) (g3 ht.2.2 hb.2.2)
   rw[Zv t,Zv b,Zv o] at hr
   rw[Zv] at hc
   rw[Zv t,Zv b,Zv o]
   refine Zm 0 28 [ResultVar.cell 6 62,ResultVar.tmp 7] Z7 Tryz.func125 rfl Tryz.ntmps125 rfl fun cx hnt hn0=>?_
   ·skip
    refine Zz ?_;refine Zx [] Z7 hnt fun _ z9=>z9 _ _ ?_;refine Zz ?_;refine Zz ?_;refine Zx [(12,.v (.int .i64 (↑b.binds.length))),(13,.v (.bool false))] Z7 hnt fun K hK=>?_;refine And.intro (Zq (by rw[Zr])) ?_;refine And.intro (Zn.of_eq (by rw[hb0];rfl)) ?_;refine hK _ _ ?_;clear hK K;refine Zy (t:=false) rfl ?_;rw[if_neg (by simp)]
    refine Zw ?_;refine Zz ?_;refine Zx [] Z7 hnt fun K hK=>?_;refine Ze (hr) ?_;refine hK _ _ ?_;clear hK K;refine Zz ?_;refine Zz ?_;refine Zx [(23,.v (.bool false))] Z7 hnt fun K hK=>?_;refine And.intro (Yy rfl) ?_;refine hK _ _ ?_;clear hK K;refine Zy (t:=false) rfl ?_;rw[if_neg (by simp)];refine Zw ?_;refine Zz ?_;refine Zx [] Z7 hnt fun K hK=>?_
    refine Ze (hc) ?_;refine hK _ _ ?_;clear hK K;refine Zu ?_
    exact Zj rfl
namespace Sb
variable {B:Nat}
theorem find_mem {l:List (Int×Tm)}{i:Int}{u:Tm}(h:find l i=some u):∃ p∈l,p.2=u:=by
 unfold find at h
 cases hf:l.find? (fun p=>p.1==i) with
 | none=>rw[hf] at h;cases h
 | some p=>rw[hf] at h;cases h;exact⟨p,List.mem_of_find?_eq_some hf,rfl⟩
theorem Put_grow {u:Tm}{xs:List Tm}{left:Int}{dry:Bool}(h0:0≤left∧left≤1000000000)(hu:Bnd B u)(hx:∀ x∈xs,Bnd B x):
  (Nm.Put u xs left dry).2.e=0→((Nm.Put u xs left dry).1.size:Int)+(Nm.Put u xs left dry).2.left≤left∧Bnd B (Nm.Put u xs left dry).1:=by
 have h1:=Nm.putW_grow (Nm.through_grow B 100001) (t:=u) (xs:=xs) (s:=⟨left,dry,0,0⟩) ⟨h0,⟨Int.le_refl 0,(by decide:(0:Int)≤100001)⟩,fun _=>(by decide:(0:Int)≤100000)⟩ (fun _=>by show (100001:Int)-0≤((100001:Nat):Int);decide) hu hx
 unfold Nm.Put Nm.done
 dsimp only
 show _
 have h2:Nm.put 100001 u xs ⟨left,dry,0,0⟩=Nm.putW (Nm.through 100001) u xs ⟨left,dry,0,0⟩:=rfl
 rw[h2]
 generalize Nm.putW (Nm.through 100001) u xs ⟨left,dry,0,0⟩=p at h1
 intro e
 have key:p.2.e=0∧(p.1.size≤5000∧p.1.depth≤60):=by
  by_cases hc:p.2.e=0∧¬ (p.1.size≤5000∧p.1.depth≤60)
  ·exfalso
   rw[if_pos hc] at e
   have hf:(Nm.fail p.2 2).e=2:=by unfold Nm.fail;rw[if_pos hc.1]
   rw[if_pos (by rw[hf];decide)] at e
   rw[hf] at e;cases e
  ·rw[if_neg hc] at e
   by_cases hp:p.2.e=0
   ·exact⟨hp,by
     by_cases h5:p.1.size≤5000∧p.1.depth≤60
     ·exact h5
     ·exact absurd ⟨hp,h5⟩ hc⟩
   ·rw[if_pos hp] at e;exact absurd e hp
 have hc:¬ (p.2.e=0∧¬ (p.1.size≤5000∧p.1.depth≤60)):=fun h=>h.2 key.2
 rw[if_neg hc,if_neg (fun h=>h key.1)]
 have h3:=h1 key.1
 exact⟨h3.2.1,h3.2.2⟩
theorem seq_grow {g:Tm→Nm.St→Tm×Nm.St}:∀ (a:List Tm) (hg:∀ t∈a,∀ s,VC s→(g t s).2.e=0→s.e=0∧((g t s).1.size:Int)+(g t s).2.left≤s.left∧Bnd B (g t s).1) (hi:∀ t∈a,∀ s,VC s→VC (g t s).2) (s:Nm.St),VC s →
  (Nm.seqM g a s).2.e=0→s.e=0∧(Tm.sizes (Nm.seqM g a s).1:Int)+(Nm.seqM g a s).2.left≤s.left∧∀ u∈(Nm.seqM g a s).1,Bnd B u
 | [],_,_,s,_,h=>⟨h,by simp[Nm.seqM,Tm.sizes],fun u hu=>by cases hu⟩
 | t :: a,hg,hi,s,hs,h=>by
  have h2:=seq_grow a (fun u hu=>hg u (by simp[hu])) (fun u hu=>hi u (by simp[hu])) (g t s).2 (hi t (by simp) s hs) h
  have h3:=hg t (by simp) s hs h2.1
  refine⟨h3.1,?_,fun u hu=>?_⟩
  ·simp only[Nm.seqM,Tm.sizes]
   have:=h2.2.1
   have:=h3.2.1
   omega
  ·rcases List.mem_cons.1 hu with rfl | hu
   ·exact h3.2.2
   ·exact h2.2.2 u hu
theorem spend_ok {s:Nm.St}(h:(Nm.spend s).1=true):(Nm.spend s).2.left=s.left-1∧(Nm.spend s).2.e=s.e:=by
 unfold Nm.spend at h ⊢
 split
 ·rename_i hc;rw[if_pos hc] at h;cases h
 ·exact⟨rfl,rfl⟩
theorem grow (l:List (Int×Tm))(hl:∀ p∈l,Bnd B p.2):∀ t:Tm,Bnd B t→∀ (ins:Int) (s:Nm.St),VC s→(through l t ins s).2.e=0→s.e=0∧((through l t ins s).1.size:Int)+(through l t ins s).2.left≤s.left∧Bnd B (through l t ins s).1:=by
 intro t
 induction t using Tm.ind with
 | h b k i a ih=>
  intro ht ins s hs
  obtain⟨t1,t2,t3⟩:=ht.inv
  rw[through]
  dsimp only
  split
  ·intro e;exact absurd e (by assumption)
  ·rename_i he
   have he0:s.e=0:=by omega
   split
   ·intro e;cases e
   ·rename_i hsp
    have hsp:(Nm.spend s).1=true:=by simpa using hsp
    obtain⟨s1,s2⟩:=spend_ok hsp
    rw[throughs_seq]
    have hin:=Vs hs
    have hq:=seq_grow (B:=B) (g:=fun t s=>through l t (Nm.wr (ins+b.length)) s) a (fun u hu s hs=>ih u hu (t3 u hu) _ s hs) (fun u hu s hs=>YQ l u _ s hs) (Nm.spend s).2 hin
    have hqi:=Uu (g:=fun t s=>through l t (Nm.wr (ins+b.length)) s) a (fun u hu s hs=>YQ l u _ s hs) _ hin
    generalize Nm.seqM (fun t s=>through l t (Nm.wr (ins+b.length)) s) a (Nm.spend s).2=q at hq hqi ⊢
    have plain:q.2.e=0→s.e=0∧((Tm.mk b k i q.1).size:Int)+q.2.left≤s.left∧Bnd B (.mk b k i q.1):=fun e=>by
     have h1:=hq e
     refine⟨he0,?_,.mk _ _ _ _ t1 t2 h1.2.2⟩
     rw[Tm.size_eq]
     have:=h1.2.1
     omega
    split
    ·exact plain
    ·rename_i hk
     have hqe:q.2.e=0:=by
      by_cases h:q.2.e=0
      ·exact h
      ·exact absurd (.inr h) hk
     have h1:=hq hqe
     split
     ·exact plain
     ·rename_i u hu
      obtain⟨p,hp,rfl⟩:=find_mem hu
      unfold replaced
      split
      ·intro e;cases e
      ·dsimp only
       have hP:=Put_grow (B:=B) (u:=Nm.lift (Nm.wr (ins+b.length)) p.2 0) (xs:=q.1) (left:=q.2.left) (dry:=q.2.dry) hqi (Bnd.lift _ _ _ (hl p hp)) h1.2.2
       have harg:(Tm.mk b k i q.1).args=q.1:=rfl
       rw[harg]
       generalize Nm.Put (Nm.lift (Nm.wr (ins+b.length)) p.2 0) q.1 q.2.left q.2.dry=r at hP
       split
       ·rename_i hr;intro e;exact absurd e hr
       ·rename_i hr
        have hr0:r.2.e=0:=by omega
        obtain⟨h2,h3⟩:=hP hr0
        intro _
        obtain⟨⟨rb,rk,ri,rg⟩,rs⟩:=r
        dsimp only at h2 h3 ⊢
        have hp3:=h3.inv
        rw[Tm.size_eq] at h2
        have h4:=h1.2.1
        refine⟨he0,?_,.mk _ _ _ _ t1 hp3.2.1 hp3.2.2⟩
        show (((Tm.sizes rg+1:Nat)):Int)+rs.left≤s.left
        omega
theorem put_grow {u:Tm}{xs:List Tm}{left:Int}{dry:Bool}(h0:0≤left∧left≤1000000000)(hu:Bnd B u)(hx:∀ x∈xs,Bnd B x):
  (Nm.put 100001 u xs ⟨left,dry,0,0⟩).2.e=0→((Nm.put 100001 u xs ⟨left,dry,0,0⟩).1.size:Int)≤left∧Bnd B (Nm.put 100001 u xs ⟨left,dry,0,0⟩).1:=fun e=>by
 have hw:YE ⟨left,dry,0,0⟩:=⟨h0,⟨Int.le_refl 0,(by decide:(0:Int)≤100001)⟩,fun _=>(by decide:(0:Int)≤100000)⟩
 have h1:=Nm.putW_grow (Nm.through_grow B 100001) (t:=u) (xs:=xs) hw (fun _=>by show (100001:Int)-0≤((100001:Nat):Int);decide) hu hx e
 have h2:=(UH (Xp 100001) u xs _ hw).left.1
 have h3:=h1.2.1
 have h4:Nm.put 100001 u xs ⟨left,dry,0,0⟩=Nm.putW (Nm.through 100001) u xs ⟨left,dry,0,0⟩:=rfl
 rw[h4]
 exact⟨by dsimp only at h3;omega,h1.2.2⟩
theorem done_ok {L:Nat}(hLB:L * (B+1)≤17100000)(hB:B≤170){t:Tm}(h:Bnd B t)(hs:t.size≤L):WA t:=by
 have h1:=Bnd.full t h
 have h2:t.size * (B+1)≤L * (B+1):=Nat.mul_le_mul_right _ hs
 refine⟨by omega,fun h3=>⟨?_,Bnd.fit t h⟩⟩
 have h4:t.size * (B+1)≤5000 * 171:=Nat.mul_le_mul h3.1 (by omega)
 omega
theorem size_mem' {t:Tm}{l:List Tm}(h:t∈l):t.size≤Tm.sizes l:=Tm.size_mem h
theorem th_ok (L:Nat)(hLB:L * (B+1)≤17100000)(hB:B≤170)(hL:L≤100000)(l:List (Int×Tm))(hl:∀ p∈l,Bnd B p.2∧ZB p.2):∀ t:Tm,Bnd B t→∀ (ins:Int) (s:Nm.St),VC s→(s.e=0→s.left≤L)→Tv l t ins s:=by
 have hl1:∀ p∈l,Bnd B p.2:=fun p hp=>(hl p hp).1
 intro t
 induction t using Tm.ind with
 | h b k i a ih=>
  intro ht ins s hs hle
  obtain⟨t1,t2,t3⟩:=ht.inv
  rw[Tv]
  intro he hsp
  obtain⟨s1,s2⟩:=spend_ok hsp
  have hin:=Vs hs
  have hle0:=hle he
  constructor
  ·have key:∀ (a:List Tm),(∀ u∈a,Bnd B u)→(∀ u∈a,∀ ins s,VC s→(s.e=0→s.left≤L)→Tv l u ins s)→∀ (ins:Int) (s:Nm.St),VC s→(s.e=0→s.left≤L)→thOks l a ins s:=by
    intro a
    induction a with
    | nil=>intro _ _ ins s _ _;rw[thOks];trivial
    | cons u a ih2=>
     intro hb h ins s hs hle
     rw[thOks]
     refine⟨h u (by simp) ins s hs hle,ih2 (fun v hv=>hb v (by simp[hv])) (fun v hv=>h v (by simp[hv])) ins _ (YQ l u ins s hs) fun e=>?_⟩
     have h1:=grow l hl1 u (hb u (by simp)) ins s hs e
     have:=hle h1.1
     have:=h1.2.1
     omega
   exact key a t3 (fun u hu ins s=>ih u hu (t3 u hu) ins s) _ _ hin (fun _=>by omega)
  ·intro hk hqe u hu
   obtain⟨p,hp,rfl⟩:=find_mem hu
   rw[throughs_seq] at hqe ⊢
   have hq:=seq_grow (B:=B) (g:=fun t s=>through l t (Nm.wr (ins+b.length)) s) a (fun u hu s hs=>grow l hl1 u (t3 u hu) _ s hs) (fun u hu s hs=>YQ l u _ s hs) (Nm.spend s).2 hin
   have hqi:=Uu (g:=fun t s=>through l t (Nm.wr (ins+b.length)) s) a (fun u hu s hs=>YQ l u _ s hs) _ hin
   generalize Nm.seqM (fun t s=>through l t (Nm.wr (ins+b.length)) s) a (Nm.spend s).2=q at hqe hq hqi ⊢
   have h1:=hq hqe
   have hsz:=h1.2.1
   have hl0:=hqi.1
   refine⟨(hl p hp).2,(hl p hp).2.lift _ _,fun x hx=>Bnd.wide x (h1.2.2 x hx) (by have:=size_mem' hx;omega) (by omega),fun _ hpe=>?_⟩
   have h2:=put_grow (B:=B) (dry:=q.2.dry) hqi (Bnd.lift _ (Nm.wr (ins+b.length)) 0 (hl p hp).1) h1.2.2 hpe
   exact done_ok hLB hB h2.2 (by have:=h2.1;omega)
theorem apply_ok (L:Nat)(hLB:L * (B+1)≤17100000)(hB:B≤170)(hL:L≤100000)(l:List (Int×Tm))(hl:∀ p∈l,Bnd B p.2∧ZB p.2)(t:Tm)(ht:Bnd B t)(left:Int)(h0:0≤left∧left≤L)(dry:Bool):
  Tv l t 0 ⟨left,dry,0,0⟩∧((through l t 0 ⟨left,dry,0,0⟩).2.e=0→WA (through l t 0 ⟨left,dry,0,0⟩).1):=by
 have hin:VC ⟨left,dry,0,0⟩:=⟨h0.1,by show left≤1000000000;omega⟩
 refine⟨th_ok L hLB hB hL l hl t ht 0 _ hin (fun _=>h0.2),fun e=>?_⟩
 have h1:=grow l (fun p hp=>(hl p hp).1) t ht 0 _ hin e
 have h2:=(YQ l t 0 _ hin).1
 have h3:=h1.2.1
 exact done_ok hLB hB h1.2.2 (by dsimp only at h3;omega)
end Sb
def Yg (C M X:List Ty)(k i:Int):Option Ty:=
 if i<0 then none else if k=0 then X.reverse[i.toNat]? else if k=1 then C[i.toNat]? else if k=2 then M[i.toNat]? else none
theorem WL {C M X:List Ty}{k i:Int}(h:i<0):Yg C M X k i=none:=by rw[Yg,if_pos h]
theorem RB {C M X:List Ty}(i:Nat):Yg C M X 0 i=X.reverse[i]?:=by rw[Yg,if_neg (by omega),if_pos rfl];rfl
theorem RC {C M X:List Ty}(i:Nat):Yg C M X 1 i=C[i]?:=by rw[Yg,if_neg (by omega),if_neg (by decide),if_pos rfl];rfl
theorem RD {C M X:List Ty}(i:Nat):Yg C M X 2 i=M[i]?:=by rw[Yg,if_neg (by omega),if_neg (by decide),if_neg (by decide),if_pos rfl];rfl
theorem RE {C M X:List Ty}{k i:Int}(h0:k≠0)(h1:k≠1)(h2:k≠2):Yg C M X k i=none:=by
 rw[Yg,if_neg h0,if_neg h1,if_neg h2];split <;> rfl
def tyZ:Ty:=.mk [] 0
theorem Ai {G F:Nat→Prop}{w:World}{a:Option Addr}{n c:Nat}{l:List Ty}(h:IsSl2 YO G F w (.slice a n c) l)(j:Nat)(hj:j<l.length):∃ bl off A N C B,a=some ⟨bl,off,none⟩∧G bl ∧
  w.cell? ⟨bl,off+j * 2,none⟩=some (.slice A N C)∧w.cell? ⟨bl,off+j * 2+1,none⟩=some (.int .i64 B)∧Xi F w (.slice A N C) (.int .i64 B) l[j]:=by
 obtain⟨a',c',bl,off,X,hv,_,ha,h1,h2⟩:=h
 cases hv
 obtain⟨ha,hG⟩:=ha (by omega)
 obtain⟨s,b,hx,ht⟩:=h2 j hj
 obtain⟨sa,sc,rfl,rfl⟩:=ht.shape
 exact⟨bl,off,_,_,_,_,ha,hG,h1 j 0 _ hj (by rw[hx];rfl),h1 j 1 _ hj (by rw[hx];rfl),ht⟩
mutual
def X1 (C M:List Ty):Tm→List Ty→Ty→Prop
 | .mk b k i a,X,u=>b=u.args∧∃ h,Yg C M (X++b) k i=some h∧h.base=u.base∧IsOfs C M a (X++b) h.args
def IsOfs (C M:List Ty):List Tm→List Ty→List Ty→Prop
 | [],_,[]=>True
 | [],_,_ :: _=>False
 | _ :: _,_,[]=>False
 | t :: l,X,u :: l'=>X1 C M t X u∧IsOfs C M l X l'
end
theorem SI {C M:List Ty}{b:List Ty}{k i:Int}{a:List Tm}{X:List Ty}{u:Ty}:X1 C M (.mk b k i a) X u↔b=u.args∧∃ h,Yg C M (X++b) k i=some h∧h.base=u.base∧IsOfs C M a (X++b) h.args:=by rw[X1]
theorem Wt {C M:List Ty}{X:List Ty}:∀ {l:List Tm} {l':List Ty},IsOfs C M l X l'↔l'.length=l.length∧∀ i (h:i<l.length) (h':i<l'.length),X1 C M l[i] X l'[i]
 | [],[]=>by simp[IsOfs]
 | [],_ :: _=>by simp[IsOfs]
 | _ :: _,[]=>by simp[IsOfs]
 | t :: l,u :: l'=>by
  rw[IsOfs,Wt]
  constructor
  ·rintro⟨h1,h2,h3⟩
   refine⟨by simp[h2],fun i h h'=>?_⟩
   cases i with
   | zero=>exact h1
   | succ i=>exact h3 i (by simpa using h) (by simpa using h')
  ·rintro⟨h1,h2⟩
   exact⟨h2 0 (by simp) (by simp),by simpa using h1,fun i h h'=>h2 (i+1) (by simpa using h) (by simpa using h')⟩
section
variable {C M:List Ty}
end
namespace Nm
variable {C M:List Ty} {B:Nat}
end Nm
namespace Sb
variable {C M:List Ty} {B:Nat}
end Sb
namespace Ru
def ix (m:Int):List Int→Nat
 | []=>0
 | x :: l=>if x=m then 0 else ix m l+1
def met (o:List Int)(m:Int):List Int:=if m∈o then o else o++[m]
mutual
def tr:Tm→List Int→List Int×Tm
 | .mk b k i a,o=>((trs a (if k=2 then met o i else o)).1,.mk b k (if k=2 then (ix i o:Int) else i) (trs a (if k=2 then met o i else o)).2)
def trs:List Tm→List Int→List Int×List Tm
 | [],o=>(o,[])
 | t :: l,o=>((trs l (tr t o).1).1,(tr t o).2 :: (trs l (tr t o).1).2)
end
theorem tr_eq (b:List Ty)(k i:Int)(a:List Tm)(o:List Int):tr (.mk b k i a) o=((trs a (if k=2 then met o i else o)).1,.mk b k (if k=2 then (ix i o:Int) else i) (trs a (if k=2 then met o i else o)).2):=by rw[tr]
theorem met_len (o:List Int)(m:Int):(met o m).length≤o.length+1:=by
 unfold met;split
 ·omega
 ·simp
theorem trs_grow_of {l:List Tm}(h:∀ t∈l,∀ o,(tr t o).1.length≤o.length+t.full):∀ o,(trs l o).1.length≤o.length+Tm.fulls l:=by
 induction l with
 | nil=>intro o;simp[trs,Tm.fulls]
 | cons t l ih=>
  intro o
  have h1:=h t (by simp) o
  have h2:=ih (fun u hu=>h u (by simp[hu])) (tr t o).1
  rw[trs,Tm.fulls]
  dsimp only
  omega
theorem tr_grow (t:Tm):∀ o,(tr t o).1.length≤o.length+t.full:=by
 induction t using Tm.ind with
 | h b k i a ih=>
  intro o
  have h2:(if k=2 then met o i else o).length≤o.length+1:=by
   split
   ·exact met_len o i
   ·omega
  rw[tr_eq,Tm.full_eq]
  dsimp only
  generalize (if k=2 then met o i else o)=o1 at h2 ⊢
  have h1:=trs_grow_of ih o1
  omega
def eN:List Int→Nat→List (Int×D)
 | [],_=>[]
 | x :: l,n=>(x,.v (.int .i64 ((n:Nat):Int))) :: eN l (n+1)
@[simp] theorem eN_ok (f g:Nat→Bool):∀ (o:List Int) (n:Nat),D.okm f g (eN o n)=true
 | [],_=>by simp[eN,D.okm]
 | x :: l,n=>by simp[eN,D.okm,D.ok,eN_ok f g l (n+1)]
end Ru
def TRB_106:TI:=⟨2,true,[Value.slice none 0 0,Value.int IntKind.i64 0],[(0,1,false),(1,1,false)],none,32,6,none,false⟩
theorem N4:TypOk Tryz.prog 106 TRB_106:=by constructor <;> kernel_rfl
def TRB_41:TI:=⟨1,false,[Value.slice none 0 0],[],some 106,24,5,none,false⟩
theorem He:TypOk Tryz.prog 41 TRB_41:=by constructor <;> kernel_rfl
def TRB_64:TI:=⟨9,true,[Value.slice none 0 0,Value.int IntKind.i64 0,Value.int IntKind.i64 0,Value.slice none 0 0,Value.slice none 0 0,Value.int IntKind.i64 0,Value.int IntKind.i64 0,Value.slice none 0 0,Value.slice none 0 0],[(0,4,true),(4,4,true),(8,1,false)],none,152,6,none,false⟩
theorem Hh:TypOk Tryz.prog 64 TRB_64:=by constructor <;> kernel_rfl
def TRB_62:TI:=⟨4,true,[Value.slice none 0 0,Value.int IntKind.i64 0,Value.int IntKind.i64 0,Value.slice none 0 0],[(0,1,false),(1,2,true),(3,1,false)],none,64,6,none,false⟩
theorem Hf:TypOk Tryz.prog 62 TRB_62:=by constructor <;> kernel_rfl
def TRB_3:TI:=⟨1,false,[Value.int IntKind.i64 0],[],none,8,2,none,false⟩
theorem Dw:TypOk Tryz.prog 3 TRB_3:=by constructor <;> kernel_rfl
def TRB_143:TI:=⟨1,false,[Value.nilFunc],[],none,8,8,none,false⟩
theorem Na:TypOk Tryz.prog 143 TRB_143:=by constructor <;> kernel_rfl
def TRB:List (Nat×TI):=[(106,TRB_106),(41,TRB_41),(64,TRB_64),(62,TRB_62),(3,TRB_3),(143,TRB_143)]
theorem WD:Zh Tryz.prog TRB:=(((((((Zh.nil _).cons Na).cons Dw).cons Hf).cons Hh).cons He).cons N4)
namespace Ru
open Li (Pr)
def bad (M:List Ty)(x:Int):Bool:=decide (x<0∨(M.length:Int)≤x)
def mt (M:List Ty)(x:Int):Ty:=M.getD x.toNat (.mk [] 0)
def own (p:Pr):Pr×Int:=
 if (tr p.r (tr p.l []).1).1.any (bad p.m) then (.z,10) else (⟨(tr p.l []).2,(tr p.r (tr p.l []).1).2,(tr p.r (tr p.l []).1).1.map (mt p.m)⟩,0)
theorem trs_full_of {l:List Tm}(h:∀ t∈l,∀ o,(tr t o).2.full=t.full):∀ o,Tm.fulls (trs l o).2=Tm.fulls l:=by
 induction l with
 | nil=>intro o;simp[trs]
 | cons t l ih=>
  intro o
  have h1:=h t (by simp) o
  have h2:=ih (fun u hu=>h u (by simp[hu])) (tr t o).1
  rw[trs,Tm.fulls]
  try dsimp only
  rw[Tm.fulls];omega
theorem tr_full (t:Tm):∀ o,(tr t o).2.full=t.full:=by
 induction t using Tm.ind with
 | h b k i a ih=>
  intro o
  rw[tr_eq,Tm.full_eq]
  try dsimp only
  rw[Tm.full_eq,trs_full_of ih]
theorem ix_le (m:Int):∀ o:List Int,ix m o≤o.length
 | []=>Nat.le_refl _
 | x :: l=>by
  rw[ix];split
  ·exact Nat.zero_le _
  ·have:=ix_le m l;simp;omega
theorem trs_fit_of {l:List Tm}(h:∀ t∈l,∀ o,o.length+t.full≤1000000→t.Fit→(tr t o).2.Fit):∀ o,o.length+Tm.fulls l≤1000000→(∀ t∈l,t.Fit)→∀ u∈(trs l o).2,u.Fit:=by
 induction l with
 | nil=>intro o _ _ u hu;simp[trs] at hu
 | cons t l ih=>
  intro o hz hf u hu
  rw[Tm.fulls] at hz
  have h1:=tr_grow t o
  rw[trs] at hu
  dsimp only at hu
  rcases List.mem_cons.1 hu with rfl | hu
  ·exact h t (by simp) o (by omega) (hf t (by simp))
  ·exact ih (fun u hu=>h u (by simp[hu])) (tr t o).1 (by omega) (fun u hu=>hf u (by simp[hu])) u hu
theorem tr_fit (t:Tm):∀ o,o.length+t.full≤1000000→t.Fit→(tr t o).2.Fit:=by
 induction t using Tm.ind with
 | h b k i a ih=>
  intro o hz hf
  rw[Tm.full_eq] at hz
  obtain⟨f1,f2,f3⟩:=Tm.fit_iff.1 hf
  have h1:=ix_le i o
  have h2:=met_len o i
  rw[tr_eq]
  try dsimp only
  refine Tm.fit_iff.2 ⟨?_,?_,trs_fit_of ih _ ?_ f3⟩
  ·split <;> omega
  ·split <;> omega
  ·split <;> omega
end Ru
theorem Jv (p q:Li.Pr):Zd Tryz.prog 52 [.ag (VG p),.ag (VG q)] (.v (.bool (decide (p=q)))):=by
 obtain⟨L,R,M⟩:=p
 obtain⟨L',R',M'⟩:=q
 have c1:=Vk L L'
 have c2:=Vk R R'
 have c3:=SC M M' 67 rfl
 have e:decide ((⟨L,R,M⟩:Li.Pr)=⟨L',R',M'⟩)=((decide (L=L')&&decide (R=R'))&&decide (M=M')):=by
  rw[Bool.eq_iff_iff];simp[and_assoc]
 rw[e]
 rw[Zv L,Zv L'] at c1
 rw[Zv R,Zv R'] at c2
 rw[Oz,Oz]
 cases hA:decide (L=L') with
 | false=>
  rw[hA] at c1
  rw[Bool.false_and,Bool.false_and]
  refine Zm 0 24 [ResultVar.tmp 4] WD Tryz.func52 rfl Tryz.ntmps52 rfl fun cx hnt hn0=>?_
  ·skip
   refine Zz ?_;refine Zx [] WD hnt fun _ z9=>z9 _ _ ?_;refine Zz ?_;refine Zx [] WD hnt fun K hK=>?_;refine Ze (c1) ?_;refine hK _ _ ?_;clear hK K;refine Zu ?_
   exact Zj rfl
 | true=>
  rw[hA] at c1
  cases hB:decide (R=R') with
  | false=>
   rw[hB] at c2
   rw[Bool.and_false,Bool.false_and]
   refine Zm 0 24 [ResultVar.tmp 4] WD Tryz.func52 rfl Tryz.ntmps52 rfl fun cx hnt hn0=>?_
   ·skip
    refine Zz ?_;refine Zx [] WD hnt fun _ z9=>z9 _ _ ?_;refine Zz ?_;refine Zx [] WD hnt fun K hK=>?_;refine Ze (c1) ?_;refine Ze (c2) ?_;refine hK _ _ ?_;clear hK K;refine Zu ?_
    exact Zj rfl
  | true=>
   rw[hB] at c2
   rw[Bool.and_true,Bool.true_and]
   refine Zm 0 24 [ResultVar.tmp 4] WD Tryz.func52 rfl Tryz.ntmps52 rfl fun cx hnt hn0=>?_
   ·skip
    refine Zz ?_;refine Zx [] WD hnt fun _ z9=>z9 _ _ ?_;refine Zz ?_;refine Zx [] WD hnt fun K hK=>?_;refine Ze (c1) ?_;refine Ze (c2) ?_;refine Ze (c3) ?_;refine hK _ _ ?_;clear hK K;refine Zu ?_
    exact Zj rfl
namespace Ru
end Ru
namespace Ru
end Ru
namespace Ru
end Ru
namespace Ru
end Ru
section
variable {P:Program} {T:List (Nat×TI)} {cx:Cx} {Fr:Nat→Prop} {m:Mp} {Im:Nat→Nat→Prop} {w w':World} {a:Act} {σ σ':List (Key×D)}
end
section
variable {P:Program} {T:List (Nat×TI)} {cx:Cx} {m:Mp} {Im:Nat→Nat→Prop} {w:World} {a:Act} {σ:List (Key×D)} {ops:Array Oper} {Q:Exit→Act→World→Prop}
end
def ePP (p:Tm×Tm):List D:=eTm p.1++eTm p.2
def Zb5 (l:List (Tm×Tm)):List (List D):=l.map ePP
theorem BG (p:Tm×Tm):ePP p=[.sl 2 (eTys p.1.binds) none,.v (.int .i64 p.1.kind),.v (.int .i64 p.1.index),.sl 4 (eTms p.1.args) none,.sl 2 (eTys p.2.binds) none,.v (.int .i64 p.2.kind),.v (.int .i64 p.2.index),.sl 4 (eTms p.2.args) none]:=by unfold ePP;rw[Zv,Zv];rfl
@[simp] theorem Za4 (f g:Nat→Bool) (l:List (Tm×Tm)):D.okss f g (Zb5 l)=true:=D.okss_map _ l fun p _=>by simp[BG,D.oks,D.ok,Yk,Yw]
namespace Pn
end Pn
def mc (i:Int)(l:List Tm):Tm:=.mk [] 1 i l
theorem CS (t:Tm)(h:t.full≤900000):Zd Tryz.prog 31 [.ag (eTm t)] (.ag (eTm t)):=Bh t h
theorem UM (l:List (Int×Tm))(j:Nat)(h:j<l.length):Z1 (l.take (j+1))=Z1 (l.take j)++[Wd l[j]]:=by
 unfold Z1;rw[List.take_succ_eq_append_getElem h,List.map_append];rfl
set_option maxHeartbeats 1000000 in
theorem A4 (l:List (Int×Tm))(hl:l.length≤100000)(hf:∀ p∈l,p.2.full≤900000):Zd Tryz.prog 62 [.sl 5 (Z1 l) none] (.sl 5 (Z1 l) none):=by
 refine Z9 0 27 [ResultVar.tmp 2] WC (by kernel_rfl) Tryz.func62 rfl Tryz.ntmps62 rfl (by simp) ?dwords ?dbody
 case dwords=>simp[ZF,D.ok,D.oks,ZQ,Yb]
 case dbody=>
  intro cx hnt hn0
  refine Zz ?_;refine Zx [] WC hnt fun _ z9=>z9 _ _ ?_;refine Zz ?_;refine Zx [] WC hnt fun _ z9=>z9 _ _ ?_;refine Zz (Zz ?_);refine Zx [] WC hnt fun _ z9=>z9 _ _ ?_;refine Zt ?_
  refine Z4 (ι:=Nat) (fun j=>(.t 0,.sl 5 (Z1 l) none) :: (.t 4,.v (.int .i64 (j:Int))) :: (.t 3,.sl 5 (Z1 (l.take j)) (some 3)) :: (.r 3,.rw 130 5 (l.take j).length) :: []) 4 (fun j=>l.length-j) 0 (VS.trans (VS.rowT (x:=3) (by rw[hnt];decide) 130 5 rfl) VS.toA) fun j=>?_
  refine Zz (Zz ?_)
  by_cases hlt:j<l.length
  ·have ho:=CS l[j].2 (hf _ (List.getElem_mem hlt))
   rw[Zv] at ho
   have hq:(Z1 l).getD (j:Int).toNat []=[.v (.int .i64 l[j].1),.sl 2 (eTys l[j].2.binds) none,.v (.int .i64 l[j].2.kind),.v (.int .i64 l[j].2.index),.sl 4 (eTms l[j].2.args) none]:=by rw[Int.toNat_natCast,ZT l j hlt,ZK]
   have hb:(0:Int)≤(j:Int)∧(j:Int)<((Z1 l).length:Int):=⟨by omega,by rw[Zk];omega⟩
   refine Zx [(8,.v (.bool true))] WC hnt fun K hK=>?_;refine And.intro (ZZ (by rw[Zk];omega)) ?_;refine hK _ _ ?_;clear hK K;refine Zy (t:=true) rfl ?_;rw[if_pos rfl];refine Zw ?_;refine Zz (Zt ?_);refine ZP [(14,.q [.v (.int .i64 l[j].1),.sl 2 (eTys l[j].2.binds) none,.v (.int .i64 l[j].2.kind),.v (.int .i64 l[j].2.index),.sl 4 (eTms l[j].2.args) none]),(19,.q [.v (.int .i64 l[j].1),.sl 2 (eTys l[j].2.binds) none,.v (.int .i64 l[j].2.kind),.v (.int .i64 l[j].2.index),.sl 4 (eTms l[j].2.args) none]),(25,.sl 5 (Z1 (l.take (j+1))) (some 3))] WC hnt fun K hK=>?_
   refine And.intro (hb) ?_;refine And.intro (Zn.of_eq (by rw[hq])) ?_;refine And.intro (hb) ?_;refine And.intro (Zn.of_eq (by rw[hq])) ?_;refine Ze (ho) ?_;refine And.intro (⟨by rw[Zk],by rw[Zk,List.length_take];simp;omega⟩) ?_;refine And.intro (Zn.of_eq (by rw[UM l j hlt,ZK])) ?_;refine hK _ _ (by kernel_rfl) ?_;clear hK K;refine Zx [(10,.v (.int .i64 ((j+1:Nat):Int)))] WC hnt fun K hK=>?_
   refine And.intro (Zq (by rw[IntWalk.i64_in _ (by omega)];omega)) ?_;refine hK _ _ ?_;clear hK K
   have hl2:(l.take (j+1)).length=j+1:=by rw[List.length_take];omega
   have hl3:(Z1 (l.take j)).length=j:=by rw[Zk,List.length_take];omega
   refine⟨j+1,by omega,?_⟩
   rw[hl2]
   exact(by try simp only[List.length_append,List.length_take,List.length_cons,List.length_nil,Nat.zero_add,hl3];exact VS.toA)
  ·skip
   refine Zx [(8,.v (.bool false))] WC hnt fun K hK=>?_;refine And.intro (Zf (by rw[Zk];omega)) ?_;refine hK _ _ ?_;clear hK K;refine Zy (t:=false) rfl ?_;rw[if_neg (by simp)];refine Zc ?_;refine Zz ?_
   rw[List.take_of_length_le (by omega)]
   refine Zx [] WC hnt fun _ z9=>z9 _ _ ?_;refine Zu ?_
   exact Yq (N:=0) (.inr rfl) rfl (by repeat first | exact Zn.refl _ | exact Zn.nil _ | exact Zn.untag _ _ _ | refine Zn.ag ?_ | refine Zn.tu ?_ | refine ZS.cons ?_ ?_ | exact ZS.nil) trivial
def TL10_3:TI:=⟨1,false,[Value.int IntKind.i64 0],[],none,8,2,none,false⟩
theorem Gx:TypOk Tryz.prog 3 TL10_3:=by constructor <;> kernel_rfl
def TL10_72:TI:=⟨1,false,[Value.slice none 0 0],[],some 130,24,5,none,false⟩
theorem NJ:TypOk Tryz.prog 72 TL10_72:=by constructor <;> kernel_rfl
def TL10_130:TI:=⟨5,true,[Value.int IntKind.i64 0,Value.slice none 0 0,Value.int IntKind.i64 0,Value.int IntKind.i64 0,Value.slice none 0 0],[(0,1,false),(1,4,true)],none,72,6,none,false⟩
theorem QQ:TypOk Tryz.prog 130 TL10_130:=by constructor <;> kernel_rfl
def TL10_31:TI:=⟨4,true,[Value.slice none 0 0,Value.int IntKind.i64 0,Value.int IntKind.i64 0,Value.slice none 0 0],[(0,1,false),(1,2,true),(3,1,false)],none,64,6,none,false⟩
theorem NI:TypOk Tryz.prog 31 TL10_31:=by constructor <;> kernel_rfl
def TL10_29:TI:=⟨1,false,[Value.slice none 0 0],[],some 31,24,5,none,false⟩
theorem NH:TypOk Tryz.prog 29 TL10_29:=by constructor <;> kernel_rfl
def TL10_84:TI:=⟨1,false,[Value.slice none 0 0],[],some 110,24,5,none,false⟩
theorem NK:TypOk Tryz.prog 84 TL10_84:=by constructor <;> kernel_rfl
def TL10_110:TI:=⟨5,true,[Value.int IntKind.i64 0,Value.slice none 0 0,Value.int IntKind.i64 0,Value.int IntKind.i64 0,Value.slice none 0 0],[(0,1,false),(1,4,true)],none,72,6,none,false⟩
theorem QP:TypOk Tryz.prog 110 TL10_110:=by constructor <;> kernel_rfl
def TL10:List (Nat×TI):=[(3,TL10_3),(72,TL10_72),(130,TL10_130),(31,TL10_31),(29,TL10_29),(84,TL10_84),(110,TL10_110)]
theorem Yn:Zh Tryz.prog TL10:=((((((((Zh.nil _).cons QP).cons NK).cons NH).cons NI).cons QQ).cons NJ).cons Gx)
theorem CV (t:Tm)(h:t.full≤900000):Zd Tryz.prog 27 [.ag (eTm t)] (.ag (eTm t)):=P2 t h
set_option maxHeartbeats 1000000 in
theorem Aj (l:List (Int×Tm))(hl:l.length≤9223372036854775807)(hf:∀ p∈l.take 10,p.2.full≤900000):Zd Tryz.prog 55 [.sl 5 (Z1 l) none] (.sl 5 (Z1 (l.take 10)) none):=by
 refine Z9 0 31 [ResultVar.tmp 2] Yn (by kernel_rfl) Tryz.func55 rfl Tryz.ntmps55 rfl (by simp) ?dwords ?dbody
 case dwords=>simp[ZF,D.ok,D.oks,ZQ,Yb]
 case dbody=>
  intro cx hnt hn0
  refine Zz ?_;refine Zx [] Yn hnt fun _ z9=>z9 _ _ ?_;refine Zz ?_;refine Zx [] Yn hnt fun _ z9=>z9 _ _ ?_;refine Zz (Zz ?_);refine Zx [] Yn hnt fun _ z9=>z9 _ _ ?_;refine Zt ?_
  refine Z4 (ι:={ j:Nat // j≤10 }) (fun j=>(.t 0,.sl 5 (Z1 l) none) :: (.t 4,.v (.int .i64 (j.1:Int))) :: (.t 3,.sl 5 (Z1 (l.take j.1)) (some 3)) :: (.r 3,.rw 110 5 (l.take j.1).length) :: []) 4 (fun j=>l.length-j.1) ⟨0,by decide⟩ (VS.trans (VS.rowT (x:=3) (by rw[hnt];decide) 110 5 rfl) VS.toA) fun j=>?_
  obtain⟨j,hj⟩:=j
  dsimp only
  refine Zz (Zz ?_)
  have end_:¬ (j<l.length∧j<10)→l.take j=l.take 10:=fun h=>by
   by_cases h1:j<10
   ·have:l.length≤j:=by omega
    rw[List.take_of_length_le this,List.take_of_length_le (by omega)]
   ·rw[show j=10 by omega]
  by_cases hlt:j<l.length
  ·by_cases h10:j<10
   ·have hjt:l[j]∈l.take 10:=by
     have:j<(l.take 10).length:=by rw[List.length_take];omega
     have h2:(l.take 10)[j]=l[j]:=by simp
     rw[←h2];exact List.getElem_mem this
    have ho:=CV l[j].2 (hf _ hjt)
    rw[Zv] at ho
    have hq:(Z1 l).getD (j:Int).toNat []=[.v (.int .i64 l[j].1),.sl 2 (eTys l[j].2.binds) none,.v (.int .i64 l[j].2.kind),.v (.int .i64 l[j].2.index),.sl 4 (eTms l[j].2.args) none]:=by rw[Int.toNat_natCast,ZT l j hlt,ZK]
    have hb:(0:Int)≤(j:Int)∧(j:Int)<((Z1 l).length:Int):=⟨by omega,by rw[Zk];omega⟩
    refine Zx [(8,.v (.bool true)),(11,.v (.bool true))] Yn hnt fun K hK=>?_;refine And.intro (ZZ (by rw[Zk];omega)) ?_;refine And.intro (ZZ (by omega)) ?_;refine hK _ _ ?_;clear hK K;refine Zy (t:=true) rfl ?_;rw[if_pos rfl];refine Zw ?_;refine Zz (Zt ?_);refine ZP [(18,.q [.v (.int .i64 l[j].1),.sl 2 (eTys l[j].2.binds) none,.v (.int .i64 l[j].2.kind),.v (.int .i64 l[j].2.index),.sl 4 (eTms l[j].2.args) none]),(23,.q [.v (.int .i64 l[j].1),.sl 2 (eTys l[j].2.binds) none,.v (.int .i64 l[j].2.kind),.v (.int .i64 l[j].2.index),.sl 4 (eTms l[j].2.args) none]),(29,.sl 5 (Z1 (l.take (j+1))) (some 3))] Yn hnt fun K hK=>?_
    refine And.intro (hb) ?_;refine And.intro (Zn.of_eq (by rw[hq])) ?_;refine And.intro (hb) ?_;refine And.intro (Zn.of_eq (by rw[hq])) ?_;refine Ze (ho) ?_;refine And.intro (⟨by rw[Zk],by rw[Zk,List.length_take];simp;omega⟩) ?_;refine And.intro (Zn.of_eq (by rw[UM l j hlt,ZK])) ?_;refine hK _ _ (by kernel_rfl) ?_;clear hK K;refine Zx [(14,.v (.int .i64 ((j+1:Nat):Int)))] Yn hnt fun K hK=>?_
    refine And.intro (Zq (by rw[IntWalk.i64_in _ (by omega)];omega)) ?_;refine hK _ _ ?_;clear hK K
    have hl2:(l.take (j+1)).length=j+1:=by rw[List.length_take];omega
    have hl3:(Z1 (l.take j)).length=j:=by rw[Zk,List.length_take];omega
    refine⟨⟨j+1,by omega⟩,by dsimp only;omega,?_⟩
    rw[hl2]
    exact(by try simp only[List.length_append,List.length_take,List.length_cons,List.length_nil,Nat.zero_add,hl3];exact VS.toA)
   ·skip
    refine Zx [(8,.v (.bool true)),(11,.v (.bool false))] Yn hnt fun K hK=>?_;refine And.intro (ZZ (by rw[Zk];omega)) ?_;refine And.intro (Zf (by omega)) ?_;refine hK _ _ ?_;clear hK K;refine Zy (t:=false) rfl ?_;rw[if_neg (by simp)];refine Zc ?_;refine Zz ?_
    rw[end_ (fun h=>h10 h.2)]
    refine Zx [] Yn hnt fun _ z9=>z9 _ _ ?_;refine Zu ?_
    exact Yq (N:=0) (.inr rfl) rfl (by repeat first | exact Zn.refl _ | exact Zn.nil _ | exact Zn.untag _ _ _ | refine Zn.ag ?_ | refine Zn.tu ?_ | refine ZS.cons ?_ ?_ | exact ZS.nil) trivial
  ·skip
   refine Zx [(8,.v (.bool false))] Yn hnt fun K hK=>?_;refine And.intro (Zf (by rw[Zk];omega)) ?_;refine hK _ _ ?_;clear hK K;refine Zy (t:=false) rfl ?_;rw[if_neg (by simp)];refine Zc ?_;refine Zz ?_
   rw[end_ (fun h=>hlt h.1)]
   refine Zx [] Yn hnt fun _ z9=>z9 _ _ ?_;refine Zu ?_
   exact Yq (N:=0) (.inr rfl) rfl (by repeat first | exact Zn.refl _ | exact Zn.nil _ | exact Zn.untag _ _ _ | refine Zn.ag ?_ | refine Zn.tu ?_ | refine ZS.cons ?_ ?_ | exact ZS.nil) trivial
def SD (l:List (Int×Tm)):Bool:=(l.take 10).all fun p=>VW p.2&&SL p.2
set_option maxHeartbeats 1000000 in
theorem BQ (l:List (Int×Tm))(hl:l.length≤9223372036854775807)(hw:∀ p∈l.take 10,VW p.2=true→ZB p.2):Zd Tryz.prog 54 [.sl 5 (Z1 l) none] (.v (.bool (SD l))):=by
 refine Z9 0 32 [ResultVar.tmp 2] Yn (by kernel_rfl) Tryz.func54 rfl Tryz.ntmps54 rfl (by simp) ?dwords ?dbody
 case dwords=>simp[ZF,D.ok,D.oks,ZQ,Yb]
 case dbody=>
  intro cx hnt hn0
  refine Zz ?_;refine Zx [] Yn hnt fun _ z9=>z9 _ _ ?_;refine Zz (Zz ?_);refine Zx [] Yn hnt fun _ z9=>z9 _ _ ?_;refine Zt ?_
  refine Z4 (ι:={ j:Nat // j≤10∧∀ i (h:i<l.length),i<j→(VW l[i].2&&SL l[i].2)=true }) (fun j=>[(.t 0,.sl 5 (Z1 l) none),(.t 3,.v (.int .i64 (j.1:Int)))]) 1 (fun j=>l.length-j.1) ⟨0,by decide,fun i h1 h2=>by omega⟩ VS.toA fun j=>?_
  obtain⟨j,hj10,hj⟩:=j
  dsimp only
  refine Zz (Zz ?_)
  have end_:¬ (j<l.length∧j<10)→SD l=true:=fun h=>by
   unfold SD
   rw[List.all_eq_true]
   intro p hp
   obtain⟨i,hi,rfl⟩:=List.getElem_of_mem hp
   rw[List.length_take] at hi
   have:=hj i (by omega) (by omega)
   simpa using this
  by_cases hlt:j<l.length
  ·by_cases h10:j<10
   ·have hjt:l[j]∈l.take 10:=by
     have:j<(l.take 10).length:=by rw[List.length_take];omega
     have h2:(l.take 10)[j]=l[j]:=by simp
     rw[←h2];exact List.getElem_mem this
    have hF:=RR [l[j].2] (by simp)
    have hq:(Z1 l).getD (j:Int).toNat []=[.v (.int .i64 l[j].1),.sl 2 (eTys l[j].2.binds) none,.v (.int .i64 l[j].2.kind),.v (.int .i64 l[j].2.index),.sl 4 (eTms l[j].2.args) none]:=by rw[Int.toNat_natCast,ZT l j hlt,ZK]
    have hb:(0:Int)≤(j:Int)∧(j:Int)<((Z1 l).length:Int):=⟨by omega,by rw[Zk];omega⟩
    have hs:∀ g,Zn (.sl 4 [[.sl 2 (eTys l[j].2.binds) none,.v (.int .i64 l[j].2.kind),.v (.int .i64 l[j].2.index),.sl 4 (eTms l[j].2.args) none]] g) (.sl 4 (eTms [l[j].2]) none):=fun g=>by
     rw[eTms,eTms,Zv];exact Zn.untag _ _ _
    refine Zx [(7,.v (.bool true)),(10,.v (.bool true))] Yn hnt fun K hK=>?_;refine And.intro (ZZ (by rw[Zk];omega)) ?_;refine And.intro (ZZ (by omega)) ?_;refine hK _ _ ?_;clear hK K;refine Zy (t:=true) rfl ?_;rw[if_pos rfl];refine Zw ?_;refine Zz (Zt (Zz ?_))
    cases hf:VW l[j].2 with
    | false=>
     have hn:SD l=false:=by
      unfold SD;rw[List.all_eq_false];exact⟨l[j],hjt,by rw[hf];simp⟩
     rw[hn]
     simp only[List.all_cons,List.all_nil,Bool.and_true,hf] at hF
     refine Zx [(16,.q [.v (.int .i64 l[j].1),.sl 2 (eTys l[j].2.binds) none,.v (.int .i64 l[j].2.kind),.v (.int .i64 l[j].2.index),.sl 4 (eTms l[j].2.args) none]),(19,.sl 4 (eTms [l[j].2]) none)] Yn hnt fun K hK=>?_;refine And.intro (hb) ?_;refine And.intro (Zn.of_eq (by rw[hq])) ?_;refine And.intro (hs _) ?_;refine Ze (hF) ?_;refine hK _ _ ?_;clear hK K;refine Zy (t:=true) rfl ?_
     rw[if_pos rfl];refine Zz ?_;refine Zx [] Yn hnt fun _ z9=>z9 _ _ ?_;refine Zu ?_
     exact Yq (N:=0) (.inr rfl) rfl (Zn.refl _) trivial
    | true=>
     have hL:=FU [l[j].2] (by simp) (fun t ht=>by simp at ht;subst ht;exact hw _ hjt hf)
     simp only[List.all_cons,List.all_nil,Bool.and_true,hf] at hF
     simp only[lowsB,Bool.and_true] at hL
     cases hlo:SL l[j].2 with
     | false=>
      have hn:SD l=false:=by
       unfold SD;rw[List.all_eq_false];exact⟨l[j],hjt,by rw[hlo];simp⟩
      rw[hn]
      rw[hlo] at hL
      refine Zx [(16,.q [.v (.int .i64 l[j].1),.sl 2 (eTys l[j].2.binds) none,.v (.int .i64 l[j].2.kind),.v (.int .i64 l[j].2.index),.sl 4 (eTms l[j].2.args) none]),(19,.sl 4 (eTms [l[j].2]) none),(25,.q [.v (.int .i64 l[j].1),.sl 2 (eTys l[j].2.binds) none,.v (.int .i64 l[j].2.kind),.v (.int .i64 l[j].2.index),.sl 4 (eTms l[j].2.args) none]),(28,.sl 4 (eTms [l[j].2]) none)] Yn hnt fun K hK=>?_
      refine And.intro (hb) ?_;refine And.intro (Zn.of_eq (by rw[hq])) ?_;refine And.intro (hs _) ?_;refine Ze (hF) ?_;refine And.intro (hb) ?_;refine And.intro (Zn.of_eq (by rw[hq])) ?_;refine And.intro (hs _) ?_;refine Ze (hL) ?_;refine hK _ _ ?_;clear hK K;refine Zy (t:=true) rfl ?_;rw[if_pos rfl];refine Zz ?_;refine Zx [] Yn hnt fun _ z9=>z9 _ _ ?_
      refine Zu ?_
      exact Yq (N:=0) (.inr rfl) rfl (Zn.refl _) trivial
     | true=>
      rw[hlo] at hL
      refine Zx [(16,.q [.v (.int .i64 l[j].1),.sl 2 (eTys l[j].2.binds) none,.v (.int .i64 l[j].2.kind),.v (.int .i64 l[j].2.index),.sl 4 (eTms l[j].2.args) none]),(19,.sl 4 (eTms [l[j].2]) none),(25,.q [.v (.int .i64 l[j].1),.sl 2 (eTys l[j].2.binds) none,.v (.int .i64 l[j].2.kind),.v (.int .i64 l[j].2.index),.sl 4 (eTms l[j].2.args) none]),(28,.sl 4 (eTms [l[j].2]) none)] Yn hnt fun K hK=>?_
      refine And.intro (hb) ?_;refine And.intro (Zn.of_eq (by rw[hq])) ?_;refine And.intro (hs _) ?_;refine Ze (hF) ?_;refine And.intro (hb) ?_;refine And.intro (Zn.of_eq (by rw[hq])) ?_;refine And.intro (hs _) ?_;refine Ze (hL) ?_;refine hK _ _ ?_;clear hK K;refine Zy (t:=false) rfl ?_;rw[if_neg (by simp)];refine Zw ?_;refine Zx [(13,.v (.int .i64 ((j+1:Nat):Int)))] Yn hnt fun K hK=>?_
      refine And.intro (Zq (by rw[IntWalk.i64_in _ (by omega)];omega)) ?_;refine hK _ _ ?_;clear hK K
      refine⟨⟨j+1,by omega,fun i h1 h2=>?_⟩,by dsimp only;omega,VS.toA⟩
      by_cases he:i=j
      ·subst he;rw[hf,hlo];rfl
      ·exact hj i h1 (by omega)
   ·rw[end_ (fun h=>h10 h.2)]
    refine Zx [(7,.v (.bool true)),(10,.v (.bool false))] Yn hnt fun K hK=>?_;refine And.intro (ZZ (by rw[Zk];omega)) ?_;refine And.intro (Zf (by omega)) ?_;refine hK _ _ ?_;clear hK K;refine Zy (t:=false) rfl ?_;rw[if_neg (by simp)];refine Zc ?_;refine Zz ?_;refine Zx [] Yn hnt fun _ z9=>z9 _ _ ?_;refine Zu ?_
    exact Yq (N:=0) (.inr rfl) rfl (Zn.refl _) trivial
  ·rw[end_ (fun h=>hlt h.1)]
   refine Zx [(7,.v (.bool false))] Yn hnt fun K hK=>?_;refine And.intro (Zf (by rw[Zk];omega)) ?_;refine hK _ _ ?_;clear hK K;refine Zy (t:=false) rfl ?_;rw[if_neg (by simp)];refine Zc ?_;refine Zz ?_;refine Zx [] Yn hnt fun _ z9=>z9 _ _ ?_;refine Zu ?_
   exact Yq (N:=0) (.inr rfl) rfl (Zn.refl _) trivial
def TSQ_110:TI:=⟨5,true,[Value.int IntKind.i64 0,Value.slice none 0 0,Value.int IntKind.i64 0,Value.int IntKind.i64 0,Value.slice none 0 0],[(0,1,false),(1,4,true)],none,72,6,none,false⟩
theorem O0:TypOk Tryz.prog 110 TSQ_110:=by constructor <;> kernel_rfl
def TSQ_3:TI:=⟨1,false,[Value.int IntKind.i64 0],[],none,8,2,none,false⟩
theorem EG:TypOk Tryz.prog 3 TSQ_3:=by constructor <;> kernel_rfl
def TSQ_71:TI:=⟨1,false,[Value.slice none 0 0],[],some 3,24,5,none,false⟩
theorem Io:TypOk Tryz.prog 71 TSQ_71:=by constructor <;> kernel_rfl
def TSQ_84:TI:=⟨1,false,[Value.slice none 0 0],[],some 110,24,5,none,false⟩
theorem Ip:TypOk Tryz.prog 84 TSQ_84:=by constructor <;> kernel_rfl
def TSQ:List (Nat×TI):=[(110,TSQ_110),(3,TSQ_3),(71,TSQ_71),(84,TSQ_84)]
theorem W4:Zh Tryz.prog TSQ:=(((((Zh.nil _).cons Ip).cons Io).cons EG).cons O0)
theorem Eb (l:List (Int×Tm))(hl:l.length≤900000):Zd Tryz.prog 139 [.sl 5 (Z1 l) none] (.sl 1 (Y4 (l.map (·.1))) none):=by
 refine Zm 0 19 [ResultVar.tmp 2] W4 Tryz.func139 rfl Tryz.ntmps139 rfl fun cx hnt hn0=>?_
 ·skip
  refine Zz ?_;refine Zx [] W4 hnt fun _ z9=>z9 _ _ ?_
  refine XW (τ:=[(.t 0,.sl 5 (Z1 l) none),(.t 3,.v (.slice none 0 0))]) (N1:=0) ?_ ?_
  ·skip
   refine Zx [] W4 hnt fun _ z9=>z9 _ _ ?_
   exact Ym (VS.toK (by omega) (by repeat first | exact trivial | refine And.intro (And.intro (by first | rfl | simp[D.ok,D.oks,D.okss,D.okm,YM,Xx,Y0]) (by first | exact Or.inl rfl | exact Or.inr ⟨_,rfl,(by repeat first | exact Zn.refl _ | exact Zn.nil _ | exact Zn.untag _ _ _ | refine Zn.ag ?_ | refine Zn.tu ?_ | refine ZS.cons ?_ ?_ | exact ZS.nil),trivial⟩ | simp[get,Key.eq,Y0])) ?_))
  ·refine DW.vs (VS.rowT (x:=3) (by rw[hnt];decide) 3 1 rfl) ?_
   refine Zz ?_;refine Zz ?_;refine Zx [(7,.v (.int .i64 (↑l.length)))] W4 hnt fun K hK=>?_;refine And.intro (Zq (by rw[Zk])) ?_;refine hK _ _ ?_;clear hK K;refine Zt ?_
   refine Z4 (ι:={ k:Nat // k≤l.length }) (fun k=>[(.t 3,.sl 1 (Y4 ((l.take k.1).map (·.1))) (some 0)),(.t 6,.sl 5 (Z1 l) none),(.t 7,.v (.int .i64 ↑l.length)),(.t 8,.v (.int .i64 ↑k.1)),(.r 0,.rw 3 1 k.1)]) 1 (fun k=>l.length-k.1) (⟨0,Nat.zero_le _⟩) ((VS.toK (by omega) (by repeat first | exact trivial | refine And.intro (And.intro (by first | rfl | simp[D.ok,D.oks,D.okss,D.okm,YM,Xx,Y0]) (by first | exact Or.inl rfl | exact Or.inr ⟨_,rfl,(by repeat first | exact Zn.refl _ | exact Zn.nil _ | exact Zn.untag _ _ _ | refine Zn.ag ?_ | refine Zn.tu ?_ | refine ZS.cons ?_ ?_ | exact ZS.nil),trivial⟩ | simp[get,Key.eq,Y0])) ?_))) fun k=>?_
   obtain⟨k,hk⟩:=k
   dsimp only
   by_cases hlt:k<l.length
   ·have htk:Y4 ((l.take k).map (·.1))++[[.v (.int .i64 l[k].1)]]=Y4 ((l.take (k+1)).map (·.1)):=by
     rw[List.take_add_one,List.getElem?_eq_getElem hlt,Option.toList_some,List.map_append,Wk];rfl
    have hle:(Y4 ((l.take k).map (·.1))).length=k:=by rw[Zi];simp;omega
    have hle2:(Y4 ((l.take (k+1)).map (·.1))).length=k+1:=by rw[Zi];simp;omega
    refine Zz ?_;refine Zx [(9,.v (.bool true))] W4 hnt fun K hK=>?_;refine And.intro YD ?_;refine hK _ _ ?_;clear hK K;refine Zz ?_;refine Zy (t:=true) rfl ?_;rw[if_pos rfl];refine Zw ?_;refine Zz ?_;refine Zt ?_;refine Zz ?_;refine Zx [(10,.q [.v (.int .i64 l[k].1),.sl 2 (eTys l[k].2.binds) none,.v (.int .i64 l[k].2.kind),.v (.int .i64 l[k].2.index),.sl 4 (eTms l[k].2.args) none])] W4 hnt fun K hK=>?_
    refine And.intro (Xg (Zk l)) ?_;refine And.intro (Xh (ZT l k) (ZK _)) ?_;refine hK _ _ ?_;clear hK K;refine Zx [] W4 hnt fun K hK=>?_;refine And.intro (⟨by omega,by rw[hle];simp;omega⟩) ?_;refine hK _ _ ?_;clear hK K
    rw[htk,hle2]
    refine Zx [(17,.v (.int .i64 (↑(k+1))))] W4 hnt fun K hK=>?_;refine And.intro XR ?_;refine hK _ _ ?_;clear hK K
    refine⟨⟨k+1,by omega⟩,by first | omega | (dsimp only;omega),VS.toA⟩
   ·rw[List.take_of_length_le (by omega)]
    refine Zz ?_;refine Zx [(9,.v (.bool false))] W4 hnt fun K hK=>?_;refine And.intro Xq ?_;refine hK _ _ ?_;clear hK K;refine Zz ?_;refine Zy (t:=false) rfl ?_;rw[if_neg (by simp)];refine Zc ?_;refine Zz ?_;refine Zx [] W4 hnt fun _ z9=>z9 _ _ ?_;refine Zu ?_
    exact Zj rfl
def Es (l:List (Int×Tm))(m:Int):Option (Int×Tm):=(YJ m l).bind fun i=>l[i]?
def SG (l:List (Int×Tm))(m:Int):Tm×Bool:=match Es l m with
 | some p=>(p.2,true)
 | none=>(.mk [] 0 0 [],false)
def TSR_31:TI:=⟨4,true,[Value.slice none 0 0,Value.int IntKind.i64 0,Value.int IntKind.i64 0,Value.slice none 0 0],[(0,1,false),(1,2,true),(3,1,false)],none,64,6,none,false⟩
theorem Iq:TypOk Tryz.prog 31 TSR_31:=by constructor <;> kernel_rfl
def TSR_3:TI:=⟨1,false,[Value.int IntKind.i64 0],[],none,8,2,none,false⟩
theorem EH:TypOk Tryz.prog 3 TSR_3:=by constructor <;> kernel_rfl
def TSR_72:TI:=⟨1,false,[Value.slice none 0 0],[],some 130,24,5,none,false⟩
theorem Ir:TypOk Tryz.prog 72 TSR_72:=by constructor <;> kernel_rfl
def TSR_130:TI:=⟨5,true,[Value.int IntKind.i64 0,Value.slice none 0 0,Value.int IntKind.i64 0,Value.int IntKind.i64 0,Value.slice none 0 0],[(0,1,false),(1,4,true)],none,72,6,none,false⟩
theorem Oa:TypOk Tryz.prog 130 TSR_130:=by constructor <;> kernel_rfl
def TSR:List (Nat×TI):=[(31,TSR_31),(3,TSR_3),(72,TSR_72),(130,TSR_130)]
theorem Wj:Zh Tryz.prog TSR:=(((((Zh.nil _).cons Oa).cons Ir).cons EH).cons Iq)
theorem Bs (l:List (Int×Tm))(hl:l.length≤900000)(m:Int):Zd Tryz.prog 115 [.sl 5 (Z1 l) none,.v (.int .i64 m)] (.tu [.ag (eTm (SG l m).1),.v (.bool (SG l m).2)]):=by
 refine Zm 0 26 [ResultVar.cell 4 31,ResultVar.tmp 5] Wj Tryz.func115 rfl Tryz.ntmps115 rfl fun cx hnt hn0=>?_
 ·skip
  refine Zz ?_;refine Zx [] Wj hnt fun _ z9=>z9 _ _ ?_;refine Zz ?_;refine Zz ?_;refine Zx [] Wj hnt fun _ z9=>z9 _ _ ?_;refine Zt ?_
  refine Z4 (ι:={ j:Nat // ∀ i (h:i<l.length),i<j→l[i].1≠m }) (fun j=>[(.t 0,.sl 5 (Z1 l) none),(.t 1,.v (.int .i64 m)),(.t 4,.p 0 0),(.t 6,.v (.int .i64 ↑j.1)),(.c 0 0,.v (.slice none 0 0)),(.c 0 1,.v (.int .i64 0)),(.c 0 2,.v (.int .i64 0)),(.c 0 3,.v (.slice none 0 0))]) 1 (fun j=>l.length-j.1) (⟨0,fun i h1 h2=>by omega⟩) ((VS.toK (by omega) (by repeat first | exact trivial | refine And.intro (And.intro (by first | rfl | simp[D.ok,D.oks,D.okss,D.okm,YM,Xx,Y0]) (by first | exact Or.inl rfl | exact Or.inr ⟨_,rfl,(by repeat first | exact Zn.refl _ | exact Zn.nil _ | exact Zn.untag _ _ _ | refine Zn.ag ?_ | refine Zn.tu ?_ | refine ZS.cons ?_ ?_ | exact ZS.nil),trivial⟩ | simp[get,Key.eq,Y0])) ?_))) fun j=>?_
  obtain⟨j,hj⟩:=j
  dsimp only
  by_cases hlt:j<l.length
  ·by_cases hm:l[j].1=m
   ·have hi:YJ m l=some j:=VJ hlt hm fun k hk=>hj k (by omega) hk
    have e:SG l m=(l[j].2,true):=by unfold SG Es;rw[hi,Option.bind_some,List.getElem?_eq_getElem hlt]
    rw[e,Zv]
    refine Zz ?_;refine Zz ?_;refine Zx [(9,.v (.int .i64 (↑l.length))),(10,.v (.bool true))] Wj hnt fun K hK=>?_;refine And.intro (Zq (by rw[Zk])) ?_;refine And.intro YD ?_;refine hK _ _ ?_;clear hK K;refine Zy (t:=true) rfl ?_;rw[if_pos rfl];refine Zw ?_;refine Zz ?_;refine Zt ?_;refine Zz ?_;refine Zx [(15,.q [.v (.int .i64 l[j].1),.sl 2 (eTys l[j].2.binds) none,.v (.int .i64 l[j].2.kind),.v (.int .i64 l[j].2.index),.sl 4 (eTms l[j].2.args) none]),(19,.v (.bool true))] Wj hnt fun K hK=>?_
    refine And.intro (Xg (Zk l)) ?_;refine And.intro (Xh (ZT l j) (ZK _)) ?_;refine And.intro (XU hm) ?_;refine hK _ _ ?_;clear hK K;refine Zy (t:=true) rfl ?_;rw[if_pos rfl];refine Zz ?_;refine Zx [(22,.q [.v (.int .i64 l[j].1),.sl 2 (eTys l[j].2.binds) none,.v (.int .i64 l[j].2.kind),.v (.int .i64 l[j].2.index),.sl 4 (eTms l[j].2.args) none])] Wj hnt fun K hK=>?_
    refine And.intro (Xg (Zk l)) ?_;refine And.intro (Xh (ZT l j) (ZK _)) ?_;refine hK _ _ ?_;clear hK K;refine Zu ?_
    exact Zj rfl
   ·have hj':∀ i (h:i<l.length),i<j+1→l[i].1≠m:=fun i h1 h2=>by
     rcases Nat.lt_or_ge i j with h | h
     ·exact hj i h1 h
     ·have:i=j:=by omega
      subst this;exact hm
    refine Zz ?_;refine Zz ?_;refine Zx [(9,.v (.int .i64 (↑l.length))),(10,.v (.bool true))] Wj hnt fun K hK=>?_;refine And.intro (Zq (by rw[Zk])) ?_;refine And.intro YD ?_;refine hK _ _ ?_;clear hK K;refine Zy (t:=true) rfl ?_;rw[if_pos rfl];refine Zw ?_;refine Zz ?_;refine Zt ?_;refine Zz ?_;refine Zx [(15,.q [.v (.int .i64 l[j].1),.sl 2 (eTys l[j].2.binds) none,.v (.int .i64 l[j].2.kind),.v (.int .i64 l[j].2.index),.sl 4 (eTms l[j].2.args) none]),(19,.v (.bool false))] Wj hnt fun K hK=>?_
    refine And.intro (Xg (Zk l)) ?_;refine And.intro (Xh (ZT l j) (ZK _)) ?_;refine And.intro (XT hm) ?_;refine hK _ _ ?_;clear hK K;refine Zy (t:=false) rfl ?_;rw[if_neg (by simp)];refine Zw ?_;refine Zx [(12,.v (.int .i64 (↑(j+1))))] Wj hnt fun K hK=>?_;refine And.intro XR ?_;refine hK _ _ ?_;clear hK K
    refine⟨⟨j+1,hj'⟩,by first | omega | (dsimp only;omega),VS.toA⟩
  ·have hi:YJ m l=none:=VI fun k hk=>hj k hk (by omega)
   have e:SG l m=(.mk [] 0 0 [],false):=by unfold SG Es;rw[hi];rfl
   rw[e,Zv]
   dsimp only[Tm.binds,Tm.kind,Tm.index,Tm.args,eTys,eTms]
   refine Zz ?_;refine Zz ?_;refine Zx [(9,.v (.int .i64 (↑l.length))),(10,.v (.bool false))] Wj hnt fun K hK=>?_;refine And.intro (Zq (by rw[Zk])) ?_;refine And.intro Xq ?_;refine hK _ _ ?_;clear hK K;refine Zy (t:=false) rfl ?_;rw[if_neg (by simp)];refine Zc ?_;refine Zz ?_;refine Zx [] Wj hnt fun _ z9=>z9 _ _ ?_
   refine Zu ?_
   exact Zj rfl
/-! the example -/
namespace Li
def kA:Ty:=.mk [] 0
def kB:Tm:=.mk [] 0 0 []
def kP:Pr:=⟨.mk [kA] 1 0 [.mk [] 2 0 [kB]],.mk [kA] 2 0 [kB],[.mk [kA] 0]⟩
end Li
/-! the law -/
theorem VP {l:List Ty}{n:Nat}(h:∀ t∈l,t.size≤n):Ty.sizes l≤l.length * n:=by
 induction l with
 | nil=>simp[Ty.sizes]
 | cons t l ih=>
  have h1:=h t (by simp)
  have h2:=ih fun u hu=>h u (by simp[hu])
  rw[Ty.sizes,List.length_cons,Nat.add_mul];omega
namespace Li
end Li
namespace Pn
end Pn
def Vf (out S:List Int):Prop:=out.Pairwise (· < ·)∧(∀ y,y∈out↔y∈S)∧out.length≤S.length
theorem Jq:Vf [] []:=⟨.nil,by simp,by simp⟩
theorem Vf.skip {out S:List Int}{x:Int}(h:Vf out S)(hx:x∈out):Vf out (S++[x]):=
 ⟨h.1,fun y=>by
  rw[h.2.1,List.mem_append]
  constructor
  ·exact .inl
  ·rintro(h' | h')
   ·exact h'
   ·simp at h';subst h';exact(h.2.1 _).1 hx,by have:=h.2.2;simp;omega⟩
theorem Vf.put {out S:List Int}{x:Int}{a:Nat}(h:Vf out S)(ha:a≤out.length)(hlt:∀ k (hk:k<a),out[k]<x)(hge:∀ h':a<out.length,¬ out[a]<x∧out[a]≠x):Vf (out.take a++[x]++out.drop a) (S++[x]):=by
 have h1:=List.pairwise_iff_getElem.1 h.1
 have hT:∀ y∈out.take a,y<x:=fun y hy=>by
  obtain⟨k,hk,e⟩:=List.getElem_of_mem hy
  have hk':k<a:=by simp at hk;omega
  rw[←e,List.getElem_take];exact hlt k hk'
 have hD:∀ y∈out.drop a,x<y:=fun y hy=>by
  obtain⟨k,hk,e⟩:=List.getElem_of_mem hy
  have hk':a+k<out.length:=by simp at hk;omega
  rw[←e,List.getElem_drop]
  have h2:=hge (by omega)
  by_cases hk0:k=0
  ·subst hk0;simp only[Nat.add_zero];omega
  ·have:=h1 a (a+k) (by omega) hk' (by omega);omega
 refine⟨?_,fun y=>?_,?_⟩
 ·have hp:(out.take a++out.drop a).Pairwise (· < ·):=by rw[List.take_append_drop];exact h.1
  rw[List.pairwise_append] at hp
  rw[List.append_assoc,List.pairwise_append,List.singleton_append,List.pairwise_cons]
  refine⟨hp.1,⟨hD,hp.2.1⟩,fun y hy z hz=>?_⟩
  rcases List.mem_cons.1 hz with rfl | hz
  ·exact hT y hy
  ·exact hp.2.2 y hy z hz
 ·rw[List.mem_append,List.mem_append,List.mem_append,←h.2.1]
  have:y∈out↔y∈out.take a∨y∈out.drop a:=by rw[←List.mem_append,List.take_append_drop]
  rw[this]
  constructor
  ·rintro((h' | h') | h')
   ·exact .inl (.inl h')
   ·exact .inr h'
   ·exact .inl (.inr h')
  ·rintro((h' | h') | h')
   ·exact .inl (.inl h')
   ·exact .inr h'
   ·exact .inl (.inr h')
 ·have:=h.2.2;simp;omega
theorem Vf.eq {out S:List Int}(h:Vf out S):out=X3 S:=Tl h.1 (YC S).1 fun x=>by rw[h.2.1,(YC S).2]
theorem RT (l:List (Int×Int))(j:Nat)(h:j<l.length):XE (l.take (j+1))=XE (l.take j)++if l[j].1=2 then [l[j].2] else []:=by
 rw[List.take_succ_eq_append_getElem h]
 unfold XE
 rw[List.filterMap_append]
 congr 1
 by_cases hk:l[j].1=2
 ·simp[hk]
 ·simp[hk]
def XX (l:List Tm):List Int:=l.flatMap fun t=>XE (t.heads 0)
theorem RV (l:List Tm)(j:Nat)(h:j<l.length):XX (l.take (j+1))=XX (l.take j)++XE (l[j].heads 0):=by
 rw[List.take_succ_eq_append_getElem h];unfold XX;rw[List.flatMap_append];simp
theorem Tf (l:List Tm)(m:Nat)(h:∀ t∈l,t.full≤m):(XX l).length≤l.length * m:=by
 induction l with
 | nil=>simp[XX]
 | cons t l ih=>
  have h1:=h t (by simp)
  have h2:=ih (fun u hu=>h u (by simp[hu]))
  have h3:(XX (t :: l)).length=(XE (t.heads 0)).length+(XX l).length:=by simp[XX]
  have h4:(XE (t.heads 0)).length≤(t.heads 0).length:=List.length_filterMap_le _ _
  have h5:=Tm.heads_len t 0
  rw[h3,List.length_cons,Nat.succ_mul];omega
end Go.Proofs.YtclihnccilkohaaGreat
