/-
  slices.Sort and slices.Compact of ints of the call's own; what they hand back rises. A function that has run loops over functions leaves with a mark for each; rows of ints that grow within such rounds. term.Metas. Package lift, walked in the deep way: may, done, Over, Closed, Subst; spot.Close. Package match, walked in the deep way: put. Package match, walked in the deep way: walk, may. Deep values: regions with steps through a map. Package match, walked in the deep way: what was found as a substitution; several at once. The known answer of the laws of layer 12. Lists of pairs, there and back. Lists of pairs in the laws of layer 9: To, Few. Package subst's lists, walked in the deep way: Clone, Without, Set, Domain, Get. Package subst's lists, walked in the deep way: Set, Domain, Get, Equal; terms that are the same. Package subst's lists, walked in the deep way: Get, Equal. The document's lists of pairs, walked in the deep way: Sorted, Get, Without, Domain, Same. LiftSubsts, walked in the deep way. How large long forms are, and that their indexes fit. How large lifted terms are, and that their indexes fit. The document's Take, walked in the deep way; what is wrong with a pattern. The document's Like. The document's Metas. The document's Metas, walked in the deep way. Which of two types is less: by size, by how many arguments, argument by argument, by base; and what that order promises. Which of two terms is less: the plain law. sign, cmp.Compare and cmp.Or of ints. The document's order of types. The document's order of terms. A context with more binders: the program's and the document's. term.is: whether a term is of a type. The document's Is: whether a term is of a type. The document's Depth, Right, Check; term.Check. The document's answer of layer 22: lifted, Over, Closed. What the members of a gathering yield: a list of standard shapes. term.HeadType, term.TypeOf. The document's TypeOf. Whether a world may be: the program's RightWorld and the document's. The laws' worlds: World, Small; the document's RightWorld. The contracts of heads and types once more, where all of memory may be read. Checks of substitutions: what is called, as deep contracts. term's TypeOf and Check, walked in the deep way. What rule.Typed and the document's Typed call, as deep contracts. Typed and Check: rule's and the document's.
-/
import Derived.Test.YtflbnonbfmmchaaGreatRowRuleKeepsp1
import Derived.Test.YtflbnonbfmmchaaGreatRowRuleKeepsp7
import Derived.Lib.OwnBridge
import Derived.Sort.OwnSortedInts
import Derived.Test.YtflbnonbfmmchaaGreatRowRuleKeepsp5
import Derived.RangeFuncBox
import Derived.Test.YtflbnonbfmmchaaGreatRowRuleKeepsp6
import Derived.Test.YtflbnonbfmmchaaGreatRowRuleKeepsp4
import Derived.Maps.RangeRun
set_option maxRecDepth 100000
set_option maxHeartbeats 1000000
set_option linter.unusedVariables false
set_option linter.unusedSimpArgs false
namespace Go.Proofs.YtflbnonbfmmchaaGreat
open Go.RowKit

def sortU (zs : List Int) : List Int := Lib.compact (zs.mergeSort fun x y => decide (x ≤ y))

theorem keeps_zero (d : Array Int) : Lib.keeps d 0 = true := by simp [Lib.keeps]
theorem upTo_rises (d : Array Int) : ∀ m, m ≤ d.size → (∀ i j, i ≤ j → j < d.size → d[i]! ≤ d[j]!) → (Lib.compactUpTo d m).Pairwise (· < ·) ∧ (∀ x ∈ Lib.compactUpTo d m, ∃ j, j < m ∧ d[j]! = x) ∧ (∀ j, j < m → d[j]! ∈ Lib.compactUpTo d m) := by
  intro m
  induction m with
  | zero => intro _ _; simp [Lib.compactUpTo]
  | succ m ih =>
    intro hm hs
    obtain ⟨h1, h2, h3⟩ := ih (by omega) hs
    rw [Lib.compactUpTo_succ]
    by_cases hk : Lib.keeps d m = true
    · rw [if_pos hk]
      refine ⟨?_, ?_, ?_⟩
      · rw [List.pairwise_append]
        refine ⟨h1, by simp, fun a ha b hb => ?_⟩
        obtain ⟨j, hj, rfl⟩ := h2 a ha
        simp at hb; subst hb
        have hle := hs j (m - 1) (by omega) (by omega)
        have hle2 := hs (m - 1) m (by omega) (by omega)
        have hne : d[m - 1]! ≠ d[m]! := by
          cases m with
          | zero => omega
          | succ k =>
            have : d[k + 1]! ≠ d[k]! := by simpa [Lib.keeps] using hk
            exact fun e => this e.symm
        omega
      · intro x hx
        rcases List.mem_append.1 hx with hx | hx
        · obtain ⟨j, hj, e⟩ := h2 x hx; exact ⟨j, by omega, e⟩
        · simp at hx; exact ⟨m, by omega, hx.symm⟩
      · intro j hj
        rw [List.mem_append]
        by_cases hjm : j = m
        · subst hjm; right; simp
        · left; exact h3 j (by omega)
    · rw [if_neg hk, List.append_nil]
      refine ⟨h1, fun x hx => by obtain ⟨j, hj, e⟩ := h2 x hx; exact ⟨j, by omega, e⟩, fun j hj => ?_⟩
      by_cases hjm : j = m
      · subst hjm
        cases j with
        | zero => exact absurd (keeps_zero d) hk
        | succ k =>
          have : d[k + 1]! = d[k]! := by simpa [Lib.keeps] using hk
          rw [this]; exact h3 k (by omega)
      · exact h3 j (by omega)

theorem sortU_spec (zs : List Int) : (sortU zs).Pairwise (· < ·) ∧ ∀ x, x ∈ sortU zs ↔ x ∈ zs := by
  obtain ⟨ss, hss⟩ : ∃ ss, (zs.mergeSort fun x y => decide (x ≤ y)) = ss := ⟨_, rfl⟩
  have hp : ss.Perm zs := by rw [← hss]; exact List.mergeSort_perm _ _
  have hs : ss.Pairwise (fun x y => x ≤ y) := by
    have := List.pairwise_mergeSort (le := fun x y : Int => decide (x ≤ y)) (fun a b c h1 h2 => by simp at *; omega) (fun a b => by simp; omega) zs
    rw [hss] at this
    simpa using this
  have hs' : ∀ i j, i ≤ j → j < ss.toArray.size → ss.toArray[i]! ≤ ss.toArray[j]! := by
    intro i j hij hj
    have hj' : j < ss.length := by simpa using hj
    have hi' : i < ss.length := by omega
    simp only [List.getElem!_toArray, getElem!_pos ss i hi', getElem!_pos ss j hj']
    by_cases e : i = j
    · subst e; exact Int.le_refl _
    · exact List.pairwise_iff_getElem.1 hs i j hi' hj' (by omega)
  obtain ⟨h1, h2, h3⟩ := upTo_rises ss.toArray ss.length (by simp) hs'
  unfold sortU
  rw [hss]
  refine ⟨h1, fun x => ?_⟩
  rw [← hp.mem_iff]
  constructor
  · intro hx
    obtain ⟨j, hj, e⟩ := h2 x hx
    rw [← e]
    simp only [List.getElem!_toArray, getElem!_pos ss j hj]
    exact List.getElem_mem hj
  · intro hx
    obtain ⟨j, hj, e⟩ := List.getElem_of_mem hx
    have := h3 j hj
    simp only [List.getElem!_toArray, getElem!_pos ss j hj, e] at this
    exact this
theorem sort_own {base : Nat} {w : World} {v : Value} {zs : List Int} (h : w.ownsRow base 3 1 v zs.length (zs.map (Value.int .i64))) (hl : zs.length ≤ 1000000) :
    Calls Tryz.prog 89 #[v] w fun e w' => e = .returned (.tuple #[]) ∧ w'.ownsRow base 3 1 v zs.length ((zs.mergeSort fun x y => decide (x ≤ y)).map (Value.int .i64)) ∧ w.grownBy w' v.ownBlock := by
  by_cases hv : v = .slice none 0 0
  · subst hv
    have h0 : zs = [] := by
      rcases h.2 with ⟨_, e⟩ | ⟨_, _, _, e, _⟩
      · exact List.eq_nil_of_length_eq_zero e
      · cases e
    subst h0
    refine (Tryz.slices_Sort_int_none none 0 w).mono ?_
    rintro e w' ⟨rfl, rfl⟩
    exact ⟨rfl, by simpa using h, ⟨rfl, rfl, rfl, Nat.le_refl _, fun _ _ _ => rfl⟩⟩
  · obtain ⟨g, cap, rfl, hb, hlt, hn, hm, _, hH⟩ := Lib.holds_of_ownsRow h hv
    refine (Tryz.slices_Sort_int g 0 cap zs w hH hlt (by omega)).mono ?_
    rintro e w' ⟨rfl, n, os, rfl⟩
    refine ⟨rfl, ?_, grownBy_sortedI _⟩
    rcases h.2 with ⟨e, _⟩ | ⟨g', cap', cur, e, _, hg, _, _, hc, _⟩
    · cases e
    · cases e
      exact ownsRow_sortedI (ss := zs) (by simp) hb hg hn hm hc

theorem compact_own {base : Nat} {w : World} {v : Value} {zs : List Int} (h : w.ownsRow base 3 1 v zs.length (zs.map (Value.int .i64))) (hl : zs.length ≤ 1000000) :
    Calls Tryz.prog 90 #[v] w fun e w' => ∃ v', e = .returned v' ∧ w'.ownsRow base 3 1 v' (Lib.compact zs).length ((Lib.compact zs).map (Value.int .i64)) ∧ w.grownBy w' v.ownBlock := by
  by_cases hv : v = .slice none 0 0
  · subst hv
    have h0 : zs = [] := by
      rcases h.2 with ⟨_, e⟩ | ⟨_, _, _, e, _⟩
      · exact List.eq_nil_of_length_eq_zero e
      · cases e
    subst h0
    refine (Tryz.slices_Compact_int_empty none 0 w).mono ?_
    rintro e w' ⟨rfl, rfl⟩
    exact ⟨_, rfl, h, ⟨rfl, rfl, rfl, Nat.le_refl _, fun _ _ _ => rfl⟩⟩
  · obtain ⟨g, cap, rfl, hb, hlt, hn, hm, _, hH⟩ := Lib.holds_of_ownsRow h hv
    refine (Tryz.slices_Compact_int g 0 cap zs w hH (by omega) hn).mono ?_
    rintro e w' ⟨rfl, q, rfl⟩
    have hcl := Lib.compact_length_le zs
    refine ⟨_, rfl, ?_, ?_⟩
    · have := Lib.ownsRow_putRow (q := q) (k := (Lib.compact zs).length) (ys := Lib.compact zs ++ List.replicate (zs.length - (Lib.compact zs).length) 0) h (by simp; omega) hcl
      simpa using this
    · have := grownBy_sortedI (w := w) (g := g) (n := q) (os := #[]) (Lib.compact zs ++ List.replicate (zs.length - (Lib.compact zs).length) 0).toArray
      simpa [Value.ownBlock] using this

theorem own_ints {base : Nat} {w : World} {v : Value} {l : List Int} (h : w.ownsRow base 3 1 v l.length (l.map (Value.int .i64))) : ∃ a c, v = .slice a l.length c ∧ IsSl rpInt (fun q => base ≤ q) w v l := by
  have hA : Acc rpInt 3 base (fun _ => False) w v l := by
    refine ⟨l.map (fun z => [.int .i64 z]), by simp, ?_, fun i hi => ⟨[.int .i64 l[i]], by simp [List.getElem?_eq_getElem hi], rfl⟩⟩
    have : (l.map (fun z => [Value.int .i64 z])).flatten = l.map (Value.int .i64) := by
      clear h
      induction l with
      | nil => rfl
      | cons a l ih => simp only [List.map_cons, List.flatten_cons, ih]; rfl
    rw [this]; exact h
  obtain ⟨a, c, hv⟩ := hA.len_shape
  exact ⟨a, c, hv, hA.sl (fun _ _ h => h.elim) (fun _ h => h)⟩
end Go.Proofs.YtflbnonbfmmchaaGreat

namespace Go.Proofs.YtflbnonbfmmchaaGreat
open Go.RowKit

theorem leaves_marks {F : Fence} {n : Nat} {P : Program} {fn : Func} {tmps : Array Value} {R : Ending → World → Prop} (B : Nat) : ∀ (Ds : List Nat) (w : World), Ds.Nodup → B ≤ w.heap.size → (∀ D ∈ Ds, B ≤ D ∧ w.heap[D]? = some (.deferred (some []))) →
    (∀ w', Keep (fun _ => True) w w' → Below B w w' → LeavesIn F n P fn tmps R [] .returning w') → LeavesInM F n P fn tmps R (Ds.map fun D => { target := .collected D, args := #[] }) .returning w
  | [], w, _, _, _, hk => hk w (Keep.refl _ _) (Below.refl _ _)
  | D :: Ds, w, hd, hB, hD, hk => by
    rw [List.nodup_cons] at hd
    have h1 := hD D (by simp)
    have hlt : D < w.heap.size := (Array.getElem?_eq_some_iff.1 h1.2).1
    refine ⟨by simp, .inl ⟨D, _, rfl, run_takeDeferred h1.2, ?_⟩⟩
    have hbel : Below B w (w.putObj D (.deferred none)) := (Below.refl _ _).grown (grownBy_putObj' w D (.deferred none)) hB (fun r e => by cases e; exact h1.1)
    have hkp : Keep (fun _ => True) w (w.putObj D (.deferred none)) := fun o v k _ hv => cell_kept hv (grownBy_putObj' _ D (.deferred none)) (fun r e => by cases e; exact ⟨_, h1.2, rfl⟩)
    refine leaves_marks B Ds _ hd.2 (by simpa using hB) (fun D' hD' => ⟨(hD D' (by simp [hD'])).1, ?_⟩) fun w' hk' hb' => hk w' (hkp.trans hk') (hbel.trans hb')
    have hne : D' ≠ D := fun e => hd.1 (e ▸ hD')
    exact (World.putObj_heap_other hne).trans (hD D' (by simp [hD'])).2

theorem keepsOthers_grown {W W' : World} {row : Option Nat} (hg : W.grownBy W' row) (hr : ∀ r, row = some r → ∃ o : Obj, W.heap[r]? = some o ∧ o.isCells = true) : KeepsOthers W W' :=
  ⟨hg.size, fun k o ho hc => (hg.block k (Array.getElem?_eq_some_iff.1 ho).1 (fun e => by
    obtain ⟨o', ho', hc'⟩ := hr k e.symm
    rw [ho] at ho'; cases ho'; rw [hc] at hc'; cases hc')).trans ho⟩

theorem own_row {w : World} {base : Nat} {e : TypeId} {size : Nat} {v : Value} {n : Nat} {xs : List Value} (h : w.ownsRow base e size v n xs) : ∀ r, v.ownBlock = some r → base ≤ r ∧ ∃ cs, w.heap[r]? = some (.cells cs e (0, 0)) := by
  intro r hr
  rcases h.2 with ⟨rfl, _⟩ | ⟨g, cap, cur, rfl, hb, hg, _⟩
  · cases hr
  · cases hr; exact ⟨hb, _, hg⟩
theorem own_kept {w w' : World} {base : Nat} {e : TypeId} {size : Nat} {v : Value} {n : Nat} {xs : List Value} {row : Option Nat} (h : w.ownsRow base e size v n xs) (hg : w.grownBy w' row)
    (hr : ∀ r, row = some r → ∃ o : Obj, w.heap[r]? = some o ∧ ∀ cs, o ≠ .cells cs e (0, 0)) : w'.ownsRow base e size v n xs := by
  refine h.kept hg ?_
  cases hv : v.ownBlock with
  | none => exact .inl rfl
  | some g =>
    refine .inr fun e' => ?_
    obtain ⟨_, cs, hc⟩ := own_row h g hv
    obtain ⟨o, ho, hne⟩ := hr g e'.symm
    rw [hc] at ho; cases ho; exact hne cs rfl

structure OutAt (w : World) (Ds : List Nat) (vv : Value) (zs : List Int) (W : World) : Prop where
  box : Blk W w.heap.size #[vv] 59
  own : W.ownsRow (w.heap.size + 1) 3 1 vv zs.length (zs.map (Value.int .i64))
  nod : Ds.Nodup
  marks : ∀ D ∈ Ds, w.heap.size + 1 ≤ D ∧ W.heap[D]? = some (.deferred (some []))
  below : Below w.heap.size w W
def OutG (B k : Nat) (t : TypeId) : Prop := k < B ∨ (B < k ∧ t ≠ 3)
namespace OutAt
variable {w W W' : World} {Ds : List Nat} {vv : Value} {zs : List Int}
theorem lt (h : OutAt w Ds vv zs W) : ∀ D ∈ Ds, D < W.heap.size := fun D hD => (Array.getElem?_eq_some_iff.1 (h.marks D hD).2).1
theorem blw (h : OutAt w Ds vv zs W) (hb : Below W.heap.size W W') : OutAt w Ds vv zs W' :=
  ⟨h.box.below hb, ownsRow_below h.own hb, h.nod, fun D hD => ⟨(h.marks D hD).1, (hb.block D (h.lt D hD)).trans (h.marks D hD).2⟩, h.below.trans (hb.mono h.below.size)⟩
theorem alloc (h : OutAt w Ds vv zs W) (o : Obj) : OutAt w Ds vv zs (W.alloc o) := h.blw ((Below.refl _ _).alloc (Nat.le_refl _) _)
theorem grown {B : Nat} {row : Option Nat} (h : OutAt w Ds vv zs W) (hlt : ∀ D ∈ Ds, D < B) (hwB : w.heap.size < B) (hg : W.grownBy W' row)
    (hr : ∀ r, row = some r → B ≤ r ∧ ∃ o : Obj, W.heap[r]? = some o ∧ ∀ cs, o ≠ .cells cs 3 (0, 0)) : OutAt w Ds vv zs W' :=
  ⟨h.box.grown hg (fun e => by have := (hr _ e).1; omega), own_kept h.own hg (fun r e => (hr r e).2), h.nod,
    fun D hD => ⟨(h.marks D hD).1, (hg.block D (h.lt D hD) (fun e => by have := (hr _ e.symm).1; have := hlt D hD; omega)).trans (h.marks D hD).2⟩,
    h.below.grown hg h.below.size (fun r e => by have := (hr r e).1; omega)⟩
theorem mark (h : OutAt w Ds vv zs W) {D : Nat} (hD : W.heap[D]? = some (.deferred (some []))) (hn : ∀ D' ∈ Ds, D' < D) (hw : w.heap.size + 1 ≤ D) : OutAt w (D :: Ds) vv zs W :=
  ⟨h.box, h.own, List.nodup_cons.2 ⟨fun hm => by have := hn D hm; omega, h.nod⟩, fun D' h' => by
    rcases List.mem_cons.1 h' with rfl | h'
    · exact ⟨hw, hD⟩
    · exact h.marks D' h', h.below⟩
theorem push (h : OutAt w Ds vv zs W) (x : Int) {w3 : World} {v' : Value} (hg : (W.alloc (.cells #[.int .i64 x] 3)).grownBy w3 vv.ownBlock)
    (hown : w3.ownsRow (w.heap.size + 1) 3 1 v' (zs.length + 1) (zs.map (Value.int .i64) ++ [.int .i64 x])) :
    OutAt w Ds v' (zs ++ [x]) (w3.setCell ⟨w.heap.size, 0, none⟩ v') ∧ KeepsOthers W (w3.setCell ⟨w.heap.size, 0, none⟩ v') ∧ KeepC (OutG w.heap.size) W (w3.setCell ⟨w.heap.size, 0, none⟩ v') := by
  have ho1 := h.own.alloc (.cells #[.int .i64 x] 3)
  have h1 := h.alloc (.cells #[.int .i64 x] 3)
  have hrow := own_row ho1
  have hk3 : KeepsOthers (W.alloc (.cells #[.int .i64 x] 3)) w3 := keepsOthers_grown hg (fun r e => by
    obtain ⟨_, cs, hc⟩ := hrow r e; exact ⟨_, hc, rfl⟩)
  have hbox3 : Blk w3 w.heap.size #[vv] 59 := h1.box.grown hg (fun e => by have := (hrow _ e).1; omega)
  have hbel3 : Below w.heap.size w w3 := h1.below.grown hg h1.below.size (fun r e => by have := (hrow r e).1; omega)
  have hkc : KeepC (OutG w.heap.size) (W.alloc (.cells #[.int .i64 x] 3)) w3 := ⟨hg.size, fun k cs t fr hk hc => (hg.block k (Array.getElem?_eq_some_iff.1 hc).1 (fun e => by
    obtain ⟨hle, cs', hc'⟩ := hrow k e.symm
    rw [hc] at hc'; cases hc'
    rcases hk with hk | hk
    · omega
    · exact hk.2 rfl)).trans hc⟩
  refine ⟨⟨hbox3.set 0 _, ?_, h.nod, fun D hD => ⟨(h1.marks D hD).1, ?_⟩, hbel3.setCell (by simp) _⟩, (((KeepsOthers.alloc W _).trans hk3).trans (KeepsOthers.setCell _ _ _)), ?_⟩
  · have := ownsRow_setCell_below hown (a := ⟨w.heap.size, 0, none⟩) (by simp) v'
    simpa using this
  · exact (KeepsOthers.setCell w3 _ v').same D _ (hk3.same D _ (h1.marks D hD).2 rfl) rfl
  · exact (((KeepC.refl _ W).alloc _).trans hkc).setCell _ _ (fun t ht => by rcases ht with h | h <;> simp at h)
theorem push_box (h : OutAt w Ds vv zs W) {x : Int} {w3 : World} (hg : (W.alloc (.cells #[.int .i64 x] 3)).grownBy w3 vv.ownBlock) : Blk w3 w.heap.size #[vv] 59 :=
  (h.alloc (.cells #[.int .i64 x] 3)).box.grown hg (fun e => by have := (own_row (h.own.alloc (.cells #[.int .i64 x] 3)) _ e).1; omega)
theorem turned (h : OutAt w Ds vv zs W) {ys : List Int} {W' : World} (hg : W.grownBy W' vv.ownBlock) {v' : Value} (hown : W'.ownsRow (w.heap.size + 1) 3 1 v' ys.length (ys.map (Value.int .i64))) :
    (Blk W' w.heap.size #[vv] 59 ∧ ∀ D ∈ Ds, w.heap.size + 1 ≤ D ∧ W'.heap[D]? = some (.deferred (some []))) ∧ Below w.heap.size w W' := by
  have hrow := own_row h.own
  refine ⟨⟨h.box.grown hg (fun e => by have := (hrow _ e).1; omega), fun D hD => ⟨(h.marks D hD).1, ?_⟩⟩, h.below.grown hg h.below.size (fun r e => by have := (hrow r e).1; omega)⟩
  refine (hg.block D (h.lt D hD) (fun e => ?_)).trans (h.marks D hD).2
  obtain ⟨_, cs, hc⟩ := hrow D e.symm
  rw [(h.marks D hD).2] at hc; cases hc
theorem sorted (h : OutAt w Ds vv zs W) {ys : List Int} {W' : World} (hg : W.grownBy W' vv.ownBlock) (hown : W'.ownsRow (w.heap.size + 1) 3 1 vv ys.length (ys.map (Value.int .i64))) : OutAt w Ds vv ys W' :=
  let q := h.turned hg hown
  ⟨q.1.1, hown, h.nod, q.1.2, q.2⟩
theorem leave (h : OutAt w Ds vv zs W) {ys : List Int} {W' : World} (hg : W.grownBy W' vv.ownBlock) {v' : Value} (hown : W'.ownsRow (w.heap.size + 1) 3 1 v' ys.length (ys.map (Value.int .i64)))
    {F : Fence} {n : Nat} {P : Program} {fn : Func} {tmps : Array Value} (hr : ∀ w3 : World, (results fn tmps).run P w3 = .ok v' w3) :
    LeavesInM F n P fn tmps (FreshInts ys w) (Ds.map fun D => { target := .collected D, args := #[] }) .returning W' := by
  obtain ⟨⟨hb, hm⟩, hbel⟩ := h.turned hg hown
  refine leaves_marks (w.heap.size + 1) Ds W' h.nod (by have := hb.lt; omega) hm (fun w3 hk hb3 => ?_)
  obtain ⟨a, c, hv, hs⟩ := own_ints hown
  subst hv
  exact ⟨_, hr w3, a, c, rfl, (hs.keep (fun k o u _ hu => hk k o u trivial hu)).weaken (by decide) (fun q _ hq => by omega), hbel.trans (hb3.mono (by omega))⟩
end OutAt
end Go.Proofs.YtflbnonbfmmchaaGreat

namespace Go.Proofs.YtflbnonbfmmchaaGreat
open Go.RowKit Go.Shelf
attribute [local go_sem] Oper.semAt_some

theorem tms_cells {F : Nat → Prop} {w : World} {v : Value} {l : List Tm} (h : IsSl rpTm F w v l) : ∃ a c, v = .slice a l.length c ∧ (l.length ≤ maxLen ∧ l.length ≤ c) ∧ ∃ (bl off : Nat),
    (0 < l.length → a = some ⟨bl, off, none⟩ ∧ F bl) ∧ ∀ j (hj : j < l.length), ∃ b k i s, w.cell? ⟨bl, off + j * 4, none⟩ = some b ∧ w.cell? ⟨bl, off + j * 4 + 1, none⟩ = some k ∧ w.cell? ⟨bl, off + j * 4 + 2, none⟩ = some i ∧ w.cell? ⟨bl, off + j * 4 + 3, none⟩ = some s ∧ IsTm F w b k i s l[j] := by
  obtain ⟨a, c, bl, off, X, hv, hm, ha, h1, h2⟩ := h
  refine ⟨a, c, hv, hm, bl, off, ha, fun j hj => ?_⟩
  obtain ⟨b, k, i, s, hx, ht⟩ := h2 j hj
  exact ⟨b, k, i, s, h1 j 0 b hj (by rw [hx]; rfl), h1 j 1 k hj (by rw [hx]; rfl), h1 j 2 i hj (by rw [hx]; rfl), h1 j 3 s hj (by rw [hx]; rfl), ht⟩

def metasP (l : List (Nat × Nat × Tm)) : List Int := l.filterMap fun p => if p.2.2.kind = 2 then some p.2.2.index else none
def metasL (l : List Tm) : List Int := l.flatMap fun t => metasP (t.pre 0 1)
theorem metasL_take (l : List Tm) (j : Nat) (h : j < l.length) : metasL (l.take (j + 1)) = metasL (l.take j) ++ metasP (l[j].pre 0 1) := by
  rw [List.take_succ_eq_append_getElem h]; unfold metasL; rw [List.flatMap_append]; simp
theorem metasL_len (l : List Tm) (m : Nat) (h : ∀ t ∈ l, t.full ≤ m) : (metasL l).length ≤ l.length * m := by
  induction l with
  | nil => simp [metasL]
  | cons t l ih =>
    have h1 := h t (by simp)
    have h2 := ih (fun u hu => h u (by simp [hu]))
    have h3 : (metasL (t :: l)).length = (metasP (t.pre 0 1)).length + (metasL l).length := by simp [metasL]
    have h4 : (metasP (t.pre 0 1)).length ≤ (t.pre 0 1).length := List.length_filterMap_le _ _
    rw [Tm.pre_length] at h4
    have h5 := Tm.size_le_full t
    rw [h3, List.length_cons, Nat.succ_mul]; omega
set_option maxRecDepth 100000 in
set_option maxHeartbeats 4000000 in
theorem metas6_k {F : Nat → Prop} {w : World} {v : Value} {l : List Tm} (h : IsSl rpTm F w v l) (hl : l.length ≤ 9) (hsz : ∀ t ∈ l, t.full ≤ 90000) : Calls Tryz.prog 31 #[v] w (FreshInts (sortU (metasL l)) w) := by
  refine (callsIn_wide (n := 9)).1 ?_
  have Ht := Lib.hid (h.weaken (F' := fun _ => True) (by decide) fun _ _ _ => trivial)
  obtain ⟨a, c, rfl, hm, bl, off, ha, hc⟩ := tms_cells Ht.out
  obtain ⟨ll, hll⟩ : ∃ x, l.length = x := ⟨_, rfl⟩
  clear h Ht
  have Hm := Lib.hid hm; clear hm
  have Hc := Lib.hid hc; clear hc
  have Hsz := Lib.hid hsz; clear hsz
  rw [hll] at ha hl ⊢
  obtain ⟨i2, hi2, hz0, hz1, hz2⟩ := info_parts infoI
  refine callsIn_of_wp_marks Tryz.func31 rfl trivial ?_ rfl
  simp only [Tryz.ntmps31, List.size_toArray, List.length_cons, List.length_nil, Nat.reduceAdd, Nat.reduceSub, Array.replicate_succ, Array.replicate_zero, List.push_toArray, List.append_toArray, List.nil_append, List.cons_append]
  gi_wp2_with fail
  refine wpIn_loop (fun a' w' => ∃ (j : Nat) (Ds : List Nat) (zs : List Int) (vv u5 u11 u12 u13 u14 u15 u28 : Value), a' = { tmps := #[.slice a ll c, undef, .slice none 0 0, .pointer (some ⟨w.heap.size, 0, none⟩), undef, u5, undef, undef, .slice a ll c, .int .i64 ll, .int .i64 j, u11, u12, u13, u14, u15, undef, undef, undef, undef, undef, undef, undef, undef, undef, undef, undef, undef, u28, undef, undef, undef, undef], defers := Ds.map fun D => { target := .collected D, args := #[] } } ∧
      j ≤ ll ∧ Hid (zs = metasL (l.take j)) ∧ OutAt w Ds vv zs w') (fun a' _ => ll - (intOf (a'.tmps.getD 10 undef)).toNat) ?start ?round
  case start =>
    refine ⟨0, [], [], .slice none 0 0, undef, undef, undef, undef, undef, undef, undef, rfl, by omega, by show _ = _; simp [metasL], ?_⟩
    exact ⟨Blk.new _ _ _ rfl, World.ownsRow_nil _ _ _ _, by simp, by simp, (Below.refl _ _).alloc (Nat.le_refl _) _⟩
  case round =>
    rintro a' W ⟨j, Ds, zs, vv, u5, u11, u12, u13, u14, u15, u28, rfl, hj, hzs, hO⟩
    have hj0 : (0 : Int) ≤ (j : Int) := Int.natCast_nonneg _
    have HO := Lib.hid hO; clear hO
    by_cases hlt : j < ll
    · have hj1 : (j : Int) < (ll : Int) := by omega
      obtain ⟨rfl, _⟩ := ha (by omega)
      obtain ⟨vb, vk, vi, vs, e1, e2, e3, e4, hty⟩ := Hc.out j (by omega)
      have hW := HO.out.below
      have e1 := ((Keep.refl (fun _ => True) _).below hW) _ _ _ trivial e1
      have e2 := ((Keep.refl (fun _ => True) _).below hW) _ _ _ trivial e2
      have e3 := ((Keep.refl (fun _ => True) _).below hW) _ _ _ trivial e3
      have e4 := ((Keep.refl (fun _ => True) _).below hW) _ _ _ trivial e4
      have Htk := Lib.hid (metasL_take l j (by omega))
      have hts := Hsz.out l[j] (List.getElem_mem _)
      obtain ⟨t, ht⟩ : ∃ t, l[j] = t := ⟨_, rfl⟩
      rw [ht] at hty Htk hts
      clear ht
      obtain ⟨pa, pc, qa, qc, rfl, rfl, rfl, rfl⟩ := hty.shape
      have Hty := Lib.hid hty; clear hty
      obtain ⟨x1, hx1⟩ : ∃ x, t.binds.length = x := ⟨_, rfl⟩
      obtain ⟨x2, hx2⟩ : ∃ x, t.args.length = x := ⟨_, rfl⟩
      obtain ⟨x3, hx3⟩ : ∃ x, t.kind = x := ⟨_, rfl⟩
      obtain ⟨x4, hx4⟩ : ∃ x, t.index = x := ⟨_, rfl⟩
      rw [hx1, hx2, hx3, hx4] at Hty
      rw [hx1] at e1
      rw [hx3] at e2
      rw [hx4] at e3
      rw [hx2] at e4
      clear hx1 hx2 hx3 hx4
      gi_wp2_with fail
      refine ⟨trivial, (each6_k _ _ _ _ _ _ ⟨_, _, _, rfl⟩ ⟨_, rfl⟩ ⟨_, rfl⟩ ⟨_, _, _, rfl⟩).mono ?_⟩
      rintro e w' ⟨rfl, rfl⟩
      gi_wp2_with fail
      have HO5 := Lib.hid ((HO.out.alloc (.cells #[.slice pa x1 pc, .int .i64 x3, .int .i64 x4, .slice qa x2 qc] 41)).alloc (.cells #[.slice pa x1 pc, .int .i64 x3, .int .i64 x4, .slice qa x2 qc] 41))
      obtain ⟨w5, hw5⟩ : ∃ w5, (W.alloc (.cells #[.slice pa x1 pc, .int .i64 x3, .int .i64 x4, .slice qa x2 qc] 41)).alloc (.cells #[.slice pa x1 pc, .int .i64 x3, .int .i64 x4, .slice qa x2 qc] 41) = w5 := ⟨_, rfl⟩
      have hz : w5.heap.size = W.heap.size + 2 := by rw [← hw5]; simp
      have y3 : Blk w5 (W.heap.size + 1) #[.slice pa x1 pc, .int .i64 x3, .int .i64 x4, .slice qa x2 qc] 41 := by rw [← hw5]; exact Blk.new _ _ _ (by simp)
      rw [hw5] at HO5 ⊢
      clear hw5
      have hsz1 := HO.out.box.lt
      have hlts := HO.out.lt
      clear HO
      have Hlts : Hid (∀ D ∈ Ds, D < w5.heap.size) := fun D hD => by have := hlts D hD; omega
      clear hlts
      refine range_softA (Ok := SpotOk) (fun o h => .inl h) rfl (by omega) (gf := 126) (lb := #[.pointer (some ⟨W.heap.size + 1, 0, none⟩)]) rfl trivial (enters_of Tryz.func126 (by kernel_rfl) rfl)
        (each6_soft (OutG w.heap.size) (fun k _ _ hk => .inl hk) Hty.out (by omega) (9 - 1) w5 (fun k _ hk ht => .inr ⟨by omega, ht⟩) ((Keep.refl _ _).below HO5.out.below) (W.heap.size + 1) y3)
        (fun h h' => h.trans h') (fun W l o o' _ hl ho _ => KeepC.putObj _ W l o o' hl ho) (Below.refl _ _) (fun _ => rfl)
        (fun pre V => ∃ v', OutAt w Ds v' (zs ++ metasP (pre.map Hit6.key)) V)
        (fun _ _ _ => False)
        (fun pre A B row ⟨v', h⟩ hg hr => ⟨v', h.grown Hlts.out (by omega) hg (fun r e => by
          obtain ⟨h1, o, ho, hc⟩ := hr r e
          refine ⟨h1, o, ho, fun cs e => ?_⟩
          subst e
          rcases hc with hc | ⟨cs', fr, hc⟩
          · simp [Obj.isCells] at hc
          · cases hc)⟩)
        (fun _ _ _ _ _ hs _ _ => hs)
        ⟨vv, by simpa [metasP] using HO5.out⟩
        (fun x a' V => ∃ Bx, Blk V Bx #[.slice x.pb x.t.binds.length x.cb, .int .i64 x.t.kind, .int .i64 x.t.index, .slice x.pa x.t.args.length x.ca] 41 ∧ a' = { tmps := #[.slice (some ⟨bl, off, none⟩) ll c, undef, .slice none 0 0, .pointer (some ⟨w.heap.size, 0, none⟩), undef, .pointer (some ⟨W.heap.size, 0, none⟩), undef, .pointer (some ⟨Bx, 0, none⟩), .slice (some ⟨bl, off, none⟩) ll c, .int .i64 ll, .int .i64 j, .bool true, .pointer (some ⟨bl, off + j * 4, none⟩), .agg #[.slice pa x1 pc, .int .i64 x3, .int .i64 x4, .slice qa x2 qc], .agg #[.slice pa x1 pc, .int .i64 x3, .int .i64 x4, .slice qa x2 qc], .func (.func 126) #[] #[.pointer (some ⟨W.heap.size + 1, 0, none⟩)], .agg #[.int .i64 x.s, .int .i64 x.d], .agg #[.slice x.pb x.t.binds.length x.cb, .int .i64 x.t.kind, .int .i64 x.t.index, .slice x.pa x.t.args.length x.ca], undef, undef, undef, undef, undef, undef, undef, undef, undef, undef, u28, undef, undef, undef, undef], defers := [] })
        (fun x a' W l o o' hl ho hoc => by
          rintro ⟨Bx, h2, h3⟩
          have hne : l ≠ Bx := fun e => by
            subst e
            have hb : W.heap[l]? = _ := h2
            rw [hb] at ho; cases ho; simp [Obj.isCells] at hoc
          exact ⟨Bx, (World.putObj_heap_other (Ne.symm hne)).trans h2, h3⟩) ?assign ?body ?done ?stop
      case assign =>
        rintro l pre x V K ⟨v', hV⟩ hK
        have HK := Lib.hid hK; clear hK
        have HV := Lib.hid hV; clear hV
        simp only [Hit6.enc] at *
        gi_wp2
        exact HK.out _ _ ((KeepsOthers.alloc _ _).from _) ((KeepC.refl _ V).alloc _) ⟨v', HV.out.alloc _⟩ ⟨V.heap.size, Blk.new _ _ _ rfl, rfl⟩
      case body =>
        rintro l' pre x a' V ⟨v', hV⟩ hlt' ⟨Bx, bX, rfl⟩
        have c1 : V.cell? ⟨w.heap.size, 0, none⟩ = some v' := hV.box.cell rfl
        have cx1 : V.cell? ⟨Bx, 1, none⟩ = some (.int .i64 x.t.kind) := bX.cell rfl
        have cx2 : V.cell? ⟨Bx, 2, none⟩ = some (.int .i64 x.t.index) := bX.cell rfl
        have hlen0 : (zs ++ metasP (pre.map Hit6.key)).length ≤ 900000 := by
          have h1 : (metasL (l.take j)).length ≤ 720000 := by
            have := metasL_len (l.take j) 90000 (fun t ht => Hsz.out t (List.mem_of_mem_take ht))
            have h2 : (l.take j).length ≤ 8 := by simp; omega
            exact Nat.le_trans this (Nat.le_trans (Nat.mul_le_mul_right 90000 h2) (by decide))
          have h2 : (metasP (pre.map Hit6.key)).length ≤ pre.length := by
            have := List.length_filterMap_le (fun p : Nat × Nat × Tm => if p.2.2.kind = 2 then some p.2.2.index else none) (pre.map Hit6.key)
            simpa [metasP] using this
          have h3 := Tm.size_le_full t
          rw [hzs.out, List.length_append]
          omega
        have hkey : metasP ((pre ++ [x]).map Hit6.key) = metasP (pre.map Hit6.key) ++ (if x.t.kind = 2 then [x.t.index] else []) := by
          unfold metasP
          rw [List.map_append, List.filterMap_append]
          congr 1
          by_cases hk : x.t.kind = 2
          · simp [Hit6.key, hk]
          · simp [Hit6.key, hk]
        have hkey2 : zs ++ metasP ((pre ++ [x]).map Hit6.key) = (zs ++ metasP (pre.map Hit6.key)) ++ (if x.t.kind = 2 then [x.t.index] else []) := by rw [hkey, List.append_assoc]
        clear hkey
        obtain ⟨zp, hzp⟩ : ∃ zp, zs ++ metasP (pre.map Hit6.key) = zp := ⟨_, rfl⟩
        rw [hzp] at hV hkey2 hlen0
        obtain ⟨kk, hkk⟩ : ∃ k, x.t.kind = k := ⟨_, rfl⟩
        obtain ⟨ii, hii⟩ : ∃ k, x.t.index = k := ⟨_, rfl⟩
        rw [hkk, hii] at hkey2
        rw [hkk] at cx1 ⊢
        rw [hii] at cx2 ⊢
        clear hzp hkk hii
        have HV := Lib.hid hV; clear hV
        have hsz3 := HV.out.below.size
        have f0 := HV.out.box.free 0
        by_cases hk : kk = 2
        · subst hk
          rw [if_pos rfl] at hkey2
          have Hkey := Lib.hid hkey2; clear hkey2
          gi_wp2_with (gi_at_builtin; refine wpListIn_append_own _ rfl _ _ 59 rfl (w.heap.size + 1) 3 i2 _ 1 8 Tryz.underlying59 hi2 hz0 hz1 hz2 rfl (by decide) v' zp.length (zp.map (Value.int .i64)) rfl (HV.out.own.alloc _) ⟨V.heap.size, 0, none⟩ 1 1 [.int .i64 ii] rfl rfl (fun jj u hu => by
              cases jj with
              | zero => simp at hu; subst hu; exact (Blk.new V #[.int .i64 ii] 3 rfl).cell rfl
              | succ _ => simp at hu) (by simp [Value.oneCell']) (by simp [maxLen]; omega) (by omega) (by have := HV.out.box.lt; simp; omega) ?_; intro v2 w3 hown3 hg3 hnil3; have Hg3 := Lib.hid hg3; obtain ⟨g3, cap3, rfl⟩ := ownsRow_succ hown3; have Hown3 := Lib.hid hown3; clear hown3 hg3 hnil3; have c3 := (HV.out.push_box Hg3.out).cell (i := 0) rfl; have f3 := (HV.out.push_box Hg3.out).free 0)
          obtain ⟨q1, q2, q3⟩ := HV.out.push ii Hg3.out Hown3.out
          exact ⟨q2.from _, q3, _, by rw [Hkey.out]; exact q1⟩
        · rw [if_neg hk, List.append_nil] at hkey2
          have Hkey := Lib.hid hkey2; clear hkey2
          have hk' : (kk == 2) = false := by simpa using hk
          gi_wp2
          exact ⟨(KeepsOthers.refl _).from _, KeepC.refl _ _, _, by rw [Hkey.out]; exact HV.out⟩
      case done =>
        rintro D ys V hD hys ⟨v', hV⟩ hK
        have hV2 := hV.mark hK (fun D' h' => by have := Hlts.out D' h'; omega) (by omega)
        have Hz : Hid (zs ++ metasP (ys.map Hit6.key) = metasL (l.take (j + 1))) := by show _ = _; rw [hys, Htk.out, hzs.out]
        rw [Hz.out] at hV2
        clear hV hK hys
        have HV := Lib.hid hV2; clear hV2
        gi_wp2_with fail
        refine ⟨⟨j + 1, D :: Ds, _, v', _, _, _, _, _, _, _, rfl, by omega, rfl, HV.out⟩, ?_⟩
        simp [intOf]; omega
      case stop =>
        rintro D cc pre V _ _ h _
        exact h.elim
    · have hO := HO.out
      have hz2 : zs = metasL l := by rw [hzs.out, List.take_of_length_le (by omega)]
      have hlen : zs.length ≤ 1000000 := by
        have := metasL_len l 90000 Hsz.out
        rw [hz2]
        exact Nat.le_trans this (Nat.le_trans (Nat.mul_le_mul_right 90000 (show l.length ≤ 9 by omega)) (by decide))
      have c1 : W.cell? ⟨w.heap.size, 0, none⟩ = some vv := hO.box.cell rfl
      clear hO
      gi_wp2_with fail
      refine ⟨trivial, (callsIn_wide.2 (sort_own (base := w.heap.size + 1) HO.out.own hlen)).mono ?_⟩
      rintro e W2 ⟨rfl, hown2, hg2⟩
      have hl2 := List.length_mergeSort (le := fun x y : Int => decide (x ≤ y)) zs
      have HO2 := Lib.hid (HO.out.sorted hg2 (by rw [hl2]; exact hown2))
      clear HO hown2 hg2
      have c2 : W2.cell? ⟨w.heap.size, 0, none⟩ = some vv := HO2.out.box.cell rfl
      gi_wp2_with fail
      refine ⟨trivial, (callsIn_wide.2 (compact_own (base := w.heap.size + 1) HO2.out.own (by rw [hl2]; exact hlen))).mono ?_⟩
      rintro e W3 ⟨v', rfl, hown3, hg3⟩
      have Hown3 := Lib.hid hown3; have Hg3 := Lib.hid hg3
      clear hown3 hg3
      gi_wp2_with fail
      have h := HO2.out.leave Hg3.out Hown3.out (F := Fence.wide) (n := 9) (P := Tryz.prog) (fn := Tryz.f31) (tmps := #[.slice a ll c, undef, v', .pointer (some ⟨w.heap.size, 0, none⟩), undef, u5, undef, undef, .slice a ll c, .int .i64 ll, .int .i64 j, .bool false, u12, u13, u14, u15, undef, undef, undef, undef, undef, undef, undef, undef, undef, undef, undef, undef, u28, vv, .tuple #[], vv, v']) (fun w3 => results_tmp (t := 2) rfl _ _ w3)
      rw [hz2] at h
      exact h
end Go.Proofs.YtflbnonbfmmchaaGreat

namespace Go.Proofs.YtflbnonbfmmchaaGreat
open Go.RowKit
theorem metas_d (l : List Tm) (hl : l.length ≤ 9) (hz : ∀ t ∈ l, t.full ≤ 90000) : PureC Tryz.prog 31 [.sl 4 (eTms l) none] (.sl 1 (eIs (sortU (metasL l))) none) := by
  refine pure_below (by kernel_rfl) fun m Im w vs hv => ?_
  match vs, hv with
  | [x], hv =>
    have hs : IsSl rpTm (fun _ => True) w x l := (sl_of_rel (r := rpTm) (e := eTm) eTm_len (fun x t hx _ => tm_of_rel t hx) (by decide) (by rw [eTms_map] at hv; exact hv.1)).weaken (by decide) fun _ _ _ => trivial
    refine (metas6_k hs hl hz).mono ?_
    rintro e w' ⟨a, c, rfl, h1, h2⟩
    refine ⟨_, rfl, h2, fun Im' _ hI => ?_⟩
    exact rel_of_sl (r := rpInt) (e := fun i => [.v (.int .i64 i)]) (fun b o v hq hc => hI b o v hq hc) (fun _ => rfl) (fun x a h => by
      have : x = [.int .i64 a] := h
      subst this; exact ⟨.v _, trivial⟩) h1

def fidx (P : Int → Bool) (l : List Int) : Int := match l.findIdx? P with | some i => (i : Int) | none => -1
theorem fidx_at {P : Int → Bool} {l : List Int} {i : Nat} (h : i < l.length) (h1 : P l[i] = true) (h2 : ∀ j (h : j < l.length), j < i → P l[j] = false) : fidx P l = i := by
  have : l.findIdx? P = some i := List.findIdx?_eq_some_iff_getElem.2 ⟨h, h1, fun j hj => by rw [h2 j (by omega) hj]; simp⟩
  rw [fidx, this]
theorem fidx_no {P : Int → Bool} {l : List Int} (h2 : ∀ j (h : j < l.length), P l[j] = false) : fidx P l = -1 := by
  have : l.findIdx? P = none := List.findIdx?_eq_none_iff.2 fun x hx => by
    obtain ⟨i, hi, rfl⟩ := List.getElem_of_mem hx
    exact h2 i hi
  rw [fidx, this]
theorem fidx_any (P : Int → Bool) (l : List Int) : decide (fidx P l ≥ 0) = l.any P := by
  rw [fidx]
  cases h : l.findIdx? P with
  | some i =>
    obtain ⟨h1, h2, _⟩ := List.findIdx?_eq_some_iff_getElem.1 h
    rw [List.any_eq_true.2 ⟨_, List.getElem_mem h1, h2⟩]
    simp
  | none =>
    rw [List.any_eq_false.2 fun x hx => by simp [List.findIdx?_eq_none_iff.1 h x hx]]
    simp
namespace Li
def lo (t : Tm) : Bool := decide ((t.looses 0).foldl looseL 0 > 0)
def rt (t : Tm) : Bool := decide (t.size ≤ 5000 ∧ t.depth ≤ 60)
def may (L R : Tm) (M B : List Ty) : Int :=
  if (lo L || lo R) = true then 1
  else if ((sortU (metasL [L, R])).any fun x => decide (x < 0 ∨ (M.length : Int) ≤ x)) = true then 10
  else if (decide ((B.length : Int) > 900) || (!rt L || !rt R)) = true then 2 else 0
def done (p : Pr) : Pr × Int := if (rt p.l && rt p.r) = true then (p, 0) else (.z, 2)
def cl (t : Tm) (B : List Ty) : Tm := .mk (B ++ t.binds) t.kind t.index t.args
def arr (B : List Ty) (t : Ty) : Ty := .mk (B ++ t.args) t.base
def up (p : Pr) (B : List Ty) : Pr := ⟨lif B p.l 0, lif B p.r 0, p.m.map (arr B)⟩
def over (p : Pr) (B : List Ty) : Pr × Int := if may p.l p.r p.m B ≠ 0 then (.z, may p.l p.r p.m B) else done (up p B)
def clP (p : Pr) (B : List Ty) : Pr := ⟨cl p.l B, cl p.r B, p.m⟩
def closed (p : Pr) (B : List Ty) : Pr × Int := if (over p B).2 ≠ 0 then (.z, (over p B).2) else done (clP (over p B).1 B)
end Li
theorem nodup_le : ∀ (l m : List Int), l.Nodup → (∀ x ∈ l, x ∈ m) → l.length ≤ m.length
  | [], m, _, _ => Nat.zero_le _
  | x :: l, m, h1, h2 => by
    have hx := h2 x (by simp)
    have := nodup_le l (m.erase x) (List.nodup_cons.1 h1).2 fun y hy => (List.mem_erase_of_ne fun e => (List.nodup_cons.1 h1).1 (by rw [← e]; exact hy)).2 (h2 y (by simp [hy]))
    rw [List.length_erase_of_mem hx] at this
    have := List.length_pos_of_mem hx
    simp; omega
theorem sortU_len (l : List Int) : (sortU l).length ≤ l.length :=
  nodup_le _ _ ((sortU_spec l).1.imp fun h => by omega) fun x h => ((sortU_spec l).2 x).1 h
end Go.Proofs.YtflbnonbfmmchaaGreat

namespace Go.Proofs.YtflbnonbfmmchaaGreat
open Go.RowKit
def eBd (b : Pn.Bd) : List (Int × D) := b.map fun p => (p.1, .ag (eTm p.2))
@[simp] theorem eBd_ok (f g : Nat → Bool) (b : Pn.Bd) : D.okm f g (eBd b) = true := okm_map _ b fun p _ => by simp [D.ok, eTm_ok]
end Go.Proofs.YtflbnonbfmmchaaGreat

namespace Go.Proofs.YtflbnonbfmmchaaGreat
open Go.RowKit

namespace Pn
end Pn

end Go.Proofs.YtflbnonbfmmchaaGreat

namespace Go.Proofs.YtflbnonbfmmchaaGreat
open Go.RowKit

section
variable {P : Program} {T : List (Nat × TI)} {cx : Cx} {Fr : Nat → Prop} {m : Mp} {Im : Nat → Nat → Prop} {w w' : World} {a : Act} {σ σ' : List (Key × D)}
theorem St.drew (h : St cx Fr m Im w a σ) : St cx Fr m Im w.drew a σ := h.below0 (Below.refl _ _).drew
end

section
variable {P : Program} {T : List (Nat × TI)} {cx : Cx} {m : Mp} {Im : Nat → Nat → Prop} {w : World} {a : Act} {σ : List (Key × D)} {ops : Array Oper} {Q : Exit → Act → World → Prop}
end
end Go.Proofs.YtflbnonbfmmchaaGreat

namespace Go.Proofs.YtflbnonbfmmchaaGreat
open Go.RowKit
def ePP (p : Tm × Tm) : List D := eTm p.1 ++ eTm p.2
def ePPs (l : List (Tm × Tm)) : List (List D) := l.map ePP
theorem ePP_eq (p : Tm × Tm) : ePP p = [.sl 2 (eTys p.1.binds) none, .v (.int .i64 p.1.kind), .v (.int .i64 p.1.index), .sl 4 (eTms p.1.args) none, .sl 2 (eTys p.2.binds) none, .v (.int .i64 p.2.kind), .v (.int .i64 p.2.index), .sl 4 (eTms p.2.args) none] := by unfold ePP; rw [eTm_eq, eTm_eq]; rfl
@[simp] theorem ePPs_ok (f g : Nat → Bool) (l : List (Tm × Tm)) : D.okss f g (ePPs l) = true := D.okss_map _ l fun p _ => by simp [ePP_eq, D.oks, D.ok, eTms_ok, eTys_ok]
namespace Pn
end Pn
end Go.Proofs.YtflbnonbfmmchaaGreat

namespace Go.Proofs.YtflbnonbfmmchaaGreat
open Go.RowKit
/-! the examples -/
def mb (i : Int) : Tm := .mk [] 0 i []
def mc (i : Int) (l : List Tm) : Tm := .mk [] 1 i l
end Go.Proofs.YtflbnonbfmmchaaGreat

namespace Go.Proofs.YtflbnonbfmmchaaGreat
open Go.RowKit

theorem ePairs_take (l : List (Int × Tm)) (j : Nat) (h : j < l.length) : ePairs (l.take (j + 1)) = ePairs (l.take j) ++ [ePair l[j]] := by
  unfold ePairs; rw [List.take_succ_eq_append_getElem h, List.map_append]; rfl
end Go.Proofs.YtflbnonbfmmchaaGreat

namespace Go.Proofs.YtflbnonbfmmchaaGreat
open Go.RowKit
def TL10_3 : TI := ⟨1, false, [Value.int IntKind.i64 0], [], none, 8, 2, none, false⟩
theorem TL10_3_ok : TypOk Tryz.prog 3 TL10_3 := by constructor <;> kernel_rfl
def TL10_67 : TI := ⟨1, false, [Value.slice none 0 0], [], some 156, 24, 5, none, false⟩
theorem TL10_67_ok : TypOk Tryz.prog 67 TL10_67 := by constructor <;> kernel_rfl
def TL10_156 : TI := ⟨5, true, [Value.int IntKind.i64 0, Value.slice none 0 0, Value.int IntKind.i64 0, Value.int IntKind.i64 0, Value.slice none 0 0], [(0, 1, false), (1, 4, true)], none, 72, 6, none, false⟩
theorem TL10_156_ok : TypOk Tryz.prog 156 TL10_156 := by constructor <;> kernel_rfl
def TL10_29 : TI := ⟨4, true, [Value.slice none 0 0, Value.int IntKind.i64 0, Value.int IntKind.i64 0, Value.slice none 0 0], [(0, 1, false), (1, 2, true), (3, 1, false)], none, 64, 6, none, false⟩
theorem TL10_29_ok : TypOk Tryz.prog 29 TL10_29 := by constructor <;> kernel_rfl
def TL10_27 : TI := ⟨1, false, [Value.slice none 0 0], [], some 29, 24, 5, none, false⟩
theorem TL10_27_ok : TypOk Tryz.prog 27 TL10_27 := by constructor <;> kernel_rfl
def TL10_51 : TI := ⟨1, false, [Value.slice none 0 0], [], some 79, 24, 5, none, false⟩
theorem TL10_51_ok : TypOk Tryz.prog 51 TL10_51 := by constructor <;> kernel_rfl
def TL10_79 : TI := ⟨5, true, [Value.int IntKind.i64 0, Value.slice none 0 0, Value.int IntKind.i64 0, Value.int IntKind.i64 0, Value.slice none 0 0], [(0, 1, false), (1, 4, true)], none, 72, 6, none, false⟩
theorem TL10_79_ok : TypOk Tryz.prog 79 TL10_79 := by constructor <;> kernel_rfl
def TL10 : List (Nat × TI) := [(3, TL10_3), (67, TL10_67), (156, TL10_156), (29, TL10_29), (27, TL10_27), (51, TL10_51), (79, TL10_79)]
theorem TL10_ok : TabOk Tryz.prog TL10 := ((((((((TabOk.nil _).cons TL10_79_ok).cons TL10_51_ok).cons TL10_27_ok).cons TL10_29_ok).cons TL10_156_ok).cons TL10_67_ok).cons TL10_3_ok)

theorem to6_d (t : Tm) (h : t.full ≤ 900000) : PureC Tryz.prog 13 [.ag (eTm t)] (.ag (eTm t)) := to6D_d t h
set_option maxHeartbeats 1000000 in
theorem to9_d (l : List (Int × Tm)) (hl : l.length ≤ 9223372036854775807) (hf : ∀ p ∈ l.take 10, p.2.full ≤ 900000) : PureC Tryz.prog 27 [.sl 5 (ePairs l) none] (.sl 5 (ePairs (l.take 10)) none) := by
 refine call_of_dw 0 31 [ResultVar.tmp 2] TL10_ok (by kernel_rfl) Tryz.func27 rfl Tryz.ntmps27 rfl (by simp) ?dwords ?dbody
 case dwords => simp [wordsOk, D.ok, D.oks, rnames, ePairs_ok]
 case dbody =>
  intro cx hnt hn0
  refine dw_seq ?_; refine dwk [] TL10_ok hnt fun K hK => ?_; refine hK _ _ ?_; clear hK K; refine dw_seq ?_; refine dwk [] TL10_ok hnt fun K hK => ?_; refine hK _ _ ?_; clear hK K; refine dw_seq (dw_seq ?_); refine dwk [] TL10_ok hnt fun K hK => ?_; refine hK _ _ ?_; clear hK K; refine dw_block ?_
  refine dw_loop (ι := { j : Nat // j ≤ 10 }) (fun j => (.t 0, .sl 5 (ePairs l) none) :: (.t 4, .v (.int .i64 (j.1 : Int))) :: (.t 3, .sl 5 (ePairs (l.take j.1)) (some 3)) :: (.r 3, .rw 79 5 (l.take j.1).length) :: []) 4 (fun j => l.length - j.1) ⟨0, by decide⟩ (VS.trans (VS.rowT (x := 3) (by rw [hnt]; decide) 79 5 rfl) VS.toA) fun j => ?_
  obtain ⟨j, hj⟩ := j
  dsimp only
  refine dw_seq (dw_seq ?_)
  have end_ : ¬ (j < l.length ∧ j < 10) → l.take j = l.take 10 := fun h => by
   by_cases h1 : j < 10
   ·have : l.length ≤ j := by omega
    rw [List.take_of_length_le this, List.take_of_length_le (by omega)]
   ·rw [show j = 10 by omega]
  by_cases hlt : j < l.length
  ·by_cases h10 : j < 10
   ·have hjt : l[j] ∈ l.take 10 := by
     have : j < (l.take 10).length := by rw [List.length_take]; omega
     have h2 : (l.take 10)[j] = l[j] := by simp
     rw [← h2]; exact List.getElem_mem this
    have ho := to6_d l[j].2 (hf _ hjt)
    rw [eTm_eq] at ho
    have hq : (ePairs l).getD (j : Int).toNat [] = [.v (.int .i64 l[j].1), .sl 2 (eTys l[j].2.binds) none, .v (.int .i64 l[j].2.kind), .v (.int .i64 l[j].2.index), .sl 4 (eTms l[j].2.args) none] := by rw [Int.toNat_natCast, ePairs_getD l j hlt, ePair_eq]
    have hb : (0 : Int) ≤ (j : Int) ∧ (j : Int) < ((ePairs l).length : Int) := ⟨by omega, by rw [ePairs_len]; omega⟩
    refine dwk [(8, .v (.bool true)), (11, .v (.bool true))] TL10_ok hnt fun K hK => ?_; refine And.intro (dtrue (by rw [ePairs_len]; omega)) ?_; refine And.intro (dtrue (by omega)) ?_; refine hK _ _ ?_; clear hK K; refine dw_cond (t := true) rfl ?_; rw [if_pos rfl]; refine dw_skip ?_; refine dw_seq (dw_block ?_); refine dwkD [(18, .q [.v (.int .i64 l[j].1), .sl 2 (eTys l[j].2.binds) none, .v (.int .i64 l[j].2.kind), .v (.int .i64 l[j].2.index), .sl 4 (eTms l[j].2.args) none]), (23, .q [.v (.int .i64 l[j].1), .sl 2 (eTys l[j].2.binds) none, .v (.int .i64 l[j].2.kind), .v (.int .i64 l[j].2.index), .sl 4 (eTms l[j].2.args) none]), (29, .sl 5 (ePairs (l.take (j + 1))) (some 3))] TL10_ok hnt fun K hK => ?_
    refine And.intro (hb) ?_; refine And.intro (VLe.of_eq (by rw [hq])) ?_; refine And.intro (hb) ?_; refine And.intro (VLe.of_eq (by rw [hq])) ?_; refine dcl (ho) ?_; refine And.intro (⟨by rw [ePairs_len], by rw [ePairs_len, List.length_take]; simp; omega⟩) ?_; refine And.intro (VLe.of_eq (by rw [ePairs_take l j hlt, ePair_eq])) ?_; refine hK _ _ (by kernel_rfl) ?_; clear hK K; refine dwk [(14, .v (.int .i64 ((j + 1 : Nat) : Int)))] TL10_ok hnt fun K hK => ?_
    refine And.intro (dintE (by rw [IntWalk.i64_in _ (by omega)]; omega)) ?_; refine hK _ _ ?_; clear hK K
    have hl2 : (l.take (j + 1)).length = j + 1 := by rw [List.length_take]; omega
    have hl3 : (ePairs (l.take j)).length = j := by rw [ePairs_len, List.length_take]; omega
    refine ⟨⟨j + 1, by omega⟩, by dsimp only; omega, ?_⟩
    rw [hl2]
    exact (by try simp only [List.length_append, List.length_take, List.length_cons, List.length_nil, Nat.zero_add, hl3]; exact VS.toA)
   ·skip
    refine dwk [(8, .v (.bool true)), (11, .v (.bool false))] TL10_ok hnt fun K hK => ?_; refine And.intro (dtrue (by rw [ePairs_len]; omega)) ?_; refine And.intro (dfalse (by omega)) ?_; refine hK _ _ ?_; clear hK K; refine dw_cond (t := false) rfl ?_; rw [if_neg (by simp)]; refine dw_exit ?_; refine dw_seq ?_
    rw [end_ (fun h => h10 h.2)]
    refine dwk [] TL10_ok hnt fun K hK => ?_; refine hK _ _ ?_; clear hK K; refine dw_ret ?_
    exact retv (N := 0) (.inr rfl) rfl (by repeat first | exact VLe.refl _ | exact VLe.nil _ | exact VLe.untag _ _ _ | refine VLe.ag ?_ | refine VLe.tu ?_ | refine VLeL.cons ?_ ?_ | exact VLeL.nil) trivial
  ·skip
   refine dwk [(8, .v (.bool false))] TL10_ok hnt fun K hK => ?_; refine And.intro (dfalse (by rw [ePairs_len]; omega)) ?_; refine hK _ _ ?_; clear hK K; refine dw_cond (t := false) rfl ?_; rw [if_neg (by simp)]; refine dw_exit ?_; refine dw_seq ?_
   rw [end_ (fun h => hlt h.1)]
   refine dwk [] TL10_ok hnt fun K hK => ?_; refine hK _ _ ?_; clear hK K; refine dw_ret ?_
   exact retv (N := 0) (.inr rfl) rfl (by repeat first | exact VLe.refl _ | exact VLe.nil _ | exact VLe.untag _ _ _ | refine VLe.ag ?_ | refine VLe.tu ?_ | refine VLeL.cons ?_ ?_ | exact VLeL.nil) trivial
def few9 (l : List (Int × Tm)) : Bool := (l.take 10).all fun p => fewB p.2 && lowB p.2
set_option maxHeartbeats 1000000 in
theorem few9_d (l : List (Int × Tm)) (hl : l.length ≤ 9223372036854775807) (hw : ∀ p ∈ l.take 10, fewB p.2 = true → Wide p.2) : PureC Tryz.prog 25 [.sl 5 (ePairs l) none] (.v (.bool (few9 l))) := by
 refine call_of_dw 0 32 [ResultVar.tmp 2] TL10_ok (by kernel_rfl) Tryz.func25 rfl Tryz.ntmps25 rfl (by simp) ?dwords ?dbody
 case dwords => simp [wordsOk, D.ok, D.oks, rnames, ePairs_ok]
 case dbody =>
  intro cx hnt hn0
  refine dw_seq ?_; refine dwk [] TL10_ok hnt fun K hK => ?_; refine hK _ _ ?_; clear hK K; refine dw_seq (dw_seq ?_); refine dwk [] TL10_ok hnt fun K hK => ?_; refine hK _ _ ?_; clear hK K; refine dw_block ?_
  refine dw_loop (ι := { j : Nat // j ≤ 10 ∧ ∀ i (h : i < l.length), i < j → (fewB l[i].2 && lowB l[i].2) = true }) (fun j => [(.t 0, .sl 5 (ePairs l) none), (.t 3, .v (.int .i64 (j.1 : Int)))]) 1 (fun j => l.length - j.1) ⟨0, by decide, fun i h1 h2 => by omega⟩ VS.toA fun j => ?_
  obtain ⟨j, hj10, hj⟩ := j
  dsimp only
  refine dw_seq (dw_seq ?_)
  have end_ : ¬ (j < l.length ∧ j < 10) → few9 l = true := fun h => by
   unfold few9
   rw [List.all_eq_true]
   intro p hp
   obtain ⟨i, hi, rfl⟩ := List.getElem_of_mem hp
   rw [List.length_take] at hi
   have := hj i (by omega) (by omega)
   simpa using this
  by_cases hlt : j < l.length
  ·by_cases h10 : j < 10
   ·have hjt : l[j] ∈ l.take 10 := by
     have : j < (l.take 10).length := by rw [List.length_take]; omega
     have h2 : (l.take 10)[j] = l[j] := by simp
     rw [← h2]; exact List.getElem_mem this
    have hF := lawFew_d [l[j].2] (by simp)
    have hq : (ePairs l).getD (j : Int).toNat [] = [.v (.int .i64 l[j].1), .sl 2 (eTys l[j].2.binds) none, .v (.int .i64 l[j].2.kind), .v (.int .i64 l[j].2.index), .sl 4 (eTms l[j].2.args) none] := by rw [Int.toNat_natCast, ePairs_getD l j hlt, ePair_eq]
    have hb : (0 : Int) ≤ (j : Int) ∧ (j : Int) < ((ePairs l).length : Int) := ⟨by omega, by rw [ePairs_len]; omega⟩
    have hs : ∀ g, VLe (.sl 4 [[.sl 2 (eTys l[j].2.binds) none, .v (.int .i64 l[j].2.kind), .v (.int .i64 l[j].2.index), .sl 4 (eTms l[j].2.args) none]] g) (.sl 4 (eTms [l[j].2]) none) := fun g => by
     rw [eTms, eTms, eTm_eq]; exact VLe.untag _ _ _
    refine dwk [(7, .v (.bool true)), (10, .v (.bool true))] TL10_ok hnt fun K hK => ?_; refine And.intro (dtrue (by rw [ePairs_len]; omega)) ?_; refine And.intro (dtrue (by omega)) ?_; refine hK _ _ ?_; clear hK K; refine dw_cond (t := true) rfl ?_; rw [if_pos rfl]; refine dw_skip ?_; refine dw_seq (dw_block (dw_seq ?_))
    cases hf : fewB l[j].2 with
    | false =>
     have hn : few9 l = false := by
      unfold few9; rw [List.all_eq_false]; exact ⟨l[j], hjt, by rw [hf]; simp⟩
     rw [hn]
     simp only [List.all_cons, List.all_nil, Bool.and_true, hf] at hF
     refine dwk [(16, .q [.v (.int .i64 l[j].1), .sl 2 (eTys l[j].2.binds) none, .v (.int .i64 l[j].2.kind), .v (.int .i64 l[j].2.index), .sl 4 (eTms l[j].2.args) none]), (19, .sl 4 (eTms [l[j].2]) none)] TL10_ok hnt fun K hK => ?_; refine And.intro (hb) ?_; refine And.intro (VLe.of_eq (by rw [hq])) ?_; refine And.intro (hs _) ?_; refine dcl (hF) ?_; refine hK _ _ ?_; clear hK K; refine dw_cond (t := true) rfl ?_
     rw [if_pos rfl]; refine dw_seq ?_; refine dwk [] TL10_ok hnt fun K hK => ?_; refine hK _ _ ?_; clear hK K; refine dw_ret ?_
     exact retv (N := 0) (.inr rfl) rfl (VLe.refl _) trivial
    | true =>
     have hL := low_d [l[j].2] (by simp) (fun t ht => by simp at ht; subst ht; exact hw _ hjt hf)
     simp only [List.all_cons, List.all_nil, Bool.and_true, hf] at hF
     simp only [lowsB, Bool.and_true] at hL
     cases hlo : lowB l[j].2 with
     | false =>
      have hn : few9 l = false := by
       unfold few9; rw [List.all_eq_false]; exact ⟨l[j], hjt, by rw [hlo]; simp⟩
      rw [hn]
      rw [hlo] at hL
      refine dwk [(16, .q [.v (.int .i64 l[j].1), .sl 2 (eTys l[j].2.binds) none, .v (.int .i64 l[j].2.kind), .v (.int .i64 l[j].2.index), .sl 4 (eTms l[j].2.args) none]), (19, .sl 4 (eTms [l[j].2]) none), (25, .q [.v (.int .i64 l[j].1), .sl 2 (eTys l[j].2.binds) none, .v (.int .i64 l[j].2.kind), .v (.int .i64 l[j].2.index), .sl 4 (eTms l[j].2.args) none]), (28, .sl 4 (eTms [l[j].2]) none)] TL10_ok hnt fun K hK => ?_
      refine And.intro (hb) ?_; refine And.intro (VLe.of_eq (by rw [hq])) ?_; refine And.intro (hs _) ?_; refine dcl (hF) ?_; refine And.intro (hb) ?_; refine And.intro (VLe.of_eq (by rw [hq])) ?_; refine And.intro (hs _) ?_; refine dcl (hL) ?_; refine hK _ _ ?_; clear hK K; refine dw_cond (t := true) rfl ?_; rw [if_pos rfl]; refine dw_seq ?_; refine dwk [] TL10_ok hnt fun K hK => ?_; refine hK _ _ ?_; clear hK K
      refine dw_ret ?_
      exact retv (N := 0) (.inr rfl) rfl (VLe.refl _) trivial
     | true =>
      rw [hlo] at hL
      refine dwk [(16, .q [.v (.int .i64 l[j].1), .sl 2 (eTys l[j].2.binds) none, .v (.int .i64 l[j].2.kind), .v (.int .i64 l[j].2.index), .sl 4 (eTms l[j].2.args) none]), (19, .sl 4 (eTms [l[j].2]) none), (25, .q [.v (.int .i64 l[j].1), .sl 2 (eTys l[j].2.binds) none, .v (.int .i64 l[j].2.kind), .v (.int .i64 l[j].2.index), .sl 4 (eTms l[j].2.args) none]), (28, .sl 4 (eTms [l[j].2]) none)] TL10_ok hnt fun K hK => ?_
      refine And.intro (hb) ?_; refine And.intro (VLe.of_eq (by rw [hq])) ?_; refine And.intro (hs _) ?_; refine dcl (hF) ?_; refine And.intro (hb) ?_; refine And.intro (VLe.of_eq (by rw [hq])) ?_; refine And.intro (hs _) ?_; refine dcl (hL) ?_; refine hK _ _ ?_; clear hK K; refine dw_cond (t := false) rfl ?_; rw [if_neg (by simp)]; refine dw_skip ?_; refine dwk [(13, .v (.int .i64 ((j + 1 : Nat) : Int)))] TL10_ok hnt fun K hK => ?_
      refine And.intro (dintE (by rw [IntWalk.i64_in _ (by omega)]; omega)) ?_; refine hK _ _ ?_; clear hK K
      refine ⟨⟨j + 1, by omega, fun i h1 h2 => ?_⟩, by dsimp only; omega, VS.toA⟩
      by_cases he : i = j
      ·subst he; rw [hf, hlo]; rfl
      ·exact hj i h1 (by omega)
   ·rw [end_ (fun h => h10 h.2)]
    refine dwk [(7, .v (.bool true)), (10, .v (.bool false))] TL10_ok hnt fun K hK => ?_; refine And.intro (dtrue (by rw [ePairs_len]; omega)) ?_; refine And.intro (dfalse (by omega)) ?_; refine hK _ _ ?_; clear hK K; refine dw_cond (t := false) rfl ?_; rw [if_neg (by simp)]; refine dw_exit ?_; refine dw_seq ?_; refine dwk [] TL10_ok hnt fun K hK => ?_; refine hK _ _ ?_; clear hK K; refine dw_ret ?_
    exact retv (N := 0) (.inr rfl) rfl (VLe.refl _) trivial
  ·rw [end_ (fun h => hlt h.1)]
   refine dwk [(7, .v (.bool false))] TL10_ok hnt fun K hK => ?_; refine And.intro (dfalse (by rw [ePairs_len]; omega)) ?_; refine hK _ _ ?_; clear hK K; refine dw_cond (t := false) rfl ?_; rw [if_neg (by simp)]; refine dw_exit ?_; refine dw_seq ?_; refine dwk [] TL10_ok hnt fun K hK => ?_; refine hK _ _ ?_; clear hK K; refine dw_ret ?_
   exact retv (N := 0) (.inr rfl) rfl (VLe.refl _) trivial
end Go.Proofs.YtflbnonbfmmchaaGreat

namespace Go.Proofs.YtflbnonbfmmchaaGreat
open Go.RowKit

end Go.Proofs.YtflbnonbfmmchaaGreat

namespace Go.Proofs.YtflbnonbfmmchaaGreat
open Go.RowKit
end Go.Proofs.YtflbnonbfmmchaaGreat

namespace Go.Proofs.YtflbnonbfmmchaaGreat
open Go.RowKit

end Go.Proofs.YtflbnonbfmmchaaGreat

namespace Go.Proofs.YtflbnonbfmmchaaGreat
open Go.RowKit
end Go.Proofs.YtflbnonbfmmchaaGreat

namespace Go.Proofs.YtflbnonbfmmchaaGreat
open Go.RowKit
/-! the example -/
namespace Li
def kA : Ty := .mk [] 0
def kX : Tm := .mk [] 2 0 []
def kC : Tm := .mk [] 1 0 [kX]
end Li
/-! the law -/
theorem sizes_le22 {l : List Ty} {n : Nat} (h : ∀ t ∈ l, t.size ≤ n) : Ty.sizes l ≤ l.length * n := by
  induction l with
  | nil => simp [Ty.sizes]
  | cons t l ih =>
    have h1 := h t (by simp)
    have h2 := ih fun u hu => h u (by simp [hu])
    rw [Ty.sizes, List.length_cons, Nat.add_mul]; omega
end Go.Proofs.YtflbnonbfmmchaaGreat

namespace Go.Proofs.YtflbnonbfmmchaaGreat
open Go.RowKit

end Go.Proofs.YtflbnonbfmmchaaGreat

namespace Go.Proofs.YtflbnonbfmmchaaGreat
open Go.RowKit
namespace Li
end Li
end Go.Proofs.YtflbnonbfmmchaaGreat

namespace Go.Proofs.YtflbnonbfmmchaaGreat
open Go.RowKit
namespace Pn
theorem ix_get {x : Int} : ∀ {l : List Int} {k : Nat}, ix x l = some k → l[k]? = some x
  | v :: l, k, h => by
    rw [ix] at h
    split at h
    · rename_i e; cases h; simp [e]
    · cases hx : ix x l with
      | none => rw [hx] at h; cases h
      | some j => rw [hx] at h; cases h; simpa using ix_get hx
end Pn
end Go.Proofs.YtflbnonbfmmchaaGreat

namespace Go.Proofs.YtflbnonbfmmchaaGreat
open Go.RowKit

end Go.Proofs.YtflbnonbfmmchaaGreat

namespace Go.Proofs.YtflbnonbfmmchaaGreat
open Go.RowKit

end Go.Proofs.YtflbnonbfmmchaaGreat

namespace Go.Proofs.YtflbnonbfmmchaaGreat
open Go.RowKit
def eHs (l : List (Int × Int)) : List (List D) := l.map fun h => [.v (.int .i64 h.1), .v (.int .i64 h.2)]
@[simp] theorem eHs_ok (f g : Nat → Bool) (l : List (Int × Int)) : D.okss f g (eHs l) = true := D.okss_map _ l fun _ _ => rfl
end Go.Proofs.YtflbnonbfmmchaaGreat

namespace Go.Proofs.YtflbnonbfmmchaaGreat
open Go.RowKit

def sgn (x y : Int) : Int := if x < y then -1 else if y < x then 1 else 0
def orl (a b : Int) : Int := if a = 0 then b else a
@[simp] theorem orl_zero (b : Int) : orl 0 b = b := by simp [orl]
@[simp] theorem orl_zero_right (a : Int) : orl a 0 = a := by unfold orl; split <;> simp_all
namespace Ty
mutual
def cmp : Ty → Ty → Int
  | .mk l b, .mk l' b' => orl (orl (orl (sgn (Ty.sizes l + 1 : Nat) (Ty.sizes l' + 1 : Nat)) (sgn (l.length : Nat) (l'.length : Nat))) (cmps l l')) (sgn b b')
def cmps : List Ty → List Ty → Int
  | [], _ => 0
  | _ :: _, [] => 0
  | t :: l, u :: l' => orl (cmp t u) (cmps l l')
end
@[simp] theorem cmps_nil (l : List Ty) : cmps [] l = 0 := by rw [cmps]

end Ty
end Go.Proofs.YtflbnonbfmmchaaGreat

namespace Go.Proofs.YtflbnonbfmmchaaGreat
open Go.RowKit

namespace Tm
def cmpB (l l' : List Ty) : Int := orl (sgn (l.length : Nat) (l'.length : Nat)) (Ty.cmps l l')
mutual
def cmp : Tm → Tm → Int
  | .mk b k i a, .mk b' k' i' a' => orl (sgn (Tm.sizes a + 1 : Nat) (Tm.sizes a' + 1 : Nat)) (orl (cmpB b b') (orl (sgn k k') (orl (sgn i i') (orl (sgn (a.length : Nat) (a'.length : Nat)) (cmps a a')))))
def cmps : List Tm → List Tm → Int
  | [], _ => 0
  | _ :: _, [] => 0
  | t :: l, u :: l' => orl (cmp t u) (cmps l l')
end
@[simp] theorem cmps_nil (l : List Tm) : cmps [] l = 0 := by rw [cmps]
end Tm
end Go.Proofs.YtflbnonbfmmchaaGreat

namespace Go.Proofs.YtflbnonbfmmchaaGreat
open Go.RowKit

end Go.Proofs.YtflbnonbfmmchaaGreat

namespace Go.Proofs.YtflbnonbfmmchaaGreat
open Go.RowKit

namespace Ty
end Ty

end Go.Proofs.YtflbnonbfmmchaaGreat

namespace Go.Proofs.YtflbnonbfmmchaaGreat
open Go.RowKit

set_option maxRecDepth 100000 in
theorem size6_r : ∀ t : Tm, ∀ {F : Nat → Prop} {w0 : World} {b k i a : Value} (_ : IsTm F w0 b k i a t) (w : World), t.size ≤ 1000000 → Keep F w0 w → Calls Tryz.prog 93 #[.agg #[b, k, i, a]] w (RetI t.size w) := Tm.ind fun binds k0 i0 args ih => by
  intro F w0 b k i a ht w hsz hw
  obtain ⟨pa, pc, qa, qc, rfl, rfl, rfl, rfl⟩ := ht.shape
  simp only [Tm.binds, Tm.kind, Tm.index, Tm.args] at ht ⊢
  obtain ⟨_, _, _, hsl⟩ := ht.inv
  simp only [Tm.args] at hsl
  obtain ⟨_, hm, bl, off, PA, A, PN, PC, N', C, Kd, Ix, ha, h1, h2, h3, h4, h5⟩ := sl_cells6 hsl
  clear ht hsl hm
  have hlen : args.length ≤ 1000000 := by have := Tm.len_sizes args; rw [Tm.size_eq] at hsz; omega
  have Hsz : Hid (∀ i (h : i < args.length), args[i].size ≤ 1000000 ∧ Tm.sizes (args.take i) + args[i].size ≤ 1000000) := fun i h => by
    have := Tm.sizes_take args i h; have := Tm.sizes_take_le args (i + 1); rw [Tm.size_eq] at hsz; omega
  have Hend : Hid ((Tm.mk binds k0 i0 args).size = Tm.sizes args + 1) := Tm.size_eq _ _ _ _
  have Hih := Lib.hid ih; clear ih hsz
  go_enter Tryz.func93, Tryz.ntmps93
  go_wp2_with fail
  go_loopw [3, 4] (fun x i wr => ∃ k : Nat, i = .int .i64 k ∧ x = .int .i64 ((Tm.sizes (args.take k) : Int) + 1) ∧ k ≤ args.length ∧ Below w.heap.size w wr ∧ Blk wr w.heap.size #[.slice pa binds.length pc, .int .i64 k0, .int .i64 i0, .slice qa args.length qc] 29) (fun _ i _ => args.length - (intOf i).toNat)
  case atStart => exact ⟨0, rfl, rfl, by omega, (Below.refl _ _).alloc (Nat.le_refl _) _, Blk.new _ _ _ rfl⟩
  case round =>
    obtain ⟨k, rfl, rfl, hk, hb, hbox⟩ := hrel
    have c0 : wr.cell? ⟨w.heap.size, 3, none⟩ = some (.slice qa args.length qc) := hbox.cell rfl
    have hlt0 := hbox.lt
    by_cases hlt : k < args.length
    · obtain ⟨rfl, hF⟩ := ha (by omega)
      have e1 := (hw.below hb) _ _ _ hF (h1 k hlt)
      have e2 := (hw.below hb) _ _ _ hF (h2 k hlt)
      have e3 := (hw.below hb) _ _ _ hF (h3 k hlt)
      have e4 := (hw.below hb) _ _ _ hF (h4 k hlt)
      have hs : Tm.sizes (args.take k) ≤ 1000000 ∧ args[k].size ≤ 1000000 := by have := Hsz.out k hlt; omega
      go_wp2_with fail
      refine (Hih.out _ (List.getElem_mem hlt) (h5 k hlt) _ (Hsz.out k hlt).1 (hw.below hb)).mono ?_
      rintro e w1 ⟨rfl, hb1⟩
      go_wp2_with fail
      go_roundw
      case rel => exact ⟨k + 1, by go_num, by rw [Tm.sizes_take _ _ hlt]; go_num, by omega, hb.trans (hb1.mono (by omega)), hbox.below hb1⟩
      case measure => simp [intOf]; omega
    · go_wp2_with fail
      go_ret
      refine ⟨?_, hb⟩
      rw [Hend.out, List.take_of_length_le (by omega)]; rfl

end Go.Proofs.YtflbnonbfmmchaaGreat

namespace Go.Proofs.YtflbnonbfmmchaaGreat
open Go.RowKit

theorem IsSl.bel {α : Type} {r : Rp α} {F : Nat → Prop} {w w' : World} {v : Value} {l : List α} (h : IsSl r F w v l) (hb : Below w.heap.size w w') : IsSl r F w' v l := h.keep ((Keep.refl _ _).below hb)
set_option maxRecDepth 100000 in
set_option maxHeartbeats 1000000 in
theorem within_k {G G' F : Nat → Prop} {w : World} {v v' : Value} {l l' : List Ty} (h : IsSl2 rpTy G F w v l) (h' : IsSl2 rpTy G' F w v' l') (hl : l.length + l'.length ≤ 100000) :
    Calls Tryz.prog 55 #[v, v'] w (OutSl2 F (l ++ l') w) := by
  obtain ⟨a, c, rfl⟩ := h.shape
  obtain ⟨a', c', rfl⟩ := h'.shape
  have H := Lib.hid h; have H' := Lib.hid h'
  clear h h'
  obtain ⟨r, hr⟩ : ∃ r, l ++ l' = r := ⟨_, rfl⟩
  have Hr := Lib.hid hr
  rw [hr]
  clear hr
  go_enter Tryz.func55, Tryz.ntmps55
  go_wp2_with fail
  obtain ⟨w1, hw1⟩ : ∃ w1, w.alloc (.cells #[.slice a l.length c, .slice a' l'.length c'] 33) = w1 := ⟨_, rfl⟩
  have hb1 : Below w.heap.size w w1 := by rw [← hw1]; exact (Below.refl _ _).alloc (Nat.le_refl _) _
  have x : Blk w1 w.heap.size #[.slice a l.length c, .slice a' l'.length c'] 33 := by rw [← hw1]; exact Blk.new _ _ _ rfl
  try rw [hw1]
  clear hw1
  refine (concat_any2 x (H.out.bel hb1) (H'.out.bel hb1) hl).mono ?_
  rintro e w2 ⟨a2, c2, rfl, hT, hb2⟩
  have hs1 := hb1.size
  have HT := Lib.hid (hT.weaken (G' := fun q => w.heap.size ≤ q) (F' := F) (by decide) (fun q _ h => by omega) fun _ _ h => h); clear hT
  rw [Hr.out] at HT ⊢
  go_wp2_with fail
  go_ret
  exact ⟨_, _, rfl, HT.out, hb1.trans (hb2.mono hb1.size)⟩

end Go.Proofs.YtflbnonbfmmchaaGreat

namespace Go.Proofs.YtflbnonbfmmchaaGreat
open Go.RowKit

set_option maxRecDepth 100000 in
set_option maxHeartbeats 8000000 in
theorem is_k {F : Nat → Prop} {b : Int} {C M : List Ty} : ∀ (t : Tm) (w : World) (cv mv xv tb tk ti ta s ub : Value) (X : List Ty) (u : Ty), (∀ q, F q → q < w.heap.size) → IsSl rpTy F w cv C → IsSl rpTy F w mv M → IsSl2 rpTy (fun _ => True) F w xv X → IsTm F w tb tk ti ta t → IsTy F w s ub u →
    X.length + t.full ≤ 90000 → t.Fit →
    Calls Tryz.prog 62 #[.agg #[.int .i64 b, cv, mv], xv, .agg #[tb, tk, ti, ta], .agg #[s, ub]] w (RetB (IsOf C M t X u) w) := Tm.ind fun binds k i args ih => by
  intro w cv mv xv tb tk ti ta s ub X u hF hc hm hx ht hu hz hfit
  obtain ⟨ca, cc, rfl⟩ := hc.shape
  obtain ⟨ma, mc, rfl⟩ := hm.shape
  obtain ⟨xa, xc, rfl⟩ := hx.shape
  obtain ⟨rfl, rfl, hbi, hsa⟩ := ht.inv
  obtain ⟨rfl, hus⟩ := hu.inv
  simp only [Tm.binds, Tm.kind, Tm.index, Tm.args] at hbi hsa ⊢
  obtain ⟨pa, pc, rfl⟩ := hbi.shape
  obtain ⟨qa, qc, rfl⟩ := hsa.shape
  obtain ⟨ua, uc, rfl⟩ := hus.shape
  obtain ⟨_, hma, bl, off, PA, A, PN, PC, N, Cc, Kd, Ix, ha, h1, h2, h3, h4, h5⟩ := sl_cells6 hsa
  unfold maxLen at hma
  have hi : i ≤ 9223372036854775807 := (Tm.fit_iff.1 hfit).2.1
  have Hfit : Hid (∀ t ∈ args, Tm.Fit t) := (Tm.fit_iff.1 hfit).2.2
  obtain ⟨Y, hY⟩ : ∃ Y, X ++ binds = Y := ⟨_, rfl⟩
  have hYl : Y.length = X.length + binds.length := by rw [← hY]; simp
  have hbl : binds.length ≤ Ty.sizes binds := Ty.le_sizes binds
  have Hz : Hid (∀ t ∈ args, Y.length + t.full ≤ 90000) := fun t ht => by have := Tm.full_mem ht; rw [Tm.full_eq] at hz; omega
  have hla : X.length + binds.length ≤ 100000 := by rw [Tm.full_eq] at hz; omega
  have H0 := Lib.hid hF; have Hc := Lib.hid hc; have Hm := Lib.hid hm
  have Heq := Lib.hid fun (w' : World) (hb : Below w.heap.size w w') => equalFunc_k hbi hus (fun t _ => equal_k t) w' ((Keep.refl _ _).below hb) ((Keep.refl _ _).below hb)
  have Hwi := Lib.hid fun (w' : World) (hb : Below w.heap.size w w') => within_k (hx.bel hb) (IsSl2.of (hbi.bel hb)) hla
  have Hhd := Lib.hid fun (w' : World) (yv : Value) (hb : Below w.heap.size w w') (hy : IsSl2 rpTy (fun _ => True) F w' yv Y) => headType_k (b := b) (fun q hq => Nat.lt_of_lt_of_le (hF q hq) hb.size) (hc.bel hb) (hm.bel hb) hy k i hi
  have H5 := Lib.hid h5; have Hih := Lib.hid ih
  have Hh : Hid (∀ o, headTy C M Y k i = o → (IsOf C M (.mk binds k i args) X u ↔ binds = u.args ∧ ∃ h, o = some h ∧ h.base = u.base ∧ IsOfs C M args Y h.args)) := fun o ho => by rw [isOf_mk, hY, ho]
  rw [hY] at Hwi
  obtain ⟨P, hP⟩ : ∃ P, IsOf C M (.mk binds k i args) X u = P := ⟨_, rfl⟩
  rw [hP] at Hh ⊢
  obtain ⟨o, ho⟩ : ∃ o, headTy C M Y k i = o := ⟨_, rfl⟩
  have HP := Lib.hid (Hh.out o ho)
  rw [ho] at Hhd
  obtain ⟨ul, hul⟩ : ∃ ul, u.args = ul := ⟨_, rfl⟩
  obtain ⟨ud, hud⟩ : ∃ ud, u.base = ud := ⟨_, rfl⟩
  rw [hul] at Heq HP hus ⊢
  rw [hud] at HP ⊢
  clear hP ho hul hud Hh hY hF hc hm hx ht hu hz hfit hbi hsa hus h5 ih hla hYl hbl
  go_enter Tryz.func62, Tryz.ntmps62
  go_wp2_with fail
  obtain ⟨w3, hw3⟩ : ∃ w3, ((w.alloc (.cells #[.int .i64 b, .slice ca C.length cc, .slice ma M.length mc] 35)).alloc (.cells #[.slice pa binds.length pc, .int .i64 k, .int .i64 i, .slice qa args.length qc] 41)).alloc (.cells #[.slice ua ul.length uc, .int .i64 ud] 44) = w3 := ⟨_, rfl⟩
  have B_w3 : Below w.heap.size w w3 := by rw [← hw3]; exact (((Below.refl _ _).alloc (Nat.le_refl _) _).alloc (by simp) _).alloc (by simp; omega) _
  have x0_w3 : Blk w3 w.heap.size #[.int .i64 b, .slice ca C.length cc, .slice ma M.length mc] 35 := by rw [← hw3]; exact ((Blk.new _ _ _ rfl).alloc _).alloc _
  have x1_w3 : Blk w3 (w.heap.size + 1) #[.slice pa binds.length pc, .int .i64 k, .int .i64 i, .slice qa args.length qc] 41 := by rw [← hw3]; exact (Blk.new _ _ _ (by simp)).alloc _
  have x2_w3 : Blk w3 (w.heap.size + 1 + 1) #[.slice ua ul.length uc, .int .i64 ud] 44 := by rw [← hw3]; exact Blk.new _ _ _ (by simp)
  rw [hw3]
  clear hw3
  refine (Heq.out w3 B_w3).mono ?_
  intro e w4 h
  obtain ⟨r, Hr, rfl, hbx0⟩ := of_retB' h
  clear h
  have hbx : Below w3.heap.size w3 w4 := hbx0
  clear hbx0
  have x0_w4 := x0_w3.below hbx
  have x1_w4 := x1_w3.below hbx
  have x2_w4 := x2_w3.below hbx
  have B_w4 := B_w3.trans (hbx.mono B_w3.size)
  clear x0_w3 x1_w3 x2_w3 B_w3 hbx
  cases r
  · have hn : ¬ P := fun hp => no_of Hr ((HP.out.1 hp).1)
    go_wp2_with fail
    go_ret
    exact ⟨false, by simp [hn], rfl, B_w4⟩
  have hbu := yes_of Hr
  subst hbu
  clear Hr
  have cx00 : w4.cell? ⟨w.heap.size, 0, none⟩ = some (.int .i64 b) := x0_w4.cell rfl
  have cx01 : w4.cell? ⟨w.heap.size, 1, none⟩ = some (.slice ca C.length cc) := x0_w4.cell rfl
  have cx02 : w4.cell? ⟨w.heap.size, 2, none⟩ = some (.slice ma M.length mc) := x0_w4.cell rfl
  have lx0 := x0_w4.lt
  have cx10 : w4.cell? ⟨w.heap.size + 1, 0, none⟩ = some (.slice pa binds.length pc) := x1_w4.cell rfl
  have cx11 : w4.cell? ⟨w.heap.size + 1, 1, none⟩ = some (.int .i64 k) := x1_w4.cell rfl
  have cx12 : w4.cell? ⟨w.heap.size + 1, 2, none⟩ = some (.int .i64 i) := x1_w4.cell rfl
  have cx13 : w4.cell? ⟨w.heap.size + 1, 3, none⟩ = some (.slice qa args.length qc) := x1_w4.cell rfl
  have lx1 := x1_w4.lt
  have cx20 : w4.cell? ⟨w.heap.size + 1 + 1, 0, none⟩ = some (.slice ua binds.length uc) := x2_w4.cell rfl
  have cx21 : w4.cell? ⟨w.heap.size + 1 + 1, 1, none⟩ = some (.int .i64 ud) := x2_w4.cell rfl
  have lx2 := x2_w4.lt
  go_wp2_with fail
  refine (Hwi.out w4 B_w4).mono ?_
  rintro e w5 ⟨ya, yc, rfl, hT, hbx0⟩
  have hbx : Below w4.heap.size w4 w5 := hbx0
  clear hbx0
  clear cx00 cx01 cx02 lx0 cx10 cx11 cx12 cx13 lx1 cx20 cx21 lx2
  have x0_w5 := x0_w4.below hbx
  have x1_w5 := x1_w4.below hbx
  have x2_w5 := x2_w4.below hbx
  have B_w5 := B_w4.trans (hbx.mono B_w4.size)
  clear x0_w4 x1_w4 x2_w4 B_w4 hbx
  have T_w5 := Lib.hid (hT.anyRow (by decide))
  clear hT
  have cx00 : w5.cell? ⟨w.heap.size, 0, none⟩ = some (.int .i64 b) := x0_w5.cell rfl
  have cx01 : w5.cell? ⟨w.heap.size, 1, none⟩ = some (.slice ca C.length cc) := x0_w5.cell rfl
  have cx02 : w5.cell? ⟨w.heap.size, 2, none⟩ = some (.slice ma M.length mc) := x0_w5.cell rfl
  have lx0 := x0_w5.lt
  have cx10 : w5.cell? ⟨w.heap.size + 1, 0, none⟩ = some (.slice pa binds.length pc) := x1_w5.cell rfl
  have cx11 : w5.cell? ⟨w.heap.size + 1, 1, none⟩ = some (.int .i64 k) := x1_w5.cell rfl
  have cx12 : w5.cell? ⟨w.heap.size + 1, 2, none⟩ = some (.int .i64 i) := x1_w5.cell rfl
  have cx13 : w5.cell? ⟨w.heap.size + 1, 3, none⟩ = some (.slice qa args.length qc) := x1_w5.cell rfl
  have lx1 := x1_w5.lt
  have cx20 : w5.cell? ⟨w.heap.size + 1 + 1, 0, none⟩ = some (.slice ua binds.length uc) := x2_w5.cell rfl
  have cx21 : w5.cell? ⟨w.heap.size + 1 + 1, 1, none⟩ = some (.int .i64 ud) := x2_w5.cell rfl
  have lx2 := x2_w5.lt
  go_wp2_with fail
  refine (Hhd.out w5 _ B_w5 T_w5.out).mono ?_
  rintro e w6 ⟨s6, b6, rfl, hT, hbx0⟩
  have hbx : Below w5.heap.size w5 w6 := hbx0
  clear hbx0
  clear cx00 cx01 cx02 lx0 cx10 cx11 cx12 cx13 lx1 cx20 cx21 lx2
  have x0_w6 := x0_w5.below hbx
  have x1_w6 := x1_w5.below hbx
  have x2_w6 := x2_w5.below hbx
  have T_w6 := Lib.hid (T_w5.out.bel hbx)
  have B_w6 := B_w5.trans (hbx.mono B_w5.size)
  clear x0_w5 x1_w5 x2_w5 T_w5 B_w5 hbx
  obtain ⟨h0, hh0⟩ : ∃ h0, o.getD tyZ = h0 := ⟨_, rfl⟩
  have Hh0 := Lib.hid hh0
  rw [hh0] at hT
  clear hh0
  obtain ⟨ha6, hc6, rfl, rfl⟩ := hT.shape
  have hat := sl_at (IsSl2.of hT.inv.2)
  obtain ⟨n0, hn0⟩ : ∃ n0, h0.args.length = n0 := ⟨_, rfl⟩
  obtain ⟨d0, hd0⟩ : ∃ d0, h0.base = d0 := ⟨_, rfl⟩
  rw [hn0] at hT ⊢
  rw [hd0] at hT ⊢
  have Hn0 := Lib.hid hn0; have Hd0 := Lib.hid hd0
  have Hat := Lib.hid hat
  clear hT hn0 hd0 hat
  cases hs : o.isSome
  · have hn : ¬ P := fun hp => by
      obtain ⟨_, h, e, _⟩ := HP.out.1 hp
      rw [e] at hs; cases hs
    have cx00 : w6.cell? ⟨w.heap.size, 0, none⟩ = some (.int .i64 b) := x0_w6.cell rfl
    have cx01 : w6.cell? ⟨w.heap.size, 1, none⟩ = some (.slice ca C.length cc) := x0_w6.cell rfl
    have cx02 : w6.cell? ⟨w.heap.size, 2, none⟩ = some (.slice ma M.length mc) := x0_w6.cell rfl
    have lx0 := x0_w6.lt
    have cx10 : w6.cell? ⟨w.heap.size + 1, 0, none⟩ = some (.slice pa binds.length pc) := x1_w6.cell rfl
    have cx11 : w6.cell? ⟨w.heap.size + 1, 1, none⟩ = some (.int .i64 k) := x1_w6.cell rfl
    have cx12 : w6.cell? ⟨w.heap.size + 1, 2, none⟩ = some (.int .i64 i) := x1_w6.cell rfl
    have cx13 : w6.cell? ⟨w.heap.size + 1, 3, none⟩ = some (.slice qa args.length qc) := x1_w6.cell rfl
    have lx1 := x1_w6.lt
    have cx20 : w6.cell? ⟨w.heap.size + 1 + 1, 0, none⟩ = some (.slice ua binds.length uc) := x2_w6.cell rfl
    have cx21 : w6.cell? ⟨w.heap.size + 1 + 1, 1, none⟩ = some (.int .i64 ud) := x2_w6.cell rfl
    have lx2 := x2_w6.lt
    go_wp2_with fail
    go_ret
    exact ⟨false, by simp [hn], rfl, by first | exact B_w6.alloc B_w6.size _ | exact B_w6⟩
  obtain ⟨h0', rfl⟩ := Option.isSome_iff_exists.1 hs
  obtain rfl : h0' = h0 := Hh0.out
  have HP2 : Hid (P ↔ d0 = ud ∧ IsOfs C M args Y h0'.args) := by
    show P ↔ _
    rw [HP.out, ← Hd0.out]
    simp
  clear HP hs Hh0
  have cx00 : w6.cell? ⟨w.heap.size, 0, none⟩ = some (.int .i64 b) := x0_w6.cell rfl
  have cx01 : w6.cell? ⟨w.heap.size, 1, none⟩ = some (.slice ca C.length cc) := x0_w6.cell rfl
  have cx02 : w6.cell? ⟨w.heap.size, 2, none⟩ = some (.slice ma M.length mc) := x0_w6.cell rfl
  have lx0 := x0_w6.lt
  have cx10 : w6.cell? ⟨w.heap.size + 1, 0, none⟩ = some (.slice pa binds.length pc) := x1_w6.cell rfl
  have cx11 : w6.cell? ⟨w.heap.size + 1, 1, none⟩ = some (.int .i64 k) := x1_w6.cell rfl
  have cx12 : w6.cell? ⟨w.heap.size + 1, 2, none⟩ = some (.int .i64 i) := x1_w6.cell rfl
  have cx13 : w6.cell? ⟨w.heap.size + 1, 3, none⟩ = some (.slice qa args.length qc) := x1_w6.cell rfl
  have lx1 := x1_w6.lt
  have cx20 : w6.cell? ⟨w.heap.size + 1 + 1, 0, none⟩ = some (.slice ua binds.length uc) := x2_w6.cell rfl
  have cx21 : w6.cell? ⟨w.heap.size + 1 + 1, 1, none⟩ = some (.int .i64 ud) := x2_w6.cell rfl
  have lx2 := x2_w6.lt
  by_cases hd : d0 = ud
  rotate_left
  · have hn : ¬ P := fun hp => hd (HP2.out.1 hp).1
    have g1 : (d0 == ud) = false := by simpa using hd
    have g2 : (d0 != ud) = true := by simpa using hd
    go_wp2_with fail
    go_ret
    exact ⟨false, by simp [hn], rfl, by first | exact B_w6.alloc B_w6.size _ | exact B_w6⟩
  subst hd
  by_cases hn : (n0 : Int) = (args.length : Int)
  rotate_left
  · have hnn : ¬ P := fun hp => by
      have h := (isOfs_iff.1 (HP2.out.1 hp).2).1
      have := Hn0.out
      omega
    have g1 : ((n0 : Int) == (args.length : Int)) = false := by simpa using hn
    have g2 : ((n0 : Int) != (args.length : Int)) = true := by simpa using hn
    go_wp2_with fail
    go_ret
    exact ⟨false, by simp [hnn], rfl, by first | exact B_w6.alloc B_w6.size _ | exact B_w6⟩
  have hnn : n0 = args.length := by omega
  subst hnn
  clear hn
  have HP3 : Hid (P ↔ ∀ j (h : j < args.length) (h' : j < h0'.args.length), IsOf C M args[j] Y h0'.args[j]) := by
    show P ↔ _
    rw [HP2.out, isOfs_iff]
    simp [Hn0.out]
  clear HP2
  go_wp2_with fail
  obtain ⟨w7, hw7⟩ : ∃ w7, w6.alloc (.cells #[.slice ha6 args.length hc6, .int .i64 d0] 44) = w7 := ⟨_, rfl⟩
  have hbx : Below w6.heap.size w6 w7 := by rw [← hw7]; exact (Below.refl _ _).alloc (Nat.le_refl _) _
  obtain ⟨p, hp⟩ : ∃ p, w6.heap.size = p := ⟨_, rfl⟩
  have xh_w7 : Blk w7 p #[.slice ha6 args.length hc6, .int .i64 d0] 44 := by rw [← hw7]; exact Blk.new _ _ _ hp.symm
  try rw [hw7]
  try rw [hp]
  clear cx00 cx01 cx02 cx10 cx11 cx12 cx13 cx20 cx21 lx0 lx1 lx2 hw7
  have Hbx := Lib.hid hbx
  have x0_w7 := x0_w6.below hbx
  have x1_w7 := x1_w6.below hbx
  have x2_w7 := x2_w6.below hbx
  have T_w7 := Lib.hid (T_w6.out.bel hbx)
  have B_w7 := B_w6.trans (hbx.mono B_w6.size)
  clear x0_w6 x1_w6 x2_w6 T_w6 B_w6 hbx
  clear hp
  have H0' := Lib.hid fun q hq => Nat.lt_of_lt_of_le (H0.out q hq) B_w7.size
  have Bw7 := Lib.hid B_w7
  clear B_w7
  go_loopw [12, 13, 53] (fun _ _ c wr => ∃ j : Nat, c = .int .i64 j ∧ j ≤ args.length ∧ Hid (∀ m (h : m < args.length) (h' : m < h0'.args.length), m < j → IsOf C M args[m] Y h0'.args[m]) ∧ Below w7.heap.size w7 wr) (fun _ _ c _ => args.length - (intOf c).toNat)
  case atStart => exact ⟨0, rfl, by omega, fun m _ _ h => absurd h (by omega), Below.refl _ _⟩
  case round =>
    obtain ⟨j, rfl, hj, hrel, hbr⟩ := hrel
    have Hbr := Lib.hid hbr
    have B_wr := Bw7.out.trans (hbr.mono Bw7.out.size)
    have x0_wr := x0_w7.below hbr; have x1_wr := x1_w7.below hbr; have x2_wr := x2_w7.below hbr; have xh_wr := xh_w7.below hbr
    have T_wr := Lib.hid (T_w7.out.bel hbr)
    clear x0_w7 x1_w7 x2_w7 xh_w7 T_w7 hbr
    by_cases hlt : j < args.length
    · obtain ⟨rfl, hF⟩ := ha (by omega)
      have i1 : (j : Int) < (args.length : Int) := by omega
      have hj' : j < h0'.args.length := by have := Hn0.out; omega
      obtain ⟨bl', off', A', N', C', B', rfl, hF', e5, e6, hU⟩ := Hat.out j hj'
      have Kp : Keep F w wr := (Keep.refl _ _).below B_wr
      have e1 := Kp _ _ _ hF (h1 j hlt)
      have e2 := Kp _ _ _ hF (h2 j hlt)
      have e3 := Kp _ _ _ hF (h3 j hlt)
      have e4 := Kp _ _ _ hF (h4 j hlt)
      have B6r : Below w6.heap.size w6 wr := Hbx.out.trans (Hbr.out.mono Hbx.out.size)
      have e5wr := ((Keep.refl (fun _ => True) _).below B6r) _ _ _ trivial e5
      have e6wr := ((Keep.refl (fun _ => True) _).below B6r) _ _ _ trivial e6
      have U_wr := Lib.hid (hU.bel B6r)
      have V_wr := Lib.hid ((H5.out j hlt).bel B_wr)
      clear e5 e6 hU B6r Kp
      go_wp2_with fail
      clear e1 e2 e3 e4
      obtain ⟨v1, hv1⟩ : ∃ v1, wr.alloc (.cells #[.slice (PA j) (PN j) (PC j), .int .i64 (Kd j), .int .i64 (Ix j), .slice (A j) (N j) (Cc j)] 41) = v1 := ⟨_, rfl⟩
      have hbx : Below wr.heap.size wr v1 := by rw [← hv1]; exact (Below.refl _ _).alloc (Nat.le_refl _) _
      obtain ⟨q, hq⟩ : ∃ q, wr.heap.size = q := ⟨_, rfl⟩
      have xa_v1 : Blk v1 q #[.slice (PA j) (PN j) (PC j), .int .i64 (Kd j), .int .i64 (Ix j), .slice (A j) (N j) (Cc j)] 41 := by rw [← hv1]; exact Blk.new _ _ _ hq.symm
      try rw [hv1]
      try rw [hq]
      have e5v1 := ((Keep.refl (fun _ => True) _).below hbx) _ _ _ trivial e5wr
      have e6v1 := ((Keep.refl (fun _ => True) _).below hbx) _ _ _ trivial e6wr
      clear e5wr e6wr hv1
      have B7v : Below w7.heap.size w7 v1 := Hbr.out.trans (hbx.mono Hbr.out.size)
      have x0_v1 := x0_wr.below hbx
      have xh_v1 := xh_wr.below hbx
      have T_v1 := Lib.hid (T_wr.out.bel hbx)
      have U_v1 := Lib.hid (U_wr.out.bel hbx)
      have V_v1 := Lib.hid (V_wr.out.bel hbx)
      have B_v1 := B_wr.trans (hbx.mono B_wr.size)
      clear x0_wr xh_wr T_wr U_wr V_wr B_wr hbx
      clear hq
      refine wp_region_noPanic (wp_region_need (S := fun w' => w'.cell? ⟨w.heap.size, 0, none⟩ = some (.int .i64 b) ∧ w'.cell? ⟨w.heap.size, 1, none⟩ = some (.slice ca C.length cc) ∧ w'.cell? ⟨w.heap.size, 2, none⟩ = some (.slice ma M.length mc) ∧ w'.cell? ⟨p, 0, none⟩ = some (.slice (some ⟨bl', off', none⟩) args.length hc6) ∧ w'.cell? ⟨p, 1, none⟩ = some (.int .i64 d0) ∧ w'.cell? ⟨q, 0, none⟩ = some (.slice (PA j) (PN j) (PC j)) ∧ w'.cell? ⟨q, 1, none⟩ = some (.int .i64 (Kd j)) ∧ w'.cell? ⟨q, 2, none⟩ = some (.int .i64 (Ix j)) ∧ w'.cell? ⟨q, 3, none⟩ = some (.slice (A j) (N j) (Cc j)) ∧ w'.cell? ⟨bl', off' + j * 2, none⟩ = some (.slice A' N' C') ∧ w'.cell? ⟨bl', off' + j * 2 + 1, none⟩ = some (.int .i64 B')) (by kernel_rfl) ?_)
      have hS : (v1.drew).cell? ⟨w.heap.size, 0, none⟩ = some (.int .i64 b) ∧ (v1.drew).cell? ⟨w.heap.size, 1, none⟩ = some (.slice ca C.length cc) ∧ (v1.drew).cell? ⟨w.heap.size, 2, none⟩ = some (.slice ma M.length mc) ∧ (v1.drew).cell? ⟨p, 0, none⟩ = some (.slice (some ⟨bl', off', none⟩) args.length hc6) ∧ (v1.drew).cell? ⟨p, 1, none⟩ = some (.int .i64 d0) ∧ (v1.drew).cell? ⟨q, 0, none⟩ = some (.slice (PA j) (PN j) (PC j)) ∧ (v1.drew).cell? ⟨q, 1, none⟩ = some (.int .i64 (Kd j)) ∧ (v1.drew).cell? ⟨q, 2, none⟩ = some (.int .i64 (Ix j)) ∧ (v1.drew).cell? ⟨q, 3, none⟩ = some (.slice (A j) (N j) (Cc j)) ∧ (v1.drew).cell? ⟨bl', off' + j * 2, none⟩ = some (.slice A' N' C') ∧ (v1.drew).cell? ⟨bl', off' + j * 2 + 1, none⟩ = some (.int .i64 B') := ⟨x0_v1.drew.cell rfl, x0_v1.drew.cell rfl, x0_v1.drew.cell rfl, xh_v1.drew.cell rfl, xh_v1.drew.cell rfl, xa_v1.drew.cell rfl, xa_v1.drew.cell rfl, xa_v1.drew.cell rfl, xa_v1.drew.cell rfl, e5v1, e6v1⟩
      refine wpN_take (i := 0) (v := ?v1) rfl (by kernel_rfl) (fun _ _ _ h => h) hS (Or.inl ⟨by rfl, ?hy1⟩) ?hr1
      case hy1 => (intro wS hSw; (try dsimp only at hSw); go_simp; (try with_reducible rfl))
      try simp only [Act.put, List.setIfInBounds_toArray, List.set_cons_zero, List.set_cons_succ, List.getElem_toArray, List.getElem_cons_zero, List.getElem_cons_succ]
      refine wpN_take (i := 1) (v := ?v2) rfl (by kernel_rfl) (fun _ _ _ h => h) hS (Or.inl ⟨by rfl, ?hy2⟩) ?hr2
      case hy2 => (intro wS hSw; (try dsimp only at hSw); go_simp; (try with_reducible rfl))
      try simp only [Act.put, List.setIfInBounds_toArray, List.set_cons_zero, List.set_cons_succ, List.getElem_toArray, List.getElem_cons_zero, List.getElem_cons_succ]
      refine wpN_take (i := 2) (v := ?v3) rfl (by kernel_rfl) (fun _ _ _ h => h) hS (Or.inl ⟨by rfl, ?hy3⟩) ?hr3
      case hy3 => (intro wS hSw; (try dsimp only at hSw); go_simp; (try with_reducible rfl))
      try simp only [Act.put, List.setIfInBounds_toArray, List.set_cons_zero, List.set_cons_succ, List.getElem_toArray, List.getElem_cons_zero, List.getElem_cons_succ]
      refine wpN_take (i := 3) (v := ?v4) rfl (by kernel_rfl) (fun _ _ _ h => h) hS (Or.inl ⟨by rfl, ?hy4⟩) ?hr4
      case hy4 => (intro wS hSw; (try dsimp only at hSw); go_simp; (try with_reducible rfl))
      try simp only [Act.put, List.setIfInBounds_toArray, List.set_cons_zero, List.set_cons_succ, List.getElem_toArray, List.getElem_cons_zero, List.getElem_cons_succ]
      refine wpN_take (i := 4) (v := ?v5) rfl (by kernel_rfl) (fun _ _ _ h => h) hS (Or.inl ⟨by rfl, ?hy5⟩) ?hr5
      case hy5 => (intro wS hSw; (try dsimp only at hSw); go_simp; (try with_reducible rfl))
      try simp only [Act.put, List.setIfInBounds_toArray, List.set_cons_zero, List.set_cons_succ, List.getElem_toArray, List.getElem_cons_zero, List.getElem_cons_succ]
      refine wpN_take (i := 5) (v := ?v6) rfl (by kernel_rfl) (fun _ _ _ h => h) hS (Or.inl ⟨by rfl, ?hy6⟩) ?hr6
      case hy6 => (intro wS hSw; (try dsimp only at hSw); go_simp; (try with_reducible rfl))
      try simp only [Act.put, List.setIfInBounds_toArray, List.set_cons_zero, List.set_cons_succ, List.getElem_toArray, List.getElem_cons_zero, List.getElem_cons_succ]
      refine wpN_take (i := 6) (v := ?v7) rfl (by kernel_rfl) (fun _ _ _ h => h) hS (Or.inl ⟨by rfl, ?hy7⟩) ?hr7
      case hy7 => (intro wS hSw; (try dsimp only at hSw); go_simp; (try with_reducible rfl))
      try simp only [Act.put, List.setIfInBounds_toArray, List.set_cons_zero, List.set_cons_succ, List.getElem_toArray, List.getElem_cons_zero, List.getElem_cons_succ]
      refine wpN_take (i := 7) (v := ?v8) rfl (by kernel_rfl) (fun _ _ _ h => h) hS (Or.inl ⟨by rfl, ?hy8⟩) ?hr8
      case hy8 => (intro wS hSw; (try dsimp only at hSw); go_simp; (try with_reducible rfl))
      try simp only [Act.put, List.setIfInBounds_toArray, List.set_cons_zero, List.set_cons_succ, List.getElem_toArray, List.getElem_cons_zero, List.getElem_cons_succ]
      refine wpN_step (i := 8) (by kernel_rfl) rfl (fun K hK => ?_)
      go_simp
      have hb0 : Below w.heap.size w v1.drew := B_v1.drew
      refine (Hih.out _ (List.getElem_mem hlt) v1.drew _ _ _ _ _ _ _ _ _ Y h0'.args[j] (fun q hq => Nat.lt_of_lt_of_le (H0.out q hq) hb0.size) (Hc.out.bel hb0) (Hm.out.bel hb0) (T_v1.out.bel (Below.refl _ _).drew) (V_v1.out.bel (Below.refl _ _).drew) (U_v1.out.bel (Below.refl _ _).drew) (Hz.out _ (List.getElem_mem hlt)) (Hfit.out _ (List.getElem_mem hlt))).mono ?_
      intro e v2 h
      obtain ⟨r, Hr, rfl, hbx0⟩ := of_retB' h
      clear h
      have hbx : Below v1.heap.size v1 v2 := (Below.refl _ _).drew.trans hbx0
      have e5v2 := ((Keep.refl (fun _ => True) _).below hbx) _ _ _ trivial e5v1
      have e6v2 := ((Keep.refl (fun _ => True) _).below hbx) _ _ _ trivial e6v1
      have B72 : Below w7.heap.size w7 v2 := B7v.trans (hbx.mono B7v.size)
      have xa_v2 := xa_v1.below hbx
      clear hbx0 hb0 e5v1 e6v1 B7v xa_v1
      have x0_v2 := x0_v1.below hbx
      have xh_v2 := xh_v1.below hbx
      have T_v2 := Lib.hid (T_v1.out.bel hbx)
      have U_v2 := Lib.hid (U_v1.out.bel hbx)
      have V_v2 := Lib.hid (V_v1.out.bel hbx)
      have B_v2 := B_v1.trans (hbx.mono B_v1.size)
      clear x0_v1 xh_v1 T_v1 U_v1 V_v1 B_v1 hbx
      have hS : (v2).cell? ⟨w.heap.size, 0, none⟩ = some (.int .i64 b) ∧ (v2).cell? ⟨w.heap.size, 1, none⟩ = some (.slice ca C.length cc) ∧ (v2).cell? ⟨w.heap.size, 2, none⟩ = some (.slice ma M.length mc) ∧ (v2).cell? ⟨p, 0, none⟩ = some (.slice (some ⟨bl', off', none⟩) args.length hc6) ∧ (v2).cell? ⟨p, 1, none⟩ = some (.int .i64 d0) ∧ (v2).cell? ⟨q, 0, none⟩ = some (.slice (PA j) (PN j) (PC j)) ∧ (v2).cell? ⟨q, 1, none⟩ = some (.int .i64 (Kd j)) ∧ (v2).cell? ⟨q, 2, none⟩ = some (.int .i64 (Ix j)) ∧ (v2).cell? ⟨q, 3, none⟩ = some (.slice (A j) (N j) (Cc j)) ∧ (v2).cell? ⟨bl', off' + j * 2, none⟩ = some (.slice A' N' C') ∧ (v2).cell? ⟨bl', off' + j * 2 + 1, none⟩ = some (.int .i64 B') := ⟨x0_v2.cell rfl, x0_v2.cell rfl, x0_v2.cell rfl, xh_v2.cell rfl, xh_v2.cell rfl, xa_v2.cell rfl, xa_v2.cell rfl, xa_v2.cell rfl, xa_v2.cell rfl, e5v2, e6v2⟩
      refine hK.out _ _ (fun _ => hS) ?_
      clear hK K
      try simp only [Act.put, List.setIfInBounds_toArray, List.set_cons_zero, List.set_cons_succ, List.getElem_toArray, List.getElem_cons_zero, List.getElem_cons_succ]
      refine wpN_take (i := 9) (v := ?v9) rfl (by kernel_rfl) (fun _ _ _ h => h) hS (Or.inl ⟨by rfl, ?hy9⟩) ?hr9
      case hy9 => (intro wS hSw; (try dsimp only at hSw); go_simp; (try with_reducible rfl))
      try simp only [Act.put, List.setIfInBounds_toArray, List.set_cons_zero, List.set_cons_succ, List.getElem_toArray, List.getElem_cons_zero, List.getElem_cons_succ]
      refine wpN_done (by kernel_rfl) ?_
      refine NoPanic.normal ?_
      clear hS
      cases r
      · have hn : ¬ P := fun hp => no_of Hr.out (HP3.out.1 hp j hlt hj')
        go_wp2_with fail
        go_ret
        exact ⟨false, by simp [hn], rfl, B_v2⟩
      · have Hy := Lib.hid (yes_of Hr.out)
        go_wp2_with fail
        go_roundw
        case rel => exact ⟨j + 1, by go_num, by omega, fun m h h' hm => by
          by_cases hmj : m < j
          · exact hrel.out m h h' hmj
          · obtain rfl : m = j := by omega
            exact Hy.out, B72⟩
        case measure => simp [intOf]; omega
    · have hp : P := HP3.out.2 fun m h h' => hrel.out m h h' (by omega)
      go_wp2_with fail
      go_ret
      exact ⟨true, by simp [hp], rfl, B_wr⟩
end Go.Proofs.YtflbnonbfmmchaaGreat

namespace Go.Proofs.YtflbnonbfmmchaaGreat
open Go.RowKit

end Go.Proofs.YtflbnonbfmmchaaGreat

namespace Go.Proofs.YtflbnonbfmmchaaGreat
open Go.RowKit

def checkCode (C M : List Ty) (t : Tm) (X : List Ty) (u : Ty) (c : Int) : Prop := (¬ (t.size ≤ 5000 ∧ t.depth ≤ 60) ∧ c = 2) ∨ ((t.size ≤ 5000 ∧ t.depth ≤ 60) ∧ ¬ IsOf C M t X u ∧ c = 5) ∨ ((t.size ≤ 5000 ∧ t.depth ≤ 60) ∧ IsOf C M t X u ∧ c = 0)
theorem checkCode_uniq {C M : List Ty} {t : Tm} {X : List Ty} {u : Ty} {c c' : Int} (h : checkCode C M t X u c) (h' : checkCode C M t X u c') : c = c' := by
  unfold checkCode at h h'
  rcases h with ⟨h1, h2⟩ | ⟨h1, h2, h3⟩ | ⟨h1, h2, h3⟩ <;> rcases h' with ⟨g1, g2⟩ | ⟨g1, g2, g3⟩ | ⟨g1, g2, g3⟩ <;> first | omega | exact absurd h1 g1 | exact absurd g1 h1 | exact absurd h2 g2 | exact absurd g2 h2
def RetCheck (C M : List Ty) (t : Tm) (X : List Ty) (u : Ty) (w : World) (e : Ending) (w' : World) : Prop := ∃ c : Int, Hid (checkCode C M t X u c) ∧ e = .returned (.int .i64 c) ∧ Below w.heap.size w w'

set_option maxRecDepth 100000 in
set_option maxHeartbeats 4000000 in
theorem Check_k {F : Nat → Prop} {b : Int} {C M : List Ty} (t : Tm) (w : World) (cv mv xv tb tk ti ta s ub : Value) (X : List Ty) (u : Ty) (hF : ∀ q, F q → q < w.heap.size) (hc : IsSl rpTy F w cv C) (hm : IsSl rpTy F w mv M) (hx : IsSl2 rpTy (fun _ => True) F w xv X) (ht : IsTm F w tb tk ti ta t) (hu : IsTy F w s ub u)
    (hz : X.length + t.full ≤ 90000) (hfit : t.Fit) :
    Calls Tryz.prog 16 #[.agg #[.int .i64 b, cv, mv], xv, .agg #[tb, tk, ti, ta], .agg #[s, ub]] w (RetCheck C M t X u w) := by
  have Hi := Lib.hid fun (w' : World) (hb : Below w.heap.size w w') => is_k (b := b) t w' cv mv xv tb tk ti ta s ub X u (fun q hq => Nat.lt_of_lt_of_le (hF q hq) hb.size) (hc.bel hb) (hm.bel hb) (hx.bel hb) (ht.bel hb) (hu.bel hb) hz hfit
  have Hrt := Lib.hid fun (w' : World) (hb : Below w.heap.size w w') => right6_k (ht.bel hb) (by omega)
  obtain ⟨ca, cc, rfl⟩ := hc.shape
  obtain ⟨ma, mc, rfl⟩ := hm.shape
  obtain ⟨xa, xc, rfl⟩ := hx.shape
  obtain ⟨ua, uc, rfl, rfl⟩ := hu.shape
  obtain ⟨t_pa, t_pc, t_qa, t_qc, rfl, rfl, rfl, rfl⟩ := ht.shape
  obtain ⟨t_n, ht_n⟩ : ∃ x, t.binds.length = x := ⟨_, rfl⟩
  obtain ⟨t_m, ht_m⟩ : ∃ x, t.args.length = x := ⟨_, rfl⟩
  obtain ⟨t_k, ht_k⟩ : ∃ x, t.kind = x := ⟨_, rfl⟩
  obtain ⟨t_i, ht_i⟩ : ∃ x, t.index = x := ⟨_, rfl⟩
  rw [ht_n, ht_m, ht_k, ht_i] at ht ⊢
  have Et_n := Lib.hid ht_n
  have Et_m := Lib.hid ht_m
  have Et_k := Lib.hid ht_k
  have Et_i := Lib.hid ht_i
  clear ht_n ht_m ht_k ht_i
  obtain ⟨n1, hn1⟩ : ∃ n, u.args.length = n := ⟨_, rfl⟩
  obtain ⟨n2, hn2⟩ : ∃ n, u.base = n := ⟨_, rfl⟩
  rw [hn1, hn2] at Hi ⊢
  rw [Et_n.out, Et_m.out, Et_k.out, Et_i.out] at Hi Hrt
  clear hn1 hn2 hc hm hx ht hu hz hfit hF
  go_enter Tryz.func16, Tryz.ntmps16
  go_wp2_with fail
  obtain ⟨w3, hw3⟩ : ∃ w3, ((w.alloc (.cells #[.int .i64 b, .slice ca C.length cc, .slice ma M.length mc] 35)).alloc (.cells #[.slice t_pa t_n t_pc, .int .i64 t_k, .int .i64 t_i, .slice t_qa t_m t_qc] 41)).alloc (.cells #[.slice ua n1 uc, .int .i64 n2] 44) = w3 := ⟨_, rfl⟩
  have B_w3 : Below w.heap.size w w3 := by rw [← hw3]; exact (((Below.refl _ _).alloc (Nat.le_refl _) _).alloc (by simp) _).alloc (by simp; omega) _
  have x0_w3 : Blk w3 w.heap.size #[.int .i64 b, .slice ca C.length cc, .slice ma M.length mc] 35 := by rw [← hw3]; exact ((Blk.new _ _ _ rfl).alloc _).alloc _
  have x1_w3 : Blk w3 (w.heap.size + 1) #[.slice t_pa t_n t_pc, .int .i64 t_k, .int .i64 t_i, .slice t_qa t_m t_qc] 41 := by rw [← hw3]; exact (Blk.new _ _ _ (by simp)).alloc _
  have x2_w3 : Blk w3 (w.heap.size + 1 + 1) #[.slice ua n1 uc, .int .i64 n2] 44 := by rw [← hw3]; exact Blk.new _ _ _ (by simp)
  rw [hw3]
  clear hw3
  refine (Hrt.out w3 B_w3).mono ?_
  intro e w4 h
  obtain ⟨r, Hr, rfl, hbx0⟩ := of_retB' h
  clear h
  have hbx : Below w3.heap.size w3 w4 := hbx0
  clear hbx0
  have x0_w4 := x0_w3.below hbx
  have x1_w4 := x1_w3.below hbx
  have x2_w4 := x2_w3.below hbx
  have B_w4 := B_w3.trans (hbx.mono B_w3.size)
  clear x0_w3 x1_w3 x2_w3 B_w3 hbx
  cases r
  · go_wp2_with fail
    go_ret
    exact ⟨_, .inl ⟨no_of Hr.out, rfl⟩, rfl, B_w4⟩
  have hy := Lib.hid (yes_of Hr.out)
  clear Hr
  have cx00 : w4.cell? ⟨w.heap.size, 0, none⟩ = some (.int .i64 b) := x0_w4.cell rfl
  have cx01 : w4.cell? ⟨w.heap.size, 1, none⟩ = some (.slice ca C.length cc) := x0_w4.cell rfl
  have cx02 : w4.cell? ⟨w.heap.size, 2, none⟩ = some (.slice ma M.length mc) := x0_w4.cell rfl
  have lx0 := x0_w4.lt
  have cx10 : w4.cell? ⟨w.heap.size + 1, 0, none⟩ = some (.slice t_pa t_n t_pc) := x1_w4.cell rfl
  have cx11 : w4.cell? ⟨w.heap.size + 1, 1, none⟩ = some (.int .i64 t_k) := x1_w4.cell rfl
  have cx12 : w4.cell? ⟨w.heap.size + 1, 2, none⟩ = some (.int .i64 t_i) := x1_w4.cell rfl
  have cx13 : w4.cell? ⟨w.heap.size + 1, 3, none⟩ = some (.slice t_qa t_m t_qc) := x1_w4.cell rfl
  have lx1 := x1_w4.lt
  have cx20 : w4.cell? ⟨w.heap.size + 1 + 1, 0, none⟩ = some (.slice ua n1 uc) := x2_w4.cell rfl
  have cx21 : w4.cell? ⟨w.heap.size + 1 + 1, 1, none⟩ = some (.int .i64 n2) := x2_w4.cell rfl
  have lx2 := x2_w4.lt
  go_wp2_with fail
  refine (Hi.out w4 B_w4).mono ?_
  intro e w5 h
  obtain ⟨r2, Hr2, rfl, hbx0⟩ := of_retB' h
  clear h
  have hbx : Below w4.heap.size w4 w5 := hbx0
  clear hbx0
  clear cx00 cx01 cx02 lx0 cx10 cx11 cx12 cx13 lx1 cx20 cx21 lx2
  have x0_w5 := x0_w4.below hbx
  have x1_w5 := x1_w4.below hbx
  have x2_w5 := x2_w4.below hbx
  have B_w5 := B_w4.trans (hbx.mono B_w4.size)
  clear x0_w4 x1_w4 x2_w4 B_w4 hbx
  cases r2
  · go_wp2_with fail
    go_ret
    exact ⟨_, .inr (.inl ⟨hy.out, no_of Hr2.out, rfl⟩), rfl, B_w5⟩
  · have hy2 := Lib.hid (yes_of Hr2.out)
    clear Hr2
    go_wp2_with fail
    go_ret
    exact ⟨_, .inr (.inr ⟨hy.out, hy2.out, rfl⟩), rfl, B_w5⟩
end Go.Proofs.YtflbnonbfmmchaaGreat

namespace Go.Proofs.YtflbnonbfmmchaaGreat
open Go.RowKit
namespace Li
def bad (M : List Ty) (x : Int) : Bool := decide (x < 0 ∨ (M.length : Int) ≤ x)
end Li
end Go.Proofs.YtflbnonbfmmchaaGreat

namespace Go.Proofs.YtflbnonbfmmchaaGreat
open Go.RowKit

end Go.Proofs.YtflbnonbfmmchaaGreat

namespace Go.Proofs.YtflbnonbfmmchaaGreat
open Go.RowKit

def TyPostE (F : Nat → Prop) (o : Option Ty) (w : World) (e : Ending) (w' : World) : Prop := ∃ s b, e = .returned (.tuple #[.agg #[s, b], .int .i64 (if o.isSome then 0 else 10)]) ∧ IsTy F w' s b (o.getD tyZ) ∧ Below w.heap.size w w'

theorem IsTy.trueb {F : Nat → Prop} {w : World} {s b : Value} {t : Ty} (h : IsTy F w s b t) : IsTy (fun _ => True) w s b t := h.weaken fun _ _ _ => trivial
set_option maxRecDepth 100000 in
set_option maxHeartbeats 4000000 in
theorem HeadType_k {F : Nat → Prop} {w : World} {b : Int} {cv mv xv : Value} {C M X : List Ty} (hF : ∀ q, F q → q < w.heap.size) (hc : IsSl rpTy F w cv C) (hm : IsSl rpTy F w mv M) (hx : IsSl2 rpTy (fun _ => True) F w xv X) (k i : Int) (hi : i ≤ 9223372036854775807)
    (hsz : ∀ t, headTy C M X k i = some t → t.size ≤ 90000) :
    Calls Tryz.prog 81 #[.agg #[.int .i64 b, cv, mv], xv, .agg #[.int .i64 k, .int .i64 i]] w (TyPostE (fun q => w.heap.size ≤ q) (headTy C M X k i) w) := by
  have Hcall := Lib.hid fun (w' : World) (hb : Below w.heap.size w w') => headType_k (b := b) (fun q h => Nat.lt_of_lt_of_le (hF q h) hb.size) (hc.bel hb) (hm.bel hb) (hx.bel hb) k i hi
  obtain ⟨ca, cc, rfl⟩ := hc.shape
  obtain ⟨ma, mc, rfl⟩ := hm.shape
  obtain ⟨xa, xc, rfl⟩ := hx.shape
  clear hc hm hx
  obtain ⟨o, ho⟩ : ∃ o, headTy C M X k i = o := ⟨_, rfl⟩
  rw [ho] at Hcall hsz ⊢
  have Hsz := Lib.hid hsz
  clear ho hsz
  go_enter Tryz.func81, Tryz.ntmps81
  go_wp2_with fail
  obtain ⟨w3, hw3⟩ : ∃ w3, ((w.alloc (.cells #[.int .i64 b, .slice ca C.length cc, .slice ma M.length mc] 35)).alloc (.cells #[.int .i64 k, .int .i64 i] 38)).alloc (.cells #[.slice none 0 0, .int .i64 0] 44) = w3 := ⟨_, rfl⟩
  have B_w3 : Below w.heap.size w w3 := by rw [← hw3]; exact (((Below.refl _ _).alloc (Nat.le_refl _) _).alloc (by simp) _).alloc (by simp; omega) _
  have x2_w3 : Blk w3 (w.heap.size + 1 + 1) #[.slice none 0 0, .int .i64 0] 44 := by rw [← hw3]; exact Blk.new _ _ _ (by simp)
  rw [hw3]
  clear hw3
  refine (Hcall.out w3 B_w3).mono ?_
  rintro e w4 ⟨s, b', rfl, hT, hbx0⟩
  have hbx : Below w3.heap.size w3 w4 := hbx0
  clear hbx0
  have x2_w4 := x2_w3.below hbx
  have B_w4 := B_w3.trans (hbx.mono B_w3.size)
  clear x2_w3 B_w3 hbx
  obtain ⟨sa, sc, rfl, rfl⟩ := hT.shape
  cases hs : o.isSome
  · have ho : o = none := by simpa using hs
    subst ho
    simp only [Option.getD_none, tyZ, Ty.args, Ty.base, List.length_nil] at hT ⊢
    clear hT
    have cx20 : w4.cell? ⟨w.heap.size + 1 + 1, 0, none⟩ = some (.slice none 0 0) := x2_w4.cell rfl
    have cx21 : w4.cell? ⟨w.heap.size + 1 + 1, 1, none⟩ = some (.int .i64 0) := x2_w4.cell rfl
    have lx2 := x2_w4.lt
    have f0 := x2_w4.free 0
    have f1 := x2_w4.free 1
    go_wp2_with fail
    have y0 := ((((x2_w4).set 0 (.slice none 0 0)).set 1 (.int .i64 0)).alloc (.cells #[.slice sa 0 sc, .int .i64 0] 44)).cell (i := 0) (v := .slice none 0 0) rfl
    have y1 := ((((x2_w4).set 0 (.slice none 0 0)).set 1 (.int .i64 0)).alloc (.cells #[.slice sa 0 sc, .int .i64 0] 44)).cell (i := 1) (v := .int .i64 0) rfl
    have z0_0 := ((x2_w4).set 0 (.slice none 0 0)).cell (i := 0) (v := .slice none 0 0) rfl
    have z0_1 := (((x2_w4).set 0 (.slice none 0 0)).set 1 (.int .i64 0)).cell (i := 0) (v := .slice none 0 0) rfl
    have z1_1 := (((x2_w4).set 0 (.slice none 0 0)).set 1 (.int .i64 0)).cell (i := 1) (v := .int .i64 0) rfl
    refine bodyPost_ret (v := .tuple #[.agg #[.slice none 0 0, .int .i64 0], .int .i64 10]) (by simp [results, Tryz.results81, go_sem, y0, y1, z0_0, z0_1, z1_1]) rfl ?_
    clear y0 y1 z0_0 z0_1 z1_1
    exact ⟨_, _, rfl, isTy_zero _ _, ((B_w4.setCell (by simp; omega) _).setCell (by simp; omega) _).alloc (by have := B_w4.size; simp; omega) _⟩
  · obtain ⟨t, rfl⟩ := Option.isSome_iff_exists.1 hs
    have hz := Hsz.out t rfl
    simp only [Option.getD_some] at hT ⊢
    obtain ⟨n, hn⟩ : ∃ n, t.args.length = n := ⟨_, rfl⟩
    obtain ⟨d, hd⟩ : ∃ d, t.base = d := ⟨_, rfl⟩
    rw [hn, hd] at hT ⊢
    have T_w4 := Lib.hid hT
    clear hT
    have lx := x2_w4.lt
    go_wp2_with fail
    obtain ⟨w5, hw5⟩ : ∃ w5, w4.alloc (.cells #[.slice sa n sc, .int .i64 d] 44) = w5 := ⟨_, rfl⟩
    have hbx : Below w4.heap.size w4 w5 := by rw [← hw5]; exact (Below.refl _ _).alloc (Nat.le_refl _) _
    try rw [hw5]
    clear hw5
    have hs5 := hbx.size
    have hs4 : w.heap.size + 3 ≤ w4.heap.size := lx
    have x2_w5 := x2_w4.below hbx
    have T_w5 := Lib.hid (T_w4.out.bel hbx)
    have B_w5 := B_w4.trans (hbx.mono B_w4.size)
    clear x2_w4 T_w4 B_w4 hbx
    refine (arrow_k T_w5.out (isSl_nil rpTy F _) (by simp [Ty.sizes]; omega)).mono ?_
    rintro e w6 ⟨s6, b6, rfl, hT, hbx0⟩
    have hbx : Below w5.heap.size w5 w6 := hbx0
    clear hbx0
    have x2_w6 := x2_w5.below hbx
    have T_w6 := Lib.hid (T_w5.out.bel hbx)
    have B_w6 := B_w5.trans (hbx.mono B_w5.size)
    clear x2_w5 T_w5 B_w5 hbx
    have ht : Ty.mk ([] ++ t.args) t.base = t := by cases t; rfl
    rw [ht] at hT
    clear ht
    obtain ⟨a6, c6, rfl, rfl⟩ := hT.shape
    rw [hn, hd] at hT ⊢
    have hs6 := B_w6.size
    have T6 := Lib.hid (hT.weaken (F' := fun q => w.heap.size + 3 ≤ q) fun q _ h => by omega)
    clear hT
    have cx20 : w6.cell? ⟨w.heap.size + 1 + 1, 0, none⟩ = some (.slice none 0 0) := x2_w6.cell rfl
    have cx21 : w6.cell? ⟨w.heap.size + 1 + 1, 1, none⟩ = some (.int .i64 0) := x2_w6.cell rfl
    have lx2 := x2_w6.lt
    have f0 := x2_w6.free 0
    have f1 := x2_w6.free 1
    go_wp2_with fail
    have z0_0 := ((x2_w6).set 0 (.slice a6 n c6)).cell (i := 0) (v := .slice a6 n c6) rfl
    have z0_1 := (((x2_w6).set 0 (.slice a6 n c6)).set 1 (.int .i64 d)).cell (i := 0) (v := .slice a6 n c6) rfl
    have z1_1 := (((x2_w6).set 0 (.slice a6 n c6)).set 1 (.int .i64 d)).cell (i := 1) (v := .int .i64 d) rfl
    refine bodyPost_ret (v := .tuple #[.agg #[.slice a6 n c6, .int .i64 d], .int .i64 0]) (by simp [results, Tryz.results81, go_sem, z0_0, z0_1, z1_1]) rfl ?_
    clear z0_0 z0_1 z1_1
    exact ⟨_, _, rfl, (T6.out.keep (((Keep.refl _ _).setCell _ _ (by simp)).setCell _ _ (by simp))).weaken fun q _ h => by omega, (B_w6.setCell (by simp; omega) _).setCell (by simp; omega) _⟩

end Go.Proofs.YtflbnonbfmmchaaGreat

namespace Go.Proofs.YtflbnonbfmmchaaGreat
open Go.RowKit

end Go.Proofs.YtflbnonbfmmchaaGreat

namespace Go.Proofs.YtflbnonbfmmchaaGreat
open Go.RowKit

def RightTy (bases : Int) (t : Ty) : Prop := t.size ≤ 1000 ∧ t.depth ≤ 60 ∧ Ty.Low bases t

set_option maxRecDepth 100000 in
theorem rightWorld1_k {F : Nat → Prop} {w : World} {s d : Value} {t : Ty} {b : Int} {B : Nat} (ht : IsTy F w s d t) (hz : t.size ≤ 400000) (hB : w.cell? ⟨B, 0, none⟩ = some (.int .i64 b)) :
    Calls Tryz.prog 59 #[.agg #[s, d], .pointer (some ⟨B, 0, none⟩)] w (RetB (¬ RightTy b t) w) := by
  have Hr := Lib.hid fun (w' : World) (hb : Below w.heap.size w w') => right_k (ht.bel hb) b (by omega)
  obtain ⟨a, c, rfl, rfl⟩ := ht.shape
  clear ht
  obtain ⟨n1, hn1⟩ : ∃ n, t.args.length = n := ⟨_, rfl⟩
  obtain ⟨n2, hn2⟩ : ∃ n, t.base = n := ⟨_, rfl⟩
  rw [hn1, hn2] at Hr ⊢
  clear hn1 hn2
  have hl := Keep.lt hB
  go_enter Tryz.func59, Tryz.ntmps59
  go_wp2_with fail
  have hb1 : Below w.heap.size w (w.alloc (.cells #[.slice a n1 c, .int .i64 n2] 44)) := (Below.refl _ _).alloc (Nat.le_refl _) _
  refine (Hr.out _ hb1).mono ?_
  intro e w2 h
  obtain ⟨r, Hq, rfl, hb2⟩ := of_retB' h
  clear h
  go_wp2_with fail
  go_ret
  exact ⟨_, by have := Hq.out; unfold RightTy; cases r <;> simp_all, rfl, hb1.trans (hb2.mono hb1.size)⟩

set_option maxRecDepth 100000 in
theorem indexFunc_k {G F : Nat → Prop} {w : World} {v : Value} {l : List Ty} {b : Int} {B : Nat} (h : IsSl2 rpTy G F w v l) (hz : ∀ t ∈ l, t.size ≤ 400000) (hB : w.cell? ⟨B, 0, none⟩ = some (.int .i64 b)) :
    Calls Tryz.prog 108 #[v, .func (.func 59) #[] #[.pointer (some ⟨B, 0, none⟩)]] w fun e w' => ∃ i : Int, Hid (0 ≤ i ↔ ∃ t ∈ l, ¬ RightTy b t) ∧ e = .returned (.int .i64 i) ∧ Below w.heap.size w w' := by
  obtain ⟨a, c, rfl⟩ := h.shape
  have Hat := Lib.hid (sl_at h)
  have hl : (l.length : Int) ≤ 9223372036854775807 := by obtain ⟨_, _, _, _, _, _, hm, _⟩ := h; unfold maxLen at hm; omega
  clear h
  have Hz := Lib.hid hz; clear hz
  go_enter Tryz.func108, Tryz.ntmps108
  go_wp2_with fail
  go_loopw [5, 8] (fun _ i wr => ∃ k : Nat, i = .int .i64 k ∧ k ≤ l.length ∧ Hid (∀ m (h : m < l.length), m < k → RightTy b l[m]) ∧ Below w.heap.size w wr) (fun _ i _ => l.length - (intOf i).toNat)
  case atStart => exact ⟨0, rfl, by omega, fun m _ h => absurd h (by omega), Below.refl _ _⟩
  case round =>
    obtain ⟨k, rfl, hk, hrel, hb⟩ := hrel
    by_cases hlt : k < l.length
    · obtain ⟨bl, off, A, N, C, Bb, rfl, _, e1, e2, hT⟩ := Hat.out k hlt
      have hkx : Keep (fun _ => True) w wr := (Keep.refl _ _).below hb
      have e1 := hkx _ _ _ trivial e1
      have e2 := hkx _ _ _ trivial e2
      have HT := Lib.hid (hT.bel hb); clear hT
      have i1 : (k : Int) < (l.length : Int) := by omega
      have HB := Lib.hid (hkx _ _ _ trivial hB)
      clear hkx
      go_wp2_with fail
      refine (rightWorld1_k HT.out (Hz.out _ (List.getElem_mem hlt)) HB.out).mono ?_
      intro e w2 h
      obtain ⟨r, Hq, rfl, hb2⟩ := of_retB' h
      clear h e1 e2
      cases r
      · have Hq2 := Lib.hid (no_of Hq.out)
        go_wp2_with fail
        go_roundw
        case rel => exact ⟨k + 1, by go_num, by omega, fun m h hm => by
          by_cases hmk : m < k
          · exact hrel.out m h hmk
          · obtain rfl : m = k := by omega
            exact Classical.not_not.1 Hq2.out, hb.trans (hb2.mono hb.size)⟩
        case measure => simp [intOf]; omega
      · have Hq2 := Lib.hid (yes_of Hq.out)
        go_wp2_with fail
        go_ret
        exact ⟨_, ⟨fun _ => ⟨_, List.getElem_mem hlt, Hq2.out⟩, fun _ => by omega⟩, rfl, hb.trans (hb2.mono hb.size)⟩
    · go_wp2_with fail
      go_ret
      refine ⟨_, ⟨fun h => absurd h (by omega), fun ⟨t, ht, hn⟩ => ?_⟩, rfl, hb⟩
      obtain ⟨m, hm, rfl⟩ := List.getElem_of_mem ht
      exact absurd (hrel.out m hm (by omega)) hn

set_option maxRecDepth 100000 in
theorem containsFunc_k {G F : Nat → Prop} {w : World} {v : Value} {l : List Ty} {b : Int} {B : Nat} (h : IsSl2 rpTy G F w v l) (hz : ∀ t ∈ l, t.size ≤ 400000) (hB : w.cell? ⟨B, 0, none⟩ = some (.int .i64 b)) :
    Calls Tryz.prog 57 #[v, .func (.func 59) #[] #[.pointer (some ⟨B, 0, none⟩)]] w (RetB (∃ t ∈ l, ¬ RightTy b t) w) := by
  have Hi := Lib.hid (indexFunc_k h hz hB)
  obtain ⟨a, c, rfl⟩ := h.shape
  clear h hz hB
  go_enter Tryz.func57, Tryz.ntmps57
  go_wp2_with fail
  refine Hi.out.mono ?_
  rintro e w1 ⟨i, hi, rfl, hb⟩
  go_wp2_with fail
  go_ret
  exact ⟨_, by rw [← hi.out]; simp, rfl, hb⟩

def RightWd (b : Int) (C M : List Ty) : Prop := C.length + M.length ≤ 1000 ∧ ∀ t ∈ C ++ M, RightTy b t

set_option maxRecDepth 100000 in
set_option maxHeartbeats 1000000 in
theorem RightWorld_k {F : Nat → Prop} {w : World} {b : Int} {cv mv : Value} {C M : List Ty} (hc : IsSl rpTy F w cv C) (hm : IsSl rpTy F w mv M) (hz : ∀ t ∈ C ++ M, t.size ≤ 400000) :
    Calls Tryz.prog 15 #[.agg #[.int .i64 b, cv, mv]] w (RetB (RightWd b C M) w) := by
  obtain ⟨ca, cc, rfl⟩ := hc.shape
  obtain ⟨ma, mc, rfl⟩ := hm.shape
  have hlc : (C.length : Int) ≤ 9223372036854775807 := by obtain ⟨_, _, _, _, _, _, h, _⟩ := hc; unfold maxLen at h; omega
  have hlm : (M.length : Int) ≤ 9223372036854775807 := by obtain ⟨_, _, _, _, _, _, h, _⟩ := hm; unfold maxLen at h; omega
  have Hc := Lib.hid hc; have Hm := Lib.hid hm; have Hz := Lib.hid hz
  clear hc hm hz
  by_cases g1 : (1000 : Int) < (C.length : Int)
  · skip
    go_enter Tryz.func15, Tryz.ntmps15
    go_wp2_with fail
    go_ret
    exact ⟨false, by unfold RightWd; simp; omega, rfl, (Below.refl _ _).alloc (Nat.le_refl _) _⟩
  have hq : IntKind.i64.wrap (1000 - (C.length : Int)) = 1000 - (C.length : Int) := IntWalk.i64_in _ (by omega)
  by_cases g2 : 1000 - (C.length : Int) < (M.length : Int)
  · skip
    go_enter Tryz.func15, Tryz.ntmps15
    go_wp2_with fail
    go_ret
    exact ⟨false, by unfold RightWd; simp; omega, rfl, (Below.refl _ _).alloc (Nat.le_refl _) _⟩
  go_enter Tryz.func15, Tryz.ntmps15
  go_wp2_with fail
  obtain ⟨w2, hw2⟩ : ∃ w2, (w.alloc (.cells #[.int .i64 b, .slice ca C.length cc, .slice ma M.length mc] 35)).alloc (.cells #[.slice ca C.length cc, .slice ma M.length mc] 33) = w2 := ⟨_, rfl⟩
  have B2 : Below w.heap.size w w2 := by rw [← hw2]; exact ((Below.refl _ _).alloc (Nat.le_refl _) _).alloc (by simp) _
  have x0 : Blk w2 w.heap.size #[.int .i64 b, .slice ca C.length cc, .slice ma M.length mc] 35 := by rw [← hw2]; exact (Blk.new _ _ _ rfl).alloc _
  have x1 : Blk w2 (w.heap.size + 1) #[.slice ca C.length cc, .slice ma M.length mc] 33 := by rw [← hw2]; exact Blk.new _ _ _ (by simp)
  rw [hw2]
  clear hw2
  refine (concat_any2 x1 (IsSl2.of (Hc.out.bel B2)) (IsSl2.of (Hm.out.bel B2)) (by omega)).mono ?_
  rintro e w3 ⟨a3, c3, rfl, hT, hb3⟩
  have HT := Lib.hid hT; clear hT
  have x0' := x0.below hb3
  have B3 := B2.trans (hb3.mono B2.size)
  obtain ⟨Y, hY⟩ : ∃ Y, C ++ M = Y := ⟨_, rfl⟩
  have HY := Lib.hid hY
  rw [hY] at HT Hz ⊢
  clear hY
  go_wp2_with fail
  refine (containsFunc_k HT.out Hz.out (x0'.cell rfl)).mono ?_
  intro e w4 h
  obtain ⟨r, Hq, rfl, hb4⟩ := of_retB' h
  clear h
  go_wp2_with fail
  go_ret
  refine ⟨_, ?_, rfl, B3.trans (hb4.mono B3.size)⟩
  have h2 : (r = true ↔ ∃ t ∈ Y, ¬ RightTy b t) := Hq.out
  have h3 : C.length + M.length ≤ 1000 := by omega
  unfold RightWd
  rw [HY.out]
  cases r
  · simp only [Bool.not_false, true_iff]
    refine ⟨h3, fun t ht => Classical.not_not.1 fun hn => ?_⟩
    exact absurd (h2.2 ⟨t, ht, hn⟩) (by simp)
  · simp only [Bool.not_true, Bool.false_eq_true, false_iff]
    rintro ⟨_, h⟩
    obtain ⟨t, ht, hn⟩ := h2.1 rfl
    exact hn (h t ht)
end Go.Proofs.YtflbnonbfmmchaaGreat

namespace Go.Proofs.YtflbnonbfmmchaaGreat
open Go.RowKit

end Go.Proofs.YtflbnonbfmmchaaGreat

namespace Go.Proofs.YtflbnonbfmmchaaGreat
open Go.RowKit

section
variable {w : World} {b : Int} {cv mv xv tb tk ti ta s ub : Value} {C M X : List Ty} {t : Tm} {u : Ty}
theorem IsSl.low {α : Type} {r : Rp α} {v : Value} {l : List α} (hn : 0 < r.n) (h : IsSl r (fun _ => True) w v l) : IsSl r (fun q => q < w.heap.size) w v l := h.weaken hn fun _ hq _ => hq
theorem TyPostE.true {F : Nat → Prop} {o : Option Ty} {e : Ending} {w' : World} (h : TyPostE F o w e w') : TyPostE (fun _ => True) o w e w' := by
  obtain ⟨s, b, h1, h2, h3⟩ := h
  exact ⟨s, b, h1, h2.trueb, h3⟩
theorem HeadPost.true {F : Nat → Prop} {o : Option Ty} {e : Ending} {w' : World} (h : HeadPost F o w e w') : HeadPost (fun _ => True) o w e w' := by
  obtain ⟨s, b, h1, h2, h3⟩ := h
  exact ⟨s, b, h1, h2.trueb, h3⟩
theorem Check_kT (hc : IsSl rpTy (fun _ => True) w cv C) (hm : IsSl rpTy (fun _ => True) w mv M) (hx : IsSl rpTy (fun _ => True) w xv X) (ht : IsTm (fun _ => True) w tb tk ti ta t) (hu : IsTy (fun _ => True) w s ub u) (hz : X.length + t.full ≤ 90000) (hfit : t.Fit) :
    Calls Tryz.prog 16 #[.agg #[.int .i64 b, cv, mv], xv, .agg #[tb, tk, ti, ta], .agg #[s, ub]] w (RetCheck C M t X u w) :=
  Check_k (F := fun q => q < w.heap.size) t w _ _ _ _ _ _ _ _ _ X u (fun _ h => h) (hc.low (by decide)) (hm.low (by decide)) ((IsSl2.of (hx.low (by decide))).anyRow (by decide)) (ht.weaken fun _ hq _ => hq) (hu.weaken fun _ hq _ => hq) hz hfit
end
def TyRet (z : Ty) (c : Int) (w : World) (e : Ending) (w' : World) : Prop := ∃ s b, e = .returned (.tuple #[.agg #[s, b], .int .i64 c]) ∧ IsTy (fun _ => True) w' s b z ∧ Below w.heap.size w w'
def HdRet (z : Ty) (k : Bool) (w : World) (e : Ending) (w' : World) : Prop := ∃ s b, e = .returned (.tuple #[.agg #[s, b], .bool k]) ∧ IsTy (fun _ => True) w' s b z ∧ Below w.heap.size w w'
theorem TyPostE.to {o : Option Ty} {z : Ty} {k : Bool} {c : Int} {w : World} {e : Ending} {w' : World} (hk : o.isSome = k) (hz : o.getD tyZ = z) (hc : c = if k then 0 else 10) (h : TyPostE (fun _ => True) o w e w') : TyRet z c w e w' := by
  subst hk hz hc; exact h
theorem HeadPost.to {o : Option Ty} {z : Ty} {k : Bool} {w : World} {e : Ending} {w' : World} (hk : o.isSome = k) (hz : o.getD tyZ = z) (h : HeadPost (fun _ => True) o w e w') : HdRet z k w e w' := by
  subst hk hz; exact h
theorem headTy_mem {C M X : List Ty} {k i : Int} {t : Ty} (h : headTy C M X k i = some t) : t ∈ (C ++ M) ++ X := by
  unfold headTy at h
  simp only [List.mem_append]
  split at h
  · cases h
  split at h
  · exact .inr (by have := List.mem_of_getElem? h; simpa using this)
  split at h
  · exact .inl (.inl (List.mem_of_getElem? h))
  split at h
  · exact .inl (.inr (List.mem_of_getElem? h))
  · cases h
end Go.Proofs.YtflbnonbfmmchaaGreat

namespace Go.Proofs.YtflbnonbfmmchaaGreat
open Go.RowKit

theorem isTrue {F : Nat → Prop} {w : World} {v : Value} {l : List Ty} (h : IsSl rpTy F w v l) : IsSl rpTy (fun _ => True) w v l := h.weaken (by decide) fun _ _ _ => trivial
theorem slTy9 {m : Mp} {Im : Nat → Nat → Prop} {w : World} {v : Value} {l : List Ty} (h : Rel m Im w v (.sl 2 (eTys l) none)) : IsSl rpTy (fun _ => True) w v l :=
  isTrue (sl_of_rel (r := rpTy) (e := eTy) eTy_len (fun x t hx _ => ty_of_rel t hx) (by decide) (by rw [eTys_map] at h; exact h))
theorem agWorld {m : Mp} {Im : Nat → Nat → Prop} {w : World} {x : Value} {b : Int} {C M : List Ty} (h : Rel m Im w x (.ag [.v (.int .i64 b), .sl 2 (eTys C) none, .sl 2 (eTys M) none])) : ∃ cv mv, x = .agg #[.int .i64 b, cv, mv] ∧ IsSl rpTy (fun _ => True) w cv C ∧ IsSl rpTy (fun _ => True) w mv M := by
  obtain ⟨cs, rfl, hr⟩ := rel_ag.1 h
  match cs, hr with
  | [x, y, z], hr =>
    have := rel_v.1 hr.1; subst this
    exact ⟨y, z, rfl, slTy9 hr.2.1, slTy9 hr.2.2.1⟩
theorem agTy9 {m : Mp} {Im : Nat → Nat → Prop} {w : World} {x : Value} {t : Ty} (h : Rel m Im w x (.ag (eTy t))) : ∃ s b, x = .agg #[s, b] ∧ IsTy (fun _ => True) w s b t := by
  obtain ⟨cs, rfl, hr⟩ := rel_ag.1 h
  obtain ⟨s, b, rfl, ht⟩ := ty_of_rel t hr
  exact ⟨s, b, rfl, ht.weaken fun _ _ _ => trivial⟩
theorem check_d (b : Int) (C M X : List Ty) (t : Tm) (u : Ty) (c : Int) (hc : checkCode C M t X u c) (hz : X.length + t.full ≤ 90000) (hfit : t.Fit) :
    PureC Tryz.prog 16 [.ag [.v (.int .i64 b), .sl 2 (eTys C) none, .sl 2 (eTys M) none], .sl 2 (eTys X) none, .ag (eTm t), .ag (eTy u)] (.v (.int .i64 c)) := by
  refine pure_below (by kernel_rfl) fun m Im w vs hv => ?_
  match vs, hv with
  | [x1, x2, x3, x4], hv =>
    obtain ⟨cv, mv, rfl, h1, h2⟩ := agWorld hv.1
    obtain ⟨b0, k, i, a, rfl, ht⟩ := agTm hv.2.2.1
    obtain ⟨s, ub, rfl, hu⟩ := agTy9 hv.2.2.2.1
    refine (Check_kT h1 h2 (slTy9 hv.2.1) (ht.weaken fun _ _ _ => trivial) hu hz hfit).mono ?_
    rintro e w' ⟨c', hc', rfl, hb⟩
    have := checkCode_uniq hc hc'.out; subst this
    exact ⟨_, rfl, hb, fun _ _ _ => .v _⟩
theorem head_d (b : Int) (C M : List Ty) (k i : Int) (hi : i ≤ 9223372036854775807) (o : Option Ty) (ho : headTy C M [] k i = o) (hsz : ∀ t, o = some t → t.size ≤ 90000) :
    PureC Tryz.prog 81 [.ag [.v (.int .i64 b), .sl 2 (eTys C) none, .sl 2 (eTys M) none], .v (.slice none 0 0), .ag [.v (.int .i64 k), .v (.int .i64 i)]] (.tu [.ag (eTy (o.getD tyZ)), .v (.int .i64 (if o.isSome then 0 else 10))]) := by
  subst ho
  refine pure_below (by kernel_rfl) fun m Im w vs hv => ?_
  match vs, hv with
  | [x1, x2, x3], hv =>
    obtain ⟨cv, mv, rfl, h1, h2⟩ := agWorld hv.1
    have := rel_v.1 hv.2.1; subst this
    obtain ⟨cs, rfl, hr⟩ := rel_ag.1 hv.2.2.1
    match cs, hr with
    | [y, z], hr =>
      have := rel_v.1 hr.1; subst this
      have := rel_v.1 hr.2.1; subst this
      refine (HeadType_k (F := fun q => q < w.heap.size) (fun _ h => h) (h1.low (by decide)) (h2.low (by decide)) ((IsSl2.of ((isSl_nil rpTy (fun _ => True) w).low (by decide))).anyRow (by decide)) k i hi hsz).mono ?_
      rintro e w' ⟨s, ub, rfl, h3, hb⟩
      exact ⟨_, rfl, hb, fun Im' _ hI => rel_tu.2 ⟨_, rfl, rel_ag.2 ⟨_, rfl, rel_of_ty (fun b o v hq hc => hI b o v hq hc) _ h3⟩, .v _, trivial⟩⟩
def TC9_35 : TI := ⟨3, true, [Value.int IntKind.i64 0, Value.slice none 0 0, Value.slice none 0 0], [(0, 1, false), (1, 1, false), (2, 1, false)], none, 56, 6, none, false⟩
theorem TC9_35_ok : TypOk Tryz.prog 35 TC9_35 := by constructor <;> kernel_rfl
def TC9_79 : TI := ⟨5, true, [Value.int IntKind.i64 0, Value.slice none 0 0, Value.int IntKind.i64 0, Value.int IntKind.i64 0, Value.slice none 0 0], [(0, 1, false), (1, 4, true)], none, 72, 6, none, false⟩
theorem TC9_79_ok : TypOk Tryz.prog 79 TC9_79 := by constructor <;> kernel_rfl
def TC9_44 : TI := ⟨2, true, [Value.slice none 0 0, Value.int IntKind.i64 0], [(0, 1, false), (1, 1, false)], none, 32, 6, none, false⟩
theorem TC9_44_ok : TypOk Tryz.prog 44 TC9_44 := by constructor <;> kernel_rfl
def TC9_51 : TI := ⟨1, false, [Value.slice none 0 0], [], some 79, 24, 5, none, false⟩
theorem TC9_51_ok : TypOk Tryz.prog 51 TC9_51 := by constructor <;> kernel_rfl
def TC9_3 : TI := ⟨1, false, [Value.int IntKind.i64 0], [], none, 8, 2, none, false⟩
theorem TC9_3_ok : TypOk Tryz.prog 3 TC9_3 := by constructor <;> kernel_rfl
def TC9_38 : TI := ⟨2, true, [Value.int IntKind.i64 0, Value.int IntKind.i64 0], [(0, 1, false), (1, 1, false)], none, 16, 6, none, true⟩
theorem TC9_38_ok : TypOk Tryz.prog 38 TC9_38 := by constructor <;> kernel_rfl
def TC9_41 : TI := ⟨4, true, [Value.slice none 0 0, Value.int IntKind.i64 0, Value.int IntKind.i64 0, Value.slice none 0 0], [(0, 1, false), (1, 2, true), (3, 1, false)], none, 64, 6, none, false⟩
theorem TC9_41_ok : TypOk Tryz.prog 41 TC9_41 := by constructor <;> kernel_rfl
def TC9_45 : TI := ⟨1, false, [Value.int IntKind.i64 0], [], none, 8, 2, none, false⟩
theorem TC9_45_ok : TypOk Tryz.prog 45 TC9_45 := by constructor <;> kernel_rfl
def TC9_33 : TI := ⟨1, false, [Value.slice none 0 0], [], some 44, 24, 5, none, false⟩
theorem TC9_33_ok : TypOk Tryz.prog 33 TC9_33 := by constructor <;> kernel_rfl
def TC9 : List (Nat × TI) := [(35, TC9_35), (79, TC9_79), (44, TC9_44), (51, TC9_51), (3, TC9_3), (38, TC9_38), (41, TC9_41), (45, TC9_45), (33, TC9_33)]
theorem TC9_ok : TabOk Tryz.prog TC9 := ((((((((((TabOk.nil _).cons TC9_33_ok).cons TC9_45_ok).cons TC9_41_ok).cons TC9_38_ok).cons TC9_3_ok).cons TC9_51_ok).cons TC9_44_ok).cons TC9_79_ok).cons TC9_35_ok)
def chkL (code : Tm → Ty → Int) (M : List Ty) : List (Int × Tm) → Int
  | [] => 0
  | p :: l => match headTy [] M [] 2 p.1 with
    | none => 10
    | some u => if code p.2 u ≠ 0 then code p.2 u else chkL code M l
theorem tyZ_eq : eTy tyZ = [.sl 2 [] none, .v (.int .i64 0)] := rfl
set_option maxHeartbeats 1000000 in
theorem scheck_d (b : Int) (C M X : List Ty) (l : List (Int × Tm)) (hl : l.length ≤ 100000) (code : Tm → Ty → Int) (hc : ∀ t u, checkCode C M t X u (code t u)) (hz : ∀ p ∈ l, X.length + p.2.full ≤ 90000 ∧ p.2.Fit ∧ p.1 ≤ 9223372036854775807) (hM : ∀ u ∈ M, u.size ≤ 90000) :
  PureC Tryz.prog 28 [.ag [.v (.int .i64 b), .sl 2 (eTys C) none, .sl 2 (eTys M) none], .sl 2 (eTys X) none, .sl 5 (ePairs l) none] (.v (.int .i64 (if Sb.right l = true then chkL code M l else 1))) := by
 have hR := sright_d l (by omega)
 refine call_of_dw 0 42 [ResultVar.tmp 6] TC9_ok (by kernel_rfl) Tryz.func28 rfl Tryz.ntmps28 rfl (by simp) ?dwords ?dbody
 case dwords => simp [wordsOk, D.ok, D.oks, rnames, eTys_ok, ePairs_ok]
 case dbody =>
  intro cx hnt hn0
  refine dw_seq ?_; refine dwk [] TC9_ok hnt fun K hK => ?_; refine hK _ _ ?_; clear hK K; refine dw_seq (dw_seq ?_)
  cases hr : Sb.right l with
  | false =>
   rw [hr] at hR
   refine dwk [] TC9_ok hnt fun K hK => ?_; refine dcl (hR) ?_; refine hK _ _ ?_; clear hK K; refine dw_cond (t := true) rfl ?_; rw [if_pos rfl]; refine dw_seq ?_; refine dwk [] TC9_ok hnt fun K hK => ?_; refine hK _ _ ?_; clear hK K; refine dw_ret ?_
   exact retv (N := 0) (.inr rfl) rfl (VLe.refl _) trivial
  | true =>
   rw [hr] at hR
   refine dwk [] TC9_ok hnt fun K hK => ?_; refine dcl (hR) ?_; refine hK _ _ ?_; clear hK K; refine dw_cond (t := false) rfl ?_; rw [if_neg (by simp)]; refine dw_skip ?_; rw [if_pos rfl]; refine dw_seq (dw_seq ?_); refine dwk [(16, .v (.int .i64 l.length))] TC9_ok hnt fun K hK => ?_; refine And.intro (dintE (by rw [ePairs_len])) ?_; refine hK _ _ ?_; clear hK K; refine dw_block ?_
   refine dw_loop (ι := { j : Nat // chkL code M (l.drop j) = chkL code M l ∧ j ≤ l.length }) (fun j => [(.t 1, .sl 2 (eTys X) none), (.t 3, .p 0 0), (.t 15, .sl 5 (ePairs l) none), (.t 16, .v (.int .i64 l.length)), (.t 17, .v (.int .i64 (j.1 : Int))), (.c 0 0, .v (.int .i64 b)), (.c 0 1, .sl 2 (eTys C) none), (.c 0 2, .sl 2 (eTys M) none)]) 1 (fun j => l.length - j.1) ⟨0, rfl, Nat.zero_le _⟩ VS.toA fun j => ?_
   obtain ⟨j, hj, hj2⟩ := j
   dsimp only
   refine dw_seq ?_
   by_cases hlt : j < l.length
   ·rw [List.drop_eq_getElem_cons hlt, chkL] at hj
    obtain ⟨hz1, hz2, hz3⟩ := hz _ (List.getElem_mem hlt)
    have hho : headTy C M [] 2 l[j].1 = headTy [] M [] 2 l[j].1 := by simp [headTy]
    have hhd := head_d b C M 2 l[j].1 hz3 _ hho (fun u hu => hM u (by
     rw [← hho] at hu
     have := headTy_mem hu
     unfold headTy at hu
     split at hu
     ·cases hu
     ·simp at hu; exact List.mem_of_getElem? hu))
    refine dwk [(18, .v (.bool true))] TC9_ok hnt fun K hK => ?_; refine And.intro (dtrue (by omega)) ?_; refine hK _ _ ?_; clear hK K; refine dw_seq (dw_cond (t := true) rfl ?_); rw [if_pos rfl]; refine dw_skip (dw_seq (dw_block (dw_seq ?_))); refine dwk [(19, .q [.v (.int .i64 l[j].1), .sl 2 (eTys l[j].2.binds) none, .v (.int .i64 l[j].2.kind), .v (.int .i64 l[j].2.index), .sl 4 (eTms l[j].2.args) none])] TC9_ok hnt fun K hK => ?_
    refine And.intro (⟨by omega, by rw [ePairs_len]; omega⟩) ?_; refine And.intro (VLe.of_eq (by rw [Int.toNat_natCast, ePairs_getD l j hlt, ePair_eq])) ?_; refine hK _ _ ?_; clear hK K; refine dw_seq ?_
    cases ho : headTy [] M [] 2 l[j].1 with
    | none =>
     rw [ho] at hhd hj
     dsimp only at hj
     rw [← hj]
     simp only [Option.getD_none, tyZ_eq] at hhd
     refine dwk [] TC9_ok hnt fun K hK => ?_; refine dcl (hhd) ?_; refine hK _ _ ?_; clear hK K; refine dw_seq (dw_seq ?_); refine dwk [] TC9_ok hnt fun K hK => ?_; refine hK _ _ ?_; clear hK K; refine dw_cond (t := true) rfl ?_; rw [if_pos rfl]; refine dw_seq ?_; refine dwk [] TC9_ok hnt fun K hK => ?_; refine hK _ _ ?_; clear hK K; refine dw_ret ?_
     exact retv (N := 0) (.inr rfl) rfl (VLe.refl _) trivial
    | some u =>
     rw [ho] at hhd hj
     dsimp only at hj
     have hck := check_d b C M X l[j].2 u (code l[j].2 u) (hc _ _) hz1 hz2
     simp only [Option.getD_some] at hhd
     rw [eTy_eq] at hhd
     rw [eTm_eq, eTy_eq] at hck
     refine dwk [] TC9_ok hnt fun K hK => ?_; refine dcl (hhd) ?_; refine hK _ _ ?_; clear hK K; refine dw_seq (dw_seq ?_); refine dwk [] TC9_ok hnt fun K hK => ?_; refine hK _ _ ?_; clear hK K; refine dw_cond (t := false) rfl ?_; rw [if_neg (by simp)]; refine dw_skip ?_; refine dw_seq ?_; refine dwk [] TC9_ok hnt fun K hK => ?_; refine dcl (hck) ?_; refine hK _ _ ?_; clear hK K; refine dw_seq ?_
     by_cases he : code l[j].2 u = 0
     ·rw [if_neg (by simp [he])] at hj; refine dwk [(39, .v (.bool false))] TC9_ok hnt fun K hK => ?_; refine And.intro (VLe.of_eq (by simp [he])) ?_; refine hK _ _ ?_; clear hK K; refine dw_cond (t := false) rfl ?_; rw [if_neg (by simp)]; refine dw_skip ?_; refine dwk [(41, .v (.int .i64 ((j + 1 : Nat) : Int)))] TC9_ok hnt fun K hK => ?_; refine And.intro (dintE (by rw [IntWalk.i64_in _ (by omega)]; omega)) ?_
      refine hK _ _ ?_; clear hK K
      exact ⟨⟨j + 1, hj, hlt⟩, by dsimp only; omega, VS.toA⟩
     ·rw [if_pos he] at hj
      rw [← hj]
      refine dwk [(39, .v (.bool true))] TC9_ok hnt fun K hK => ?_; refine And.intro (VLe.of_eq (by simp [he])) ?_; refine hK _ _ ?_; clear hK K; refine dw_cond (t := true) rfl ?_; rw [if_pos rfl]; refine dw_seq ?_; refine dwk [] TC9_ok hnt fun K hK => ?_; refine hK _ _ ?_; clear hK K; refine dw_ret ?_
      exact retv (N := 0) (.inr rfl) rfl (VLe.refl _) trivial
   ·rw [List.drop_eq_nil_of_le (by omega), chkL] at hj
    rw [← hj]
    refine dwk [(18, .v (.bool false))] TC9_ok hnt fun K hK => ?_; refine And.intro (dfalse (by omega)) ?_; refine hK _ _ ?_; clear hK K; refine dw_seq (dw_cond (t := false) rfl ?_); rw [if_neg (by simp)]; refine dw_exit ?_; refine dw_seq ?_; refine dwk [] TC9_ok hnt fun K hK => ?_; refine hK _ _ ?_; clear hK K; refine dw_ret ?_
    exact retv (N := 0) (.inr rfl) rfl (VLe.refl _) trivial
end Go.Proofs.YtflbnonbfmmchaaGreat

namespace Go.Proofs.YtflbnonbfmmchaaGreat
open Go.RowKit
def TRT6_44 : TI := ⟨2, true, [Value.slice none 0 0, Value.int IntKind.i64 0], [(0, 1, false), (1, 1, false)], none, 32, 6, none, false⟩
theorem TRT6_44_ok : TypOk Tryz.prog 44 TRT6_44 := by constructor <;> kernel_rfl
def TRT6_33 : TI := ⟨1, false, [Value.slice none 0 0], [], some 44, 24, 5, none, false⟩
theorem TRT6_33_ok : TypOk Tryz.prog 33 TRT6_33 := by constructor <;> kernel_rfl
def TRT6_3 : TI := ⟨1, false, [Value.int IntKind.i64 0], [], none, 8, 2, none, false⟩
theorem TRT6_3_ok : TypOk Tryz.prog 3 TRT6_3 := by constructor <;> kernel_rfl
def TRT6_41 : TI := ⟨4, true, [Value.slice none 0 0, Value.int IntKind.i64 0, Value.int IntKind.i64 0, Value.slice none 0 0], [(0, 1, false), (1, 2, true), (3, 1, false)], none, 64, 6, none, false⟩
theorem TRT6_41_ok : TypOk Tryz.prog 41 TRT6_41 := by constructor <;> kernel_rfl
def TRT6_35 : TI := ⟨3, true, [Value.int IntKind.i64 0, Value.slice none 0 0, Value.slice none 0 0], [(0, 1, false), (1, 1, false), (2, 1, false)], none, 56, 6, none, false⟩
theorem TRT6_35_ok : TypOk Tryz.prog 35 TRT6_35 := by constructor <;> kernel_rfl
def TRT6_38 : TI := ⟨2, true, [Value.int IntKind.i64 0, Value.int IntKind.i64 0], [(0, 1, false), (1, 1, false)], none, 16, 6, none, true⟩
theorem TRT6_38_ok : TypOk Tryz.prog 38 TRT6_38 := by constructor <;> kernel_rfl
def TRT6_39 : TI := ⟨1, false, [Value.slice none 0 0], [], some 41, 24, 5, none, false⟩
theorem TRT6_39_ok : TypOk Tryz.prog 39 TRT6_39 := by constructor <;> kernel_rfl
def TRT6_192 : TI := ⟨1, false, [Value.slice none 0 0], [], some 33, 24, 5, none, false⟩
theorem TRT6_192_ok : TypOk Tryz.prog 192 TRT6_192 := by constructor <;> kernel_rfl
def TRT6_144 : TI := ⟨1, false, [Value.nilFunc], [], none, 8, 8, none, false⟩
theorem TRT6_144_ok : TypOk Tryz.prog 144 TRT6_144 := by constructor <;> kernel_rfl
def TRT6 : List (Nat × TI) := [(44, TRT6_44), (33, TRT6_33), (3, TRT6_3), (41, TRT6_41), (35, TRT6_35), (38, TRT6_38), (39, TRT6_39), (192, TRT6_192), (144, TRT6_144)]
theorem TRT6_ok : TabOk Tryz.prog TRT6 := ((((((((((TabOk.nil _).cons TRT6_144_ok).cons TRT6_192_ok).cons TRT6_39_ok).cons TRT6_38_ok).cons TRT6_35_ok).cons TRT6_41_ok).cons TRT6_3_ok).cons TRT6_33_ok).cons TRT6_44_ok)
def tyOf (C M : List Ty) (t : Tm) : Option Ty := (headTy C M ([] ++ t.binds) t.kind t.index).map fun h => .mk t.binds h.base
theorem isOf_no {C M X : List Ty} {b : List Ty} {k i : Int} {a : List Tm} {u : Ty} (h : ∀ x, headTy C M (X ++ b) k i = some x → b = u.args → x.base = u.base → x.args.length = a.length → False) : ¬ IsOf C M (.mk b k i a) X u := fun hi => by
  obtain ⟨h1, x, h2, h3, h4⟩ := isOf_mk.1 hi
  exact h x h2 h1 h3 (isOfs_iff.1 h4).1
theorem within_d (l r : List Ty) (h : l.length + r.length ≤ 800000) : PureC Tryz.prog 55 [.sl 2 (eTys l) none, .sl 2 (eTys r) none] (.sl 2 (eTys (l ++ r)) none) := by
 have hcat := concat_d [l, r] (by simp [lens]; omega) (by simp)
 simp only [List.flatten_cons, List.flatten_nil, List.append_nil] at hcat
 refine calldw 0 9 [ResultVar.tmp 4] TRT6_ok Tryz.func55 rfl Tryz.ntmps55 rfl fun cx hnt hn0 => ?_
 ·skip
  refine dw_seq ?_; refine dwk [] TRT6_ok hnt fun K hK => ?_; refine hK _ _ ?_; clear hK K; refine dw_seq ?_; refine dwk [(7, .sl 1 (eTyss [l, r]) none)] TRT6_ok hnt fun K hK => ?_; refine And.intro (VLe.untag _ _ _) ?_; refine dcl (hcat) ?_; refine hK _ _ ?_; clear hK K; refine dw_ret ?_
  exact reta rfl
set_option maxHeartbeats 2000000 in
theorem theadA_d (b : Int) (C M X : List Ty) (k i : Int) (hi : i ≤ 9223372036854775807) (hC : C.length ≤ 1000000) (hM : M.length ≤ 1000000) (hX : X.length ≤ 1000000) : PureC Tryz.prog 54 [.ag [.v (.int .i64 b), .sl 2 (eTys C) none, .sl 2 (eTys M) none], .sl 2 (eTys X) none, .ag [.v (.int .i64 k), .v (.int .i64 i)]] (.tu [.ag (eTy ((headTy C M X k i).getD tyZ)), .v (.bool (headTy C M X k i).isSome)]) := by
 by_cases k1 : k = 1
 ·skip
  subst k1
  by_cases hn : i < 0
  ·rw [headTy_neg hn]
   simp only [Option.getD_none, Option.isSome_none]
   rw [tyZ_eq]
   refine calldw 0 51 [ResultVar.cell 6 44, ResultVar.tmp 7] TRT6_ok Tryz.func54 rfl Tryz.ntmps54 rfl fun cx hnt hn0 => ?_
   ·skip
    refine dw_seq ?_; refine dwk [] TRT6_ok hnt fun K hK => ?_; refine hK _ _ ?_; clear hK K; refine dw_seq ?_; refine dwk [] TRT6_ok hnt fun K hK => ?_; refine hK _ _ ?_; clear hK K; refine dw_seq ?_; refine dwk [] TRT6_ok hnt fun K hK => ?_; refine hK _ _ ?_; clear hK K; refine dw_seq ?_; refine dw_seq ?_; refine dwk [] TRT6_ok hnt fun K hK => ?_; refine hK _ _ ?_; clear hK K; refine dw_block ?_; refine dw_seq ?_
    refine dwk [(21, .v (.bool true))] TRT6_ok hnt fun K hK => ?_; refine And.intro (VLe.refl _) ?_; refine hK _ _ ?_; clear hK K; refine dw_cond (t := true) rfl ?_; rw [if_pos rfl]; refine dwkD [] TRT6_ok hnt fun K hK => ?_; refine hK _ _ (by kernel_rfl) ?_; clear hK K; refine dw_seq ?_; refine dw_seq ?_; refine dwk [(39, .v (.bool true))] TRT6_ok hnt fun K hK => ?_; refine And.intro auT ?_; refine hK _ _ ?_; clear hK K
    refine dw_cond (t := true) rfl ?_; rw [if_pos rfl]; refine dw_seq ?_; refine dwk [] TRT6_ok hnt fun K hK => ?_; refine hK _ _ ?_; clear hK K; refine dw_ret ?_
    exact reta rfl
  ·obtain ⟨n, rfl⟩ := Int.eq_ofNat_of_zero_le (Int.not_lt.1 hn)
   rw [headTy_1]
   by_cases hl : n < C.length
   ·rw [List.getElem?_eq_getElem hl]
    simp only [Option.getD_some, Option.isSome_some]
    rw [eTy_eq]
    refine calldw 0 51 [ResultVar.cell 6 44, ResultVar.tmp 7] TRT6_ok Tryz.func54 rfl Tryz.ntmps54 rfl fun cx hnt hn0 => ?_
    ·skip
     refine dw_seq ?_; refine dwk [] TRT6_ok hnt fun K hK => ?_; refine hK _ _ ?_; clear hK K; refine dw_seq ?_; refine dwk [] TRT6_ok hnt fun K hK => ?_; refine hK _ _ ?_; clear hK K; refine dw_seq ?_; refine dwk [] TRT6_ok hnt fun K hK => ?_; refine hK _ _ ?_; clear hK K; refine dw_seq ?_; refine dw_seq ?_; refine dwk [] TRT6_ok hnt fun K hK => ?_; refine hK _ _ ?_; clear hK K; refine dw_block ?_; refine dw_seq ?_
     refine dwk [(21, .v (.bool true))] TRT6_ok hnt fun K hK => ?_; refine And.intro (VLe.refl _) ?_; refine hK _ _ ?_; clear hK K; refine dw_cond (t := true) rfl ?_; rw [if_pos rfl]; refine dwkD [] TRT6_ok hnt fun K hK => ?_; refine hK _ _ (by kernel_rfl) ?_; clear hK K; refine dw_seq ?_; refine dw_seq ?_; refine dwk [(39, .v (.bool false)), (43, .v (.int .i64 (↑C.length))), (44, .v (.bool false))] TRT6_ok hnt fun K hK => ?_
     refine And.intro auF ?_; refine And.intro (dintE (by rw [eTys_len])) ?_; refine And.intro auF ?_; refine hK _ _ ?_; clear hK K; refine dw_cond (t := false) rfl ?_; rw [if_neg (by simp)]; refine dw_skip ?_; refine dw_seq ?_; refine dwk [(49, .q [.sl 2 (eTys C[n].args) none, .v (.int .i64 C[n].base)])] TRT6_ok hnt fun K hK => ?_; refine And.intro (elo (eTys_len C)) ?_; refine And.intro (elv (eTys_getD C n) (eTy_eq _)) ?_
     refine hK _ _ ?_; clear hK K; refine dw_ret ?_
     exact reta rfl
   ·rw [List.getElem?_eq_none (by omega)]
    simp only [Option.getD_none, Option.isSome_none]
    rw [tyZ_eq]
    refine calldw 0 51 [ResultVar.cell 6 44, ResultVar.tmp 7] TRT6_ok Tryz.func54 rfl Tryz.ntmps54 rfl fun cx hnt hn0 => ?_
    ·skip
     refine dw_seq ?_; refine dwk [] TRT6_ok hnt fun K hK => ?_; refine hK _ _ ?_; clear hK K; refine dw_seq ?_; refine dwk [] TRT6_ok hnt fun K hK => ?_; refine hK _ _ ?_; clear hK K; refine dw_seq ?_; refine dwk [] TRT6_ok hnt fun K hK => ?_; refine hK _ _ ?_; clear hK K; refine dw_seq ?_; refine dw_seq ?_; refine dwk [] TRT6_ok hnt fun K hK => ?_; refine hK _ _ ?_; clear hK K; refine dw_block ?_; refine dw_seq ?_
     refine dwk [(21, .v (.bool true))] TRT6_ok hnt fun K hK => ?_; refine And.intro (VLe.refl _) ?_; refine hK _ _ ?_; clear hK K; refine dw_cond (t := true) rfl ?_; rw [if_pos rfl]; refine dwkD [] TRT6_ok hnt fun K hK => ?_; refine hK _ _ (by kernel_rfl) ?_; clear hK K; refine dw_seq ?_; refine dw_seq ?_; refine dwk [(39, .v (.bool false)), (43, .v (.int .i64 (↑C.length))), (44, .v (.bool true))] TRT6_ok hnt fun K hK => ?_
     refine And.intro auF ?_; refine And.intro (dintE (by rw [eTys_len])) ?_; refine And.intro auT ?_; refine hK _ _ ?_; clear hK K; refine dw_cond (t := true) rfl ?_; rw [if_pos rfl]; refine dw_seq ?_; refine dwk [] TRT6_ok hnt fun K hK => ?_; refine hK _ _ ?_; clear hK K; refine dw_ret ?_
     exact reta rfl
 by_cases k2 : k = 2
 ·skip
  subst k2
  by_cases hn : i < 0
  ·rw [headTy_neg hn]
   simp only [Option.getD_none, Option.isSome_none]
   rw [tyZ_eq]
   refine calldw 0 51 [ResultVar.cell 6 44, ResultVar.tmp 7] TRT6_ok Tryz.func54 rfl Tryz.ntmps54 rfl fun cx hnt hn0 => ?_
   ·skip
    refine dw_seq ?_; refine dwk [] TRT6_ok hnt fun K hK => ?_; refine hK _ _ ?_; clear hK K; refine dw_seq ?_; refine dwk [] TRT6_ok hnt fun K hK => ?_; refine hK _ _ ?_; clear hK K; refine dw_seq ?_; refine dwk [] TRT6_ok hnt fun K hK => ?_; refine hK _ _ ?_; clear hK K; refine dw_seq ?_; refine dw_seq ?_; refine dwk [] TRT6_ok hnt fun K hK => ?_; refine hK _ _ ?_; clear hK K; refine dw_block ?_; refine dw_seq ?_
    refine dwk [(21, .v (.bool false))] TRT6_ok hnt fun K hK => ?_; refine And.intro (VLe.refl _) ?_; refine hK _ _ ?_; clear hK K; refine dw_cond (t := false) rfl ?_; rw [if_neg (by simp)]; refine dw_seq ?_; refine dwk [(27, .v (.bool true))] TRT6_ok hnt fun K hK => ?_; refine And.intro (VLe.refl _) ?_; refine hK _ _ ?_; clear hK K; refine dw_cond (t := true) rfl ?_; rw [if_pos rfl]; refine dwkD [] TRT6_ok hnt fun K hK => ?_
    refine hK _ _ (by kernel_rfl) ?_; clear hK K; refine dw_seq ?_; refine dw_seq ?_; refine dwk [(39, .v (.bool true))] TRT6_ok hnt fun K hK => ?_; refine And.intro auT ?_; refine hK _ _ ?_; clear hK K; refine dw_cond (t := true) rfl ?_; rw [if_pos rfl]; refine dw_seq ?_; refine dwk [] TRT6_ok hnt fun K hK => ?_; refine hK _ _ ?_; clear hK K; refine dw_ret ?_
    exact reta rfl
  ·obtain ⟨n, rfl⟩ := Int.eq_ofNat_of_zero_le (Int.not_lt.1 hn)
   rw [headTy_2]
   by_cases hl : n < M.length
   ·rw [List.getElem?_eq_getElem hl]
    simp only [Option.getD_some, Option.isSome_some]
    rw [eTy_eq]
    refine calldw 0 51 [ResultVar.cell 6 44, ResultVar.tmp 7] TRT6_ok Tryz.func54 rfl Tryz.ntmps54 rfl fun cx hnt hn0 => ?_
    ·skip
     refine dw_seq ?_; refine dwk [] TRT6_ok hnt fun K hK => ?_; refine hK _ _ ?_; clear hK K; refine dw_seq ?_; refine dwk [] TRT6_ok hnt fun K hK => ?_; refine hK _ _ ?_; clear hK K; refine dw_seq ?_; refine dwk [] TRT6_ok hnt fun K hK => ?_; refine hK _ _ ?_; clear hK K; refine dw_seq ?_; refine dw_seq ?_; refine dwk [] TRT6_ok hnt fun K hK => ?_; refine hK _ _ ?_; clear hK K; refine dw_block ?_; refine dw_seq ?_
     refine dwk [(21, .v (.bool false))] TRT6_ok hnt fun K hK => ?_; refine And.intro (VLe.refl _) ?_; refine hK _ _ ?_; clear hK K; refine dw_cond (t := false) rfl ?_; rw [if_neg (by simp)]; refine dw_seq ?_; refine dwk [(27, .v (.bool true))] TRT6_ok hnt fun K hK => ?_; refine And.intro (VLe.refl _) ?_; refine hK _ _ ?_; clear hK K; refine dw_cond (t := true) rfl ?_; rw [if_pos rfl]; refine dwkD [] TRT6_ok hnt fun K hK => ?_
     refine hK _ _ (by kernel_rfl) ?_; clear hK K; refine dw_seq ?_; refine dw_seq ?_; refine dwk [(39, .v (.bool false)), (43, .v (.int .i64 (↑M.length))), (44, .v (.bool false))] TRT6_ok hnt fun K hK => ?_; refine And.intro auF ?_; refine And.intro (dintE (by rw [eTys_len])) ?_; refine And.intro auF ?_; refine hK _ _ ?_; clear hK K; refine dw_cond (t := false) rfl ?_; rw [if_neg (by simp)]; refine dw_skip ?_
     refine dw_seq ?_; refine dwk [(49, .q [.sl 2 (eTys M[n].args) none, .v (.int .i64 M[n].base)])] TRT6_ok hnt fun K hK => ?_; refine And.intro (elo (eTys_len M)) ?_; refine And.intro (elv (eTys_getD M n) (eTy_eq _)) ?_; refine hK _ _ ?_; clear hK K; refine dw_ret ?_
     exact reta rfl
   ·rw [List.getElem?_eq_none (by omega)]
    simp only [Option.getD_none, Option.isSome_none]
    rw [tyZ_eq]
    refine calldw 0 51 [ResultVar.cell 6 44, ResultVar.tmp 7] TRT6_ok Tryz.func54 rfl Tryz.ntmps54 rfl fun cx hnt hn0 => ?_
    ·skip
     refine dw_seq ?_; refine dwk [] TRT6_ok hnt fun K hK => ?_; refine hK _ _ ?_; clear hK K; refine dw_seq ?_; refine dwk [] TRT6_ok hnt fun K hK => ?_; refine hK _ _ ?_; clear hK K; refine dw_seq ?_; refine dwk [] TRT6_ok hnt fun K hK => ?_; refine hK _ _ ?_; clear hK K; refine dw_seq ?_; refine dw_seq ?_; refine dwk [] TRT6_ok hnt fun K hK => ?_; refine hK _ _ ?_; clear hK K; refine dw_block ?_; refine dw_seq ?_
     refine dwk [(21, .v (.bool false))] TRT6_ok hnt fun K hK => ?_; refine And.intro (VLe.refl _) ?_; refine hK _ _ ?_; clear hK K; refine dw_cond (t := false) rfl ?_; rw [if_neg (by simp)]; refine dw_seq ?_; refine dwk [(27, .v (.bool true))] TRT6_ok hnt fun K hK => ?_; refine And.intro (VLe.refl _) ?_; refine hK _ _ ?_; clear hK K; refine dw_cond (t := true) rfl ?_; rw [if_pos rfl]; refine dwkD [] TRT6_ok hnt fun K hK => ?_
     refine hK _ _ (by kernel_rfl) ?_; clear hK K; refine dw_seq ?_; refine dw_seq ?_; refine dwk [(39, .v (.bool false)), (43, .v (.int .i64 (↑M.length))), (44, .v (.bool true))] TRT6_ok hnt fun K hK => ?_; refine And.intro auF ?_; refine And.intro (dintE (by rw [eTys_len])) ?_; refine And.intro auT ?_; refine hK _ _ ?_; clear hK K; refine dw_cond (t := true) rfl ?_; rw [if_pos rfl]; refine dw_seq ?_; refine dwk [] TRT6_ok hnt fun K hK => ?_
     refine hK _ _ ?_; clear hK K; refine dw_ret ?_
     exact reta rfl
 by_cases k0 : k = 0
 ·subst k0
  by_cases hn : i < 0
  ·rw [headTy_neg hn]
   simp only [Option.getD_none, Option.isSome_none]
   rw [tyZ_eq]
   refine calldw 0 51 [ResultVar.cell 6 44, ResultVar.tmp 7] TRT6_ok Tryz.func54 rfl Tryz.ntmps54 rfl fun cx hnt hn0 => ?_
   ·skip
    refine dw_seq ?_; refine dwk [] TRT6_ok hnt fun K hK => ?_; refine hK _ _ ?_; clear hK K; refine dw_seq ?_; refine dwk [] TRT6_ok hnt fun K hK => ?_; refine hK _ _ ?_; clear hK K; refine dw_seq ?_; refine dwk [] TRT6_ok hnt fun K hK => ?_; refine hK _ _ ?_; clear hK K; refine dw_seq ?_; refine dw_seq ?_; refine dwk [] TRT6_ok hnt fun K hK => ?_; refine hK _ _ ?_; clear hK K; refine dw_block ?_; refine dw_seq ?_
    refine dwk [(21, .v (.bool false))] TRT6_ok hnt fun K hK => ?_; refine And.intro (VLe.refl _) ?_; refine hK _ _ ?_; clear hK K; refine dw_cond (t := false) rfl ?_; rw [if_neg (by simp)]; refine dw_seq ?_; refine dwk [(27, .v (.bool false))] TRT6_ok hnt fun K hK => ?_; refine And.intro (VLe.refl _) ?_; refine hK _ _ ?_; clear hK K; refine dw_cond (t := false) rfl ?_; rw [if_neg (by simp)]; refine dw_seq ?_
    refine dwk [(33, .v (.bool true))] TRT6_ok hnt fun K hK => ?_; refine And.intro (VLe.refl _) ?_; refine hK _ _ ?_; clear hK K; refine dw_cond (t := true) rfl ?_; rw [if_pos rfl]; refine dw_seq ?_; refine dwk [(36, .v (.bool true))] TRT6_ok hnt fun K hK => ?_; refine And.intro auT ?_; refine hK _ _ ?_; clear hK K; refine dw_cond (t := true) rfl ?_; rw [if_pos rfl]; refine dw_seq ?_; refine dwk [] TRT6_ok hnt fun K hK => ?_
    refine hK _ _ ?_; clear hK K; refine dw_ret ?_
    exact reta rfl
  ·obtain ⟨n, rfl⟩ := Int.eq_ofNat_of_zero_le (Int.not_lt.1 hn)
   rw [headTy_0]
   by_cases hl : n < X.length
   ·have hx : X.length - 1 - n < X.length := by omega
    rw [List.getElem?_reverse (by omega), List.getElem?_eq_getElem hx]
    simp only [Option.getD_some, Option.isSome_some]
    rw [eTy_eq]
    have hg : (eTys X).getD ((X.length : Int) - 1 - (n : Int)).toNat [] = [.sl 2 (eTys (X[X.length - 1 - n]).args) none, .v (.int .i64 (X[X.length - 1 - n]).base)] := by rw [show ((X.length : Int) - 1 - (n : Int)).toNat = X.length - 1 - n by omega, eTys_getD X _ hx, eTy_eq]
    refine calldw 0 51 [ResultVar.cell 6 44, ResultVar.tmp 7] TRT6_ok Tryz.func54 rfl Tryz.ntmps54 rfl fun cx hnt hn0 => ?_
    ·skip
     refine dw_seq ?_; refine dwk [] TRT6_ok hnt fun K hK => ?_; refine hK _ _ ?_; clear hK K; refine dw_seq ?_; refine dwk [] TRT6_ok hnt fun K hK => ?_; refine hK _ _ ?_; clear hK K; refine dw_seq ?_; refine dwk [(12, .v (.int .i64 (↑X.length))), (13, .v (.int .i64 ((↑X.length - 1)))), (16, .v (.int .i64 ((↑X.length - 1 - ↑n))))] TRT6_ok hnt fun K hK => ?_; refine And.intro (dintE (by rw [eTys_len])) ?_
     refine And.intro auI ?_; refine And.intro auI ?_; refine hK _ _ ?_; clear hK K; refine dw_seq ?_; refine dw_seq ?_; refine dwk [] TRT6_ok hnt fun K hK => ?_; refine hK _ _ ?_; clear hK K; refine dw_block ?_; refine dw_seq ?_; refine dwk [(21, .v (.bool false))] TRT6_ok hnt fun K hK => ?_; refine And.intro (VLe.refl _) ?_; refine hK _ _ ?_; clear hK K; refine dw_cond (t := false) rfl ?_; rw [if_neg (by simp)]
     refine dw_seq ?_; refine dwk [(27, .v (.bool false))] TRT6_ok hnt fun K hK => ?_; refine And.intro (VLe.refl _) ?_; refine hK _ _ ?_; clear hK K; refine dw_cond (t := false) rfl ?_; rw [if_neg (by simp)]; refine dw_seq ?_; refine dwk [(33, .v (.bool true))] TRT6_ok hnt fun K hK => ?_; refine And.intro (VLe.refl _) ?_; refine hK _ _ ?_; clear hK K; refine dw_cond (t := true) rfl ?_; rw [if_pos rfl]
     refine dw_seq ?_; refine dwk [(36, .v (.bool false))] TRT6_ok hnt fun K hK => ?_; refine And.intro auF ?_; refine hK _ _ ?_; clear hK K; refine dw_cond (t := false) rfl ?_; rw [if_neg (by simp)]; refine dw_skip ?_; refine dw_seq ?_; refine dw_seq ?_; refine dwk [(39, .v (.bool false)), (43, .v (.int .i64 (↑X.length))), (44, .v (.bool false))] TRT6_ok hnt fun K hK => ?_; refine And.intro auF ?_; refine And.intro (dintE (by rw [eTys_len])) ?_
     refine And.intro auF ?_; refine hK _ _ ?_; clear hK K; refine dw_cond (t := false) rfl ?_; rw [if_neg (by simp)]; refine dw_skip ?_; refine dw_seq ?_; refine dwk [(49, .q [.sl 2 (eTys (X[X.length - 1 - n]).args) none, .v (.int .i64 (X[X.length - 1 - n]).base)])] TRT6_ok hnt fun K hK => ?_; refine And.intro (⟨by omega, by rw [eTys_len]; omega⟩) ?_; refine And.intro (VLe.of_eq (by rw [hg])) ?_; refine hK _ _ ?_; clear hK K
     refine dw_ret ?_
     exact reta rfl
   ·rw [List.getElem?_eq_none (by simp; omega)]
    simp only [Option.getD_none, Option.isSome_none]
    rw [tyZ_eq]
    refine calldw 0 51 [ResultVar.cell 6 44, ResultVar.tmp 7] TRT6_ok Tryz.func54 rfl Tryz.ntmps54 rfl fun cx hnt hn0 => ?_
    ·skip
     refine dw_seq ?_; refine dwk [] TRT6_ok hnt fun K hK => ?_; refine hK _ _ ?_; clear hK K; refine dw_seq ?_; refine dwk [] TRT6_ok hnt fun K hK => ?_; refine hK _ _ ?_; clear hK K; refine dw_seq ?_; refine dwk [(12, .v (.int .i64 (↑X.length))), (13, .v (.int .i64 ((↑X.length - 1)))), (16, .v (.int .i64 ((↑X.length - 1 - ↑n))))] TRT6_ok hnt fun K hK => ?_; refine And.intro (dintE (by rw [eTys_len])) ?_
     refine And.intro auI ?_; refine And.intro auI ?_; refine hK _ _ ?_; clear hK K; refine dw_seq ?_; refine dw_seq ?_; refine dwk [] TRT6_ok hnt fun K hK => ?_; refine hK _ _ ?_; clear hK K; refine dw_block ?_; refine dw_seq ?_; refine dwk [(21, .v (.bool false))] TRT6_ok hnt fun K hK => ?_; refine And.intro (VLe.refl _) ?_; refine hK _ _ ?_; clear hK K; refine dw_cond (t := false) rfl ?_; rw [if_neg (by simp)]
     refine dw_seq ?_; refine dwk [(27, .v (.bool false))] TRT6_ok hnt fun K hK => ?_; refine And.intro (VLe.refl _) ?_; refine hK _ _ ?_; clear hK K; refine dw_cond (t := false) rfl ?_; rw [if_neg (by simp)]; refine dw_seq ?_; refine dwk [(33, .v (.bool true))] TRT6_ok hnt fun K hK => ?_; refine And.intro (VLe.refl _) ?_; refine hK _ _ ?_; clear hK K; refine dw_cond (t := true) rfl ?_; rw [if_pos rfl]
     refine dw_seq ?_; refine dwk [(36, .v (.bool false))] TRT6_ok hnt fun K hK => ?_; refine And.intro auF ?_; refine hK _ _ ?_; clear hK K; refine dw_cond (t := false) rfl ?_; rw [if_neg (by simp)]; refine dw_skip ?_; refine dw_seq ?_; refine dw_seq ?_; refine dwk [(39, .v (.bool true))] TRT6_ok hnt fun K hK => ?_; refine And.intro auT ?_; refine hK _ _ ?_; clear hK K; refine dw_cond (t := true) rfl ?_
     rw [if_pos rfl]; refine dw_seq ?_; refine dwk [] TRT6_ok hnt fun K hK => ?_; refine hK _ _ ?_; clear hK K; refine dw_ret ?_
     exact reta rfl
 ·rw [headTy_o k0 k1 k2]
  simp only [Option.getD_none, Option.isSome_none]
  rw [tyZ_eq]
  refine calldw 0 51 [ResultVar.cell 6 44, ResultVar.tmp 7] TRT6_ok Tryz.func54 rfl Tryz.ntmps54 rfl fun cx hnt hn0 => ?_
  ·skip
   refine dw_seq ?_; refine dwk [] TRT6_ok hnt fun K hK => ?_; refine hK _ _ ?_; clear hK K; refine dw_seq ?_; refine dwk [] TRT6_ok hnt fun K hK => ?_; refine hK _ _ ?_; clear hK K; refine dw_seq ?_; refine dwk [] TRT6_ok hnt fun K hK => ?_; refine hK _ _ ?_; clear hK K; refine dw_seq ?_; refine dw_seq ?_; refine dwk [] TRT6_ok hnt fun K hK => ?_; refine hK _ _ ?_; clear hK K; refine dw_block ?_; refine dw_seq ?_
   refine dwk [(21, .v (.bool false))] TRT6_ok hnt fun K hK => ?_; refine And.intro (beqF k1) ?_; refine hK _ _ ?_; clear hK K; refine dw_cond (t := false) rfl ?_; rw [if_neg (by simp)]; refine dw_seq ?_; refine dwk [(27, .v (.bool false))] TRT6_ok hnt fun K hK => ?_; refine And.intro (beqF k2) ?_; refine hK _ _ ?_; clear hK K; refine dw_cond (t := false) rfl ?_; rw [if_neg (by simp)]; refine dw_seq ?_
   refine dwk [(33, .v (.bool false))] TRT6_ok hnt fun K hK => ?_; refine And.intro (beqF k0) ?_; refine hK _ _ ?_; clear hK K; refine dw_cond (t := false) rfl ?_; rw [if_neg (by simp)]; refine dw_seq ?_; refine dwk [] TRT6_ok hnt fun K hK => ?_; refine hK _ _ ?_; clear hK K; refine dw_ret ?_
   exact reta rfl
theorem ttype_d (b : Int) (C M : List Ty) (t : Tm) (hi : t.index ≤ 9223372036854775807) (hC : C.length ≤ 1000000) (hM : M.length ≤ 1000000) (hz : t.full ≤ 780000) :
  PureC Tryz.prog 14 [.ag [.v (.int .i64 b), .sl 2 (eTys C) none, .sl 2 (eTys M) none], .v (.slice none 0 0), .ag (eTm t)] (.tu [.ag (eTy ((tyOf C M t).getD tyZ)), .v (.int .i64 (if (tyOf C M t).isSome then 0 else 10))]) := by
 have hbl := Ty.le_sizes t.binds
 have hfl := full_args t
 have hbe : PureC Tryz.prog 55 [.v (.slice none 0 0), .sl 2 (eTys t.binds) none] (.sl 2 (eTys ([] ++ t.binds)) none) := CallC.vle (within_d [] t.binds (by simp; omega)) (.cons (VLe.nil _) (.cons (VLe.refl _) .nil)) (VLe.refl _)
 have hh := theadA_d b C M ([] ++ t.binds) t.kind t.index hi hC hM (by simp; omega)
 unfold tyOf
 obtain ⟨o, ho⟩ : ∃ o, headTy C M ([] ++ t.binds) t.kind t.index = o := ⟨_, rfl⟩
 obtain ⟨X, hX⟩ : ∃ X, [] ++ t.binds = X := ⟨_, rfl⟩
 rw [hX] at hh hbe ho ⊢
 rw [ho] at hh ⊢
 rw [eTm_eq]
 cases o with
 | none =>
  simp only [Option.map_none, Option.getD_none, Option.isSome_none, Bool.false_eq_true, if_false] at hh ⊢
  rw [tyZ_eq] at hh ⊢
  refine calldw 0 29 [ResultVar.cell 6 44, ResultVar.tmp 7] TRT6_ok Tryz.func14 rfl Tryz.ntmps14 rfl fun cx hnt hn0 => ?_
  ·skip
   refine dw_seq ?_; refine dwk [] TRT6_ok hnt fun K hK => ?_; refine hK _ _ ?_; clear hK K; refine dw_seq ?_; refine dwkD [] TRT6_ok hnt fun K hK => ?_; refine dcl (hbe) ?_; refine dcl (hh) ?_; refine hK _ _ (by kernel_rfl) ?_; clear hK K; refine dw_seq ?_; refine dw_seq ?_; refine dwk [] TRT6_ok hnt fun K hK => ?_; refine hK _ _ ?_; clear hK K; refine dw_cond (t := true) rfl ?_; rw [if_pos rfl]; refine dw_seq ?_
   refine dwk [] TRT6_ok hnt fun K hK => ?_; refine hK _ _ ?_; clear hK K; refine dw_ret ?_
   exact reta rfl
 | some h =>
  simp only [Option.map_some, Option.getD_some, Option.isSome_some, if_true] at hh ⊢
  have hk := kOf_d h.base t.binds (by omega)
  rw [eTy_eq] at hh hk ⊢
  simp only [args_mk', base_mk'] at hk ⊢
  refine calldw 0 29 [ResultVar.cell 6 44, ResultVar.tmp 7] TRT6_ok Tryz.func14 rfl Tryz.ntmps14 rfl fun cx hnt hn0 => ?_
  ·skip
   refine dw_seq ?_; refine dwk [] TRT6_ok hnt fun K hK => ?_; refine hK _ _ ?_; clear hK K; refine dw_seq ?_; refine dwkD [] TRT6_ok hnt fun K hK => ?_; refine dcl (hbe) ?_; refine dcl (hh) ?_; refine hK _ _ (by kernel_rfl) ?_; clear hK K; refine dw_seq ?_; refine dw_seq ?_; refine dwk [] TRT6_ok hnt fun K hK => ?_; refine hK _ _ ?_; clear hK K; refine dw_cond (t := false) rfl ?_; rw [if_neg (by simp)]
   refine dw_skip ?_; refine dw_seq ?_; refine dwk [] TRT6_ok hnt fun K hK => ?_; refine dcl (hk) ?_; refine hK _ _ ?_; clear hK K; refine dw_ret ?_
   exact reta rfl
set_option maxHeartbeats 4000000 in
theorem tisX_d (b : Int) (C M : List Ty) (hC : C.length ≤ 1000000) (hM : M.length ≤ 1000000) : ∀ (t : Tm) (X : List Ty) (u : Ty) (c : Bool), (c = true ↔ IsOf C M t X u) → X.length + t.full ≤ 780000 → t.Fit →
  PureC Tryz.prog 62 [.ag [.v (.int .i64 b), .sl 2 (eTys C) none, .sl 2 (eTys M) none], .sl 2 (eTys X) none, .ag (eTm t), .ag (eTy u)] (.v (.bool c)) := by
 intro t
 induction t using Tm.ind with
 | h bs k i a ih =>
 intro X u c hc hz hf
 obtain ⟨_, f2, f3⟩ := Tm.fit_iff.1 hf
 rw [Tm.full_eq] at hz
 have hal := cFulls_len a
 have hbl := Ty.le_sizes bs
 have hbe := within_d X bs (by omega)
 have hh := theadA_d b C M (X ++ bs) k i f2 hC hM (by simp; omega)
 obtain ⟨o, ho⟩ : ∃ o, headTy C M (X ++ bs) k i = o := ⟨_, rfl⟩
 obtain ⟨Y, hY⟩ : ∃ Y, X ++ bs = Y := ⟨_, rfl⟩
 have hYl : Y.length = X.length + bs.length := by rw [← hY]; simp
 have hty := eqTys_d bs u.args 69 rfl
 have no : ∀ (h : ∀ x, headTy C M (X ++ bs) k i = some x → bs = u.args → x.base = u.base → x.args.length = a.length → False), c = false := fun h => by
  rw [Bool.eq_false_iff]; exact fun hc1 => isOf_no h (hc.1 hc1)
 rw [ho] at hh no
 rw [eTm_eq, eTy_eq]
 simp only [bindsT, kindT, indexT, argsTm]
 rw [hY] at hbe hh
 by_cases hb : bs = u.args
 ·rw [decide_eq_true hb] at hty
  cases o with
  | none =>
   simp only [Option.getD_none, Option.isSome_none] at hh
   rw [tyZ_eq] at hh
   rw [no (fun x h => by cases h)]
   refine calldw 0 69 [ResultVar.tmp 8] TRT6_ok Tryz.func62 rfl Tryz.ntmps62 rfl fun cx hnt hn0 => ?_
   ·skip
    refine dw_seq ?_; refine dwk [] TRT6_ok hnt fun K hK => ?_; refine hK _ _ ?_; clear hK K; refine dw_seq ?_; refine dw_seq ?_; refine dwk [] TRT6_ok hnt fun K hK => ?_; refine dcl (hty) ?_; refine hK _ _ ?_; clear hK K; refine dw_cond (t := false) rfl ?_; rw [if_neg (by simp)]; refine dw_skip ?_; refine dw_seq ?_; refine dwk [] TRT6_ok hnt fun K hK => ?_; refine dcl (hbe) ?_; refine hK _ _ ?_; clear hK K
    refine dw_seq ?_; refine dwk [] TRT6_ok hnt fun K hK => ?_; refine dcl (hh) ?_; refine hK _ _ ?_; clear hK K; refine dw_seq ?_; refine dw_seq ?_; refine dwk [] TRT6_ok hnt fun K hK => ?_; refine hK _ _ ?_; clear hK K; refine dw_cond (t := true) rfl ?_; rw [if_pos rfl]; refine dw_seq ?_; refine dwk [] TRT6_ok hnt fun K hK => ?_; refine hK _ _ ?_; clear hK K; refine dw_ret ?_
    exact reta rfl
  | some h =>
  simp only [Option.getD_some, Option.isSome_some] at hh
  rw [eTy_eq] at hh
  by_cases hbs : h.base = u.base
  ·by_cases hln : h.args.length = a.length
   ·have hIff : c = true ↔ ∀ j (h1 : j < a.length) (h2 : j < h.args.length), IsOf C M a[j] Y h.args[j] := by
     rw [hc, isOf_mk, hY]
     constructor
     ·rintro ⟨_, x, h2, _, h4⟩ j j1 j2
      rw [← hY, ho] at h2; cases h2
      exact (isOfs_iff.1 h4).2 j j1 j2
     ·intro hall
      exact ⟨hb, h, by rw [← hY, ho], hbs, isOfs_iff.2 ⟨hln, hall⟩⟩
    have hI : ∀ j (h1 : j < a.length) (h2 : j < h.args.length) (d : Bool), (d = true ↔ IsOf C M a[j] Y h.args[j]) → PureC Tryz.prog 62 [.ag [.v (.int .i64 b), .sl 2 (eTys C) none, .sl 2 (eTys M) none], .sl 2 (eTys Y) none, .ag (eTm a[j]), .ag (eTy h.args[j])] (.v (.bool d)) := fun j h1 h2 d hd => ih _ (List.getElem_mem h1) Y _ d hd (by have := Tm.full_mem (List.getElem_mem h1); omega) (f3 _ (List.getElem_mem h1))
    clear ih no hc
    refine calldw 0 69 [ResultVar.tmp 8] TRT6_ok Tryz.func62 rfl Tryz.ntmps62 rfl fun cx hnt hn0 => ?_
    ·skip
     refine dw_seq ?_; refine dwk [] TRT6_ok hnt fun K hK => ?_; refine hK _ _ ?_; clear hK K; refine dw_seq ?_; refine dw_seq ?_; refine dwk [] TRT6_ok hnt fun K hK => ?_; refine dcl (hty) ?_; refine hK _ _ ?_; clear hK K; refine dw_cond (t := false) rfl ?_; rw [if_neg (by simp)]; refine dw_skip ?_; refine dw_seq ?_; refine dwk [] TRT6_ok hnt fun K hK => ?_; refine dcl (hbe) ?_; refine hK _ _ ?_; clear hK K
     refine dw_seq ?_; refine dwk [] TRT6_ok hnt fun K hK => ?_; refine dcl (hh) ?_; refine hK _ _ ?_; clear hK K; refine dw_seq ?_; refine dw_seq ?_; refine dwk [(39, .v (.bool false)), (44, .v (.int .i64 (↑h.args.length))), (47, .v (.int .i64 (↑a.length))), (48, .v (.bool false))] TRT6_ok hnt fun K hK => ?_; refine And.intro (bneF hbs) ?_; refine And.intro (dintE (by rw [eTys_len])) ?_; refine And.intro (dintE (by rw [eTms_len])) ?_
     refine And.intro (bneF (by omega)) ?_; refine hK _ _ ?_; clear hK K; refine dw_cond (t := false) rfl ?_; rw [if_neg (by simp)]; refine dw_skip ?_; refine dw_seq ?_; refine dw_seq ?_; refine dwk [(52, .v (.int .i64 (↑a.length)))] TRT6_ok hnt fun K hK => ?_; refine And.intro (dintE (by rw [eTms_len])) ?_; refine hK _ _ ?_; clear hK K; refine dw_block ?_
     refine dw_loop (ι := { j : Nat // ∀ i (h1 : i < a.length) (h2 : i < h.args.length), i < j → IsOf C M a[i] Y h.args[i] }) (fun j => [(.t 4, .p 0 0), (.t 6, .p 1 0), (.t 7, .p 2 0), (.t 9, .sl 2 (eTys Y) none), (.t 10, .p 23 0), (.t 51, .sl 4 (eTms a) none), (.t 52, .v (.int .i64 ↑a.length)), (.t 53, .v (.int .i64 ↑j.1)), (.c 0 0, .v (.int .i64 b)), (.c 0 1, .sl 2 (eTys C) none), (.c 0 2, .sl 2 (eTys M) none), (.c 23 0, .sl 2 (eTys h.args) none), (.c 23 1, .v (.int .i64 h.base))]) 24 (fun j => a.length - j.1) (⟨0, fun i h1 h2 h3 => by omega⟩) (VS.toA) fun j => ?_
     obtain ⟨j, hj⟩ := j
     dsimp only
     by_cases hlt : j < a.length
     ·have hlt2 : j < h.args.length := by omega
      by_cases hio : IsOf C M a[j] Y h.args[j]
      ·have hi := hI j hlt hlt2 true (by simp [hio])
       rw [eTm_eq, eTy_eq] at hi
       refine dw_seq ?_; refine dwk [(54, .v (.bool true))] TRT6_ok hnt fun K hK => ?_; refine And.intro auT ?_; refine hK _ _ ?_; clear hK K; refine dw_seq ?_; refine dw_cond (t := true) rfl ?_; rw [if_pos rfl]; refine dw_skip ?_; refine dw_seq ?_; refine dw_block ?_; refine dw_seq ?_; refine dwk [(56, .q [.sl 2 (eTys a[j].binds) none, .v (.int .i64 a[j].kind), .v (.int .i64 a[j].index), .sl 4 (eTms a[j].args) none])] TRT6_ok hnt fun K hK => ?_
       refine And.intro (elo (eTms_len a)) ?_; refine And.intro (elv (eTms_getD a j) (eTm_eq _)) ?_; refine hK _ _ ?_; clear hK K; refine dw_seq ?_; refine dwkD [(64, .q [.sl 2 (eTys h.args[j].args) none, .v (.int .i64 h.args[j].base)])] TRT6_ok hnt fun K hK => ?_; refine And.intro (elo (eTys_len h.args)) ?_; refine And.intro (elv (eTys_getD h.args j) (eTy_eq _)) ?_; refine dcl (hi) ?_; refine hK _ _ (by kernel_rfl) ?_; clear hK K
       refine dw_cond (t := false) rfl ?_; rw [if_neg (by simp)]; refine dw_skip ?_; refine dwk [(68, .v (.int .i64 (↑(j + 1))))] TRT6_ok hnt fun K hK => ?_; refine And.intro auI ?_; refine hK _ _ ?_; clear hK K
       refine ⟨⟨j + 1, fun q h1 h2 h3 => if e : q = j then by subst e; exact hio else hj q h1 h2 (by omega)⟩, by first | omega | (dsimp only; omega), VS.toA⟩
      ·have hi := hI j hlt hlt2 false (by simp [hio])
       rw [eTm_eq, eTy_eq] at hi
       have hcf : c = false := by rw [Bool.eq_false_iff]; exact fun h1 => hio (hIff.1 h1 j hlt hlt2)
       rw [hcf]
       refine dw_seq ?_; refine dwk [(54, .v (.bool true))] TRT6_ok hnt fun K hK => ?_; refine And.intro auT ?_; refine hK _ _ ?_; clear hK K; refine dw_seq ?_; refine dw_cond (t := true) rfl ?_; rw [if_pos rfl]; refine dw_skip ?_; refine dw_seq ?_; refine dw_block ?_; refine dw_seq ?_; refine dwk [(56, .q [.sl 2 (eTys a[j].binds) none, .v (.int .i64 a[j].kind), .v (.int .i64 a[j].index), .sl 4 (eTms a[j].args) none])] TRT6_ok hnt fun K hK => ?_
       refine And.intro (elo (eTms_len a)) ?_; refine And.intro (elv (eTms_getD a j) (eTm_eq _)) ?_; refine hK _ _ ?_; clear hK K; refine dw_seq ?_; refine dwkD [(64, .q [.sl 2 (eTys h.args[j].args) none, .v (.int .i64 h.args[j].base)])] TRT6_ok hnt fun K hK => ?_; refine And.intro (elo (eTys_len h.args)) ?_; refine And.intro (elv (eTys_getD h.args j) (eTy_eq _)) ?_; refine dcl (hi) ?_; refine hK _ _ (by kernel_rfl) ?_; clear hK K
       refine dw_cond (t := true) rfl ?_; rw [if_pos rfl]; refine dw_seq ?_; refine dwk [] TRT6_ok hnt fun K hK => ?_; refine hK _ _ ?_; clear hK K; refine dw_ret ?_
       exact reta rfl
     ·rw [hIff.2 fun q h1 h2 => hj q h1 h2 (by omega)]
      refine dw_seq ?_; refine dwk [(54, .v (.bool false))] TRT6_ok hnt fun K hK => ?_; refine And.intro auF ?_; refine hK _ _ ?_; clear hK K; refine dw_seq ?_; refine dw_cond (t := false) rfl ?_; rw [if_neg (by simp)]; refine dw_exit ?_; refine dw_seq ?_; refine dwk [] TRT6_ok hnt fun K hK => ?_; refine hK _ _ ?_; clear hK K; refine dw_ret ?_
      exact reta rfl
   ·rw [no (fun x h1 _ _ h4 => by cases h1; exact hln h4)]
    refine calldw 0 69 [ResultVar.tmp 8] TRT6_ok Tryz.func62 rfl Tryz.ntmps62 rfl fun cx hnt hn0 => ?_
    ·skip
     refine dw_seq ?_; refine dwk [] TRT6_ok hnt fun K hK => ?_; refine hK _ _ ?_; clear hK K; refine dw_seq ?_; refine dw_seq ?_; refine dwk [] TRT6_ok hnt fun K hK => ?_; refine dcl (hty) ?_; refine hK _ _ ?_; clear hK K; refine dw_cond (t := false) rfl ?_; rw [if_neg (by simp)]; refine dw_skip ?_; refine dw_seq ?_; refine dwk [] TRT6_ok hnt fun K hK => ?_; refine dcl (hbe) ?_; refine hK _ _ ?_; clear hK K
     refine dw_seq ?_; refine dwk [] TRT6_ok hnt fun K hK => ?_; refine dcl (hh) ?_; refine hK _ _ ?_; clear hK K; refine dw_seq ?_; refine dw_seq ?_; refine dwk [(39, .v (.bool false)), (44, .v (.int .i64 (↑h.args.length))), (47, .v (.int .i64 (↑a.length))), (48, .v (.bool true))] TRT6_ok hnt fun K hK => ?_; refine And.intro (bneF hbs) ?_; refine And.intro (dintE (by rw [eTys_len])) ?_; refine And.intro (dintE (by rw [eTms_len])) ?_
     refine And.intro (bneT (by omega)) ?_; refine hK _ _ ?_; clear hK K; refine dw_cond (t := true) rfl ?_; rw [if_pos rfl]; refine dw_seq ?_; refine dwk [] TRT6_ok hnt fun K hK => ?_; refine hK _ _ ?_; clear hK K; refine dw_ret ?_
     exact reta rfl
  ·rw [no (fun x h1 _ h3 _ => by cases h1; exact hbs h3)]
   refine calldw 0 69 [ResultVar.tmp 8] TRT6_ok Tryz.func62 rfl Tryz.ntmps62 rfl fun cx hnt hn0 => ?_
   ·skip
    refine dw_seq ?_; refine dwk [] TRT6_ok hnt fun K hK => ?_; refine hK _ _ ?_; clear hK K; refine dw_seq ?_; refine dw_seq ?_; refine dwk [] TRT6_ok hnt fun K hK => ?_; refine dcl (hty) ?_; refine hK _ _ ?_; clear hK K; refine dw_cond (t := false) rfl ?_; rw [if_neg (by simp)]; refine dw_skip ?_; refine dw_seq ?_; refine dwk [] TRT6_ok hnt fun K hK => ?_; refine dcl (hbe) ?_; refine hK _ _ ?_; clear hK K
    refine dw_seq ?_; refine dwk [] TRT6_ok hnt fun K hK => ?_; refine dcl (hh) ?_; refine hK _ _ ?_; clear hK K; refine dw_seq ?_; refine dw_seq ?_; refine dwk [(39, .v (.bool true))] TRT6_ok hnt fun K hK => ?_; refine And.intro (bneT hbs) ?_; refine hK _ _ ?_; clear hK K; refine dw_cond (t := true) rfl ?_; rw [if_pos rfl]; refine dw_seq ?_; refine dwk [] TRT6_ok hnt fun K hK => ?_; refine hK _ _ ?_; clear hK K
    refine dw_ret ?_
    exact reta rfl
 ·rw [decide_eq_false hb] at hty
  rw [no (fun x _ h2 _ _ => hb h2)]
  refine calldw 0 69 [ResultVar.tmp 8] TRT6_ok Tryz.func62 rfl Tryz.ntmps62 rfl fun cx hnt hn0 => ?_
  ·skip
   refine dw_seq ?_; refine dwk [] TRT6_ok hnt fun K hK => ?_; refine hK _ _ ?_; clear hK K; refine dw_seq ?_; refine dw_seq ?_; refine dwk [] TRT6_ok hnt fun K hK => ?_; refine dcl (hty) ?_; refine hK _ _ ?_; clear hK K; refine dw_cond (t := true) rfl ?_; rw [if_pos rfl]; refine dw_seq ?_; refine dwk [] TRT6_ok hnt fun K hK => ?_; refine hK _ _ ?_; clear hK K; refine dw_ret ?_
   exact reta rfl
theorem tcheckX_d (b : Int) (C M X : List Ty) (t : Tm) (u : Ty) (c : Int) (hC : C.length ≤ 1000000) (hM : M.length ≤ 1000000) (hc : checkCode C M t X u c) (hz : X.length + t.full ≤ 780000) (hf : t.Fit) :
  PureC Tryz.prog 16 [.ag [.v (.int .i64 b), .sl 2 (eTys C) none, .sl 2 (eTys M) none], .sl 2 (eTys X) none, .ag (eTm t), .ag (eTy u)] (.v (.int .i64 c)) := by
 have hr := right_d t (by omega)
 have hi := fun d hd => tisX_d b C M hC hM t X u d hd hz hf
 rw [eTm_eq, eTy_eq] at hi
 rw [eTm_eq] at hr
 rw [eTm_eq, eTy_eq]
 rcases hc with ⟨h1, rfl⟩ | ⟨h1, h2, rfl⟩ | ⟨h1, h2, rfl⟩
 ·rw [decide_eq_false h1] at hr
  refine calldw 0 20 [ResultVar.tmp 8] TRT6_ok Tryz.func16 rfl Tryz.ntmps16 rfl fun cx hnt hn0 => ?_
  ·skip
   refine dw_seq ?_; refine dwk [] TRT6_ok hnt fun K hK => ?_; refine hK _ _ ?_; clear hK K; refine dw_seq ?_; refine dw_block ?_; refine dw_seq ?_; refine dwk [] TRT6_ok hnt fun K hK => ?_; refine dcl (hr) ?_; refine hK _ _ ?_; clear hK K; refine dw_cond (t := true) rfl ?_; rw [if_pos rfl]; refine dw_seq ?_; refine dwk [] TRT6_ok hnt fun K hK => ?_; refine hK _ _ ?_; clear hK K; refine dw_ret ?_
   exact reta rfl
 ·rw [decide_eq_true h1] at hr
  have hi := hi false (by simp [h2])
  refine calldw 0 20 [ResultVar.tmp 8] TRT6_ok Tryz.func16 rfl Tryz.ntmps16 rfl fun cx hnt hn0 => ?_
  ·skip
   refine dw_seq ?_; refine dwk [] TRT6_ok hnt fun K hK => ?_; refine hK _ _ ?_; clear hK K; refine dw_seq ?_; refine dw_block ?_; refine dw_seq ?_; refine dwk [] TRT6_ok hnt fun K hK => ?_; refine dcl (hr) ?_; refine hK _ _ ?_; clear hK K; refine dw_cond (t := false) rfl ?_; rw [if_neg (by simp)]; refine dw_seq ?_; refine dwk [] TRT6_ok hnt fun K hK => ?_; refine dcl (hi) ?_; refine hK _ _ ?_; clear hK K
   refine dw_cond (t := true) rfl ?_; rw [if_pos rfl]; refine dw_seq ?_; refine dwk [] TRT6_ok hnt fun K hK => ?_; refine hK _ _ ?_; clear hK K; refine dw_ret ?_
   exact reta rfl
 ·rw [decide_eq_true h1] at hr
  have hi := hi true (by simp [h2])
  refine calldw 0 20 [ResultVar.tmp 8] TRT6_ok Tryz.func16 rfl Tryz.ntmps16 rfl fun cx hnt hn0 => ?_
  ·skip
   refine dw_seq ?_; refine dwk [] TRT6_ok hnt fun K hK => ?_; refine hK _ _ ?_; clear hK K; refine dw_seq ?_; refine dw_block ?_; refine dw_seq ?_; refine dwk [] TRT6_ok hnt fun K hK => ?_; refine dcl (hr) ?_; refine hK _ _ ?_; clear hK K; refine dw_cond (t := false) rfl ?_; rw [if_neg (by simp)]; refine dw_seq ?_; refine dwk [] TRT6_ok hnt fun K hK => ?_; refine dcl (hi) ?_; refine hK _ _ ?_; clear hK K
   refine dw_cond (t := false) rfl ?_; rw [if_neg (by simp)]; refine dw_skip ?_; refine dw_seq ?_; refine dwk [] TRT6_ok hnt fun K hK => ?_; refine hK _ _ ?_; clear hK K; refine dw_ret ?_
   exact reta rfl
theorem tcheck_d (b : Int) (C M : List Ty) (t : Tm) (u : Ty) (c : Int) (hC : C.length ≤ 1000000) (hM : M.length ≤ 1000000) (hc : checkCode C M t [] u c) (hz : t.full ≤ 780000) (hfit : t.Fit) :
    PureC Tryz.prog 16 [.ag [.v (.int .i64 b), .sl 2 (eTys C) none, .sl 2 (eTys M) none], .v (.slice none 0 0), .ag (eTm t), .ag (eTy u)] (.v (.int .i64 c)) :=
  CallC.vle (tcheckX_d b C M [] t u c hC hM hc (by simp; omega) hfit) (.cons (VLe.refl _) (.cons (VLe.nil _) (.cons (VLe.refl _) (.cons (VLe.refl _) .nil)))) (VLe.refl _)
end Go.Proofs.YtflbnonbfmmchaaGreat

namespace Go.Proofs.YtflbnonbfmmchaaGreat
open Go.RowKit
theorem tworld_d (b : Int) (C M : List Ty) (c : Bool) (hc : c = true ↔ RightWd b C M) (hz : ∀ t ∈ C ++ M, t.size ≤ 400000) : PureC Tryz.prog 15 [.ag [.v (.int .i64 b), .sl 2 (eTys C) none, .sl 2 (eTys M) none]] (.v (.bool c)) := by
  refine pure_below (by kernel_rfl) fun m Im w vs hv => ?_
  match vs, hv with
  | [x1], hv =>
    obtain ⟨cv, mv, rfl, h1, h2⟩ := agWorld hv.1
    refine (RightWorld_k h1 h2 hz).mono ?_
    rintro e w' ⟨c', hc', rfl, hb⟩
    have : c' = c := by rw [Bool.eq_iff_iff, hc', hc]
    subst this
    exact ⟨_, rfl, hb, fun _ _ _ => .v _⟩
end Go.Proofs.YtflbnonbfmmchaaGreat

namespace Go.Proofs.YtflbnonbfmmchaaGreat
open Go.RowKit
def TRF_41 : TI := ⟨4, true, [Value.slice none 0 0, Value.int IntKind.i64 0, Value.int IntKind.i64 0, Value.slice none 0 0], [(0, 1, false), (1, 2, true), (3, 1, false)], none, 64, 6, none, false⟩
theorem TRF_41_ok : TypOk Tryz.prog 41 TRF_41 := by constructor <;> kernel_rfl
def TRF_35 : TI := ⟨3, true, [Value.int IntKind.i64 0, Value.slice none 0 0, Value.slice none 0 0], [(0, 1, false), (1, 1, false), (2, 1, false)], none, 56, 6, none, false⟩
theorem TRF_35_ok : TypOk Tryz.prog 35 TRF_35 := by constructor <;> kernel_rfl
def TRF_86 : TI := ⟨9, true, [Value.slice none 0 0, Value.int IntKind.i64 0, Value.int IntKind.i64 0, Value.slice none 0 0, Value.slice none 0 0, Value.int IntKind.i64 0, Value.int IntKind.i64 0, Value.slice none 0 0, Value.slice none 0 0], [(0, 4, true), (4, 4, true), (8, 1, false)], none, 152, 6, none, false⟩
theorem TRF_86_ok : TypOk Tryz.prog 86 TRF_86 := by constructor <;> kernel_rfl
def TRF_3 : TI := ⟨1, false, [Value.int IntKind.i64 0], [], none, 8, 2, none, false⟩
theorem TRF_3_ok : TypOk Tryz.prog 3 TRF_3 := by constructor <;> kernel_rfl
def TRF_59 : TI := ⟨1, false, [Value.slice none 0 0], [], some 3, 24, 5, none, false⟩
theorem TRF_59_ok : TypOk Tryz.prog 59 TRF_59 := by constructor <;> kernel_rfl
def TRF_33 : TI := ⟨1, false, [Value.slice none 0 0], [], some 44, 24, 5, none, false⟩
theorem TRF_33_ok : TypOk Tryz.prog 33 TRF_33 := by constructor <;> kernel_rfl
def TRF_44 : TI := ⟨2, true, [Value.slice none 0 0, Value.int IntKind.i64 0], [(0, 1, false), (1, 1, false)], none, 32, 6, none, false⟩
theorem TRF_44_ok : TypOk Tryz.prog 44 TRF_44 := by constructor <;> kernel_rfl
def TRF_39 : TI := ⟨1, false, [Value.slice none 0 0], [], some 41, 24, 5, none, false⟩
theorem TRF_39_ok : TypOk Tryz.prog 39 TRF_39 := by constructor <;> kernel_rfl
def TRF_45 : TI := ⟨1, false, [Value.int IntKind.i64 0], [], none, 8, 2, none, false⟩
theorem TRF_45_ok : TypOk Tryz.prog 45 TRF_45 := by constructor <;> kernel_rfl
def TRF_180 : TI := ⟨1, false, [Value.nilFunc], [], none, 8, 8, none, false⟩
theorem TRF_180_ok : TypOk Tryz.prog 180 TRF_180 := by constructor <;> kernel_rfl
def TRF_38 : TI := ⟨2, true, [Value.int IntKind.i64 0, Value.int IntKind.i64 0], [(0, 1, false), (1, 1, false)], none, 16, 6, none, true⟩
theorem TRF_38_ok : TypOk Tryz.prog 38 TRF_38 := by constructor <;> kernel_rfl
def TRF : List (Nat × TI) := [(41, TRF_41), (35, TRF_35), (86, TRF_86), (3, TRF_3), (59, TRF_59), (33, TRF_33), (44, TRF_44), (39, TRF_39), (45, TRF_45), (180, TRF_180), (38, TRF_38)]
theorem TRF_ok : TabOk Tryz.prog TRF := ((((((((((((TabOk.nil _).cons TRF_38_ok).cons TRF_180_ok).cons TRF_45_ok).cons TRF_39_ok).cons TRF_44_ok).cons TRF_33_ok).cons TRF_59_ok).cons TRF_3_ok).cons TRF_86_ok).cons TRF_35_ok).cons TRF_41_ok)
namespace Ru
structure Good (b : Int) (C : List Ty) (p : Li.Pr) : Prop where
  w : RightWd b C p.m
  l : Li.rt p.l = true
  r : Li.rt p.r = true
  u : ∃ u, tyOf C p.m p.l = some u ∧ u.args = [] ∧ IsOf C p.m p.l [] u ∧ IsOf C p.m p.r [] u
end Ru
theorem ruclos_d (b : Int) (C M : List Ty) (u : Ty) (t : Tm) (c : Int) (hC : C.length ≤ 1000000) (hM : M.length ≤ 1000000) (hc : checkCode C M t [] u c) (hz : t.full ≤ 90000) (hf : t.Fit) :
  CallC Tryz.prog 97 [.ag (eTm t), .p 10 0, .p 34 0] [(.c 10 0, .v (.int .i64 b)), (.c 10 1, .sl 2 (eTys C) none), (.c 10 2, .sl 2 (eTys M) none), (.c 34 0, .sl 2 (eTys u.args) none), (.c 34 1, .v (.int .i64 u.base))] [(.c 10 0, .v (.int .i64 b)), (.c 10 1, .sl 2 (eTys C) none), (.c 10 2, .sl 2 (eTys M) none), (.c 34 0, .sl 2 (eTys u.args) none), (.c 34 1, .v (.int .i64 u.base))] (.v (.bool (decide (c = 0)))) := by
 have h := tcheck_d b C M t u c hC hM hc (by omega) hf
 rw [eTm_eq, eTy_eq] at h
 rw [eTm_eq]
 refine calldw 35 10 [ResultVar.tmp 4] TRF_ok Tryz.func97 rfl Tryz.ntmps97 rfl fun cx hnt hn0 => ?_
 ·skip
  refine dw_seq ?_; refine dwk [] TRF_ok hnt fun K hK => ?_; refine hK _ _ ?_; clear hK K; refine dw_seq ?_; refine dwk [(9, .v (.bool (decide (c = 0))))] TRF_ok hnt fun K hK => ?_; refine dcl (h) ?_; refine And.intro (VLe.of_eq (by by_cases h : c = 0 <;> simp [h])) ?_; refine hK _ _ ?_; clear hK K; refine dw_ret ?_
  exact reta rfl
theorem checkYes {C M : List Ty} {t : Tm} {u : Ty} (h1 : Li.rt t = true) (h2 : IsOf C M t [] u) : checkCode C M t [] u 0 := by
  unfold Li.rt at h1; rw [decide_eq_true_eq] at h1
  exact .inr (.inr ⟨h1, h2, rfl⟩)
theorem checkNo {C M : List Ty} {t : Tm} {u : Ty} (h1 : Li.rt t = true) (h2 : ¬ IsOf C M t [] u) : checkCode C M t [] u 5 := by
  unfold Li.rt at h1; rw [decide_eq_true_eq] at h1
  exact .inr (.inl ⟨h1, h2, rfl⟩)
set_option maxHeartbeats 2000000 in
theorem rutyped0_d (b : Int) (C Mw : List Ty) (p : Li.Pr) (hC : C.length ≤ 900000) (hM : p.m.length ≤ 900000) (hg : Ru.Good b C p) (hl : p.l.full ≤ 20000 ∧ p.l.Fit) (hr : p.r.full ≤ 20000 ∧ p.r.Fit) (hs : ∀ t ∈ C ++ p.m, t.size ≤ 400000) :
  PureC Tryz.prog 38 [.ag [.v (.int .i64 b), .sl 2 (eTys C) none, .sl 2 (eTys Mw) none], .ag (ePr p)] (.v (.int .i64 0)) := by
 obtain ⟨hw, hL, hR, u, ho, hu, hi1, hi2⟩ := hg
 have hW1 := tworld_d b C p.m true (by simp [hw]) hs
 have r1 := right_d p.l (by omega)
 have r2 := right_d p.r (by omega)
 rw [show decide (p.l.size ≤ 5000 ∧ p.l.depth ≤ 60) = Li.rt p.l from rfl, hL] at r1
 rw [show decide (p.r.size ≤ 5000 ∧ p.r.depth ≤ 60) = Li.rt p.r from rfl, hR] at r2
 have t1 := ttype_d b C p.m p.l (by have := hl.2; generalize p.l = t at this; cases t; exact (Tm.fit_iff.1 this).2.1) (by omega) (by omega) (by omega)
 rw [ho] at t1
 simp only [Option.getD_some, Option.isSome_some, if_true] at t1
 have hu0 : u.args.length = 0 := by rw [hu]; rfl
 have k1 := ruclos_d b C p.m u p.l 0 (by omega) (by omega) (checkYes hL hi1) (by omega) hl.2
 have k2 := ruclos_d b C p.m u p.r 0 (by omega) (by omega) (checkYes hR hi2) (by omega) hr.2
 rw [decide_eq_true rfl] at k1 k2
 rw [ePr_at]
 rw [eTm_eq] at r1 r2 t1 k1 k2
 rw [eTy_eq] at t1
 refine calldw 0 59 [ResultVar.tmp 4] TRF_ok Tryz.func38 rfl Tryz.ntmps38 rfl fun cx hnt hn0 => ?_
 ·skip
  refine dw_seq ?_; refine dwk [] TRF_ok hnt fun K hK => ?_; refine hK _ _ ?_; clear hK K; refine dw_seq ?_; refine dwk [] TRF_ok hnt fun K hK => ?_; refine hK _ _ ?_; clear hK K; refine dw_seq ?_; refine dw_block ?_; refine dw_seq ?_; refine dwk [] TRF_ok hnt fun K hK => ?_; refine dcl (hW1) ?_; refine hK _ _ ?_; clear hK K; refine dw_cond (t := false) rfl ?_; rw [if_neg (by simp)]; refine dw_seq ?_
  refine dwk [] TRF_ok hnt fun K hK => ?_; refine dcl (r1) ?_; refine dcl (r2) ?_; refine hK _ _ ?_; clear hK K; refine dw_cond (t := false) rfl ?_; rw [if_neg (by simp)]; refine dw_skip ?_; refine dw_seq ?_; refine dwk [] TRF_ok hnt fun K hK => ?_; refine dcl (t1) ?_; refine hK _ _ ?_; clear hK K; refine dw_seq ?_; refine dw_seq ?_; refine dwk [(39, .v (.bool false)), (43, .v (.int .i64 (↑u.args.length))), (44, .v (.bool false))] TRF_ok hnt fun K hK => ?_
  refine And.intro (bneF rfl) ?_; refine And.intro (dintE (by rw [eTys_len])) ?_; refine And.intro auF ?_; refine hK _ _ ?_; clear hK K; refine dw_cond (t := false) rfl ?_; rw [if_neg (by simp)]; refine dw_skip ?_; refine dw_seq ?_; refine dwk [] TRF_ok hnt fun K hK => ?_; refine hK _ _ ?_; clear hK K; refine dw_seq ?_; refine dw_seq ?_; refine dwk [] TRF_ok hnt fun K hK => ?_; refine dcl (k1) ?_; refine dcl (k2) ?_
  refine hK _ _ ?_; clear hK K; refine dw_cond (t := false) rfl ?_; rw [if_neg (by simp)]; refine dw_skip ?_; refine dw_seq ?_; refine dwk [] TRF_ok hnt fun K hK => ?_; refine hK _ _ ?_; clear hK K; refine dw_ret ?_
  exact reta rfl
end Go.Proofs.YtflbnonbfmmchaaGreat

