/-
  slices.Sort and slices.Compact of ints of the call's own; what they hand back rises. A function that has run loops over functions leaves with a mark for each; rows of ints that grow within such rounds. term.Metas. How many types and terms: exactly what the reference counts. How many terms: exactly what the reference counts; the laws' Few. What the laws' Few tells of a term. The laws' Small (seats without Chk9). Types and terms of the laws, there and back, walked in the deep way. Pairs of terms with the types of their metavariables (rule.Pair, filigreeref17.Pair), and the laws' helpers for them: To, Of, Same, Few. Package lift, walked in the deep way: may, done, Over, Closed, Subst; spot.Close. Terms that are the same, as deep contracts. Package match, walked in the deep way: put. Package match, walked in the deep way: walk, may. Deep values: regions with steps through a map. Package match, walked in the deep way: what was found as a substitution; several at once. The known answer of the laws of layer 12. Lists of pairs, there and back. Lists of pairs in the laws of layer 9: To, Few. Package subst's lists, walked in the deep way: Clone, Without, Set, Domain, Get. Package subst's lists, walked in the deep way: Set, Domain, Get, Equal; terms that are the same. Package subst's lists, walked in the deep way: Get, Equal. The document's lists of pairs, walked in the deep way: Sorted, Get, Without, Domain, Same. LiftSubsts, walked in the deep way. How large long forms are, and that their indexes fit. How large lifted terms are, and that their indexes fit. The document's Take, walked in the deep way; what is wrong with a pattern. The document's Like. The document's Metas. The document's Metas, walked in the deep way. Which of two types is less: by size, by how many arguments, argument by argument, by base; and what that order promises. Which of two terms is less: the plain law. sign, cmp.Compare and cmp.Or of ints. The document's order of types. The document's order of terms. The type of a head: the program's and the document's. The type of a head: the document's. Whether a term is of a type: the plain law. A context with more binders: the program's and the document's. term.is: whether a term is of a type. The document's Is: whether a term is of a type. The document's Depth, Right, Check; term.Check. The document's answer of layer 22: lifted, Over, Closed. Rename: subst's and the document's. Package subst, walked in the deep way: Apply. Package subst, walked in the deep way: through, Apply.
-/
import Derived.Test.YtcblpjheoclkeaaRowSubstRenamesp1
import Derived.Test.YtcblpjheoclkeaaRowSubstRenamesp7
import Derived.Lib.OwnBridge
import Derived.Sort.OwnSortedInts
import Derived.Test.YtcblpjheoclkeaaRowSubstRenamesp5
import Derived.RangeFuncBox
import Derived.Test.YtcblpjheoclkeaaRowSubstRenamesp4
import Derived.Maps.RangeRun
import Derived.Deep.QuietTactic
import Derived.BigQuiet
import Derived.WalkSmall
import Derived.Test.YtcblpjheoclkeaaRowSubstRenamesp6
set_option maxRecDepth 100000
set_option maxHeartbeats 1000000
set_option linter.unusedVariables false
set_option linter.unusedSimpArgs false
namespace Go.Proofs.Ytcblpjheoclkeaa
open Go.RowKit

def sortU (zs : List Int) : List Int := Lib.compact (zs.mergeSort fun x y => decide (x ≤ y))

theorem keeps_zero (d : Array Int) : Lib.keeps d 0 = true := by simp [Lib.keeps]
theorem upTo_rises (d : Array Int) : ∀ m, m ≤ d.size → (∀ i j, i ≤ j → j < d.size → d[i]! ≤ d[j]!) → (Lib.compactUpTo d m).Pairwise (· < ·) ∧ (∀ x ∈ Lib.compactUpTo d m, ∃ j, j < m ∧ d[j]! = x) ∧ (∀ j, j < m → d[j]! ∈ Lib.compactUpTo d m) := by
  intro m
  induction m with
  | zero => intro _ _; simp [Lib.compactUpTo]
  | succ m ih =>
    intro hm hs
    obtain ⟨h1, h2, h3⟩ := ih (by omega) hs
    rw [Lib.compactUpTo_succ]
    by_cases hk : Lib.keeps d m = true
    · rw [if_pos hk]
      refine ⟨?_, ?_, ?_⟩
      · rw [List.pairwise_append]
        refine ⟨h1, by simp, fun a ha b hb => ?_⟩
        obtain ⟨j, hj, rfl⟩ := h2 a ha
        simp at hb; subst hb
        have hle := hs j (m - 1) (by omega) (by omega)
        have hle2 := hs (m - 1) m (by omega) (by omega)
        have hne : d[m - 1]! ≠ d[m]! := by
          cases m with
          | zero => omega
          | succ k =>
            have : d[k + 1]! ≠ d[k]! := by simpa [Lib.keeps] using hk
            exact fun e => this e.symm
        omega
      · intro x hx
        rcases List.mem_append.1 hx with hx | hx
        · obtain ⟨j, hj, e⟩ := h2 x hx; exact ⟨j, by omega, e⟩
        · simp at hx; exact ⟨m, by omega, hx.symm⟩
      · intro j hj
        rw [List.mem_append]
        by_cases hjm : j = m
        · subst hjm; right; simp
        · left; exact h3 j (by omega)
    · rw [if_neg hk, List.append_nil]
      refine ⟨h1, fun x hx => by obtain ⟨j, hj, e⟩ := h2 x hx; exact ⟨j, by omega, e⟩, fun j hj => ?_⟩
      by_cases hjm : j = m
      · subst hjm
        cases j with
        | zero => exact absurd (keeps_zero d) hk
        | succ k =>
          have : d[k + 1]! = d[k]! := by simpa [Lib.keeps] using hk
          rw [this]; exact h3 k (by omega)
      · exact h3 j (by omega)

theorem sortU_spec (zs : List Int) : (sortU zs).Pairwise (· < ·) ∧ ∀ x, x ∈ sortU zs ↔ x ∈ zs := by
  obtain ⟨ss, hss⟩ : ∃ ss, (zs.mergeSort fun x y => decide (x ≤ y)) = ss := ⟨_, rfl⟩
  have hp : ss.Perm zs := by rw [← hss]; exact List.mergeSort_perm _ _
  have hs : ss.Pairwise (fun x y => x ≤ y) := by
    have := List.pairwise_mergeSort (le := fun x y : Int => decide (x ≤ y)) (fun a b c h1 h2 => by simp at *; omega) (fun a b => by simp; omega) zs
    rw [hss] at this
    simpa using this
  have hs' : ∀ i j, i ≤ j → j < ss.toArray.size → ss.toArray[i]! ≤ ss.toArray[j]! := by
    intro i j hij hj
    have hj' : j < ss.length := by simpa using hj
    have hi' : i < ss.length := by omega
    simp only [List.getElem!_toArray, getElem!_pos ss i hi', getElem!_pos ss j hj']
    by_cases e : i = j
    · subst e; exact Int.le_refl _
    · exact List.pairwise_iff_getElem.1 hs i j hi' hj' (by omega)
  obtain ⟨h1, h2, h3⟩ := upTo_rises ss.toArray ss.length (by simp) hs'
  unfold sortU
  rw [hss]
  refine ⟨h1, fun x => ?_⟩
  rw [← hp.mem_iff]
  constructor
  · intro hx
    obtain ⟨j, hj, e⟩ := h2 x hx
    rw [← e]
    simp only [List.getElem!_toArray, getElem!_pos ss j hj]
    exact List.getElem_mem hj
  · intro hx
    obtain ⟨j, hj, e⟩ := List.getElem_of_mem hx
    have := h3 j hj
    simp only [List.getElem!_toArray, getElem!_pos ss j hj, e] at this
    exact this
theorem rises_eq : ∀ {l r : List Int}, l.Pairwise (· < ·) → r.Pairwise (· < ·) → (∀ x, x ∈ l ↔ x ∈ r) → l = r
  | [], [], _, _, _ => rfl
  | [], b :: r, _, _, h => absurd ((h b).2 (by simp)) (by simp)
  | a :: l, [], _, _, h => absurd ((h a).1 (by simp)) (by simp)
  | a :: l, b :: r, h1, h2, h => by
    rw [List.pairwise_cons] at h1 h2
    have hab : a = b := by
      have ha := (h a).1 (by simp)
      have hb := (h b).2 (by simp)
      rcases List.mem_cons.1 ha with e | ha
      · exact e
      rcases List.mem_cons.1 hb with e | hb
      · exact e.symm
      have := h2.1 a ha; have := h1.1 b hb; omega
    subst hab
    rw [rises_eq h1.2 h2.2 fun x => ?_]
    constructor
    · intro hx
      rcases List.mem_cons.1 ((h x).1 (by simp [hx])) with e | hx'
      · have := h1.1 x hx; omega
      · exact hx'
    · intro hx
      rcases List.mem_cons.1 ((h x).2 (by simp [hx])) with e | hx'
      · have := h2.1 x hx; omega
      · exact hx'
end Go.Proofs.Ytcblpjheoclkeaa

namespace Go.Proofs.Ytcblpjheoclkeaa
open Go.RowKit

theorem keepsOthers_grown {W W' : World} {row : Option Nat} (hg : W.grownBy W' row) (hr : ∀ r, row = some r → ∃ o : Obj, W.heap[r]? = some o ∧ o.isCells = true) : KeepsOthers W W' :=
  ⟨hg.size, fun k o ho hc => (hg.block k (Array.getElem?_eq_some_iff.1 ho).1 (fun e => by
    obtain ⟨o', ho', hc'⟩ := hr k e.symm
    rw [ho] at ho'; cases ho'; rw [hc] at hc'; cases hc')).trans ho⟩

theorem own_row {w : World} {base : Nat} {e : TypeId} {size : Nat} {v : Value} {n : Nat} {xs : List Value} (h : w.ownsRow base e size v n xs) : ∀ r, v.ownBlock = some r → base ≤ r ∧ ∃ cs, w.heap[r]? = some (.cells cs e (0, 0)) := by
  intro r hr
  rcases h.2 with ⟨rfl, _⟩ | ⟨g, cap, cur, rfl, hb, hg, _⟩
  · cases hr
  · cases hr; exact ⟨hb, _, hg⟩
theorem own_kept {w w' : World} {base : Nat} {e : TypeId} {size : Nat} {v : Value} {n : Nat} {xs : List Value} {row : Option Nat} (h : w.ownsRow base e size v n xs) (hg : w.grownBy w' row)
    (hr : ∀ r, row = some r → ∃ o : Obj, w.heap[r]? = some o ∧ ∀ cs, o ≠ .cells cs e (0, 0)) : w'.ownsRow base e size v n xs := by
  refine h.kept hg ?_
  cases hv : v.ownBlock with
  | none => exact .inl rfl
  | some g =>
    refine .inr fun e' => ?_
    obtain ⟨_, cs, hc⟩ := own_row h g hv
    obtain ⟨o, ho, hne⟩ := hr g e'.symm
    rw [hc] at ho; cases ho; exact hne cs rfl

structure OutAt (w : World) (Ds : List Nat) (vv : Value) (zs : List Int) (W : World) : Prop where
  box : Blk W w.heap.size #[vv] 43
  own : W.ownsRow (w.heap.size + 1) 3 1 vv zs.length (zs.map (Value.int .i64))
  nod : Ds.Nodup
  marks : ∀ D ∈ Ds, w.heap.size + 1 ≤ D ∧ W.heap[D]? = some (.deferred (some []))
  below : Below w.heap.size w W
def OutG (B k : Nat) (t : TypeId) : Prop := k < B ∨ (B < k ∧ t ≠ 3)
namespace OutAt
variable {w W W' : World} {Ds : List Nat} {vv : Value} {zs : List Int}
theorem lt (h : OutAt w Ds vv zs W) : ∀ D ∈ Ds, D < W.heap.size := fun D hD => (Array.getElem?_eq_some_iff.1 (h.marks D hD).2).1
theorem blw (h : OutAt w Ds vv zs W) (hb : Below W.heap.size W W') : OutAt w Ds vv zs W' :=
  ⟨h.box.below hb, ownsRow_below h.own hb, h.nod, fun D hD => ⟨(h.marks D hD).1, (hb.block D (h.lt D hD)).trans (h.marks D hD).2⟩, h.below.trans (hb.mono h.below.size)⟩
theorem alloc (h : OutAt w Ds vv zs W) (o : Obj) : OutAt w Ds vv zs (W.alloc o) := h.blw ((Below.refl _ _).alloc (Nat.le_refl _) _)
theorem grown {B : Nat} {row : Option Nat} (h : OutAt w Ds vv zs W) (hlt : ∀ D ∈ Ds, D < B) (hwB : w.heap.size < B) (hg : W.grownBy W' row)
    (hr : ∀ r, row = some r → B ≤ r ∧ ∃ o : Obj, W.heap[r]? = some o ∧ ∀ cs, o ≠ .cells cs 3 (0, 0)) : OutAt w Ds vv zs W' :=
  ⟨h.box.grown hg (fun e => by have := (hr _ e).1; omega), own_kept h.own hg (fun r e => (hr r e).2), h.nod,
    fun D hD => ⟨(h.marks D hD).1, (hg.block D (h.lt D hD) (fun e => by have := (hr _ e.symm).1; have := hlt D hD; omega)).trans (h.marks D hD).2⟩,
    h.below.grown hg h.below.size (fun r e => by have := (hr r e).1; omega)⟩
theorem mark (h : OutAt w Ds vv zs W) {D : Nat} (hD : W.heap[D]? = some (.deferred (some []))) (hn : ∀ D' ∈ Ds, D' < D) (hw : w.heap.size + 1 ≤ D) : OutAt w (D :: Ds) vv zs W :=
  ⟨h.box, h.own, List.nodup_cons.2 ⟨fun hm => by have := hn D hm; omega, h.nod⟩, fun D' h' => by
    rcases List.mem_cons.1 h' with rfl | h'
    · exact ⟨hw, hD⟩
    · exact h.marks D' h', h.below⟩
theorem push (h : OutAt w Ds vv zs W) (x : Int) {w3 : World} {v' : Value} (hg : (W.alloc (.cells #[.int .i64 x] 3)).grownBy w3 vv.ownBlock)
    (hown : w3.ownsRow (w.heap.size + 1) 3 1 v' (zs.length + 1) (zs.map (Value.int .i64) ++ [.int .i64 x])) :
    OutAt w Ds v' (zs ++ [x]) (w3.setCell ⟨w.heap.size, 0, none⟩ v') ∧ KeepsOthers W (w3.setCell ⟨w.heap.size, 0, none⟩ v') ∧ KeepC (OutG w.heap.size) W (w3.setCell ⟨w.heap.size, 0, none⟩ v') := by
  have ho1 := h.own.alloc (.cells #[.int .i64 x] 3)
  have h1 := h.alloc (.cells #[.int .i64 x] 3)
  have hrow := own_row ho1
  have hk3 : KeepsOthers (W.alloc (.cells #[.int .i64 x] 3)) w3 := keepsOthers_grown hg (fun r e => by
    obtain ⟨_, cs, hc⟩ := hrow r e; exact ⟨_, hc, rfl⟩)
  have hbox3 : Blk w3 w.heap.size #[vv] 43 := h1.box.grown hg (fun e => by have := (hrow _ e).1; omega)
  have hbel3 : Below w.heap.size w w3 := h1.below.grown hg h1.below.size (fun r e => by have := (hrow r e).1; omega)
  have hkc : KeepC (OutG w.heap.size) (W.alloc (.cells #[.int .i64 x] 3)) w3 := ⟨hg.size, fun k cs t fr hk hc => (hg.block k (Array.getElem?_eq_some_iff.1 hc).1 (fun e => by
    obtain ⟨hle, cs', hc'⟩ := hrow k e.symm
    rw [hc] at hc'; cases hc'
    rcases hk with hk | hk
    · omega
    · exact hk.2 rfl)).trans hc⟩
  refine ⟨⟨hbox3.set 0 _, ?_, h.nod, fun D hD => ⟨(h1.marks D hD).1, ?_⟩, hbel3.setCell (by simp) _⟩, (((KeepsOthers.alloc W _).trans hk3).trans (KeepsOthers.setCell _ _ _)), ?_⟩
  · have := ownsRow_setCell_below hown (a := ⟨w.heap.size, 0, none⟩) (by simp) v'
    simpa using this
  · exact (KeepsOthers.setCell w3 _ v').same D _ (hk3.same D _ (h1.marks D hD).2 rfl) rfl
  · exact (((KeepC.refl _ W).alloc _).trans hkc).setCell _ _ (fun t ht => by rcases ht with h | h <;> simp at h)
end OutAt
end Go.Proofs.Ytcblpjheoclkeaa

namespace Go.Proofs.Ytcblpjheoclkeaa
open Go.RowKit Go.Shelf
attribute [local go_sem] Oper.semAt_some

def metasH (l : List (Int × Int)) : List Int := l.filterMap fun p => if p.1 = 2 then some p.2 else none
def metasP (l : List (Nat × Nat × Tm)) : List Int := l.filterMap fun p => if p.2.2.kind = 2 then some p.2.2.index else none
def metasL (l : List Tm) : List Int := l.flatMap fun t => metasP (t.pre 0 1)
theorem metasL_len (l : List Tm) (m : Nat) (h : ∀ t ∈ l, t.full ≤ m) : (metasL l).length ≤ l.length * m := by
  induction l with
  | nil => simp [metasL]
  | cons t l ih =>
    have h1 := h t (by simp)
    have h2 := ih (fun u hu => h u (by simp [hu]))
    have h3 : (metasL (t :: l)).length = (metasP (t.pre 0 1)).length + (metasL l).length := by simp [metasL]
    have h4 : (metasP (t.pre 0 1)).length ≤ (t.pre 0 1).length := List.length_filterMap_le _ _
    rw [Tm.pre_length] at h4
    have h5 := Tm.size_le_full t
    rw [h3, List.length_cons, Nat.succ_mul]; omega
theorem metasH_pre (t : Tm) (hf : t.Fit) : metasH (t.heads 0) = metasP (t.pre 0 1) := by
  have e := heads_pre t 0 1 hf
  rw [show t.heads 0 = t.heads ((0 : Nat) : Int) from rfl, e]
  unfold metasH metasP
  rw [List.filterMap_filterMap]
  congr 1
  funext p
  unfold hdOf
  by_cases h0 : p.2.2.kind = 0
  · by_cases h1 : (p.1 : Int) ≤ p.2.2.index
    · simp [h0, h1]
    · simp [h0, h1]
  · simp [h0]

end Go.Proofs.Ytcblpjheoclkeaa

namespace Go.Proofs.Ytcblpjheoclkeaa
open Go.RowKit
def TF4_3 : TI := ⟨1, false, [Value.int IntKind.i64 0], [], none, 8, 2, none, false⟩
theorem TF4_3_ok : TypOk Try.prog 3 TF4_3 := ⟨by kernel_rfl, by kernel_rfl, by kernel_rfl, by kernel_rfl, by kernel_rfl⟩
def TF4_123 : TI := ⟨2, true, [Value.slice none 0 0, Value.int IntKind.i64 0], [(0, 1, false), (1, 1, false)], none, 32, 6, none, false⟩
theorem TF4_123_ok : TypOk Try.prog 123 TF4_123 := ⟨by kernel_rfl, by kernel_rfl, by kernel_rfl, by kernel_rfl, by kernel_rfl⟩
def TF4_22 : TI := ⟨1, false, [Value.slice none 0 0], [], some 123, 24, 5, none, false⟩
theorem TF4_22_ok : TypOk Try.prog 22 TF4_22 := ⟨by kernel_rfl, by kernel_rfl, by kernel_rfl, by kernel_rfl, by kernel_rfl⟩
def TF4 : List (Nat × TI) := [(3, TF4_3), (123, TF4_123), (22, TF4_22)]
theorem TF4_ok : TabOk Try.prog TF4 := ((((TabOk.nil _).cons TF4_22_ok).cons TF4_123_ok).cons TF4_3_ok)

mutual
def fewT (most : Int) : Ty → Int → Int
  | .mk a _, d => if d ≤ 0 then most + 1 else fewTs most a (d - 1) 1
def fewTs (most : Int) : List Ty → Int → Int → Int
  | [], _, n => n
  | t :: l, d, n => if n ≤ most then fewTs most l d (n + fewT most t d) else n
end
theorem fewTs_le {most : Int} (hm : 0 ≤ most) {B : Int} (hB : 0 ≤ B) : ∀ (l : List Ty) (d n : Int), (∀ t ∈ l, 1 ≤ fewT most t d ∧ fewT most t d ≤ B) → 1 ≤ n → n ≤ most + B → 1 ≤ fewTs most l d n ∧ fewTs most l d n ≤ most + B
  | [], d, n, _, h0, h1 => by rw [fewTs]; exact ⟨h0, h1⟩
  | t :: l, d, n, h, h0, h1 => by
    rw [fewTs]
    split
    · have := h t (by simp)
      exact fewTs_le hm hB l d _ (fun u hu => h u (by simp [hu])) (by omega) (by omega)
    · exact ⟨h0, h1⟩
theorem fewT_le {most : Int} (hm : 1 ≤ most) : ∀ (k : Nat) (t : Ty) (d : Int), d ≤ k → 1 ≤ fewT most t d ∧ fewT most t d ≤ most * k + most + 1
  | 0, .mk a b, d, hd => by
    rw [fewT, if_pos (by omega)]
    have e : most * ((0 : Nat) : Int) = 0 := Int.mul_zero _
    rw [e]; omega
  | k + 1, .mk a b, d, hd => by
    rw [fewT]
    have e : most * ((k + 1 : Nat) : Int) = most * (k : Int) + most := by rw [Int.natCast_add, Int.mul_add]; simp
    have h0 : 0 ≤ most * (k : Int) := Int.mul_nonneg (by omega) (by omega)
    split
    · rw [e]; omega
    · have := fewTs_le (most := most) (by omega) (B := most * k + most + 1) (by omega) a (d - 1) 1 (fun t _ => fewT_le hm k t (d - 1) (by omega)) (by omega) (by omega)
      rw [e]; omega
set_option maxHeartbeats 1000000 in
theorem few4_d (most : Int) (h1 : 1 ≤ most) (h2 : most ≤ 1000) : ∀ (t : Ty) (d : Int), -1000 ≤ d → d ≤ 1000 → PureC Try.prog 96 [.ag (eTy t), .v (.int .i64 most), .v (.int .i64 d)] (.v (.int .i64 (fewT most t d))) := by
 intro t
 induction t using Ty.ind with
 | h a b ih =>
 intro d hd1 hd2
 refine call_of_dw 0 37 [ResultVar.tmp 6] TF4_ok (by kernel_rfl) Try.func96 rfl Try.ntmps96 rfl (by simp) ?dwords ?dbody
 case dwords => simp [wordsOk, D.ok, D.oks, rnames, eTy_ok]
 case dbody =>
  intro cx hnt hn0
  refine dw_seq ?_; refine dwk [] TF4_ok hnt fun K hK => ?_; refine hK _ _ ?_; clear hK K; refine dw_seq (dw_seq ?_)
  by_cases hd : d ≤ 0
  ·have hf : fewT most (.mk a b) d = most + 1 := by rw [fewT, if_pos hd]
   rw [hf]
   refine dwk [(10, .v (.bool true))] TF4_ok hnt fun K hK => ?_; refine And.intro (dtrue hd) ?_; refine hK _ _ ?_; clear hK K; refine dw_cond (t := true) rfl ?_; rw [if_pos rfl]; refine dw_seq ?_; refine dwk [(12, .v (.int .i64 (most + 1)))] TF4_ok hnt fun K hK => ?_; refine And.intro (dintE (IntWalk.i64_in _ (by omega))) ?_; refine hK _ _ ?_; clear hK K; refine dw_ret ?_
   exact retv (N := 0) (.inr rfl) rfl (VLe.refl _) trivial
  ·have hf : fewT most (.mk a b) d = fewTs most a (d - 1) 1 := by rw [fewT, if_neg hd]
   rw [hf]
   refine dwk [(10, .v (.bool false))] TF4_ok hnt fun K hK => ?_; refine And.intro (dfalse hd) ?_; refine hK _ _ ?_; clear hK K; refine dw_cond (t := false) rfl ?_; rw [if_neg (by simp)]; refine dw_skip ?_; refine dw_seq ?_; refine dwk [] TF4_ok hnt fun K hK => ?_; refine hK _ _ ?_; clear hK K; refine dw_seq (dw_seq ?_); refine dwk [] TF4_ok hnt fun K hK => ?_; refine hK _ _ ?_; clear hK K; refine dw_block ?_
   refine dw_loop (ι := { p : Nat × Int // fewTs most (a.drop p.1) (d - 1) p.2 = fewTs most a (d - 1) 1 ∧ (p.1 : Int) + 1 ≤ p.2 ∧ p.2 ≤ 2000000 ∧ p.1 ≤ a.length }) (fun p => [(.t 1, .v (.int .i64 most)), (.t 2, .v (.int .i64 d)), (.t 3, .p 0 0), (.t 7, .v (.int .i64 p.1.2)), (.t 8, .v (.int .i64 (p.1.1 : Int))), (.c 0 0, .sl 2 (eTys a) none), (.c 0 1, .v (.int .i64 b))]) 1 (fun p => a.length - p.1.1) ⟨(0, 1), by simp, by simp, by simp, by simp⟩ VS.toA fun p => ?_
   obtain ⟨⟨j, n⟩, hj1, hj2, hj3, hj4⟩ := p
   dsimp only at hj1 hj2 hj3 hj4 ⊢
   refine dw_seq (dw_seq ?_)
   by_cases hlt : j < a.length
   ·have hdr : a.drop j = a[j] :: a.drop (j + 1) := List.drop_eq_getElem_cons hlt
    rw [hdr, fewTs] at hj1
    by_cases hn : n ≤ most
    ·rw [if_pos hn] at hj1
     have hih := ih a[j] (List.getElem_mem hlt) (d - 1) (by omega) (by omega)
     rw [eTy_eq] at hih
     have hbd := fewT_le h1 1000 a[j] (d - 1) (by omega)
     have hbd2 : most * ((1000 : Nat) : Int) ≤ 1000000 := by
      have : most * ((1000 : Nat) : Int) = 1000 * most := by rw [Int.mul_comm]; rfl
      omega
     refine dwk [(17, .v (.bool true)), (21, .v (.bool true))] TF4_ok hnt fun K hK => ?_; refine And.intro (dtrue (by rw [eTys_len]; omega)) ?_; refine And.intro (dtrue hn) ?_; refine hK _ _ ?_; clear hK K; refine dw_cond (t := true) rfl ?_; rw [if_pos rfl]; refine dw_skip ?_; refine dw_seq (dw_block ?_); refine dwk [(29, .q [.sl 2 (eTys a[j].args) none, .v (.int .i64 a[j].base)]), (33, .v (.int .i64 (d - 1))), (35, .v (.int .i64 (n + fewT most a[j] (d - 1))))] TF4_ok hnt fun K hK => ?_
     refine And.intro (⟨by omega, by rw [eTys_len]; omega⟩) ?_; refine And.intro (VLe.of_eq (by rw [Int.toNat_natCast, eTys_getD a j hlt, eTy_eq])) ?_; refine And.intro (dintE (IntWalk.i64_in _ (by omega))) ?_; refine dcl (hih) ?_; refine And.intro (dintE (IntWalk.i64_in _ (by omega))) ?_; refine hK _ _ ?_; clear hK K; refine dwk [(24, .v (.int .i64 ((j + 1 : Nat) : Int)))] TF4_ok hnt fun K hK => ?_; refine And.intro (dintE (by rw [IntWalk.i64_in _ (by omega)]; omega)) ?_
     refine hK _ _ ?_; clear hK K
     exact ⟨⟨(j + 1, n + fewT most a[j] (d - 1)), hj1, by dsimp only; omega, by dsimp only; omega, hlt⟩, by dsimp only; omega, VS.toA⟩
    ·rw [if_neg hn] at hj1
     rw [← hj1]
     refine dwk [(17, .v (.bool true)), (21, .v (.bool false))] TF4_ok hnt fun K hK => ?_; refine And.intro (dtrue (by rw [eTys_len]; omega)) ?_; refine And.intro (dfalse hn) ?_; refine hK _ _ ?_; clear hK K; refine dw_cond (t := false) rfl ?_; rw [if_neg (by simp)]; refine dw_exit ?_; refine dw_seq ?_; refine dwk [] TF4_ok hnt fun K hK => ?_; refine hK _ _ ?_; clear hK K; refine dw_ret ?_
     exact retv (N := 0) (.inr rfl) rfl (VLe.refl _) trivial
   ·rw [List.drop_eq_nil_of_le (by omega), fewTs] at hj1
    rw [← hj1]
    refine dwk [(17, .v (.bool false))] TF4_ok hnt fun K hK => ?_; refine And.intro (dfalse (by rw [eTys_len]; omega)) ?_; refine hK _ _ ?_; clear hK K; refine dw_cond (t := false) rfl ?_; rw [if_neg (by simp)]; refine dw_exit ?_; refine dw_seq ?_; refine dwk [] TF4_ok hnt fun K hK => ?_; refine hK _ _ ?_; clear hK K; refine dw_ret ?_
    exact retv (N := 0) (.inr rfl) rfl (VLe.refl _) trivial
theorem fewTs_size {most : Int} : ∀ (l : List Ty) (d n : Int), (∀ t ∈ l, fewT most t d ≤ most → (t.size : Int) = fewT most t d) → (∀ t ∈ l, 1 ≤ fewT most t d) → 1 ≤ n → fewTs most l d n ≤ most → fewTs most l d n = n + Ty.sizes l
  | [], d, n, _, _, _, _ => by rw [fewTs]; simp [Ty.sizes]
  | t :: l, d, n, h, h1, hn, hf => by
    rw [fewTs] at hf ⊢
    split at hf
    · rename_i hm
      rw [if_pos hm]
      have h2 := h1 t (by simp)
      have h3 := fewTs_size l d _ (fun u hu => h u (by simp [hu])) (fun u hu => h1 u (by simp [hu])) (by omega) hf
      have h4 : fewT most t d ≤ most := by omega
      have h5 := h t (by simp) h4
      rw [h3, Ty.sizes]; omega
    · rename_i hm; omega
theorem fewT_size {most : Int} (hm : 1 ≤ most) : ∀ (k : Nat) (t : Ty) (d : Int), d ≤ k → fewT most t d ≤ most → (t.size : Int) = fewT most t d
  | 0, .mk a b, d, hd, h => by rw [fewT, if_pos (by omega)] at h; omega
  | k + 1, .mk a b, d, hd, h => by
    rw [fewT] at h ⊢
    split at h
    · omega
    · rename_i hp
      rw [if_neg hp]
      have := fewTs_size a (d - 1) 1 (fun t _ => fewT_size hm k t (d - 1) (by omega)) (fun t _ => (fewT_le hm k t (d - 1) (by omega)).1) (by omega) h
      rw [this, Ty.size_eq]; omega
theorem Few4_d (most : Int) (h1 : 1 ≤ most) (h2 : most ≤ 1000) (t : Ty) (d : Int) (h3 : -1000 ≤ d) (h4 : d ≤ 1000) : PureC Try.prog 60 [.ag (eTy t), .v (.int .i64 most), .v (.int .i64 d)] (.v (.bool (decide (fewT most t d ≤ most)))) := by
 have h := few4_d most h1 h2 t d h3 h4
 rw [eTy_eq] at h ⊢
 refine call_of_dw 0 13 [ResultVar.tmp 6] TF4_ok (by kernel_rfl) Try.func60 rfl Try.ntmps60 rfl (by simp) ?dwords ?dbody
 case dwords => simp [wordsOk, D.ok, D.oks, rnames, eTys_ok]
 case dbody =>
  intro cx hnt hn0
  refine dw_seq ?_; refine dwk [] TF4_ok hnt fun K hK => ?_; refine hK _ _ ?_; clear hK K; refine dw_seq ?_; refine dwk [] TF4_ok hnt fun K hK => ?_; refine dcl (h) ?_; refine hK _ _ ?_; clear hK K; refine dw_ret ?_
  exact retv (N := 0) (.inr rfl) rfl (VLe.refl _) trivial
set_option maxHeartbeats 1000000 in
theorem Size4_d : ∀ (t : Ty) (_ : t.size ≤ 1000000), PureC Try.prog 105 [.ag (eTy t)] (.v (.int .i64 (t.size : Int))) := by
 intro t
 induction t using Ty.ind with
 | h a b ih =>
 intro hsz
 have hsz2 := Ty.size_eq a b
 refine call_of_dw 0 21 [ResultVar.tmp 2] TF4_ok (by kernel_rfl) Try.func105 rfl Try.ntmps105 rfl (by simp) ?dwords ?dbody
 case dwords => simp [wordsOk, D.ok, D.oks, rnames, eTy_ok]
 case dbody =>
  intro cx hnt hn0
  refine dw_seq ?_; refine dwk [] TF4_ok hnt fun K hK => ?_; refine hK _ _ ?_; clear hK K; refine dw_seq ?_; refine dwk [] TF4_ok hnt fun K hK => ?_; refine hK _ _ ?_; clear hK K; refine dw_seq (dw_seq ?_); refine dwk [] TF4_ok hnt fun K hK => ?_; refine hK _ _ ?_; clear hK K; refine dw_block ?_
  refine dw_loop (ι := { j : Nat // j ≤ a.length }) (fun j => [(.t 1, .p 0 0), (.t 3, .v (.int .i64 ((Ty.sizes (a.take j.1) : Int) + 1))), (.t 4, .v (.int .i64 (j.1 : Int))), (.c 0 0, .sl 2 (eTys a) none), (.c 0 1, .v (.int .i64 b))]) 1 (fun j => a.length - j.1) ⟨0, Nat.zero_le _⟩ VS.toA fun j => ?_
  obtain ⟨j, hj⟩ := j
  dsimp only
  have hst := Ty.sizes_take_le a j
  have hst2 := Ty.sizes_take_le a (j + 1)
  have hla := Ty.le_sizes a
  refine dw_seq (dw_seq ?_)
  by_cases hlt : j < a.length
  ·have hih := ih a[j] (List.getElem_mem hlt) (by have := Ty.size_get (b := b) j hlt; omega)
   rw [eTy_eq] at hih
   have htk := Ty.sizes_take a j hlt
   refine dwk [(9, .v (.bool true))] TF4_ok hnt fun K hK => ?_; refine And.intro (dtrue (by rw [eTys_len]; omega)) ?_; refine hK _ _ ?_; clear hK K; refine dw_cond (t := true) rfl ?_; rw [if_pos rfl]; refine dw_skip ?_; refine dw_seq (dw_block ?_); refine dwk [(16, .q [.sl 2 (eTys a[j].args) none, .v (.int .i64 a[j].base)]), (19, .v (.int .i64 ((Ty.sizes (a.take (j + 1)) : Int) + 1)))] TF4_ok hnt fun K hK => ?_
   refine And.intro (⟨by omega, by rw [eTys_len]; omega⟩) ?_; refine And.intro (VLe.of_eq (by rw [Int.toNat_natCast, eTys_getD a j hlt, eTy_eq])) ?_; refine dcl (hih) ?_; refine And.intro (dintE (by rw [IntWalk.i64_in _ (by omega), htk]; omega)) ?_; refine hK _ _ ?_; clear hK K; refine dwk [(11, .v (.int .i64 ((j + 1 : Nat) : Int)))] TF4_ok hnt fun K hK => ?_; refine And.intro (dintE (by rw [IntWalk.i64_in _ (by omega)]; omega)) ?_
   refine hK _ _ ?_; clear hK K
   exact ⟨⟨j + 1, hlt⟩, by dsimp only; omega, VS.toA⟩
  ·skip
   refine dwk [(9, .v (.bool false))] TF4_ok hnt fun K hK => ?_; refine And.intro (dfalse (by rw [eTys_len]; omega)) ?_; refine hK _ _ ?_; clear hK K; refine dw_cond (t := false) rfl ?_; rw [if_neg (by simp)]; refine dw_exit ?_; refine dw_seq ?_
   have hsz3 : ((Ty.mk a b).size : Int) = (Ty.sizes (a.take j) : Int) + 1 := by rw [List.take_of_length_le (by omega), hsz2]; omega
   rw [hsz3]
   refine dwk [] TF4_ok hnt fun K hK => ?_; refine hK _ _ ?_; clear hK K; refine dw_ret ?_
   exact retv (N := 0) (.inr rfl) rfl (VLe.refl _) trivial
end Go.Proofs.Ytcblpjheoclkeaa

namespace Go.Proofs.Ytcblpjheoclkeaa
open Go.RowKit
def TF6_3 : TI := ⟨1, false, [Value.int IntKind.i64 0], [], none, 8, 2, none, false⟩
theorem TF6_3_ok : TypOk Try.prog 3 TF6_3 := ⟨by kernel_rfl, by kernel_rfl, by kernel_rfl, by kernel_rfl, by kernel_rfl⟩
def TF6_27 : TI := ⟨4, true, [Value.slice none 0 0, Value.int IntKind.i64 0, Value.int IntKind.i64 0, Value.slice none 0 0], [(0, 1, false), (1, 2, true), (3, 1, false)], none, 64, 6, none, false⟩
theorem TF6_27_ok : TypOk Try.prog 27 TF6_27 := ⟨by kernel_rfl, by kernel_rfl, by kernel_rfl, by kernel_rfl, by kernel_rfl⟩
def TF6_22 : TI := ⟨1, false, [Value.slice none 0 0], [], some 123, 24, 5, none, false⟩
theorem TF6_22_ok : TypOk Try.prog 22 TF6_22 := ⟨by kernel_rfl, by kernel_rfl, by kernel_rfl, by kernel_rfl, by kernel_rfl⟩
def TF6_25 : TI := ⟨1, false, [Value.slice none 0 0], [], some 27, 24, 5, none, false⟩
theorem TF6_25_ok : TypOk Try.prog 25 TF6_25 := ⟨by kernel_rfl, by kernel_rfl, by kernel_rfl, by kernel_rfl, by kernel_rfl⟩
def TF6_123 : TI := ⟨2, true, [Value.slice none 0 0, Value.int IntKind.i64 0], [(0, 1, false), (1, 1, false)], none, 32, 6, none, false⟩
theorem TF6_123_ok : TypOk Try.prog 123 TF6_123 := ⟨by kernel_rfl, by kernel_rfl, by kernel_rfl, by kernel_rfl, by kernel_rfl⟩
def TF6 : List (Nat × TI) := [(3, TF6_3), (27, TF6_27), (22, TF6_22), (25, TF6_25), (123, TF6_123)]
theorem TF6_ok : TabOk Try.prog TF6 := ((((((TabOk.nil _).cons TF6_123_ok).cons TF6_25_ok).cons TF6_22_ok).cons TF6_27_ok).cons TF6_3_ok)

def fewB1 (most d : Int) : List Ty → Int → Option Int
  | [], n => some n
  | t :: l, n => if n ≤ most then (if fewT most t d ≤ most then fewB1 most d l (n + t.size) else none) else some n
mutual
def fewM (most : Int) : Tm → Int → Int
  | .mk bs _ _ a, d => if d ≤ 0 then most + 1 else match fewB1 most d bs 1 with
    | none => most + 1
    | some n => fewMs most a (d - 1) n
def fewMs (most : Int) : List Tm → Int → Int → Int
  | [], _, n => n
  | t :: l, d, n => if n ≤ most then fewMs most l d (n + fewM most t d) else n
end
theorem fewB1_le {most d : Int} (hm : 1 ≤ most) (hd : d ≤ 1000) : ∀ (l : List Ty) (n : Int), 1 ≤ n → n ≤ 2 * most → ∀ r, fewB1 most d l n = some r → 1 ≤ r ∧ r ≤ 2 * most
  | [], n, h0, h1, r, h => by rw [fewB1] at h; cases h; exact ⟨h0, h1⟩
  | t :: l, n, h0, h1, r, h => by
    rw [fewB1] at h
    split at h
    · split at h
      · rename_i h2
        have := fewT_size hm 1000 t d hd h2
        have := (fewT_le hm 1000 t d hd).1
        exact fewB1_le hm hd l _ (by omega) (by omega) r h
      · cases h
    · cases h; exact ⟨h0, h1⟩
theorem fewMs_le {most : Int} (hm : 1 ≤ most) {B : Int} (hB : most ≤ B) : ∀ (l : List Tm) (d n : Int), (∀ t ∈ l, 1 ≤ fewM most t d ∧ fewM most t d ≤ B) → 1 ≤ n → n ≤ most + B → 1 ≤ fewMs most l d n ∧ fewMs most l d n ≤ most + B
  | [], d, n, _, h0, h1 => by rw [fewMs]; exact ⟨h0, h1⟩
  | t :: l, d, n, h, h0, h1 => by
    rw [fewMs]
    split
    · have := h t (by simp)
      exact fewMs_le hm hB l d _ (fun u hu => h u (by simp [hu])) (by omega) (by omega)
    · exact ⟨h0, h1⟩
theorem fewM_le {most : Int} (hm : 1 ≤ most) : ∀ (k : Nat) (t : Tm) (d : Int), k ≤ 1000 → d ≤ k → 1 ≤ fewM most t d ∧ fewM most t d ≤ most * k + most + 1
  | 0, .mk bs kd i a, d, hk, hd => by
    rw [fewM, if_pos (by omega)]
    have e : most * ((0 : Nat) : Int) = 0 := Int.mul_zero _
    rw [e]; omega
  | k + 1, .mk bs kd i a, d, hk, hd => by
    rw [fewM]
    have e : most * ((k + 1 : Nat) : Int) = most * (k : Int) + most := by rw [Int.natCast_add, Int.mul_add]; simp
    have h0 : 0 ≤ most * (k : Int) := Int.mul_nonneg (by omega) (by omega)
    rw [e]
    split
    · omega
    · cases hb : fewB1 most d bs 1 with
      | none => dsimp only; omega
      | some n =>
        have hn := fewB1_le hm (by omega) bs 1 (by omega) (by omega) n hb
        have := fewMs_le hm (B := most * k + most + 1) (by omega) a (d - 1) n (fun t _ => fewM_le hm k t (d - 1) (by omega) (by omega)) hn.1 (by omega)
        dsimp only
        omega
set_option maxHeartbeats 4000000 in
theorem few6_d (most : Int) (h1 : 1 ≤ most) (h2 : most ≤ 1000) : ∀ (t : Tm) (d : Int), -1000 ≤ d → d ≤ 1000 → PureC Try.prog 69 [.ag (eTm t), .v (.int .i64 most), .v (.int .i64 d)] (.v (.int .i64 (fewM most t d))) := by
 intro t
 induction t using Tm.ind with
 | h bs k i a ih =>
 intro d hd1 hd2
 obtain ⟨V, hV⟩ : ∃ V, fewM most (.mk bs k i a) d = V := ⟨_, rfl⟩
 rw [hV]
 rw [fewM] at hV
 refine call_of_dw 0 69 [ResultVar.tmp 6] TF6_ok (by kernel_rfl) Try.func69 rfl Try.ntmps69 rfl (by simp) ?dwords ?dbody
 case dwords => simp [wordsOk, D.ok, D.oks, rnames, eTm_ok]
 case dbody =>
  intro cx hnt hn0
  refine dw_seq ?_; refine dwk [] TF6_ok hnt fun K hK => ?_; refine hK _ _ ?_; clear hK K; refine dw_seq (dw_seq ?_)
  by_cases hd : d ≤ 0
  ·rw [if_pos hd] at hV
   subst hV
   refine dwk [(11, .v (.bool true))] TF6_ok hnt fun K hK => ?_; refine And.intro (dtrue hd) ?_; refine hK _ _ ?_; clear hK K; refine dw_cond (t := true) rfl ?_; rw [if_pos rfl]; refine dw_seq ?_; refine dwk [(13, .v (.int .i64 (most + 1)))] TF6_ok hnt fun K hK => ?_; refine And.intro (dintE (IntWalk.i64_in _ (by omega))) ?_; refine hK _ _ ?_; clear hK K; refine dw_ret ?_
   exact retv (N := 0) (.inr rfl) rfl (VLe.refl _) trivial
  ·rw [if_neg hd] at hV; refine dwk [(11, .v (.bool false))] TF6_ok hnt fun K hK => ?_; refine And.intro (dfalse hd) ?_; refine hK _ _ ?_; clear hK K; refine dw_cond (t := false) rfl ?_; rw [if_neg (by simp)]; refine dw_skip ?_; refine dw_seq ?_; refine dwk [] TF6_ok hnt fun K hK => ?_; refine hK _ _ ?_; clear hK K
   refine dw_cutE (ι := { n : Int // 1 ≤ n ∧ n ≤ 2 * most ∧ V = fewMs most a (d - 1) n }) (fun n => [(.t 1, .v (.int .i64 most)), (.t 2, .v (.int .i64 d)), (.t 3, .p 0 0), (.t 7, .v (.int .i64 n.1)), (.c 0 0, .sl 2 (eTys bs) none), (.c 0 1, .v (.int .i64 k)), (.c 0 2, .v (.int .i64 i)), (.c 0 3, .sl 4 (eTms a) none)]) 1 ?_ fun n => ?_
   ·refine dw_seq ?_; refine dwk [] TF6_ok hnt fun K hK => ?_; refine hK _ _ ?_; clear hK K; refine dw_block ?_
    refine dw_loop (ι := { p : Nat × Int // fewB1 most d (bs.drop p.1) p.2 = fewB1 most d bs 1 ∧ (p.1 : Int) + 1 ≤ p.2 ∧ p.2 ≤ 2 * most ∧ p.1 ≤ bs.length }) (fun p => [(.t 1, .v (.int .i64 most)), (.t 2, .v (.int .i64 d)), (.t 3, .p 0 0), (.t 7, .v (.int .i64 p.1.2)), (.t 8, .v (.int .i64 (p.1.1 : Int))), (.c 0 0, .sl 2 (eTys bs) none), (.c 0 1, .v (.int .i64 k)), (.c 0 2, .v (.int .i64 i)), (.c 0 3, .sl 4 (eTms a) none)]) 1 (fun p => bs.length - p.1.1) ⟨(0, 1), by simp, by simp, by dsimp only; omega, by simp⟩ VS.toA fun p => ?_
    obtain ⟨⟨j, n⟩, hj1, hj2, hj3, hj4⟩ := p
    dsimp only at hj1 hj2 hj3 hj4 ⊢
    refine dw_seq (dw_seq ?_)
    by_cases hlt : j < bs.length
    ·have hdr : bs.drop j = bs[j] :: bs.drop (j + 1) := List.drop_eq_getElem_cons hlt
     rw [hdr, fewB1] at hj1
     by_cases hn : n ≤ most
     ·rw [if_pos hn] at hj1
      have hF := Few4_d most h1 h2 bs[j] d hd1 hd2
      rw [eTy_eq] at hF
      have hq : (eTys bs).getD (j : Int).toNat [] = [.sl 2 (eTys bs[j].args) none, .v (.int .i64 bs[j].base)] := by rw [Int.toNat_natCast, eTys_getD bs j hlt, eTy_eq]
      have hb : (0 : Int) ≤ (j : Int) ∧ (j : Int) < ((eTys bs).length : Int) := ⟨by omega, by rw [eTys_len]; omega⟩
      refine dwk [(18, .v (.bool true)), (22, .v (.bool true))] TF6_ok hnt fun K hK => ?_; refine And.intro (dtrue (by rw [eTys_len]; omega)) ?_; refine And.intro (dtrue hn) ?_; refine hK _ _ ?_; clear hK K; refine dw_cond (t := true) rfl ?_; rw [if_pos rfl]; refine dw_skip ?_; refine dw_seq (dw_block ?_); refine dw_seq (dw_seq ?_)
      by_cases hff : fewT most bs[j] d ≤ most
      ·rw [if_pos hff] at hj1
       rw [decide_eq_true hff] at hF
       have hs1 := fewT_size h1 1000 bs[j] d (by omega) hff
       have hs2 := (fewT_le h1 1000 bs[j] d (by omega)).1
       have hS := Size4_d bs[j] (by omega)
       rw [eTy_eq] at hS
       refine dwk [(29, .q [.sl 2 (eTys bs[j].args) none, .v (.int .i64 bs[j].base)])] TF6_ok hnt fun K hK => ?_; refine And.intro (hb) ?_; refine And.intro (VLe.of_eq (by rw [hq])) ?_; refine dcl (hF) ?_; refine hK _ _ ?_; clear hK K; refine dw_cond (t := false) rfl ?_; rw [if_neg (by simp)]; refine dw_skip ?_; refine dwk [(41, .q [.sl 2 (eTys bs[j].args) none, .v (.int .i64 bs[j].base)]), (44, .v (.int .i64 (n + (bs[j].size : Int))))] TF6_ok hnt fun K hK => ?_
       refine And.intro (hb) ?_; refine And.intro (VLe.of_eq (by rw [hq])) ?_; refine dcl (hS) ?_; refine And.intro (dintE (IntWalk.i64_in _ (by omega))) ?_; refine hK _ _ ?_; clear hK K; refine dwk [(25, .v (.int .i64 ((j + 1 : Nat) : Int)))] TF6_ok hnt fun K hK => ?_; refine And.intro (dintE (by rw [IntWalk.i64_in _ (by omega)]; omega)) ?_; refine hK _ _ ?_; clear hK K
       exact ⟨⟨(j + 1, n + (bs[j].size : Int)), hj1, by dsimp only; omega, by dsimp only; omega, hlt⟩, by dsimp only; omega, VS.toA⟩
      ·rw [if_neg hff] at hj1
       rw [decide_eq_false hff] at hF
       rw [← hj1] at hV
       dsimp only at hV
       subst hV
       refine dwk [(29, .q [.sl 2 (eTys bs[j].args) none, .v (.int .i64 bs[j].base)])] TF6_ok hnt fun K hK => ?_; refine And.intro (hb) ?_; refine And.intro (VLe.of_eq (by rw [hq])) ?_; refine dcl (hF) ?_; refine hK _ _ ?_; clear hK K; refine dw_cond (t := true) rfl ?_; rw [if_pos rfl]; refine dw_seq ?_; refine dwk [(36, .v (.int .i64 (most + 1)))] TF6_ok hnt fun K hK => ?_; refine And.intro (dintE (IntWalk.i64_in _ (by omega))) ?_
       refine hK _ _ ?_; clear hK K; refine dw_ret ?_
       exact retv (N := 0) (.inr rfl) rfl (VLe.refl _) trivial
     ·rw [if_neg hn] at hj1
      rw [← hj1] at hV
      dsimp only at hV
      refine dwk [(18, .v (.bool true)), (22, .v (.bool false))] TF6_ok hnt fun K hK => ?_; refine And.intro (dtrue (by rw [eTys_len]; omega)) ?_; refine And.intro (dfalse hn) ?_; refine hK _ _ ?_; clear hK K; refine dw_cond (t := false) rfl ?_; rw [if_neg (by simp)]; refine dw_exit ?_
      exact cutE_ok (Q := RetOk TF6 [ResultVar.tmp 6] (.v (.int .i64 V)) []) ⟨n, by omega, hj3, hV.symm⟩ VS.toA
    ·rw [List.drop_eq_nil_of_le (by omega), fewB1] at hj1
     rw [← hj1] at hV
     dsimp only at hV
     refine dwk [(18, .v (.bool false))] TF6_ok hnt fun K hK => ?_; refine And.intro (dfalse (by rw [eTys_len]; omega)) ?_; refine hK _ _ ?_; clear hK K; refine dw_cond (t := false) rfl ?_; rw [if_neg (by simp)]; refine dw_exit ?_
     exact cutE_ok (Q := RetOk TF6 [ResultVar.tmp 6] (.v (.int .i64 V)) []) ⟨n, by omega, hj3, hV.symm⟩ VS.toA
   ·obtain ⟨n0, hn1, hn2, hVn⟩ := n
    dsimp only
    rw [hVn]
    refine dw_seq (dw_seq ?_); refine dwk [] TF6_ok hnt fun K hK => ?_; refine hK _ _ ?_; clear hK K; refine dw_block ?_
    refine dw_loop (ι := { p : Nat × Int // fewMs most (a.drop p.1) (d - 1) p.2 = fewMs most a (d - 1) n0 ∧ (p.1 : Int) + 1 ≤ p.2 ∧ p.2 ≤ 2000000 ∧ p.1 ≤ a.length }) (fun p => [(.t 1, .v (.int .i64 most)), (.t 2, .v (.int .i64 d)), (.t 3, .p 0 0), (.t 7, .v (.int .i64 p.1.2)), (.t 9, .v (.int .i64 (p.1.1 : Int))), (.c 0 0, .sl 2 (eTys bs) none), (.c 0 1, .v (.int .i64 k)), (.c 0 2, .v (.int .i64 i)), (.c 0 3, .sl 4 (eTms a) none)]) 1 (fun p => a.length - p.1.1) ⟨(0, n0), by simp, by dsimp only; omega, by dsimp only; omega, by simp⟩ VS.toA fun p => ?_
    obtain ⟨⟨j, n⟩, hj1, hj2, hj3, hj4⟩ := p
    dsimp only at hj1 hj2 hj3 hj4 ⊢
    refine dw_seq (dw_seq ?_)
    by_cases hlt : j < a.length
    ·have hdr : a.drop j = a[j] :: a.drop (j + 1) := List.drop_eq_getElem_cons hlt
     rw [hdr, fewMs] at hj1
     by_cases hn : n ≤ most
     ·rw [if_pos hn] at hj1
      have hih := ih a[j] (List.getElem_mem hlt) (d - 1) (by omega) (by omega)
      rw [eTm_eq] at hih
      have hbd := fewM_le h1 1000 a[j] (d - 1) (by omega) (by omega)
      have hbd2 : most * ((1000 : Nat) : Int) ≤ 1000000 := by
       have : most * ((1000 : Nat) : Int) = 1000 * most := by rw [Int.mul_comm]; rfl
       omega
      refine dwk [(49, .v (.bool true)), (53, .v (.bool true))] TF6_ok hnt fun K hK => ?_; refine And.intro (dtrue (by rw [eTms_len]; omega)) ?_; refine And.intro (dtrue hn) ?_; refine hK _ _ ?_; clear hK K; refine dw_cond (t := true) rfl ?_; rw [if_pos rfl]; refine dw_skip ?_; refine dw_seq (dw_block ?_); refine dwk [(61, .q [.sl 2 (eTys a[j].binds) none, .v (.int .i64 a[j].kind), .v (.int .i64 a[j].index), .sl 4 (eTms a[j].args) none]), (65, .v (.int .i64 (d - 1))), (67, .v (.int .i64 (n + fewM most a[j] (d - 1))))] TF6_ok hnt fun K hK => ?_
      refine And.intro (⟨by omega, by rw [eTms_len]; omega⟩) ?_; refine And.intro (VLe.of_eq (by rw [Int.toNat_natCast, eTms_getD a j hlt, eTm_eq])) ?_; refine And.intro (dintE (IntWalk.i64_in _ (by omega))) ?_; refine dcl (hih) ?_; refine And.intro (dintE (IntWalk.i64_in _ (by omega))) ?_; refine hK _ _ ?_; clear hK K; refine dwk [(56, .v (.int .i64 ((j + 1 : Nat) : Int)))] TF6_ok hnt fun K hK => ?_; refine And.intro (dintE (by rw [IntWalk.i64_in _ (by omega)]; omega)) ?_
      refine hK _ _ ?_; clear hK K
      exact ⟨⟨(j + 1, n + fewM most a[j] (d - 1)), hj1, by dsimp only; omega, by dsimp only; omega, hlt⟩, by dsimp only; omega, VS.toA⟩
     ·rw [if_neg hn] at hj1
      rw [← hj1]
      refine dwk [(49, .v (.bool true)), (53, .v (.bool false))] TF6_ok hnt fun K hK => ?_; refine And.intro (dtrue (by rw [eTms_len]; omega)) ?_; refine And.intro (dfalse hn) ?_; refine hK _ _ ?_; clear hK K; refine dw_cond (t := false) rfl ?_; rw [if_neg (by simp)]; refine dw_exit ?_; refine dw_seq ?_; refine dwk [] TF6_ok hnt fun K hK => ?_; refine hK _ _ ?_; clear hK K; refine dw_ret ?_
      exact retv (N := 0) (.inr rfl) rfl (VLe.refl _) trivial
    ·rw [List.drop_eq_nil_of_le (by omega), fewMs] at hj1
     rw [← hj1]
     refine dwk [(49, .v (.bool false))] TF6_ok hnt fun K hK => ?_; refine And.intro (dfalse (by rw [eTms_len]; omega)) ?_; refine hK _ _ ?_; clear hK K; refine dw_cond (t := false) rfl ?_; rw [if_neg (by simp)]; refine dw_exit ?_; refine dw_seq ?_; refine dwk [] TF6_ok hnt fun K hK => ?_; refine hK _ _ ?_; clear hK K; refine dw_ret ?_
     exact retv (N := 0) (.inr rfl) rfl (VLe.refl _) trivial
theorem Few6_d (most : Int) (h1 : 1 ≤ most) (h2 : most ≤ 1000) (t : Tm) (d : Int) (h3 : -1000 ≤ d) (h4 : d ≤ 1000) : PureC Try.prog 35 [.ag (eTm t), .v (.int .i64 most), .v (.int .i64 d)] (.v (.bool (decide (fewM most t d ≤ most)))) := by
 have h := few6_d most h1 h2 t d h3 h4
 rw [eTm_eq] at h ⊢
 refine call_of_dw 0 13 [ResultVar.tmp 6] TF6_ok (by kernel_rfl) Try.func35 rfl Try.ntmps35 rfl (by simp) ?dwords ?dbody
 case dwords => simp [wordsOk, D.ok, D.oks, rnames, eTys_ok, eTms_ok]
 case dbody =>
  intro cx hnt hn0
  refine dw_seq ?_; refine dwk [] TF6_ok hnt fun K hK => ?_; refine hK _ _ ?_; clear hK K; refine dw_seq ?_; refine dwk [] TF6_ok hnt fun K hK => ?_; refine dcl (h) ?_; refine hK _ _ ?_; clear hK K; refine dw_ret ?_
  exact retv (N := 0) (.inr rfl) rfl (VLe.refl _) trivial
def fewB (t : Tm) : Bool := decide (fewM 150 t 70 ≤ 150)
set_option maxHeartbeats 1000000 in
theorem lawFew_d (l : List Tm) (hl : l.length ≤ 1000000) : PureC Try.prog 6 [.sl 4 (eTms l) none] (.v (.bool (l.all fewB))) := by
 refine call_of_dw 0 16 [ResultVar.tmp 2] TF6_ok (by kernel_rfl) Try.func6 rfl Try.ntmps6 rfl (by simp) ?dwords ?dbody
 case dwords => simp [wordsOk, D.ok, D.oks, rnames, eTms_ok]
 case dbody =>
  intro cx hnt hn0
  refine dw_seq ?_; refine dwk [] TF6_ok hnt fun K hK => ?_; refine hK _ _ ?_; clear hK K; refine dw_seq (dw_seq ?_); refine dwk [] TF6_ok hnt fun K hK => ?_; refine hK _ _ ?_; clear hK K; refine dw_block ?_
  refine dw_loop (ι := { j : Nat // ∀ i (h : i < l.length), i < j → fewB l[i] = true }) (fun j => [(.t 0, .sl 4 (eTms l) none), (.t 3, .v (.int .i64 (j.1 : Int)))]) 1 (fun j => l.length - j.1) ⟨0, fun i h1 h2 => by omega⟩ VS.toA fun j => ?_
  obtain ⟨j, hj⟩ := j
  dsimp only
  refine dw_seq (dw_seq ?_)
  by_cases hlt : j < l.length
  ·have hi := Few6_d 150 (by decide) (by decide) l[j] 70 (by decide) (by decide)
   rw [eTm_eq] at hi
   have hq : (eTms l).getD (j : Int).toNat [] = [.sl 2 (eTys l[j].binds) none, .v (.int .i64 l[j].kind), .v (.int .i64 l[j].index), .sl 4 (eTms l[j].args) none] := by rw [Int.toNat_natCast, eTms_getD l j hlt, eTm_eq]
   have hb : (0 : Int) ≤ (j : Int) ∧ (j : Int) < ((eTms l).length : Int) := ⟨by omega, by rw [eTms_len]; omega⟩
   refine dwk [(7, .v (.bool true))] TF6_ok hnt fun K hK => ?_; refine And.intro (dtrue (by rw [eTms_len]; omega)) ?_; refine hK _ _ ?_; clear hK K; refine dw_cond (t := true) rfl ?_; rw [if_pos rfl]; refine dw_skip ?_; refine dw_seq (dw_block (dw_seq ?_))
   cases hf : fewB l[j] with
   | true =>
    have hf2 := hf
    unfold fewB at hf2
    rw [hf2] at hi
    refine dwk [(12, .q [.sl 2 (eTys l[j].binds) none, .v (.int .i64 l[j].kind), .v (.int .i64 l[j].index), .sl 4 (eTms l[j].args) none])] TF6_ok hnt fun K hK => ?_; refine And.intro (hb) ?_; refine And.intro (VLe.of_eq (by rw [hq])) ?_; refine dcl (hi) ?_; refine hK _ _ ?_; clear hK K; refine dw_cond (t := false) rfl ?_; rw [if_neg (by simp)]; refine dw_skip ?_; refine dwk [(9, .v (.int .i64 ((j + 1 : Nat) : Int)))] TF6_ok hnt fun K hK => ?_
    refine And.intro (dintE (by rw [IntWalk.i64_in _ (by omega)]; omega)) ?_; refine hK _ _ ?_; clear hK K
    refine ⟨⟨j + 1, fun i h1 h2 => ?_⟩, by dsimp only; omega, VS.toA⟩
    by_cases he : i = j
    ·subst he; exact hf
    ·exact hj i h1 (by omega)
   | false =>
    have hf2 := hf
    unfold fewB at hf2
    rw [hf2] at hi
    have ha : l.all fewB = false := by rw [List.all_eq_false]; exact ⟨l[j], List.getElem_mem hlt, by rw [hf]; simp⟩
    rw [ha]
    refine dwk [(12, .q [.sl 2 (eTys l[j].binds) none, .v (.int .i64 l[j].kind), .v (.int .i64 l[j].index), .sl 4 (eTms l[j].args) none])] TF6_ok hnt fun K hK => ?_; refine And.intro (hb) ?_; refine And.intro (VLe.of_eq (by rw [hq])) ?_; refine dcl (hi) ?_; refine hK _ _ ?_; clear hK K; refine dw_cond (t := true) rfl ?_; rw [if_pos rfl]; refine dw_seq ?_; refine dwk [] TF6_ok hnt fun K hK => ?_; refine hK _ _ ?_; clear hK K
    refine dw_ret ?_
    exact retv (N := 0) (.inr rfl) rfl (VLe.refl _) trivial
  ·have ha : l.all fewB = true := by
    rw [List.all_eq_true]
    intro t ht
    obtain ⟨i, hi, rfl⟩ := List.getElem_of_mem ht
    exact hj i hi (by omega)
   rw [ha]
   refine dwk [(7, .v (.bool false))] TF6_ok hnt fun K hK => ?_; refine And.intro (dfalse (by rw [eTms_len]; omega)) ?_; refine hK _ _ ?_; clear hK K; refine dw_cond (t := false) rfl ?_; rw [if_neg (by simp)]; refine dw_exit ?_; refine dw_seq ?_; refine dwk [] TF6_ok hnt fun K hK => ?_; refine hK _ _ ?_; clear hK K; refine dw_ret ?_
   exact retv (N := 0) (.inr rfl) rfl (VLe.refl _) trivial
end Go.Proofs.Ytcblpjheoclkeaa

namespace Go.Proofs.Ytcblpjheoclkeaa
open Go.RowKit

theorem fewB1_full {most d : Int} (hm : 1 ≤ most) (hd : d ≤ 1000) : ∀ (l : List Ty) (n r : Int), fewB1 most d l n = some r → r ≤ most → r = n + Ty.sizes l
  | [], n, r, h, _ => by rw [fewB1] at h; cases h; simp [Ty.sizes]
  | t :: l, n, r, h, hr => by
    rw [fewB1] at h
    split at h
    · split at h
      · have := fewB1_full hm hd l _ r h hr
        rw [this, Ty.sizes]; omega
      · cases h
    · cases h; omega
theorem fewMs_full {most : Int} : ∀ (l : List Tm) (d n : Int), (∀ t ∈ l, fewM most t d ≤ most → (t.full : Int) = fewM most t d ∧ (t.depth : Int) ≤ d) → (∀ t ∈ l, 1 ≤ fewM most t d) → 1 ≤ n → fewMs most l d n ≤ most → fewMs most l d n = n + Tm.fulls l ∧ (∀ t ∈ l, (t.depth : Int) ≤ d) ∧ n ≤ most
  | [], d, n, _, _, _, h => by rw [fewMs] at h ⊢; exact ⟨by simp [Tm.fulls], nofun, h⟩
  | t :: l, d, n, h, h1, hn, hf => by
    rw [fewMs] at hf ⊢
    split at hf
    · rename_i hm
      rw [if_pos hm]
      have h2 := h1 t (by simp)
      obtain ⟨h3, h4, h5⟩ := fewMs_full l d _ (fun u hu => h u (by simp [hu])) (fun u hu => h1 u (by simp [hu])) (by omega) hf
      obtain ⟨h6, h7⟩ := h t (by simp) (by omega)
      refine ⟨by rw [h3, Tm.fulls]; omega, fun u hu => ?_, hm⟩
      rcases List.mem_cons.1 hu with rfl | hu
      · exact h7
      · exact h4 u hu
    · rename_i hm; omega
theorem depths_max {d : Int} (hd : 0 ≤ d) : ∀ (l : List Tm), (∀ t ∈ l, (t.depth : Int) ≤ d) → (Tm.depths l : Int) ≤ d
  | [], _ => by simp [Tm.depths]; exact hd
  | t :: l, h => by
    have h1 := h t (by simp)
    have h2 := depths_max hd l fun u hu => h u (by simp [hu])
    simp only [Tm.depths]; omega
theorem fewM_full {most : Int} (hm : 1 ≤ most) : ∀ (k : Nat) (t : Tm) (d : Int), k ≤ 1000 → d ≤ k → fewM most t d ≤ most → (t.full : Int) = fewM most t d ∧ (t.depth : Int) ≤ d
  | 0, .mk bs kd i a, d, hk, hd, h => by rw [fewM, if_pos (by omega)] at h; omega
  | k + 1, .mk bs kd i a, d, hk, hd, h => by
    rw [fewM] at h ⊢
    split at h
    · omega
    · rename_i hp
      rw [if_neg hp]
      cases hb : fewB1 most d bs 1 with
      | none => rw [hb] at h; dsimp only at h; omega
      | some n =>
        rw [hb] at h
        dsimp only at h ⊢
        have hn := fewB1_le hm (by omega) bs 1 (by omega) (by omega) n hb
        obtain ⟨h3, h4, h5⟩ := fewMs_full a (d - 1) n (fun t _ => fewM_full hm k t (d - 1) (by omega) (by omega)) (fun t _ => (fewM_le hm k t (d - 1) (by omega) (by omega)).1) hn.1 h
        have h6 := fewB1_full hm (by omega) bs 1 n hb h5
        have h7 := depths_max (by omega) a h4
        rw [Tm.full_eq, Tm.depth_eq]
        constructor
        · omega
        · omega
theorem fewB_full {t : Tm} (h : fewB t = true) : t.full ≤ 150 ∧ t.depth ≤ 70 := by
  unfold fewB at h
  rw [decide_eq_true_eq] at h
  obtain ⟨h1, h2⟩ := fewM_full (by decide) 1000 t 70 (by decide) (by decide) h
  omega
end Go.Proofs.Ytcblpjheoclkeaa

namespace Go.Proofs.Ytcblpjheoclkeaa
open Go.RowKit
end Go.Proofs.Ytcblpjheoclkeaa

namespace Go.Proofs.Ytcblpjheoclkeaa
open Go.RowKit
def TTO_3 : TI := ⟨1, false, [Value.int IntKind.i64 0], [], none, 8, 2, none, false⟩
theorem TTO_3_ok : TypOk Try.prog 3 TTO_3 := ⟨by kernel_rfl, by kernel_rfl, by kernel_rfl, by kernel_rfl, by kernel_rfl⟩
def TTO_123 : TI := ⟨2, true, [Value.slice none 0 0, Value.int IntKind.i64 0], [(0, 1, false), (1, 1, false)], none, 32, 6, none, false⟩
theorem TTO_123_ok : TypOk Try.prog 123 TTO_123 := ⟨by kernel_rfl, by kernel_rfl, by kernel_rfl, by kernel_rfl, by kernel_rfl⟩
def TTO_83 : TI := ⟨2, true, [Value.slice none 0 0, Value.int IntKind.i64 0], [(0, 1, false), (1, 1, false)], none, 32, 6, none, false⟩
theorem TTO_83_ok : TypOk Try.prog 83 TTO_83 := ⟨by kernel_rfl, by kernel_rfl, by kernel_rfl, by kernel_rfl, by kernel_rfl⟩
def TTO_27 : TI := ⟨4, true, [Value.slice none 0 0, Value.int IntKind.i64 0, Value.int IntKind.i64 0, Value.slice none 0 0], [(0, 1, false), (1, 2, true), (3, 1, false)], none, 64, 6, none, false⟩
theorem TTO_27_ok : TypOk Try.prog 27 TTO_27 := ⟨by kernel_rfl, by kernel_rfl, by kernel_rfl, by kernel_rfl, by kernel_rfl⟩
def TTO_34 : TI := ⟨4, true, [Value.slice none 0 0, Value.int IntKind.i64 0, Value.int IntKind.i64 0, Value.slice none 0 0], [(0, 1, false), (1, 2, true), (3, 1, false)], none, 64, 6, none, false⟩
theorem TTO_34_ok : TypOk Try.prog 34 TTO_34 := ⟨by kernel_rfl, by kernel_rfl, by kernel_rfl, by kernel_rfl, by kernel_rfl⟩
def TTO_22 : TI := ⟨1, false, [Value.slice none 0 0], [], some 123, 24, 5, none, false⟩
theorem TTO_22_ok : TypOk Try.prog 22 TTO_22 := ⟨by kernel_rfl, by kernel_rfl, by kernel_rfl, by kernel_rfl, by kernel_rfl⟩
def TTO_30 : TI := ⟨1, false, [Value.slice none 0 0], [], some 83, 24, 5, none, false⟩
theorem TTO_30_ok : TypOk Try.prog 30 TTO_30 := ⟨by kernel_rfl, by kernel_rfl, by kernel_rfl, by kernel_rfl, by kernel_rfl⟩
def TTO_25 : TI := ⟨1, false, [Value.slice none 0 0], [], some 27, 24, 5, none, false⟩
theorem TTO_25_ok : TypOk Try.prog 25 TTO_25 := ⟨by kernel_rfl, by kernel_rfl, by kernel_rfl, by kernel_rfl, by kernel_rfl⟩
def TTO_32 : TI := ⟨1, false, [Value.slice none 0 0], [], some 34, 24, 5, none, false⟩
theorem TTO_32_ok : TypOk Try.prog 32 TTO_32 := ⟨by kernel_rfl, by kernel_rfl, by kernel_rfl, by kernel_rfl, by kernel_rfl⟩
def TTO_24 : TI := ⟨2, true, [Value.int IntKind.i64 0, Value.int IntKind.i64 0], [(0, 1, false), (1, 1, false)], none, 16, 6, none, true⟩
theorem TTO_24_ok : TypOk Try.prog 24 TTO_24 := ⟨by kernel_rfl, by kernel_rfl, by kernel_rfl, by kernel_rfl, by kernel_rfl⟩
def TTO_31 : TI := ⟨2, true, [Value.int IntKind.i64 0, Value.int IntKind.i64 0], [(0, 1, false), (1, 1, false)], none, 16, 6, none, true⟩
theorem TTO_31_ok : TypOk Try.prog 31 TTO_31 := ⟨by kernel_rfl, by kernel_rfl, by kernel_rfl, by kernel_rfl, by kernel_rfl⟩
def TTO : List (Nat × TI) := [(3, TTO_3), (123, TTO_123), (83, TTO_83), (27, TTO_27), (34, TTO_34), (22, TTO_22), (30, TTO_30), (25, TTO_25), (32, TTO_32), (24, TTO_24), (31, TTO_31)]
theorem TTO_ok : TabOk Try.prog TTO := ((((((((((((TabOk.nil _).cons TTO_31_ok).cons TTO_24_ok).cons TTO_32_ok).cons TTO_25_ok).cons TTO_30_ok).cons TTO_22_ok).cons TTO_34_ok).cons TTO_27_ok).cons TTO_83_ok).cons TTO_123_ok).cons TTO_3_ok)
theorem eTys_tlen (l : List Ty) (j : Nat) (h : j ≤ l.length) : (eTys (l.take j)).length = j := by rw [eTys_len, List.length_take]; omega
theorem eTms_tlen (l : List Tm) (j : Nat) (h : j ≤ l.length) : (eTms (l.take j)).length = j := by rw [eTms_len, List.length_take]; omega
theorem to4D_d : ∀ t : Ty, t.size ≤ 900000 → PureC Try.prog 64 [.ag (eTy t)] (.ag (eTy t)) := by
 intro t
 induction t using Ty.ind with
 | h ar base ih =>
  intro hz
  rw [Ty.size_eq] at hz
  have hal := Ty.le_sizes ar
  rw [eTy_eq]
  dsimp only [Ty.args, Ty.base]
  refine calldw 0 27 [ResultVar.cell 2 83] TTO_ok Try.func64 rfl Try.ntmps64 rfl fun cx hnt hn0 => ?_
  ·skip
   refine dw_seq ?_; refine dwk [] TTO_ok hnt fun K hK => ?_; refine hK _ _ ?_; clear hK K; refine dw_seq ?_; refine dwk [] TTO_ok hnt fun K hK => ?_; refine hK _ _ ?_; clear hK K
   refine DW.vs (VS.row (k := 5) (off := 0) 83 2 rfl) ?_
   refine dw_seq ?_; refine dw_seq ?_; refine dwk [] TTO_ok hnt fun K hK => ?_; refine hK _ _ ?_; clear hK K; refine dw_block ?_
   refine dw_loop (ι := { j : Nat // j ≤ ar.length }) (fun j => [(.t 1, .p 0 0), (.t 2, .p 1 0), (.t 3, .p 5 0), (.t 4, .v (.int .i64 ↑j.1)), (.c 0 0, .sl 2 (eTys ar) none), (.c 0 1, .v (.int .i64 base)), (.c 1 0, .v (.slice none 0 0)), (.c 1 1, .v (.int .i64 0)), (.c 5 0, .sl 2 (eTys (ar.take j.1)) (some 7)), (.c 5 1, .v (.int .i64 base)), (.r 7, .rw 83 2 j.1)]) 8 (fun j => ar.length - j.1) (⟨0, Nat.zero_le _⟩) ((VS.toK (by omega) (by repeat first | exact trivial | refine And.intro (And.intro (by first | rfl | simp [D.ok, D.oks, D.okss, D.okm, upto, keyOk, argsT]) (by first | exact Or.inl rfl | exact Or.inr ⟨_, rfl, (by repeat first | exact VLe.refl _ | exact VLe.nil _ | exact VLe.untag _ _ _ | refine VLe.ag ?_ | refine VLe.tu ?_ | refine VLeL.cons ?_ ?_ | exact VLeL.nil), trivial⟩ | simp [get, Key.eq, argsT])) ?_))) fun j => ?_
   obtain ⟨j, hj⟩ := j
   dsimp only
   by_cases hlt : j < ar.length
   ·have hmem := List.getElem_mem hlt
    have hsz := Ty.size_mem hmem
    have hc := ih _ hmem (by omega)
    rw [eTy_eq] at hc
    have hl1 := eTys_tlen ar j hj
    have hl2 := eTys_tlen ar (j + 1) hlt
    refine dw_seq ?_; refine dw_seq ?_; refine dwk [(11, .v (.int .i64 (↑ar.length))), (12, .v (.bool true))] TTO_ok hnt fun K hK => ?_; refine And.intro (dintE (by rw [eTys_len])) ?_; refine And.intro auT ?_; refine hK _ _ ?_; clear hK K; refine dw_cond (t := true) rfl ?_; rw [if_pos rfl]; refine dw_skip ?_; refine dw_seq ?_; refine dw_block ?_; refine dwkD [(20, .q [.sl 2 (eTys ar[j].args) none, .v (.int .i64 ar[j].base)])] TTO_ok hnt fun K hK => ?_
    refine And.intro (elo (eTys_len ar)) ?_; refine And.intro (elv (eTys_getD ar j) (eTy_eq _)) ?_; refine dcl (hc) ?_; refine And.intro (⟨by omega, by rw [hl1]; simp; omega⟩) ?_; refine hK _ _ (by kernel_rfl) ?_; clear hK K
    rw [eTys_snoc ar j hlt, hl2]
    refine dwk [(14, .v (.int .i64 (↑(j + 1))))] TTO_ok hnt fun K hK => ?_; refine And.intro auI ?_; refine hK _ _ ?_; clear hK K
    refine ⟨⟨j + 1, hlt⟩, by first | omega | (dsimp only; omega), VS.toA⟩
   ·rw [List.take_of_length_le (by omega)]
    refine dw_seq ?_; refine dw_seq ?_; refine dwk [(11, .v (.int .i64 (↑ar.length))), (12, .v (.bool false))] TTO_ok hnt fun K hK => ?_; refine And.intro (dintE (by rw [eTys_len])) ?_; refine And.intro auF ?_; refine hK _ _ ?_; clear hK K; refine dw_cond (t := false) rfl ?_; rw [if_neg (by simp)]; refine dw_exit ?_; refine dw_seq ?_; refine dwk [] TTO_ok hnt fun K hK => ?_; refine hK _ _ ?_; clear hK K
    refine dw_ret ?_
    exact reta rfl
theorem of4D_d : ∀ t : Ty, t.size ≤ 900000 → PureC Try.prog 82 [.ag (eTy t)] (.ag (eTy t)) := by
 intro t
 induction t using Ty.ind with
 | h ar base ih =>
  intro hz
  rw [Ty.size_eq] at hz
  have hal := Ty.le_sizes ar
  rw [eTy_eq]
  dsimp only [Ty.args, Ty.base]
  refine calldw 0 27 [ResultVar.cell 2 123] TTO_ok Try.func82 rfl Try.ntmps82 rfl fun cx hnt hn0 => ?_
  ·skip
   refine dw_seq ?_; refine dwk [] TTO_ok hnt fun K hK => ?_; refine hK _ _ ?_; clear hK K; refine dw_seq ?_; refine dwk [] TTO_ok hnt fun K hK => ?_; refine hK _ _ ?_; clear hK K
   refine DW.vs (VS.row (k := 5) (off := 0) 123 2 rfl) ?_
   refine dw_seq ?_; refine dw_seq ?_; refine dwk [] TTO_ok hnt fun K hK => ?_; refine hK _ _ ?_; clear hK K; refine dw_block ?_
   refine dw_loop (ι := { j : Nat // j ≤ ar.length }) (fun j => [(.t 1, .p 0 0), (.t 2, .p 1 0), (.t 3, .p 5 0), (.t 4, .v (.int .i64 ↑j.1)), (.c 0 0, .sl 2 (eTys ar) none), (.c 0 1, .v (.int .i64 base)), (.c 1 0, .v (.slice none 0 0)), (.c 1 1, .v (.int .i64 0)), (.c 5 0, .sl 2 (eTys (ar.take j.1)) (some 7)), (.c 5 1, .v (.int .i64 base)), (.r 7, .rw 123 2 j.1)]) 8 (fun j => ar.length - j.1) (⟨0, Nat.zero_le _⟩) ((VS.toK (by omega) (by repeat first | exact trivial | refine And.intro (And.intro (by first | rfl | simp [D.ok, D.oks, D.okss, D.okm, upto, keyOk, argsT]) (by first | exact Or.inl rfl | exact Or.inr ⟨_, rfl, (by repeat first | exact VLe.refl _ | exact VLe.nil _ | exact VLe.untag _ _ _ | refine VLe.ag ?_ | refine VLe.tu ?_ | refine VLeL.cons ?_ ?_ | exact VLeL.nil), trivial⟩ | simp [get, Key.eq, argsT])) ?_))) fun j => ?_
   obtain ⟨j, hj⟩ := j
   dsimp only
   by_cases hlt : j < ar.length
   ·have hmem := List.getElem_mem hlt
    have hsz := Ty.size_mem hmem
    have hc := ih _ hmem (by omega)
    rw [eTy_eq] at hc
    have hl1 := eTys_tlen ar j hj
    have hl2 := eTys_tlen ar (j + 1) hlt
    refine dw_seq ?_; refine dw_seq ?_; refine dwk [(11, .v (.int .i64 (↑ar.length))), (12, .v (.bool true))] TTO_ok hnt fun K hK => ?_; refine And.intro (dintE (by rw [eTys_len])) ?_; refine And.intro auT ?_; refine hK _ _ ?_; clear hK K; refine dw_cond (t := true) rfl ?_; rw [if_pos rfl]; refine dw_skip ?_; refine dw_seq ?_; refine dw_block ?_; refine dwkD [(20, .q [.sl 2 (eTys ar[j].args) none, .v (.int .i64 ar[j].base)])] TTO_ok hnt fun K hK => ?_
    refine And.intro (elo (eTys_len ar)) ?_; refine And.intro (elv (eTys_getD ar j) (eTy_eq _)) ?_; refine dcl (hc) ?_; refine And.intro (⟨by omega, by rw [hl1]; simp; omega⟩) ?_; refine hK _ _ (by kernel_rfl) ?_; clear hK K
    rw [eTys_snoc ar j hlt, hl2]
    refine dwk [(14, .v (.int .i64 (↑(j + 1))))] TTO_ok hnt fun K hK => ?_; refine And.intro auI ?_; refine hK _ _ ?_; clear hK K
    refine ⟨⟨j + 1, hlt⟩, by first | omega | (dsimp only; omega), VS.toA⟩
   ·rw [List.take_of_length_le (by omega)]
    refine dw_seq ?_; refine dw_seq ?_; refine dwk [(11, .v (.int .i64 (↑ar.length))), (12, .v (.bool false))] TTO_ok hnt fun K hK => ?_; refine And.intro (dintE (by rw [eTys_len])) ?_; refine And.intro auF ?_; refine hK _ _ ?_; clear hK K; refine dw_cond (t := false) rfl ?_; rw [if_neg (by simp)]; refine dw_exit ?_; refine dw_seq ?_; refine dwk [] TTO_ok hnt fun K hK => ?_; refine hK _ _ ?_; clear hK K
    refine dw_ret ?_
    exact reta rfl
theorem toTys_d (l : List Ty) (hz : Ty.sizes l ≤ 900000) : PureC Try.prog 29 [.sl 2 (eTys l) none] (.sl 2 (eTys l) none) := by
 have hal := Ty.le_sizes l
 refine calldw 0 20 [ResultVar.tmp 2] TTO_ok Try.func29 rfl Try.ntmps29 rfl fun cx hnt hn0 => ?_
 ·skip
  refine dw_seq ?_; refine dwk [] TTO_ok hnt fun K hK => ?_; refine hK _ _ ?_; clear hK K
  refine dw_cut (τ := [(.t 0, .sl 2 (eTys l) none), (.t 3, .v (.slice none 0 0))]) (N1 := 0) ?_ ?_
  ·skip
   refine dwk [] TTO_ok hnt fun K hK => ?_; refine hK _ _ ?_; clear hK K
   exact cut_ok (VS.toK (by omega) (by repeat first | exact trivial | refine And.intro (And.intro (by first | rfl | simp [D.ok, D.oks, D.okss, D.okm, upto, keyOk, argsT]) (by first | exact Or.inl rfl | exact Or.inr ⟨_, rfl, (by repeat first | exact VLe.refl _ | exact VLe.nil _ | exact VLe.untag _ _ _ | refine VLe.ag ?_ | refine VLe.tu ?_ | refine VLeL.cons ?_ ?_ | exact VLeL.nil), trivial⟩ | simp [get, Key.eq, argsT])) ?_))
  ·refine DW.vs (VS.rowT (x := 3) (by rw [hnt]; decide) 83 2 rfl) ?_
   refine dw_seq ?_; refine dw_seq ?_; refine dwk [] TTO_ok hnt fun K hK => ?_; refine hK _ _ ?_; clear hK K; refine dw_block ?_
   refine dw_loop (ι := { j : Nat // j ≤ l.length }) (fun j => [(.t 0, .sl 2 (eTys l) none), (.t 3, .sl 2 (eTys (l.take j.1)) (some 0)), (.t 4, .v (.int .i64 ↑j.1)), (.r 0, .rw 83 2 j.1)]) 1 (fun j => l.length - j.1) (⟨0, Nat.zero_le _⟩) ((VS.toK (by omega) (by repeat first | exact trivial | refine And.intro (And.intro (by first | rfl | simp [D.ok, D.oks, D.okss, D.okm, upto, keyOk, argsT]) (by first | exact Or.inl rfl | exact Or.inr ⟨_, rfl, (by repeat first | exact VLe.refl _ | exact VLe.nil _ | exact VLe.untag _ _ _ | refine VLe.ag ?_ | refine VLe.tu ?_ | refine VLeL.cons ?_ ?_ | exact VLeL.nil), trivial⟩ | simp [get, Key.eq, argsT])) ?_))) fun j => ?_
   obtain ⟨j, hj⟩ := j
   dsimp only
   by_cases hlt : j < l.length
   ·have hsz := Ty.size_mem (List.getElem_mem hlt)
    have hc := to4D_d l[j] (by omega)
    rw [eTy_eq] at hc
    have hl1 := eTys_tlen l j hj
    have hl2 := eTys_tlen l (j + 1) hlt
    refine dw_seq ?_; refine dw_seq ?_; refine dwk [(7, .v (.int .i64 (↑l.length))), (8, .v (.bool true))] TTO_ok hnt fun K hK => ?_; refine And.intro (dintE (by rw [eTys_len])) ?_; refine And.intro auT ?_; refine hK _ _ ?_; clear hK K; refine dw_cond (t := true) rfl ?_; rw [if_pos rfl]; refine dw_skip ?_; refine dw_seq ?_; refine dw_block ?_; refine dwk [(14, .q [.sl 2 (eTys l[j].args) none, .v (.int .i64 l[j].base)])] TTO_ok hnt fun K hK => ?_
    refine And.intro (elo (eTys_len l)) ?_; refine And.intro (elv (eTys_getD l j) (eTy_eq _)) ?_; refine dcl (hc) ?_; refine And.intro (⟨by omega, by rw [hl1]; simp; omega⟩) ?_; refine hK _ _ ?_; clear hK K
    rw [eTys_snoc l j hlt, hl2]
    refine dwk [(10, .v (.int .i64 (↑(j + 1))))] TTO_ok hnt fun K hK => ?_; refine And.intro auI ?_; refine hK _ _ ?_; clear hK K
    refine ⟨⟨j + 1, hlt⟩, by first | omega | (dsimp only; omega), VS.toA⟩
   ·rw [List.take_of_length_le (by omega)]
    refine dw_seq ?_; refine dw_seq ?_; refine dwk [(7, .v (.int .i64 (↑l.length))), (8, .v (.bool false))] TTO_ok hnt fun K hK => ?_; refine And.intro (dintE (by rw [eTys_len])) ?_; refine And.intro auF ?_; refine hK _ _ ?_; clear hK K; refine dw_cond (t := false) rfl ?_; rw [if_neg (by simp)]; refine dw_exit ?_; refine dw_seq ?_; refine dwk [] TTO_ok hnt fun K hK => ?_; refine hK _ _ ?_; clear hK K; refine dw_ret ?_
    exact reta rfl
theorem ofTys_d (l : List Ty) (hz : Ty.sizes l ≤ 900000) : PureC Try.prog 46 [.sl 2 (eTys l) none] (.sl 2 (eTys l) none) := by
 have hal := Ty.le_sizes l
 refine calldw 0 20 [ResultVar.tmp 2] TTO_ok Try.func46 rfl Try.ntmps46 rfl fun cx hnt hn0 => ?_
 ·skip
  refine dw_seq ?_; refine dwk [] TTO_ok hnt fun K hK => ?_; refine hK _ _ ?_; clear hK K
  refine dw_cut (τ := [(.t 0, .sl 2 (eTys l) none), (.t 3, .v (.slice none 0 0))]) (N1 := 0) ?_ ?_
  ·skip
   refine dwk [] TTO_ok hnt fun K hK => ?_; refine hK _ _ ?_; clear hK K
   exact cut_ok (VS.toK (by omega) (by repeat first | exact trivial | refine And.intro (And.intro (by first | rfl | simp [D.ok, D.oks, D.okss, D.okm, upto, keyOk, argsT]) (by first | exact Or.inl rfl | exact Or.inr ⟨_, rfl, (by repeat first | exact VLe.refl _ | exact VLe.nil _ | exact VLe.untag _ _ _ | refine VLe.ag ?_ | refine VLe.tu ?_ | refine VLeL.cons ?_ ?_ | exact VLeL.nil), trivial⟩ | simp [get, Key.eq, argsT])) ?_))
  ·refine DW.vs (VS.rowT (x := 3) (by rw [hnt]; decide) 123 2 rfl) ?_
   refine dw_seq ?_; refine dw_seq ?_; refine dwk [] TTO_ok hnt fun K hK => ?_; refine hK _ _ ?_; clear hK K; refine dw_block ?_
   refine dw_loop (ι := { j : Nat // j ≤ l.length }) (fun j => [(.t 0, .sl 2 (eTys l) none), (.t 3, .sl 2 (eTys (l.take j.1)) (some 0)), (.t 4, .v (.int .i64 ↑j.1)), (.r 0, .rw 123 2 j.1)]) 1 (fun j => l.length - j.1) (⟨0, Nat.zero_le _⟩) ((VS.toK (by omega) (by repeat first | exact trivial | refine And.intro (And.intro (by first | rfl | simp [D.ok, D.oks, D.okss, D.okm, upto, keyOk, argsT]) (by first | exact Or.inl rfl | exact Or.inr ⟨_, rfl, (by repeat first | exact VLe.refl _ | exact VLe.nil _ | exact VLe.untag _ _ _ | refine VLe.ag ?_ | refine VLe.tu ?_ | refine VLeL.cons ?_ ?_ | exact VLeL.nil), trivial⟩ | simp [get, Key.eq, argsT])) ?_))) fun j => ?_
   obtain ⟨j, hj⟩ := j
   dsimp only
   by_cases hlt : j < l.length
   ·have hsz := Ty.size_mem (List.getElem_mem hlt)
    have hc := of4D_d l[j] (by omega)
    rw [eTy_eq] at hc
    have hl1 := eTys_tlen l j hj
    have hl2 := eTys_tlen l (j + 1) hlt
    refine dw_seq ?_; refine dw_seq ?_; refine dwk [(7, .v (.int .i64 (↑l.length))), (8, .v (.bool true))] TTO_ok hnt fun K hK => ?_; refine And.intro (dintE (by rw [eTys_len])) ?_; refine And.intro auT ?_; refine hK _ _ ?_; clear hK K; refine dw_cond (t := true) rfl ?_; rw [if_pos rfl]; refine dw_skip ?_; refine dw_seq ?_; refine dw_block ?_; refine dwk [(14, .q [.sl 2 (eTys l[j].args) none, .v (.int .i64 l[j].base)])] TTO_ok hnt fun K hK => ?_
    refine And.intro (elo (eTys_len l)) ?_; refine And.intro (elv (eTys_getD l j) (eTy_eq _)) ?_; refine dcl (hc) ?_; refine And.intro (⟨by omega, by rw [hl1]; simp; omega⟩) ?_; refine hK _ _ ?_; clear hK K
    rw [eTys_snoc l j hlt, hl2]
    refine dwk [(10, .v (.int .i64 (↑(j + 1))))] TTO_ok hnt fun K hK => ?_; refine And.intro auI ?_; refine hK _ _ ?_; clear hK K
    refine ⟨⟨j + 1, hlt⟩, by first | omega | (dsimp only; omega), VS.toA⟩
   ·rw [List.take_of_length_le (by omega)]
    refine dw_seq ?_; refine dw_seq ?_; refine dwk [(7, .v (.int .i64 (↑l.length))), (8, .v (.bool false))] TTO_ok hnt fun K hK => ?_; refine And.intro (dintE (by rw [eTys_len])) ?_; refine And.intro auF ?_; refine hK _ _ ?_; clear hK K; refine dw_cond (t := false) rfl ?_; rw [if_neg (by simp)]; refine dw_exit ?_; refine dw_seq ?_; refine dwk [] TTO_ok hnt fun K hK => ?_; refine hK _ _ ?_; clear hK K; refine dw_ret ?_
    exact reta rfl
theorem to6D_d : ∀ t : Tm, t.full ≤ 900000 → PureC Try.prog 9 [.ag (eTm t)] (.ag (eTm t)) := by
  intro t
  induction t using Tm.ind with
  | h bs k i ar ih =>
    intro hz
    rw [Tm.full_eq] at hz
    have hbs := toTys_d bs (by omega)
    have hal : ar.length ≤ Tm.fulls ar := by
      clear ih hz
      induction ar with
      | nil => simp
      | cons u l ih => have : 1 ≤ u.full := by obtain ⟨b, k, i, a⟩ := u; rw [Tm.full_eq]; omega
                       simp only [List.length_cons, Tm.fulls]; omega
    rw [eTm_eq]
    dsimp only [Tm.binds, Tm.kind, Tm.index, Tm.args]
    refine calldw 0 35 [ResultVar.cell 2 34] TTO_ok Try.func9 rfl Try.ntmps9 rfl fun cx hnt hn0 => ?_
    · skip
      refine dw_seq ?_
      refine dwk [] TTO_ok hnt fun K hK => ?_
      refine hK _ _ ?_; clear hK K
      refine dw_seq ?_
      refine dwkD [] TTO_ok hnt fun K hK => ?_
      refine dcl (hbs) ?_
      refine hK _ _ (by kernel_rfl) ?_; clear hK K
      refine DW.vs (VS.row (k := 13) (off := 3) 34 4 rfl) ?_
      refine dw_seq ?_
      refine dw_seq ?_
      refine dwk [] TTO_ok hnt fun K hK => ?_
      refine hK _ _ ?_; clear hK K
      refine dw_block ?_
      refine dw_loop (ι := { j : Nat // j ≤ ar.length }) (fun j => [(.t 1, .p 0 0), (.t 2, .p 1 0), (.t 3, .p 13 0), (.t 4, .v (.int .i64 ↑j.1)), (.c 0 0, .sl 2 (eTys bs) none), (.c 0 1, .v (.int .i64 k)), (.c 0 2, .v (.int .i64 i)), (.c 0 3, .sl 4 (eTms ar) none), (.c 1 0, .v (.slice none 0 0)), (.c 1 1, .v (.int .i64 0)), (.c 1 2, .v (.int .i64 0)), (.c 1 3, .v (.slice none 0 0)), (.c 13 0, .sl 2 (eTys bs) none), (.c 13 1, .v (.int .i64 k)), (.c 13 2, .v (.int .i64 i)), (.c 13 3, .sl 4 (eTms (ar.take j.1)) (some 15)), (.r 15, .rw 34 4 j.1)]) 16 (fun j => ar.length - j.1) (⟨0, Nat.zero_le _⟩) ((VS.toK (by omega) (by repeat first | exact trivial | refine And.intro (And.intro (by first | rfl | simp [D.ok, D.oks, D.okss, D.okm, upto, keyOk, argsT]) (by first | exact Or.inl rfl | exact Or.inr ⟨_, rfl, (by repeat first | exact VLe.refl _ | exact VLe.nil _ | exact VLe.untag _ _ _ | refine VLe.ag ?_ | refine VLe.tu ?_ | refine VLeL.cons ?_ ?_ | exact VLeL.nil), trivial⟩ | simp [get, Key.eq, argsT])) ?_))) fun j => ?_
      obtain ⟨j, hj⟩ := j
      dsimp only
      by_cases hlt : j < ar.length
      · have hmem := List.getElem_mem hlt
        have hsz := Tm.full_mem hmem
        have hc := ih _ hmem (by omega)
        rw [eTm_eq] at hc
        have hl1 := eTms_tlen ar j hj
        have hl2 := eTms_tlen ar (j + 1) hlt
        refine dw_seq ?_
        refine dw_seq ?_
        refine dwk [(19, .v (.int .i64 (↑ar.length))), (20, .v (.bool true))] TTO_ok hnt fun K hK => ?_
        refine And.intro (dintE (by rw [eTms_len])) ?_
        refine And.intro auT ?_
        refine hK _ _ ?_; clear hK K
        refine dw_cond (t := true) rfl ?_
        rw [if_pos rfl]
        refine dw_skip ?_
        refine dw_seq ?_
        refine dw_block ?_
        refine dwkD [(28, .q [.sl 2 (eTys ar[j].binds) none, .v (.int .i64 ar[j].kind), .v (.int .i64 ar[j].index), .sl 4 (eTms ar[j].args) none])] TTO_ok hnt fun K hK => ?_
        refine And.intro (elo (eTms_len ar)) ?_
        refine And.intro (elv (eTms_getD ar j) (eTm_eq _)) ?_
        refine dcl (hc) ?_
        refine And.intro (⟨by omega, by rw [hl1]; simp; omega⟩) ?_
        refine hK _ _ (by kernel_rfl) ?_; clear hK K
        rw [eTms_snoc ar j hlt, hl2]
        refine dwk [(22, .v (.int .i64 (↑(j + 1))))] TTO_ok hnt fun K hK => ?_
        refine And.intro auI ?_
        refine hK _ _ ?_; clear hK K
        refine ⟨⟨j + 1, hlt⟩, by first | omega | (dsimp only; omega), VS.toA⟩
      · rw [List.take_of_length_le (by omega)]
        refine dw_seq ?_
        refine dw_seq ?_
        refine dwk [(19, .v (.int .i64 (↑ar.length))), (20, .v (.bool false))] TTO_ok hnt fun K hK => ?_
        refine And.intro (dintE (by rw [eTms_len])) ?_
        refine And.intro auF ?_
        refine hK _ _ ?_; clear hK K
        refine dw_cond (t := false) rfl ?_
        rw [if_neg (by simp)]
        refine dw_exit ?_
        refine dw_seq ?_
        refine dwk [] TTO_ok hnt fun K hK => ?_
        refine hK _ _ ?_; clear hK K
        refine dw_ret ?_
        exact reta rfl
theorem of6D_d : ∀ t : Tm, t.full ≤ 900000 → PureC Try.prog 12 [.ag (eTm t)] (.ag (eTm t)) := by
  intro t
  induction t using Tm.ind with
  | h bs k i ar ih =>
    intro hz
    rw [Tm.full_eq] at hz
    have hbs := ofTys_d bs (by omega)
    have hal : ar.length ≤ Tm.fulls ar := by
      clear ih hz
      induction ar with
      | nil => simp
      | cons u l ih => have : 1 ≤ u.full := by obtain ⟨b, k, i, a⟩ := u; rw [Tm.full_eq]; omega
                       simp only [List.length_cons, Tm.fulls]; omega
    rw [eTm_eq]
    dsimp only [Tm.binds, Tm.kind, Tm.index, Tm.args]
    refine calldw 0 35 [ResultVar.cell 2 27] TTO_ok Try.func12 rfl Try.ntmps12 rfl fun cx hnt hn0 => ?_
    · skip
      refine dw_seq ?_
      refine dwk [] TTO_ok hnt fun K hK => ?_
      refine hK _ _ ?_; clear hK K
      refine dw_seq ?_
      refine dwkD [] TTO_ok hnt fun K hK => ?_
      refine dcl (hbs) ?_
      refine hK _ _ (by kernel_rfl) ?_; clear hK K
      refine DW.vs (VS.row (k := 13) (off := 3) 27 4 rfl) ?_
      refine dw_seq ?_
      refine dw_seq ?_
      refine dwk [] TTO_ok hnt fun K hK => ?_
      refine hK _ _ ?_; clear hK K
      refine dw_block ?_
      refine dw_loop (ι := { j : Nat // j ≤ ar.length }) (fun j => [(.t 1, .p 0 0), (.t 2, .p 1 0), (.t 3, .p 13 0), (.t 4, .v (.int .i64 ↑j.1)), (.c 0 0, .sl 2 (eTys bs) none), (.c 0 1, .v (.int .i64 k)), (.c 0 2, .v (.int .i64 i)), (.c 0 3, .sl 4 (eTms ar) none), (.c 1 0, .v (.slice none 0 0)), (.c 1 1, .v (.int .i64 0)), (.c 1 2, .v (.int .i64 0)), (.c 1 3, .v (.slice none 0 0)), (.c 13 0, .sl 2 (eTys bs) none), (.c 13 1, .v (.int .i64 k)), (.c 13 2, .v (.int .i64 i)), (.c 13 3, .sl 4 (eTms (ar.take j.1)) (some 15)), (.r 15, .rw 27 4 j.1)]) 16 (fun j => ar.length - j.1) (⟨0, Nat.zero_le _⟩) ((VS.toK (by omega) (by repeat first | exact trivial | refine And.intro (And.intro (by first | rfl | simp [D.ok, D.oks, D.okss, D.okm, upto, keyOk, argsT]) (by first | exact Or.inl rfl | exact Or.inr ⟨_, rfl, (by repeat first | exact VLe.refl _ | exact VLe.nil _ | exact VLe.untag _ _ _ | refine VLe.ag ?_ | refine VLe.tu ?_ | refine VLeL.cons ?_ ?_ | exact VLeL.nil), trivial⟩ | simp [get, Key.eq, argsT])) ?_))) fun j => ?_
      obtain ⟨j, hj⟩ := j
      dsimp only
      by_cases hlt : j < ar.length
      · have hmem := List.getElem_mem hlt
        have hsz := Tm.full_mem hmem
        have hc := ih _ hmem (by omega)
        rw [eTm_eq] at hc
        have hl1 := eTms_tlen ar j hj
        have hl2 := eTms_tlen ar (j + 1) hlt
        refine dw_seq ?_
        refine dw_seq ?_
        refine dwk [(19, .v (.int .i64 (↑ar.length))), (20, .v (.bool true))] TTO_ok hnt fun K hK => ?_
        refine And.intro (dintE (by rw [eTms_len])) ?_
        refine And.intro auT ?_
        refine hK _ _ ?_; clear hK K
        refine dw_cond (t := true) rfl ?_
        rw [if_pos rfl]
        refine dw_skip ?_
        refine dw_seq ?_
        refine dw_block ?_
        refine dwkD [(28, .q [.sl 2 (eTys ar[j].binds) none, .v (.int .i64 ar[j].kind), .v (.int .i64 ar[j].index), .sl 4 (eTms ar[j].args) none])] TTO_ok hnt fun K hK => ?_
        refine And.intro (elo (eTms_len ar)) ?_
        refine And.intro (elv (eTms_getD ar j) (eTm_eq _)) ?_
        refine dcl (hc) ?_
        refine And.intro (⟨by omega, by rw [hl1]; simp; omega⟩) ?_
        refine hK _ _ (by kernel_rfl) ?_; clear hK K
        rw [eTms_snoc ar j hlt, hl2]
        refine dwk [(22, .v (.int .i64 (↑(j + 1))))] TTO_ok hnt fun K hK => ?_
        refine And.intro auI ?_
        refine hK _ _ ?_; clear hK K
        refine ⟨⟨j + 1, hlt⟩, by first | omega | (dsimp only; omega), VS.toA⟩
      · rw [List.take_of_length_le (by omega)]
        refine dw_seq ?_
        refine dw_seq ?_
        refine dwk [(19, .v (.int .i64 (↑ar.length))), (20, .v (.bool false))] TTO_ok hnt fun K hK => ?_
        refine And.intro (dintE (by rw [eTms_len])) ?_
        refine And.intro auF ?_
        refine hK _ _ ?_; clear hK K
        refine dw_cond (t := false) rfl ?_
        rw [if_neg (by simp)]
        refine dw_exit ?_
        refine dw_seq ?_
        refine dwk [] TTO_ok hnt fun K hK => ?_
        refine hK _ _ ?_; clear hK K
        refine dw_ret ?_
        exact reta rfl

end Go.Proofs.Ytcblpjheoclkeaa

namespace Go.Proofs.Ytcblpjheoclkeaa
open Go.RowKit
namespace Li
structure Pr where
  l : Tm
  r : Tm
  m : List Ty
instance : DecidableEq Pr := fun p q => decidable_of_iff (p.l = q.l ∧ p.r = q.r ∧ p.m = q.m) (by cases p; cases q; simp)
def Pr.z : Pr := ⟨Tm.zero, Tm.zero, []⟩
end Li
def ePr (p : Li.Pr) : List D := [.sl 2 (eTys p.l.binds) none, .v (.int .i64 p.l.kind), .v (.int .i64 p.l.index), .sl 4 (eTms p.l.args) none, .sl 2 (eTys p.r.binds) none, .v (.int .i64 p.r.kind), .v (.int .i64 p.r.index), .sl 4 (eTms p.r.args) none, .sl 2 (eTys p.m) none]
@[simp] theorem ePr_ok (f g : Nat → Bool) (p : Li.Pr) : D.oks f g (ePr p) = true := by simp [ePr, D.oks, D.ok]
def ePrs (l : List Li.Pr) : List (List D) := l.map ePr
@[simp] theorem ePrs_ok (f g : Nat → Bool) (l : List Li.Pr) : D.okss f g (ePrs l) = true := D.okss_map _ l fun l _ => ePr_ok f g l
end Go.Proofs.Ytcblpjheoclkeaa

namespace Go.Proofs.Ytcblpjheoclkeaa
open Go.RowKit
namespace Li
def lo (t : Tm) : Bool := decide ((t.looses 0).foldl looseL 0 > 0)
def rt (t : Tm) : Bool := decide (t.size ≤ 5000 ∧ t.depth ≤ 60)
def may (L R : Tm) (M B : List Ty) : Int :=
  if (lo L || lo R) = true then 1
  else if ((sortU (metasL [L, R])).any fun x => decide (x < 0 ∨ (M.length : Int) ≤ x)) = true then 10
  else if (decide ((B.length : Int) > 900) || (!rt L || !rt R)) = true then 2 else 0
def done (p : Pr) : Pr × Int := if (rt p.l && rt p.r) = true then (p, 0) else (.z, 2)
def cl (t : Tm) (B : List Ty) : Tm := .mk (B ++ t.binds) t.kind t.index t.args
def arr (B : List Ty) (t : Ty) : Ty := .mk (B ++ t.args) t.base
def up (p : Pr) (B : List Ty) : Pr := ⟨lif B p.l 0, lif B p.r 0, p.m.map (arr B)⟩
def over (p : Pr) (B : List Ty) : Pr × Int := if may p.l p.r p.m B ≠ 0 then (.z, may p.l p.r p.m B) else done (up p B)
def clP (p : Pr) (B : List Ty) : Pr := ⟨cl p.l B, cl p.r B, p.m⟩
def closed (p : Pr) (B : List Ty) : Pr × Int := if (over p B).2 ≠ 0 then (.z, (over p B).2) else done (clP (over p B).1 B)
end Li
theorem nodup_le : ∀ (l m : List Int), l.Nodup → (∀ x ∈ l, x ∈ m) → l.length ≤ m.length
  | [], m, _, _ => Nat.zero_le _
  | x :: l, m, h1, h2 => by
    have hx := h2 x (by simp)
    have := nodup_le l (m.erase x) (List.nodup_cons.1 h1).2 fun y hy => (List.mem_erase_of_ne fun e => (List.nodup_cons.1 h1).1 (by rw [← e]; exact hy)).2 (h2 y (by simp [hy]))
    rw [List.length_erase_of_mem hx] at this
    have := List.length_pos_of_mem hx
    simp; omega
theorem sortU_len (l : List Int) : (sortU l).length ≤ l.length :=
  nodup_le _ _ ((sortU_spec l).1.imp fun h => by omega) fun x h => ((sortU_spec l).2 x).1 h
end Go.Proofs.Ytcblpjheoclkeaa

namespace Go.Proofs.Ytcblpjheoclkeaa
open Go.RowKit
end Go.Proofs.Ytcblpjheoclkeaa

namespace Go.Proofs.Ytcblpjheoclkeaa
open Go.RowKit
def eBd (b : Pn.Bd) : List (Int × D) := b.map fun p => (p.1, .ag (eTm p.2))
@[simp] theorem eBd_ok (f g : Nat → Bool) (b : Pn.Bd) : D.okm f g (eBd b) = true := okm_map _ b fun p _ => by simp [D.ok, eTm_ok]
end Go.Proofs.Ytcblpjheoclkeaa

namespace Go.Proofs.Ytcblpjheoclkeaa
open Go.RowKit

namespace Pn
end Pn

end Go.Proofs.Ytcblpjheoclkeaa

namespace Go.Proofs.Ytcblpjheoclkeaa
open Go.RowKit

section
variable {P : Program} {T : List (Nat × TI)} {cx : Cx} {Fr : Nat → Prop} {m : Mp} {Im : Nat → Nat → Prop} {w w' : World} {a : Act} {σ σ' : List (Key × D)}
theorem St.drew (h : St cx Fr m Im w a σ) : St cx Fr m Im w.drew a σ := h.below0 (Below.refl _ _).drew
end

section
variable {P : Program} {T : List (Nat × TI)} {cx : Cx} {m : Mp} {Im : Nat → Nat → Prop} {w : World} {a : Act} {σ : List (Key × D)} {ops : Array Oper} {Q : Exit → Act → World → Prop}
end
end Go.Proofs.Ytcblpjheoclkeaa

namespace Go.Proofs.Ytcblpjheoclkeaa
open Go.RowKit
def ePP (p : Tm × Tm) : List D := eTm p.1 ++ eTm p.2
def ePPs (l : List (Tm × Tm)) : List (List D) := l.map ePP
theorem ePP_eq (p : Tm × Tm) : ePP p = [.sl 2 (eTys p.1.binds) none, .v (.int .i64 p.1.kind), .v (.int .i64 p.1.index), .sl 4 (eTms p.1.args) none, .sl 2 (eTys p.2.binds) none, .v (.int .i64 p.2.kind), .v (.int .i64 p.2.index), .sl 4 (eTms p.2.args) none] := by unfold ePP; rw [eTm_eq, eTm_eq]; rfl
@[simp] theorem ePPs_ok (f g : Nat → Bool) (l : List (Tm × Tm)) : D.okss f g (ePPs l) = true := D.okss_map _ l fun p _ => by simp [ePP_eq, D.oks, D.ok, eTms_ok, eTys_ok]
namespace Pn
end Pn
end Go.Proofs.Ytcblpjheoclkeaa

namespace Go.Proofs.Ytcblpjheoclkeaa
open Go.RowKit
/-! the examples -/
def mb (i : Int) : Tm := .mk [] 0 i []
end Go.Proofs.Ytcblpjheoclkeaa

namespace Go.Proofs.Ytcblpjheoclkeaa
open Go.RowKit

theorem of6_d (t : Tm) (h : t.full ≤ 900000) : PureC Try.prog 12 [.ag (eTm t)] (.ag (eTm t)) := of6D_d t h
end Go.Proofs.Ytcblpjheoclkeaa

namespace Go.Proofs.Ytcblpjheoclkeaa
open Go.RowKit
theorem to6_d (t : Tm) (h : t.full ≤ 900000) : PureC Try.prog 9 [.ag (eTm t)] (.ag (eTm t)) := to6D_d t h
end Go.Proofs.Ytcblpjheoclkeaa

namespace Go.Proofs.Ytcblpjheoclkeaa
open Go.RowKit

end Go.Proofs.Ytcblpjheoclkeaa

namespace Go.Proofs.Ytcblpjheoclkeaa
open Go.RowKit
end Go.Proofs.Ytcblpjheoclkeaa

namespace Go.Proofs.Ytcblpjheoclkeaa
open Go.RowKit

end Go.Proofs.Ytcblpjheoclkeaa

namespace Go.Proofs.Ytcblpjheoclkeaa
open Go.RowKit
end Go.Proofs.Ytcblpjheoclkeaa

namespace Go.Proofs.Ytcblpjheoclkeaa
open Go.RowKit
/-! the example -/
namespace Li
def kA : Ty := .mk [] 0
def kX : Tm := .mk [] 2 0 []
def kC : Tm := .mk [] 1 0 [kX]
end Li
end Go.Proofs.Ytcblpjheoclkeaa

namespace Go.Proofs.Ytcblpjheoclkeaa
open Go.RowKit

end Go.Proofs.Ytcblpjheoclkeaa

namespace Go.Proofs.Ytcblpjheoclkeaa
open Go.RowKit
namespace Li
end Li
end Go.Proofs.Ytcblpjheoclkeaa

namespace Go.Proofs.Ytcblpjheoclkeaa
open Go.RowKit
namespace Pn
end Pn
end Go.Proofs.Ytcblpjheoclkeaa

namespace Go.Proofs.Ytcblpjheoclkeaa
open Go.RowKit

end Go.Proofs.Ytcblpjheoclkeaa

namespace Go.Proofs.Ytcblpjheoclkeaa
open Go.RowKit

def Rises (out S : List Int) : Prop := out.Pairwise (· < ·) ∧ (∀ y, y ∈ out ↔ y ∈ S) ∧ out.length ≤ S.length
theorem rises_nil : Rises [] [] := ⟨.nil, by simp, by simp⟩
theorem Rises.skip {out S : List Int} {x : Int} (h : Rises out S) (hx : x ∈ out) : Rises out (S ++ [x]) :=
  ⟨h.1, fun y => by
    rw [h.2.1, List.mem_append]
    constructor
    · exact .inl
    · rintro (h' | h')
      · exact h'
      · simp at h'; subst h'; exact (h.2.1 _).1 hx, by have := h.2.2; simp; omega⟩
theorem Rises.put {out S : List Int} {x : Int} {a : Nat} (h : Rises out S) (ha : a ≤ out.length) (hlt : ∀ k (hk : k < a), out[k] < x) (hge : ∀ h' : a < out.length, ¬ out[a] < x ∧ out[a] ≠ x) : Rises (out.take a ++ [x] ++ out.drop a) (S ++ [x]) := by
  have h1 := List.pairwise_iff_getElem.1 h.1
  have hT : ∀ y ∈ out.take a, y < x := fun y hy => by
    obtain ⟨k, hk, e⟩ := List.getElem_of_mem hy
    have hk' : k < a := by simp at hk; omega
    rw [← e, List.getElem_take]; exact hlt k hk'
  have hD : ∀ y ∈ out.drop a, x < y := fun y hy => by
    obtain ⟨k, hk, e⟩ := List.getElem_of_mem hy
    have hk' : a + k < out.length := by simp at hk; omega
    rw [← e, List.getElem_drop]
    have h2 := hge (by omega)
    by_cases hk0 : k = 0
    · subst hk0; simp only [Nat.add_zero]; omega
    · have := h1 a (a + k) (by omega) hk' (by omega); omega
  refine ⟨?_, fun y => ?_, ?_⟩
  · have hp : (out.take a ++ out.drop a).Pairwise (· < ·) := by rw [List.take_append_drop]; exact h.1
    rw [List.pairwise_append] at hp
    rw [List.append_assoc, List.pairwise_append, List.singleton_append, List.pairwise_cons]
    refine ⟨hp.1, ⟨hD, hp.2.1⟩, fun y hy z hz => ?_⟩
    rcases List.mem_cons.1 hz with rfl | hz
    · exact hT y hy
    · exact hp.2.2 y hy z hz
  · rw [List.mem_append, List.mem_append, List.mem_append, ← h.2.1]
    have : y ∈ out ↔ y ∈ out.take a ∨ y ∈ out.drop a := by rw [← List.mem_append, List.take_append_drop]
    rw [this]
    constructor
    · rintro ((h' | h') | h')
      · exact .inl (.inl h')
      · exact .inr h'
      · exact .inl (.inr h')
    · rintro ((h' | h') | h')
      · exact .inl (.inl h')
      · exact .inr h'
      · exact .inl (.inr h')
  · have := h.2.2; simp; omega
theorem Rises.eq {out S : List Int} (h : Rises out S) : out = sortU S := rises_eq h.1 (sortU_spec S).1 fun x => by rw [h.2.1, (sortU_spec S).2]

theorem metasH_take (l : List (Int × Int)) (j : Nat) (h : j < l.length) : metasH (l.take (j + 1)) = metasH (l.take j) ++ if l[j].1 = 2 then [l[j].2] else [] := by
  rw [List.take_succ_eq_append_getElem h]
  unfold metasH
  rw [List.filterMap_append]
  congr 1
  by_cases hk : l[j].1 = 2
  · simp [hk]
  · simp [hk]
def metasT (l : List Tm) : List Int := l.flatMap fun t => metasH (t.heads 0)
theorem metasT_take (l : List Tm) (j : Nat) (h : j < l.length) : metasT (l.take (j + 1)) = metasT (l.take j) ++ metasH (l[j].heads 0) := by
  rw [List.take_succ_eq_append_getElem h]; unfold metasT; rw [List.flatMap_append]; simp
theorem metasT_len (l : List Tm) (m : Nat) (h : ∀ t ∈ l, t.full ≤ m) : (metasT l).length ≤ l.length * m := by
  induction l with
  | nil => simp [metasT]
  | cons t l ih =>
    have h1 := h t (by simp)
    have h2 := ih (fun u hu => h u (by simp [hu]))
    have h3 : (metasT (t :: l)).length = (metasH (t.heads 0)).length + (metasT l).length := by simp [metasT]
    have h4 : (metasH (t.heads 0)).length ≤ (t.heads 0).length := List.length_filterMap_le _ _
    have h5 := Tm.heads_len t 0
    rw [h3, List.length_cons, Nat.succ_mul]; omega

end Go.Proofs.Ytcblpjheoclkeaa

namespace Go.Proofs.Ytcblpjheoclkeaa
open Go.RowKit
def TRX_3 : TI := ⟨1, false, [Value.int IntKind.i64 0], [], none, 8, 2, none, false⟩
theorem TRX_3_ok : TypOk Try.prog 3 TRX_3 := ⟨by kernel_rfl, by kernel_rfl, by kernel_rfl, by kernel_rfl, by kernel_rfl⟩
def TRX_27 : TI := ⟨4, true, [Value.slice none 0 0, Value.int IntKind.i64 0, Value.int IntKind.i64 0, Value.slice none 0 0], [(0, 1, false), (1, 2, true), (3, 1, false)], none, 64, 6, none, false⟩
theorem TRX_27_ok : TypOk Try.prog 27 TRX_27 := ⟨by kernel_rfl, by kernel_rfl, by kernel_rfl, by kernel_rfl, by kernel_rfl⟩
def TRX_43 : TI := ⟨1, false, [Value.slice none 0 0], [], some 3, 24, 5, none, false⟩
theorem TRX_43_ok : TypOk Try.prog 43 TRX_43 := ⟨by kernel_rfl, by kernel_rfl, by kernel_rfl, by kernel_rfl, by kernel_rfl⟩
def TRX_97 : TI := ⟨1, false, [Value.slice none 0 0], [], some 24, 24, 5, none, false⟩
theorem TRX_97_ok : TypOk Try.prog 97 TRX_97 := ⟨by kernel_rfl, by kernel_rfl, by kernel_rfl, by kernel_rfl, by kernel_rfl⟩
def TRX_24 : TI := ⟨2, true, [Value.int IntKind.i64 0, Value.int IntKind.i64 0], [(0, 1, false), (1, 1, false)], none, 16, 6, none, true⟩
theorem TRX_24_ok : TypOk Try.prog 24 TRX_24 := ⟨by kernel_rfl, by kernel_rfl, by kernel_rfl, by kernel_rfl, by kernel_rfl⟩
def TRX_25 : TI := ⟨1, false, [Value.slice none 0 0], [], some 27, 24, 5, none, false⟩
theorem TRX_25_ok : TypOk Try.prog 25 TRX_25 := ⟨by kernel_rfl, by kernel_rfl, by kernel_rfl, by kernel_rfl, by kernel_rfl⟩
def TRX_22 : TI := ⟨1, false, [Value.slice none 0 0], [], some 123, 24, 5, none, false⟩
theorem TRX_22_ok : TypOk Try.prog 22 TRX_22 := ⟨by kernel_rfl, by kernel_rfl, by kernel_rfl, by kernel_rfl, by kernel_rfl⟩
def TRX_123 : TI := ⟨2, true, [Value.slice none 0 0, Value.int IntKind.i64 0], [(0, 1, false), (1, 1, false)], none, 32, 6, none, false⟩
theorem TRX_123_ok : TypOk Try.prog 123 TRX_123 := ⟨by kernel_rfl, by kernel_rfl, by kernel_rfl, by kernel_rfl, by kernel_rfl⟩
def TRX : List (Nat × TI) := [(3, TRX_3), (27, TRX_27), (43, TRX_43), (97, TRX_97), (24, TRX_24), (25, TRX_25), (22, TRX_22), (123, TRX_123)]
theorem TRX_ok : TabOk Try.prog TRX := (((((((((TabOk.nil _).cons TRX_123_ok).cons TRX_22_ok).cons TRX_25_ok).cons TRX_24_ok).cons TRX_97_ok).cons TRX_43_ok).cons TRX_27_ok).cons TRX_3_ok)
def eHs (l : List (Int × Int)) : List (List D) := l.map fun h => [.v (.int .i64 h.1), .v (.int .i64 h.2)]
theorem eHs_len (l : List (Int × Int)) : (eHs l).length = l.length := List.length_map ..
theorem eHs_append (l r : List (Int × Int)) : eHs (l ++ r) = eHs l ++ eHs r := List.map_append ..
theorem eHs_getD (l : List (Int × Int)) (i : Nat) (h : i < l.length) : (eHs l).getD i [] = [.v (.int .i64 l[i].1), .v (.int .i64 l[i].2)] := by
  rw [eHs, List.getD_eq_getElem?_getD, List.getElem?_map, List.getElem?_eq_getElem h]; rfl
@[simp] theorem eHs_ok (f g : Nat → Bool) (l : List (Int × Int)) : D.okss f g (eHs l) = true := D.okss_map _ l fun _ _ => rfl
set_option maxHeartbeats 2000000 in
theorem rheads_d : ∀ (t : Tm) (n : Int), 0 ≤ n → n + t.full ≤ 1000000 → t.Fit → PureC Try.prog 83 [.ag (eTm t), .v (.int .i64 n)] (.sl 2 (eHs (t.heads n)) none) := by
 intro t
 induction t using Tm.ind with
 | h b k i a ih =>
 intro n h0 hz hf
 obtain ⟨f1, f2, f3⟩ := Tm.fit_iff.1 hf
 rw [Tm.full_eq] at hz
 have hal := fulls_len a
 have hbl := Ty.le_sizes b
 obtain ⟨m, hm⟩ : ∃ m : Int, n + (b.length : Int) = m := ⟨_, rfl⟩
 rw [Tm.heads_eq _ _ _ _ _ _ hm, eTm_eq]
 simp only [binds_mk', kind_mk', index_mk', args_mkT]
 obtain ⟨hd, hhd⟩ : ∃ hd, (if k ≠ 0 then [(k, i)] else if m ≤ i then [(0, i - m)] else []) = hd := ⟨_, rfl⟩
 have hdl : hd.length ≤ 1 := by rw [← hhd]; split <;> (try split) <;> simp
 rw [hhd]
 refine calldw 0 55 [ResultVar.tmp 4] TRX_ok Try.func83 rfl Try.ntmps83 rfl fun cx hnt hn0 => ?_
 ·skip
  refine dw_seq ?_; refine dwk [] TRX_ok hnt fun K hK => ?_; refine hK _ _ ?_; clear hK K; refine dw_seq ?_; refine dwk [] TRX_ok hnt fun K hK => ?_; refine hK _ _ ?_; clear hK K
  refine DW.vs (VS.rowT (x := 5) (by rw [hnt]; decide) 24 2 rfl) ?_
  refine dw_seq ?_; refine dwk [(11, .v (.int .i64 (↑b.length))), (12, .v (.int .i64 (m)))] TRX_ok hnt fun K hK => ?_; refine And.intro (dintE (by rw [eTys_len])) ?_; refine And.intro auI ?_; refine hK _ _ ?_; clear hK K
  refine dw_cut (τ := [(.t 2, .p 0 0), (.t 5, .sl 2 (eHs hd) (some 3)), (.r 3, .rw 24 2 hd.length), (.t 6, .v (.int .i64 m)), (.c 0 3, .sl 4 (eTms a) none)]) (N1 := 4) ?_ ?_
  ·by_cases hk : k = 0
   ·by_cases hi : m ≤ i
    ·rw [if_neg (by simp [hk]), if_pos hi] at hhd
     subst hhd
     refine dw_block ?_; refine dw_seq ?_; refine dwk [(17, .v (.bool false))] TRX_ok hnt fun K hK => ?_; refine And.intro (bneF hk) ?_; refine hK _ _ ?_; clear hK K; refine dw_cond (t := false) rfl ?_; rw [if_neg (by simp)]; refine dw_seq ?_; refine dwk [(28, .v (.bool true))] TRX_ok hnt fun K hK => ?_; refine And.intro auT ?_; refine hK _ _ ?_; clear hK K; refine dw_cond (t := true) rfl ?_; rw [if_pos rfl]
     refine dwk [(34, .v (.int .i64 (i - m)))] TRX_ok hnt fun K hK => ?_; refine And.intro auI ?_; refine And.intro (⟨rfl, by simp⟩) ?_; refine hK _ _ ?_; clear hK K
     exact cut_ok (VS.toK (by omega) (by repeat first | exact trivial | refine And.intro (And.intro (by first | rfl | simp [D.ok, D.oks, D.okss, D.okm, upto, keyOk, eHs]) (by first | exact Or.inl rfl | exact Or.inr ⟨_, rfl, (by repeat first | exact VLe.refl _ | exact VLe.nil _ | exact VLe.untag _ _ _ | refine VLe.ag ?_ | refine VLe.tu ?_ | refine VLeL.cons ?_ ?_ | exact VLeL.nil), trivial⟩ | simp [get, Key.eq, eHs])) ?_))
    ·rw [if_neg (by simp [hk]), if_neg hi] at hhd
     subst hhd
     refine dw_block ?_; refine dw_seq ?_; refine dwk [(17, .v (.bool false))] TRX_ok hnt fun K hK => ?_; refine And.intro (bneF hk) ?_; refine hK _ _ ?_; clear hK K; refine dw_cond (t := false) rfl ?_; rw [if_neg (by simp)]; refine dw_seq ?_; refine dwk [(28, .v (.bool false))] TRX_ok hnt fun K hK => ?_; refine And.intro auF ?_; refine hK _ _ ?_; clear hK K; refine dw_cond (t := false) rfl ?_; rw [if_neg (by simp)]
     refine dw_skip ?_
     exact cut_ok (VS.toK (by omega) (by repeat first | exact trivial | refine And.intro (And.intro (by first | rfl | simp [D.ok, D.oks, D.okss, D.okm, upto, keyOk, eHs]) (by first | exact Or.inl rfl | exact Or.inr ⟨_, rfl, (by repeat first | exact VLe.refl _ | exact VLe.nil _ | exact VLe.untag _ _ _ | refine VLe.ag ?_ | refine VLe.tu ?_ | refine VLeL.cons ?_ ?_ | exact VLeL.nil), trivial⟩ | simp [get, Key.eq, eHs])) ?_))
   ·rw [if_pos hk] at hhd
    subst hhd
    refine dw_block ?_; refine dw_seq ?_; refine dwk [(17, .v (.bool true))] TRX_ok hnt fun K hK => ?_; refine And.intro (bneT hk) ?_; refine hK _ _ ?_; clear hK K; refine dw_cond (t := true) rfl ?_; rw [if_pos rfl]; refine dwk [] TRX_ok hnt fun K hK => ?_; refine And.intro (⟨rfl, by simp⟩) ?_; refine hK _ _ ?_; clear hK K
    exact cut_ok (VS.toK (by omega) (by repeat first | exact trivial | refine And.intro (And.intro (by first | rfl | simp [D.ok, D.oks, D.okss, D.okm, upto, keyOk, eHs]) (by first | exact Or.inl rfl | exact Or.inr ⟨_, rfl, (by repeat first | exact VLe.refl _ | exact VLe.nil _ | exact VLe.untag _ _ _ | refine VLe.ag ?_ | refine VLe.tu ?_ | refine VLeL.cons ?_ ?_ | exact VLeL.nil), trivial⟩ | simp [get, Key.eq, eHs])) ?_))
  ·skip
   refine dw_seq ?_; refine dw_seq ?_; refine dwk [] TRX_ok hnt fun K hK => ?_; refine hK _ _ ?_; clear hK K; refine dw_block ?_
   refine dw_loop (ι := { j : Nat // j ≤ a.length }) (fun j => [(.t 2, .p 0 0), (.t 5, .sl 2 (eHs (hd ++ Tm.headss (a.take j.1) m)) (some 3)), (.r 3, .rw 24 2 (hd ++ Tm.headss (a.take j.1) m).length), (.t 6, .v (.int .i64 m)), (.t 7, .v (.int .i64 ↑j.1)), (.c 0 3, .sl 4 (eTms a) none)]) 4 (fun j => a.length - j.1) (⟨0, Nat.zero_le _⟩) ((by simp only [List.take_zero, Tm.headss, List.append_nil]; exact VS.toA)) fun j => ?_
   obtain ⟨j, hj⟩ := j
   dsimp only
   by_cases hlt : j < a.length
   ·have hmem := List.getElem_mem hlt
    have hfm := full_mem hmem
    have hih := ih a[j] hmem m (by omega) (by omega) (f3 _ hmem)
    have hst := Tm.headss_take a m j hlt
    have hl1 := Tm.heads_len a[j] m
    have hl2 := Tm.headss_len (a.take j) m
    have hl3 := Tm.fulls_take_le a (j + 1)
    have hl5 := Tm.fulls_take a j hlt
    rw [eTm_eq] at hih
    refine dw_seq ?_; refine dw_seq ?_; refine dwk [(41, .v (.int .i64 (↑a.length))), (42, .v (.bool true))] TRX_ok hnt fun K hK => ?_; refine And.intro (dintE (by rw [eTms_len])) ?_; refine And.intro auT ?_; refine hK _ _ ?_; clear hK K; refine dw_cond (t := true) rfl ?_; rw [if_pos rfl]; refine dw_skip ?_; refine dw_seq ?_; refine dw_block ?_; refine dwk [(49, .q [.sl 2 (eTys a[j].binds) none, .v (.int .i64 a[j].kind), .v (.int .i64 a[j].index), .sl 4 (eTms a[j].args) none]), (53, .sl 2 (eHs (hd ++ Tm.headss (a.take (j + 1)) m)) (some 3))] TRX_ok hnt fun K hK => ?_
    refine And.intro (elo (eTms_len a)) ?_; refine And.intro (elv (eTms_getD a j) (eTm_eq _)) ?_; refine dcl (hih) ?_; refine And.intro (⟨by rw [eHs_len], by rw [eHs_len, eHs_len, List.length_append]; omega⟩) ?_; refine And.intro (VLe.of_eq (by rw [hst, ← List.append_assoc, eHs_append (hd ++ _)])) ?_; refine hK _ _ ?_; clear hK K; refine dwk [(44, .v (.int .i64 (↑(j + 1))))] TRX_ok hnt fun K hK => ?_; refine And.intro auI ?_
    refine hK _ _ ?_; clear hK K
    have hl4 : (eHs (hd ++ Tm.headss (a.take j) m) ++ eHs (a[j].heads m)).length = (hd ++ Tm.headss (a.take (j + 1)) m).length := by rw [← eHs_append, eHs_len, hst, List.append_assoc]
    refine ⟨⟨j + 1, by omega⟩, by first | omega | (dsimp only; omega), (by try simp only [List.length_append, List.length_take, List.length_cons, List.length_nil, Nat.zero_add, hl4]; exact VS.toA)⟩
   ·rw [List.take_of_length_le (by omega)]
    refine dw_seq ?_; refine dw_seq ?_; refine dwk [(41, .v (.int .i64 (↑a.length))), (42, .v (.bool false))] TRX_ok hnt fun K hK => ?_; refine And.intro (dintE (by rw [eTms_len])) ?_; refine And.intro auF ?_; refine hK _ _ ?_; clear hK K; refine dw_cond (t := false) rfl ?_; rw [if_neg (by simp)]; refine dw_exit ?_; refine dw_seq ?_; refine dwk [] TRX_ok hnt fun K hK => ?_; refine hK _ _ ?_; clear hK K
    refine dw_ret ?_
    exact reta rfl
theorem rHeads_d (t : Tm) (hz : t.full ≤ 1000000) (hf : t.Fit) : PureC Try.prog 47 [.ag (eTm t)] (.sl 2 (eHs (t.heads 0)) none) := by
 have h := rheads_d t 0 (by omega) (by omega) hf
 rw [eTm_eq] at h ⊢
 refine calldw 0 5 [ResultVar.tmp 2] TRX_ok Try.func47 rfl Try.ntmps47 rfl fun cx hnt hn0 => ?_
 ·skip
  refine dw_seq ?_; refine dwk [] TRX_ok hnt fun K hK => ?_; refine hK _ _ ?_; clear hK K; refine dw_seq ?_; refine dwk [] TRX_ok hnt fun K hK => ?_; refine dcl (h) ?_; refine hK _ _ ?_; clear hK K; refine dw_ret ?_
  exact reta rfl
theorem eIs_take (o : List Int) (a : Nat) : (eIs o).take a = eIs (o.take a) := by unfold eIs; rw [List.map_take]
theorem eIs_drop (o : List Int) (a : Nat) : ((eIs o).take (eIs o).length).drop a = eIs (o.drop a) := by rw [List.take_length]; unfold eIs; rw [List.map_drop]
theorem metasH_len (l : List (Int × Int)) : (metasH l).length ≤ l.length := List.length_filterMap_le _ _
set_option maxHeartbeats 4000000 in
theorem rMetas_d (l : List Tm) (hl : l.length ≤ 9) (hz : ∀ t ∈ l, t.full ≤ 90000) (hf : ∀ t ∈ l, t.Fit) : PureC Try.prog 13 [.sl 4 (eTms l) none] (.sl 1 (eIs (sortU (metasT l))) none) := by
 have hml := metasT_len l 90000 hz
 refine calldw 0 85 [ResultVar.tmp 2] TRX_ok Try.func13 rfl Try.ntmps13 rfl fun cx hnt hn0 => ?_
 ·skip
  refine dw_seq ?_; refine dwk [] TRX_ok hnt fun K hK => ?_; refine hK _ _ ?_; clear hK K; refine dw_seq ?_; refine dwk [(3, .sl 1 (eIs []) none)] TRX_ok hnt fun K hK => ?_; refine And.intro (VLe.nil _) ?_; refine hK _ _ ?_; clear hK K; refine dw_seq ?_; refine dw_seq ?_; refine dwk [] TRX_ok hnt fun K hK => ?_; refine hK _ _ ?_; clear hK K; refine dw_block ?_
  refine dw_loop (ι := { q : Nat × List Int // q.1 ≤ l.length ∧ Rises q.2 (metasT (l.take q.1)) }) (fun q => [(.t 0, .sl 4 (eTms l) none), (.t 3, .sl 1 (eIs q.1.2) none), (.t 4, .v (.int .i64 ↑q.1.1))]) 3 (fun q => l.length - q.1.1) (⟨(0, []), Nat.zero_le _, by simpa [metasT] using rises_nil⟩) (VS.toA) fun q => ?_
  obtain ⟨⟨i, o⟩, hi, hr⟩ := q
  dsimp only at hi hr ⊢
  by_cases hlt : i < l.length
  ·have hmem := List.getElem_mem hlt
   have hH := rHeads_d l[i] (by have := hz _ hmem; omega) (hf _ hmem)
   have hhl := Tm.heads_len l[i] 0
   have hzi := hz _ hmem
   have hmt := metasT_take l i hlt
   have hS0 := metasT_len (l.take i) 90000 fun t ht => hz t (List.mem_of_mem_take ht)
   rw [List.length_take] at hS0
   obtain ⟨hs, hhs⟩ : ∃ hs, l[i].heads 0 = hs := ⟨_, rfl⟩
   obtain ⟨S, hS⟩ : ∃ S, metasT (l.take i) = S := ⟨_, rfl⟩
   rw [hhs] at hH hhl hmt
   rw [hS] at hr hmt hS0
   have hS1 : S.length ≤ 810000 := by
    have : min i l.length * 90000 ≤ 9 * 90000 := Nat.mul_le_mul_right _ (by omega)
    omega
   rw [eTm_eq] at hH
   refine dw_seq ?_; refine dw_seq ?_; refine dwk [(11, .v (.int .i64 (↑l.length))), (12, .v (.bool true))] TRX_ok hnt fun K hK => ?_; refine And.intro (dintE (by rw [eTms_len])) ?_; refine And.intro auT ?_; refine hK _ _ ?_; clear hK K; refine dw_cond (t := true) rfl ?_; rw [if_pos rfl]; refine dw_skip ?_; refine dw_seq ?_; refine dw_block ?_; refine dw_seq ?_; refine dwk [(17, .q [.sl 2 (eTys l[i].binds) none, .v (.int .i64 l[i].kind), .v (.int .i64 l[i].index), .sl 4 (eTms l[i].args) none])] TRX_ok hnt fun K hK => ?_
   refine And.intro (elo (eTms_len l)) ?_; refine And.intro (elv (eTms_getD l i) (eTm_eq _)) ?_; refine dcl (hH) ?_; refine hK _ _ ?_; clear hK K; refine dw_seq ?_; refine dwk [] TRX_ok hnt fun K hK => ?_; refine hK _ _ ?_; clear hK K; refine dw_block ?_
   refine dw_loop (ι := { q : Nat × List Int // q.1 ≤ hs.length ∧ Rises q.2 (S ++ metasH (hs.take q.1)) }) (fun q => [(.t 0, .sl 4 (eTms l) none), (.t 3, .sl 1 (eIs q.1.2) none), (.t 4, .v (.int .i64 ↑i)), (.t 5, .sl 2 (eHs hs) none), (.t 6, .v (.int .i64 ↑q.1.1))]) 4 (fun q => hs.length - q.1.1) (⟨(0, o), Nat.zero_le _, by simpa [metasH] using hr⟩) (VS.toA) fun r => ?_
   obtain ⟨⟨k, o⟩, hk, hr⟩ := r
   dsimp only at hk hr ⊢
   by_cases hlk : k < hs.length
   ·have hgk := eHs_getD hs k hlk
    have hmk := metasH_take hs k hlk
    have hol := hr.2.2
    have hMl := metasH_len (hs.take k)
    rw [List.length_append] at hol
    rw [List.length_take] at hMl
    obtain ⟨⟨hk1, x⟩, hx⟩ : ∃ h, hs[k] = h := ⟨_, rfl⟩
    rw [hx] at hgk hmk
    dsimp only at hgk hmk
    by_cases h2 : hk1 = 2
    ·rw [if_pos h2] at hmk; refine dw_seq ?_; refine dw_seq ?_; refine dwk [(22, .v (.int .i64 (↑hs.length))), (23, .v (.bool true))] TRX_ok hnt fun K hK => ?_; refine And.intro (dintE (by rw [eHs_len])) ?_; refine And.intro auT ?_; refine hK _ _ ?_; clear hK K; refine dw_cond (t := true) rfl ?_; rw [if_pos rfl]; refine dw_skip ?_; refine dw_seq ?_; refine dw_block ?_; refine dw_seq ?_; refine dw_seq ?_
     refine dwk [(28, .q [.v (.int .i64 hk1), .v (.int .i64 x)]), (31, .v (.bool false))] TRX_ok hnt fun K hK => ?_; refine And.intro (⟨by omega, by rw [eHs_len]; omega⟩) ?_; refine And.intro (VLe.of_eq (by rw [Int.toNat_natCast, hgk])) ?_; refine And.intro (bneF h2) ?_; refine hK _ _ ?_; clear hK K; refine dw_cond (t := false) rfl ?_; rw [if_neg (by simp)]; refine dw_skip ?_; refine dw_seq ?_; refine dwk [] TRX_ok hnt fun K hK => ?_
     refine hK _ _ ?_; clear hK K; refine dw_seq ?_; refine dw_block ?_
     refine dw_loop (ι := { a : Nat // a ≤ o.length ∧ ∀ q (h : q < o.length), q < a → o[q] < x }) (fun a => [(.t 0, .sl 4 (eTms l) none), (.t 3, .sl 1 (eIs o) none), (.t 4, .v (.int .i64 ↑i)), (.t 5, .sl 2 (eHs hs) none), (.t 6, .v (.int .i64 ↑k)), (.t 7, .v (.int .i64 ↑a.1))]) 5 (fun a => o.length - a.1) (⟨0, Nat.zero_le _, fun q h1 h2 => by omega⟩) (VS.toA) fun a => ?_
     obtain ⟨a, ha, hax⟩ := a
     dsimp only
     by_cases hla : a < o.length
     ·by_cases hxa : o[a] < x
      ·skip
       refine dw_seq ?_; refine dw_seq ?_; refine dwkD [(34, .v (.int .i64 (↑o.length))), (35, .v (.bool true)), (39, .q [.v (.int .i64 (o[a]))]), (43, .q [.v (.int .i64 hk1), .v (.int .i64 x)]), (46, .v (.bool true))] TRX_ok hnt fun K hK => ?_; refine And.intro (dintE (by rw [eIs_len])) ?_; refine And.intro auT ?_; refine And.intro (elo (eIs_len o)) ?_; refine And.intro (elv (eIs_getD o a) rfl) ?_; refine And.intro (⟨by omega, by rw [eHs_len]; omega⟩) ?_
       refine And.intro (VLe.of_eq (by rw [Int.toNat_natCast, hgk])) ?_; refine And.intro auT ?_; refine hK _ _ (by kernel_rfl) ?_; clear hK K; refine dw_cond (t := true) rfl ?_; rw [if_pos rfl]; refine dw_skip ?_; refine dw_block ?_; refine dwk [(49, .v (.int .i64 (↑(a + 1))))] TRX_ok hnt fun K hK => ?_; refine And.intro auI ?_; refine hK _ _ ?_; clear hK K
       refine ⟨⟨a + 1, hla, fun q h1 h2 => if e : q = a then by subst e; exact hxa else hax q h1 (by omega)⟩, by first | omega | (dsimp only; omega), VS.toA⟩
      ·by_cases hex : o[a] = x
       ·have hsk := hr.skip (x := x) (by rw [← hex]; exact List.getElem_mem hla)
        refine dw_seq ?_; refine dw_seq ?_; refine dwkD [(34, .v (.int .i64 (↑o.length))), (35, .v (.bool true)), (39, .q [.v (.int .i64 (o[a]))]), (43, .q [.v (.int .i64 hk1), .v (.int .i64 x)]), (46, .v (.bool false))] TRX_ok hnt fun K hK => ?_; refine And.intro (dintE (by rw [eIs_len])) ?_; refine And.intro auT ?_; refine And.intro (elo (eIs_len o)) ?_; refine And.intro (elv (eIs_getD o a) rfl) ?_; refine And.intro (⟨by omega, by rw [eHs_len]; omega⟩) ?_
        refine And.intro (VLe.of_eq (by rw [Int.toNat_natCast, hgk])) ?_; refine And.intro auF ?_; refine hK _ _ (by kernel_rfl) ?_; clear hK K; refine dw_cond (t := false) rfl ?_; rw [if_neg (by simp)]; refine dw_exit ?_; refine dw_seq ?_; refine dw_seq ?_; refine dwkD [(52, .v (.int .i64 (↑o.length))), (53, .v (.bool true)), (57, .q [.v (.int .i64 (o[a]))]), (61, .q [.v (.int .i64 hk1), .v (.int .i64 x)]), (64, .v (.bool true))] TRX_ok hnt fun K hK => ?_
        refine And.intro (dintE (by rw [eIs_len])) ?_; refine And.intro auT ?_; refine And.intro (elo (eIs_len o)) ?_; refine And.intro (elv (eIs_getD o a) rfl) ?_; refine And.intro (⟨by omega, by rw [eHs_len]; omega⟩) ?_; refine And.intro (VLe.of_eq (by rw [Int.toNat_natCast, hgk])) ?_; refine And.intro (beqT hex) ?_; refine hK _ _ (by kernel_rfl) ?_; clear hK K; refine dw_cond (t := true) rfl ?_; rw [if_pos rfl]
        refine dw_exit ?_; refine dwk [(25, .v (.int .i64 (↑(k + 1))))] TRX_ok hnt fun K hK => ?_; refine And.intro auI ?_; refine hK _ _ ?_; clear hK K
        refine ⟨⟨(k + 1, o), hlk, by rw [hmk, ← List.append_assoc]; exact hsk⟩, by first | omega | (dsimp only; omega), VS.toA⟩
       ·have hput := hr.put (x := x) (a := a) ha (fun q h => hax q (by omega) h) (fun h => ⟨hxa, hex⟩)
        refine dw_seq ?_; refine dw_seq ?_; refine dwkD [(34, .v (.int .i64 (↑o.length))), (35, .v (.bool true)), (39, .q [.v (.int .i64 (o[a]))]), (43, .q [.v (.int .i64 hk1), .v (.int .i64 x)]), (46, .v (.bool false))] TRX_ok hnt fun K hK => ?_; refine And.intro (dintE (by rw [eIs_len])) ?_; refine And.intro auT ?_; refine And.intro (elo (eIs_len o)) ?_; refine And.intro (elv (eIs_getD o a) rfl) ?_; refine And.intro (⟨by omega, by rw [eHs_len]; omega⟩) ?_
        refine And.intro (VLe.of_eq (by rw [Int.toNat_natCast, hgk])) ?_; refine And.intro auF ?_; refine hK _ _ (by kernel_rfl) ?_; clear hK K; refine dw_cond (t := false) rfl ?_; rw [if_neg (by simp)]; refine dw_exit ?_; refine dw_seq ?_; refine dw_seq ?_; refine dwkD [(52, .v (.int .i64 (↑o.length))), (53, .v (.bool true)), (57, .q [.v (.int .i64 (o[a]))]), (61, .q [.v (.int .i64 hk1), .v (.int .i64 x)]), (64, .v (.bool false))] TRX_ok hnt fun K hK => ?_
        refine And.intro (dintE (by rw [eIs_len])) ?_; refine And.intro auT ?_; refine And.intro (elo (eIs_len o)) ?_; refine And.intro (elv (eIs_getD o a) rfl) ?_; refine And.intro (⟨by omega, by rw [eHs_len]; omega⟩) ?_; refine And.intro (VLe.of_eq (by rw [Int.toNat_natCast, hgk])) ?_; refine And.intro (beqF hex) ?_; refine hK _ _ (by kernel_rfl) ?_; clear hK K; refine dw_cond (t := false) rfl ?_; rw [if_neg (by simp)]
        refine dw_skip ?_; refine dw_seq ?_; refine dwk [(69, .sl 1 (eIs (o.take a)) none)] TRX_ok hnt fun K hK => ?_; refine And.intro (⟨by omega, by rw [eIs_len]; omega⟩) ?_; refine And.intro (VLe.of_eq (congrArg (D.sl 1 · none) (eIs_take o a))) ?_; refine And.intro (⟨rfl, by simp [eIs_len]; omega⟩) ?_; refine hK _ _ ?_; clear hK K; refine dw_seq ?_; refine dwk [(74, .q [.v (.int .i64 hk1), .v (.int .i64 x)])] TRX_ok hnt fun K hK => ?_
        refine And.intro (⟨by omega, by rw [eHs_len]; omega⟩) ?_; refine And.intro (VLe.of_eq (by rw [Int.toNat_natCast, hgk])) ?_; refine And.intro (⟨by simp [eIs_len], by simp [eIs_len]; omega⟩) ?_; refine hK _ _ ?_; clear hK K; refine dwk [(82, .sl 1 (eIs (o.drop a)) none), (83, .sl 1 (eIs (o.take a ++ [x] ++ o.drop a)) none)] TRX_ok hnt fun K hK => ?_; refine And.intro (⟨by omega, by rw [eIs_len]; omega⟩) ?_
        refine And.intro (VLe.of_eq (congrArg (D.sl 1 · none) (eIs_drop o a))) ?_; refine And.intro (⟨by simp [eIs_len], by simp [eIs_len]; omega⟩) ?_; refine And.intro ((by rw [eIs_append, eIs_append]; exact VLe.untag _ _ _)) ?_; refine hK _ _ ?_; clear hK K; refine dwk [(25, .v (.int .i64 (↑(k + 1))))] TRX_ok hnt fun K hK => ?_; refine And.intro auI ?_; refine hK _ _ ?_; clear hK K
        refine ⟨⟨(k + 1, o.take a ++ [x] ++ o.drop a), hlk, by rw [hmk, ← List.append_assoc]; exact hput⟩, by first | omega | (dsimp only; omega), VS.toA⟩
     ·have hput := hr.put (x := x) (a := a) ha (fun q h => hax q (by omega) h) (fun h => absurd h hla)
      refine dw_seq ?_; refine dw_seq ?_; refine dwkD [(34, .v (.int .i64 (↑o.length))), (35, .v (.bool false))] TRX_ok hnt fun K hK => ?_; refine And.intro (dintE (by rw [eIs_len])) ?_; refine And.intro auF ?_; refine hK _ _ (by kernel_rfl) ?_; clear hK K; refine dw_cond (t := false) rfl ?_; rw [if_neg (by simp)]; refine dw_exit ?_; refine dw_seq ?_; refine dw_seq ?_; refine dwkD [(52, .v (.int .i64 (↑o.length))), (53, .v (.bool false))] TRX_ok hnt fun K hK => ?_
      refine And.intro (dintE (by rw [eIs_len])) ?_; refine And.intro auF ?_; refine hK _ _ (by kernel_rfl) ?_; clear hK K; refine dw_cond (t := false) rfl ?_; rw [if_neg (by simp)]; refine dw_skip ?_; refine dw_seq ?_; refine dwk [(69, .sl 1 (eIs (o.take a)) none)] TRX_ok hnt fun K hK => ?_; refine And.intro (⟨by omega, by rw [eIs_len]; omega⟩) ?_; refine And.intro (VLe.of_eq (congrArg (D.sl 1 · none) (eIs_take o a))) ?_
      refine And.intro (⟨rfl, by simp [eIs_len]; omega⟩) ?_; refine hK _ _ ?_; clear hK K; refine dw_seq ?_; refine dwk [(74, .q [.v (.int .i64 hk1), .v (.int .i64 x)])] TRX_ok hnt fun K hK => ?_; refine And.intro (⟨by omega, by rw [eHs_len]; omega⟩) ?_; refine And.intro (VLe.of_eq (by rw [Int.toNat_natCast, hgk])) ?_; refine And.intro (⟨by simp [eIs_len], by simp [eIs_len]; omega⟩) ?_; refine hK _ _ ?_; clear hK K
      refine dwk [(82, .sl 1 (eIs (o.drop a)) none), (83, .sl 1 (eIs (o.take a ++ [x] ++ o.drop a)) none)] TRX_ok hnt fun K hK => ?_; refine And.intro (⟨by omega, by rw [eIs_len]; omega⟩) ?_; refine And.intro (VLe.of_eq (congrArg (D.sl 1 · none) (eIs_drop o a))) ?_; refine And.intro (⟨by simp [eIs_len], by simp [eIs_len]; omega⟩) ?_; refine And.intro ((by rw [eIs_append, eIs_append]; exact VLe.untag _ _ _)) ?_
      refine hK _ _ ?_; clear hK K; refine dwk [(25, .v (.int .i64 (↑(k + 1))))] TRX_ok hnt fun K hK => ?_; refine And.intro auI ?_; refine hK _ _ ?_; clear hK K
      refine ⟨⟨(k + 1, o.take a ++ [x] ++ o.drop a), hlk, by rw [hmk, ← List.append_assoc]; exact hput⟩, by first | omega | (dsimp only; omega), VS.toA⟩
    ·rw [if_neg h2, List.append_nil] at hmk; refine dw_seq ?_; refine dw_seq ?_; refine dwk [(22, .v (.int .i64 (↑hs.length))), (23, .v (.bool true))] TRX_ok hnt fun K hK => ?_; refine And.intro (dintE (by rw [eHs_len])) ?_; refine And.intro auT ?_; refine hK _ _ ?_; clear hK K; refine dw_cond (t := true) rfl ?_; rw [if_pos rfl]; refine dw_skip ?_; refine dw_seq ?_; refine dw_block ?_; refine dw_seq ?_
     refine dw_seq ?_; refine dwk [(28, .q [.v (.int .i64 hk1), .v (.int .i64 x)]), (31, .v (.bool true))] TRX_ok hnt fun K hK => ?_; refine And.intro (⟨by omega, by rw [eHs_len]; omega⟩) ?_; refine And.intro (VLe.of_eq (by rw [Int.toNat_natCast, hgk])) ?_; refine And.intro (bneT h2) ?_; refine hK _ _ ?_; clear hK K; refine dw_cond (t := true) rfl ?_; rw [if_pos rfl]; refine dw_exit ?_; refine dwk [(25, .v (.int .i64 (↑(k + 1))))] TRX_ok hnt fun K hK => ?_
     refine And.intro auI ?_; refine hK _ _ ?_; clear hK K
     refine ⟨⟨(k + 1, o), hlk, by rw [hmk]; exact hr⟩, by first | omega | (dsimp only; omega), VS.toA⟩
   ·rw [List.take_of_length_le (by omega)] at hr
    refine dw_seq ?_; refine dw_seq ?_; refine dwk [(22, .v (.int .i64 (↑hs.length))), (23, .v (.bool false))] TRX_ok hnt fun K hK => ?_; refine And.intro (dintE (by rw [eHs_len])) ?_; refine And.intro auF ?_; refine hK _ _ ?_; clear hK K; refine dw_cond (t := false) rfl ?_; rw [if_neg (by simp)]; refine dw_exit ?_; refine dwk [(14, .v (.int .i64 (↑(i + 1))))] TRX_ok hnt fun K hK => ?_; refine And.intro auI ?_
    refine hK _ _ ?_; clear hK K
    refine ⟨⟨(i + 1, o), hlt, by rw [hmt]; exact hr⟩, by first | omega | (dsimp only; omega), VS.toA⟩
  ·rw [List.take_of_length_le (by omega)] at hr
   rw [← hr.eq]
   refine dw_seq ?_; refine dw_seq ?_; refine dwk [(11, .v (.int .i64 (↑l.length))), (12, .v (.bool false))] TRX_ok hnt fun K hK => ?_; refine And.intro (dintE (by rw [eTms_len])) ?_; refine And.intro auF ?_; refine hK _ _ ?_; clear hK K; refine dw_cond (t := false) rfl ?_; rw [if_neg (by simp)]; refine dw_exit ?_; refine dw_seq ?_; refine dwk [] TRX_ok hnt fun K hK => ?_; refine hK _ _ ?_; clear hK K
   refine dw_ret ?_
   exact reta rfl
end Go.Proofs.Ytcblpjheoclkeaa

namespace Go.Proofs.Ytcblpjheoclkeaa
open Go.RowKit

def sgn (x y : Int) : Int := if x < y then -1 else if y < x then 1 else 0
def orl (a b : Int) : Int := if a = 0 then b else a
@[simp] theorem orl_zero (b : Int) : orl 0 b = b := by simp [orl]
@[simp] theorem orl_zero_right (a : Int) : orl a 0 = a := by unfold orl; split <;> simp_all
namespace Ty
mutual
def cmp : Ty → Ty → Int
  | .mk l b, .mk l' b' => orl (orl (orl (sgn (Ty.sizes l + 1 : Nat) (Ty.sizes l' + 1 : Nat)) (sgn (l.length : Nat) (l'.length : Nat))) (cmps l l')) (sgn b b')
def cmps : List Ty → List Ty → Int
  | [], _ => 0
  | _ :: _, [] => 0
  | t :: l, u :: l' => orl (cmp t u) (cmps l l')
end
@[simp] theorem cmps_nil (l : List Ty) : cmps [] l = 0 := by rw [cmps]

end Ty
end Go.Proofs.Ytcblpjheoclkeaa

namespace Go.Proofs.Ytcblpjheoclkeaa
open Go.RowKit

namespace Tm
def cmpB (l l' : List Ty) : Int := orl (sgn (l.length : Nat) (l'.length : Nat)) (Ty.cmps l l')
mutual
def cmp : Tm → Tm → Int
  | .mk b k i a, .mk b' k' i' a' => orl (sgn (Tm.sizes a + 1 : Nat) (Tm.sizes a' + 1 : Nat)) (orl (cmpB b b') (orl (sgn k k') (orl (sgn i i') (orl (sgn (a.length : Nat) (a'.length : Nat)) (cmps a a')))))
def cmps : List Tm → List Tm → Int
  | [], _ => 0
  | _ :: _, [] => 0
  | t :: l, u :: l' => orl (cmp t u) (cmps l l')
end
@[simp] theorem cmps_nil (l : List Tm) : cmps [] l = 0 := by rw [cmps]
end Tm
end Go.Proofs.Ytcblpjheoclkeaa

namespace Go.Proofs.Ytcblpjheoclkeaa
open Go.RowKit

end Go.Proofs.Ytcblpjheoclkeaa

namespace Go.Proofs.Ytcblpjheoclkeaa
open Go.RowKit

namespace Ty
end Ty

end Go.Proofs.Ytcblpjheoclkeaa

namespace Go.Proofs.Ytcblpjheoclkeaa
open Go.RowKit

end Go.Proofs.Ytcblpjheoclkeaa

namespace Go.Proofs.Ytcblpjheoclkeaa
open Go.RowKit

def headTy (C M X : List Ty) (k i : Int) : Option Ty :=
  if i < 0 then none else if k = 0 then X.reverse[i.toNat]? else if k = 1 then C[i.toNat]? else if k = 2 then M[i.toNat]? else none
end Go.Proofs.Ytcblpjheoclkeaa

namespace Go.Proofs.Ytcblpjheoclkeaa
open Go.RowKit

end Go.Proofs.Ytcblpjheoclkeaa

namespace Go.Proofs.Ytcblpjheoclkeaa
open Go.RowKit

mutual
def IsOf (C M : List Ty) : Tm → List Ty → Ty → Prop
  | .mk b k i a, X, u => b = u.args ∧ ∃ h, headTy C M (X ++ b) k i = some h ∧ h.base = u.base ∧ IsOfs C M a (X ++ b) h.args
def IsOfs (C M : List Ty) : List Tm → List Ty → List Ty → Prop
  | [], _, [] => True
  | [], _, _ :: _ => False
  | _ :: _, _, [] => False
  | t :: l, X, u :: l' => IsOf C M t X u ∧ IsOfs C M l X l'
end
end Go.Proofs.Ytcblpjheoclkeaa

namespace Go.Proofs.Ytcblpjheoclkeaa
open Go.RowKit

theorem IsSl.bel {α : Type} {r : Rp α} {F : Nat → Prop} {w w' : World} {v : Value} {l : List α} (h : IsSl r F w v l) (hb : Below w.heap.size w w') : IsSl r F w' v l := h.keep ((Keep.refl _ _).below hb)
end Go.Proofs.Ytcblpjheoclkeaa

namespace Go.Proofs.Ytcblpjheoclkeaa
open Go.RowKit

end Go.Proofs.Ytcblpjheoclkeaa

namespace Go.Proofs.Ytcblpjheoclkeaa
open Go.RowKit

end Go.Proofs.Ytcblpjheoclkeaa

namespace Go.Proofs.Ytcblpjheoclkeaa
open Go.RowKit

end Go.Proofs.Ytcblpjheoclkeaa

namespace Go.Proofs.Ytcblpjheoclkeaa
open Go.RowKit
theorem metasT_L (l : List Tm) (h : ∀ t ∈ l, t.Fit) : metasT l = metasL l := by
  unfold metasT metasL
  induction l with
  | nil => rfl
  | cons t l ih =>
    rw [List.flatMap_cons, List.flatMap_cons, ih fun u hu => h u (by simp [hu]), metasH_pre t (h t (by simp))]
theorem rmetas_d (l : List Tm) (hl : l.length ≤ 9) (hz : ∀ t ∈ l, t.full ≤ 90000) (hf : ∀ t ∈ l, t.Fit) : PureC Try.prog 13 [.sl 4 (eTms l) none] (.sl 1 (eIs (sortU (metasL l))) none) := by
  have h := rMetas_d l hl hz hf
  rw [metasT_L l hf] at h
  exact h
namespace Li
end Li
end Go.Proofs.Ytcblpjheoclkeaa

namespace Go.Proofs.Ytcblpjheoclkeaa
open Go.RowKit
def TOW_27 : TI := ⟨4, true, [Value.slice none 0 0, Value.int IntKind.i64 0, Value.int IntKind.i64 0, Value.slice none 0 0], [(0, 1, false), (1, 2, true), (3, 1, false)], none, 64, 6, none, false⟩
theorem TOW_27_ok : TypOk Try.prog 27 TOW_27 := ⟨by kernel_rfl, by kernel_rfl, by kernel_rfl, by kernel_rfl, by kernel_rfl⟩
def TOW_3 : TI := ⟨1, false, [Value.int IntKind.i64 0], [], none, 8, 2, none, false⟩
theorem TOW_3_ok : TypOk Try.prog 3 TOW_3 := ⟨by kernel_rfl, by kernel_rfl, by kernel_rfl, by kernel_rfl, by kernel_rfl⟩
def TOW_25 : TI := ⟨1, false, [Value.slice none 0 0], [], some 27, 24, 5, none, false⟩
theorem TOW_25_ok : TypOk Try.prog 25 TOW_25 := ⟨by kernel_rfl, by kernel_rfl, by kernel_rfl, by kernel_rfl, by kernel_rfl⟩
def TOW_24 : TI := ⟨2, true, [Value.int IntKind.i64 0, Value.int IntKind.i64 0], [(0, 1, false), (1, 1, false)], none, 16, 6, none, true⟩
theorem TOW_24_ok : TypOk Try.prog 24 TOW_24 := ⟨by kernel_rfl, by kernel_rfl, by kernel_rfl, by kernel_rfl, by kernel_rfl⟩
def TOW_43 : TI := ⟨1, false, [Value.slice none 0 0], [], some 3, 24, 5, none, false⟩
theorem TOW_43_ok : TypOk Try.prog 43 TOW_43 := ⟨by kernel_rfl, by kernel_rfl, by kernel_rfl, by kernel_rfl, by kernel_rfl⟩
def TOW_22 : TI := ⟨1, false, [Value.slice none 0 0], [], some 123, 24, 5, none, false⟩
theorem TOW_22_ok : TypOk Try.prog 22 TOW_22 := ⟨by kernel_rfl, by kernel_rfl, by kernel_rfl, by kernel_rfl, by kernel_rfl⟩
def TOW_123 : TI := ⟨2, true, [Value.slice none 0 0, Value.int IntKind.i64 0], [(0, 1, false), (1, 1, false)], none, 32, 6, none, false⟩
theorem TOW_123_ok : TypOk Try.prog 123 TOW_123 := ⟨by kernel_rfl, by kernel_rfl, by kernel_rfl, by kernel_rfl, by kernel_rfl⟩
def TOW : List (Nat × TI) := [(27, TOW_27), (3, TOW_3), (25, TOW_25), (24, TOW_24), (43, TOW_43), (22, TOW_22), (123, TOW_123)]
theorem TOW_ok : TabOk Try.prog TOW := ((((((((TabOk.nil _).cons TOW_123_ok).cons TOW_22_ok).cons TOW_43_ok).cons TOW_24_ok).cons TOW_25_ok).cons TOW_3_ok).cons TOW_27_ok)
namespace Rn
mutual
def mts : Tm → List Int
  | .mk _ k i a => (if k = 2 then [i] else []) ++ mtsL a
def mtsL : List Tm → List Int
  | [] => []
  | t :: l => mts t ++ mtsL l
end
theorem mts_eq (b : List Ty) (k i : Int) (a : List Tm) : mts (.mk b k i a) = (if k = 2 then [i] else []) ++ mtsL a := by rw [mts]
def out (d : Int) (l : List Int) (e : Int) : Int := l.foldl (fun e n => note (sm n d) e) e
theorem errL_out_of (d : Int) {l : List Tm} (h : ∀ t ∈ l, ∀ e, errs d t e = out d (mts t) e) : ∀ e, errL d l e = out d (mtsL l) e := by
  induction l with
  | nil => intro e; rw [errL, mtsL]; rfl
  | cons t l ih =>
    intro e
    rw [errL, mtsL, ih (fun u hu => h u (by simp [hu])), h t (by simp)]
    unfold out; rw [List.foldl_append]
theorem errs_out (d : Int) (t : Tm) : ∀ e, errs d t e = out d (mts t) e := by
  induction t using Tm.ind with
  | h b k i a ih =>
    intro e
    rw [errs_eq, mts_eq, errL_out_of d ih]
    unfold out
    rw [List.foldl_append]
    by_cases hk : k = 2
    · rw [if_pos hk, if_pos hk]; rfl
    · rw [if_neg hk, if_neg hk]; rfl
theorem out_eq (d : Int) : ∀ (l : List Int) (e : Int), e = 0 ∨ e = 1 ∨ e = 2 → out d l e = if e = 1 ∨ ∃ n ∈ l, sm n d < 0 then 1 else if e = 2 ∨ ∃ n ∈ l, sm n d > 1000 then 2 else 0
  | [], e, h => by
    unfold out
    simp only [List.foldl_nil, List.not_mem_nil, false_and, exists_false, or_false]
    rcases h with rfl | rfl | rfl <;> simp
  | n :: l, e, h => by
    have hs : out d (n :: l) e = out d l (note (sm n d) e) := rfl
    have hn : note (sm n d) e = if e = 1 ∨ sm n d < 0 then 1 else if e = 2 ∨ sm n d > 1000 then 2 else 0 := by
      unfold note code
      rcases h with rfl | rfl | rfl <;> split <;> split <;> split <;> (try split) <;> omega
    rw [hs, out_eq d l _ (by rw [hn]; split; exact .inr (.inl rfl); split; exact .inr (.inr rfl); exact .inl rfl), hn]
    simp only [List.mem_cons, exists_eq_or_imp]
    by_cases h1 : e = 1 ∨ sm n d < 0
    · rw [if_pos h1, if_pos (.inl rfl), if_pos (by rcases h1 with h | h; exact .inl h; exact .inr (.inl h))]
    · rw [if_neg h1]
      by_cases h2 : ∃ n ∈ l, sm n d < 0
      · rw [if_pos (.inr h2), if_pos (.inr (.inr h2))]
      · rw [if_neg (c := e = 1 ∨ sm n d < 0 ∨ ∃ n ∈ l, sm n d < 0) (fun h => by
          rcases h with h | h | h
          · exact h1 (.inl h)
          · exact h1 (.inr h)
          · exact h2 h)]
        by_cases h3 : e = 2 ∨ sm n d > 1000
        · rw [if_pos h3, if_neg (fun h => by rcases h with h | h; cases h; exact h2 h), if_pos (.inl rfl), if_pos (by rcases h3 with h | h; exact .inl h; exact .inr (.inl h))]
        · rw [if_neg h3, if_neg (fun h => by rcases h with h | h; cases h; exact h2 h)]
          by_cases h4 : ∃ n ∈ l, sm n d > 1000
          · rw [if_pos (.inr h4), if_pos (.inr (.inr h4))]
          · rw [if_neg (fun h => by rcases h with h | h; cases h; exact h4 h), if_neg (fun h => by
              rcases h with h | h | h
              · exact h3 (.inl h)
              · exact h3 (.inr h)
              · exact h4 h)]
theorem errs_mts (d : Int) (t : Tm) : errs d t 0 = if ∃ n ∈ mts t, sm n d < 0 then 1 else if ∃ n ∈ mts t, sm n d > 1000 then 2 else 0 := by
  rw [errs_out, out_eq d _ 0 (.inl rfl)]
  simp
theorem metasP_pres_of {l : List Tm} (h : ∀ t ∈ l, ∀ s p, metasP (t.pre s p) = mts t) : ∀ s p, metasP (Tm.pres l s p) = mtsL l := by
  induction l with
  | nil => intro s p; rw [Tm.pres, mtsL]; rfl
  | cons t l ih =>
    intro s p
    rw [Tm.pres, mtsL, ← ih (fun u hu => h u (by simp [hu])) s p, ← h t (by simp) s p]
    unfold metasP; rw [List.filterMap_append]
theorem metasP_pre (t : Tm) : ∀ s p, metasP (t.pre s p) = mts t := by
  induction t using Tm.ind with
  | h b k i a ih =>
    intro s p
    have hr := metasP_pres_of ih (s + b.length) (p + 1)
    rw [Tm.pre_eq, mts_eq, ← hr]
    unfold metasP
    rw [List.filterMap_cons]
    by_cases hk : k = 2
    · simp [hk, Tm.kind, Tm.index]
    · simp [hk, Tm.kind, Tm.index]
theorem mem_metas (t : Tm) (n : Int) : n ∈ sortU (metasL [t]) ↔ n ∈ mts t := by
  rw [(sortU_spec _).2]
  unfold metasL
  simp only [List.flatMap_cons, List.flatMap_nil, List.append_nil, metasP_pre]
theorem sm_ok {n d : Int} (h0 : 0 ≤ sm n d) (h1 : sm n d ≤ 1000) : sm n d = n + d := by
  unfold sm at h0 h1 ⊢
  by_cases a : n < 0 ∧ d < 0
  · rw [if_pos a] at h0; omega
  · rw [if_neg a] at h0 h1 ⊢
    by_cases b : n ≥ 0 ∧ d ≥ 0 ∧ (n > 1000 ∨ d > 1000)
    · rw [if_pos b] at h1; omega
    · rw [if_neg b]
theorem rens_snoc (d : Int) (l : List Tm) (j : Nat) (h : j < l.length) : rens d (l.take (j + 1)) = rens d (l.take j) ++ [ren d l[j]] := by
  rw [rens_map, rens_map, List.take_succ_eq_append_getElem h, List.map_append]; rfl
end Rn
theorem eTm_z : eTm Tm.zero = [.sl 2 [] none, .v (.int .i64 0), .v (.int .i64 0), .sl 4 [] none] := rfl
theorem rename_d (t : Tm) (d : Int) (hd : -9223372036854775808 ≤ d ∧ d ≤ 9223372036854775807) (hz : t.full ≤ 80000) (hf : t.Fit) :
    PureC Try.prog 8 [.ag (eTm t), .v (.int .i64 d)] (.tu [.ag (eTm (if Rn.errs d t 0 = 0 then Rn.ren d t else Tm.zero)), .v (.int .i64 (Rn.errs d t 0))]) := by
  refine pure_below (by kernel_rfl) fun m Im w vs hv => ?_
  match vs, hv with
  | [x1, x2], hv =>
    obtain ⟨b, k, i, a, rfl, h1⟩ := agTm hv.1
    have := rel_v.1 hv.2.1; subst this
    refine (rename_k d (renamed_ow d hd t hf) h1 hz hf).mono ?_
    rintro e w' ⟨b', k', i', a', rfl, h3, hb⟩
    exact ⟨_, rfl, hb, fun Im' _ hI => rel_tu.2 ⟨_, rfl, rel_ag.2 ⟨_, rfl, rel_of_tm (fun b o v hq hc => hI b o v hq hc) _ h3⟩, .v _, trivial⟩⟩
theorem rens_len (d : Int) (l : List Tm) : (Rn.rens d l).length = l.length := by rw [Rn.rens_map, List.length_map]
set_option maxHeartbeats 1000000 in
theorem rrenamed_d (d : Int) : ∀ t : Tm, (∀ n ∈ Rn.mts t, 0 ≤ Rn.sm n d ∧ Rn.sm n d ≤ 1000) → t.full ≤ 900000 → PureC Try.prog 44 [.ag (eTm t), .v (.int .i64 d)] (.ag (eTm (Rn.ren d t))) := by
 intro t
 induction t using Tm.ind with
 | h bs k i a ih =>
 intro hm hz
 rw [Tm.full_eq] at hz
 rw [Rn.mts_eq] at hm
 have hal := cFulls_len a
 have hmem : ∀ u ∈ a, ∀ n ∈ Rn.mts u, n ∈ Rn.mtsL a := by
  intro u hu n hn
  clear ih hm hz hal
  induction a with
  | nil => cases hu
  | cons v l ih2 =>
   rw [Rn.mtsL, List.mem_append]
   rcases List.mem_cons.1 hu with rfl | hu
   ·exact .inl hn
   ·exact .inr (ih2 hu)
 have hI : ∀ j (h : j < a.length), PureC Try.prog 44 [.ag (eTm a[j]), .v (.int .i64 d)] (.ag (eTm (Rn.ren d a[j]))) := fun j h => ih _ (List.getElem_mem h) (fun n hn => hm n (List.mem_append_right _ (hmem _ (List.getElem_mem h) n hn))) (by have := Tm.full_mem (List.getElem_mem h); omega)
 have hsn := fun j (h : j < a.length) => (show eTms (Rn.rens d (a.take j)) ++ [[.sl 2 (eTys (Rn.ren d a[j]).binds) none, .v (.int .i64 (Rn.ren d a[j]).kind), .v (.int .i64 (Rn.ren d a[j]).index), .sl 4 (eTms (Rn.ren d a[j]).args) none]] = eTms (Rn.rens d (a.take (j + 1))) by rw [Rn.rens_snoc d a j h, eTms_append, ← eTm_eq]; rfl)
 rw [Rn.ren_eq]
 obtain ⟨i', hi'⟩ : ∃ i', (if k = 2 then Rn.sm i d else i) = i' := ⟨_, rfl⟩
 rw [hi']
 rw [eTm_eq, eTm_eq]
 simp only [bindsT, kindT, indexT, argsTm]
 refine calldw 0 43 [ResultVar.cell 4 27] TOW_ok Try.func44 rfl Try.ntmps44 rfl fun cx hnt hn0 => ?_
 ·skip
  refine dw_seq ?_; refine dwk [] TOW_ok hnt fun K hK => ?_; refine hK _ _ ?_; clear hK K; refine dw_seq ?_; refine dwk [] TOW_ok hnt fun K hK => ?_; refine hK _ _ ?_; clear hK K
  refine dw_cut (τ := [(.t 1, .v (.int .i64 d)), (.t 2, .p 0 0), (.t 4, .p 1 0), (.t 5, .p 7 0), (.c 0 0, .sl 2 (eTys bs) none), (.c 0 3, .sl 4 (eTms a) none), (.c 1 0, .v (.slice none 0 0)), (.c 1 1, .v (.int .i64 0)), (.c 1 2, .v (.int .i64 0)), (.c 1 3, .v (.slice none 0 0)), (.c 7 0, .sl 2 (eTys bs) none), (.c 7 1, .v (.int .i64 k)), (.c 7 2, .v (.int .i64 i')), (.c 7 3, .v (.slice none 0 0))]) (N1 := 8) ?_ ?_
  ·by_cases hk : k = 2
   ·subst hk
    rw [if_pos rfl] at hi'
    have hs : i + d = i' := by
     have h := hm i (List.mem_append_left _ (by simp))
     rw [← hi']; exact (Rn.sm_ok h.1 h.2).symm
    have hr := hm i (List.mem_append_left _ (by simp))
    rw [hi'] at hr
    refine dw_seq ?_; refine dwk [(15, .v (.bool true))] TOW_ok hnt fun K hK => ?_; refine And.intro (beqT rfl) ?_; refine hK _ _ ?_; clear hK K; refine dw_cond (t := true) rfl ?_; rw [if_pos rfl]; refine dwk [(20, .v (.int .i64 (i')))] TOW_ok hnt fun K hK => ?_; refine And.intro (dintE (by (rw [hs]; exact IntWalk.i64_in _ (by omega)))) ?_; refine hK _ _ ?_; clear hK K
    exact cut_ok VS.toA
   ·rw [if_neg hk] at hi'
    subst hi'
    refine dw_seq ?_; refine dwk [(15, .v (.bool false))] TOW_ok hnt fun K hK => ?_; refine And.intro (beqF hk) ?_; refine hK _ _ ?_; clear hK K; refine dw_cond (t := false) rfl ?_; rw [if_neg (by simp)]; refine dw_skip ?_
    exact cut_ok VS.toA
  ·refine DW.vs (VS.row (k := 7) (off := 3) 27 4 rfl) ?_
   refine dw_seq ?_; refine dw_seq ?_; refine dwk [] TOW_ok hnt fun K hK => ?_; refine hK _ _ ?_; clear hK K; refine dw_block ?_
   refine dw_loop (ι := { j : Nat // j ≤ a.length }) (fun j => [(.t 1, .v (.int .i64 d)), (.t 2, .p 0 0), (.t 4, .p 1 0), (.t 5, .p 7 0), (.t 6, .v (.int .i64 ↑j.1)), (.c 0 3, .sl 4 (eTms a) none), (.c 1 0, .v (.slice none 0 0)), (.c 1 1, .v (.int .i64 0)), (.c 1 2, .v (.int .i64 0)), (.c 1 3, .v (.slice none 0 0)), (.c 7 0, .sl 2 (eTys bs) none), (.c 7 1, .v (.int .i64 k)), (.c 7 2, .v (.int .i64 i')), (.c 7 3, .sl 4 (eTms (Rn.rens d (a.take j.1))) (some 8)), (.r 8, .rw 27 4 j.1)]) 9 (fun j => a.length - j.1) (⟨0, Nat.zero_le _⟩) (VS.toA) fun j => ?_
   obtain ⟨j, hj⟩ := j
   dsimp only
   by_cases hlt : j < a.length
   ·have hc := hI j hlt
    have hs := hsn j hlt
    rw [eTm_eq, eTm_eq] at hc
    have hlq : (eTms (Rn.rens d (a.take j))).length = j := by rw [eTms_len, rens_len, List.length_take]; omega
    refine dw_seq ?_; refine dw_seq ?_; refine dwk [(26, .v (.int .i64 (↑a.length))), (27, .v (.bool true))] TOW_ok hnt fun K hK => ?_; refine And.intro (dintE (by rw [eTms_len])) ?_; refine And.intro auT ?_; refine hK _ _ ?_; clear hK K; refine dw_cond (t := true) rfl ?_; rw [if_pos rfl]; refine dw_skip ?_; refine dw_seq ?_; refine dw_block ?_; refine dwkD [(35, .q [.sl 2 (eTys a[j].binds) none, .v (.int .i64 a[j].kind), .v (.int .i64 a[j].index), .sl 4 (eTms a[j].args) none]), (40, .sl 4 (eTms (Rn.rens d (a.take (j + 1)))) (some 8))] TOW_ok hnt fun K hK => ?_
    refine And.intro (elo (eTms_len a)) ?_; refine And.intro (elv (eTms_getD a j) (eTm_eq _)) ?_; refine dcl (hc) ?_; refine And.intro (⟨by rw [hlq], by rw [hlq]; simp; omega⟩) ?_; refine And.intro (VLe.of_eq (by rw [hs])) ?_; refine hK _ _ (by kernel_rfl) ?_; clear hK K; refine dwk [(29, .v (.int .i64 (↑(j + 1))))] TOW_ok hnt fun K hK => ?_; refine And.intro auI ?_; refine hK _ _ ?_; clear hK K
    have hl8 : (eTms (Rn.rens d (a.take j)) ++ ([[.sl 2 (eTys (Rn.ren d a[j]).binds) none, .v (.int .i64 (Rn.ren d a[j]).kind), .v (.int .i64 (Rn.ren d a[j]).index), .sl 4 (eTms (Rn.ren d a[j]).args) none]] : List (List D))).length = j + 1 := by rw [List.length_append, hlq]; simp
    rw [hl8]
    refine ⟨⟨j + 1, hlt⟩, by first | omega | (dsimp only; omega), (by try simp only [List.length_append, List.length_take, List.length_cons, List.length_nil, Nat.zero_add, hlq]; exact VS.toA)⟩
   ·rw [List.take_of_length_le (by omega)]
    refine dw_seq ?_; refine dw_seq ?_; refine dwk [(26, .v (.int .i64 (↑a.length))), (27, .v (.bool false))] TOW_ok hnt fun K hK => ?_; refine And.intro (dintE (by rw [eTms_len])) ?_; refine And.intro auF ?_; refine hK _ _ ?_; clear hK K; refine dw_cond (t := false) rfl ?_; rw [if_neg (by simp)]; refine dw_exit ?_; refine dw_seq ?_; refine dwk [] TOW_ok hnt fun K hK => ?_; refine hK _ _ ?_; clear hK K
    refine dw_ret ?_
    exact reta rfl
set_option maxHeartbeats 4000000 in
theorem rRename_d (t : Tm) (d : Int) (hd : -9223372036854775808 ≤ d ∧ d ≤ 9223372036854775807) (hz : t.full ≤ 80000) (hf : t.Fit) (hM : ∀ n ∈ Rn.mts t, -9223372036854775808 ≤ n ∧ n ≤ 9223372036854775807) :
  PureC Try.prog 10 [.ag (eTm t), .v (.int .i64 d)] (.tu [.ag (eTm (if Rn.errs d t 0 = 0 then Rn.ren d t else Tm.zero)), .v (.int .i64 (Rn.errs d t 0))]) := by
 have hme := rmetas_d [t] (by simp) (fun u hu => by rw [List.mem_singleton.1 hu]; omega) (fun u hu => by rw [List.mem_singleton.1 hu]; exact hf)
 have hr := fun h => rrenamed_d d t h (by omega)
 have hmm := Rn.mem_metas t
 have hE := Rn.errs_mts d t
 obtain ⟨l, hl⟩ : ∃ l, sortU (metasL [t]) = l := ⟨_, rfl⟩
 rw [hl] at hme hmm
 have hlen : l.length ≤ 90000 := by
  rw [← hl]
  have h1 := sortU_len (metasL [t])
  have h2 := metasL_len [t] 80000 (fun u hu => by rw [List.mem_singleton.1 hu]; omega)
  simp at h2; omega
 have e1 : eTms [t] = [eTm t] := rfl
 obtain ⟨E, hEE⟩ : ∃ E, Rn.errs d t 0 = E := ⟨_, rfl⟩
 rw [hEE] at hE ⊢
 obtain ⟨F, hF⟩ : ∃ F : Nat → Bool, F = fun j => (l.take j).any fun n => decide (Rn.sm n d > 1000) := ⟨_, rfl⟩
 have hF0 : F 0 = false := by rw [hF]; rfl
 have hFs : ∀ j (h : j < l.length), F (j + 1) = (F j || decide (Rn.sm l[j] d > 1000)) := fun j h => by
  rw [hF]; dsimp only
  rw [List.take_succ_eq_append_getElem h, List.any_append]; simp
 have hbad : ∀ n ∈ l, Rn.sm n d < 0 → E = 1 := fun n hn h => by rw [hE, if_pos ⟨n, (hmm n).1 hn, h⟩]
 rw [eTm_eq] at e1 ⊢
 refine calldw 0 71 [ResultVar.cell 4 27, ResultVar.tmp 5] TOW_ok Try.func10 rfl Try.ntmps10 rfl fun cx hnt hn0 => ?_
 ·skip
  refine dw_seq ?_; refine dwk [] TOW_ok hnt fun K hK => ?_; refine hK _ _ ?_; clear hK K; refine dw_seq ?_; refine dwk [(11, .sl 4 (eTms [t]) none)] TOW_ok hnt fun K hK => ?_; refine And.intro ((by rw [e1]; exact VLe.untag _ _ _)) ?_; refine dcl (hme) ?_; refine hK _ _ ?_; clear hK K; refine dw_seq ?_; refine dwk [] TOW_ok hnt fun K hK => ?_; refine hK _ _ ?_; clear hK K; refine dw_seq ?_; refine dw_seq ?_
  refine dwk [] TOW_ok hnt fun K hK => ?_; refine hK _ _ ?_; clear hK K; refine dw_block ?_
  refine dw_loop (ι := { j : Nat // j ≤ l.length ∧ ∀ i (h : i < l.length), i < j → ¬ Rn.sm l[i] d < 0 }) (fun j => [(.t 1, .v (.int .i64 d)), (.t 2, .p 0 0), (.t 4, .p 1 0), (.t 6, .sl 1 (eIs l) none), (.t 7, .v (.bool (F j.1))), (.t 8, .v (.int .i64 ↑j.1)), (.c 0 0, .sl 2 (eTys t.binds) none), (.c 0 1, .v (.int .i64 t.kind)), (.c 0 2, .v (.int .i64 t.index)), (.c 0 3, .sl 4 (eTms t.args) none), (.c 1 0, .v (.slice none 0 0)), (.c 1 1, .v (.int .i64 0)), (.c 1 2, .v (.int .i64 0)), (.c 1 3, .v (.slice none 0 0))]) 2 (fun j => l.length - j.1) (⟨0, Nat.zero_le _, fun i h1 h2 => by omega⟩) ((by try simp only [List.length_append, List.length_take, List.length_cons, List.length_nil, Nat.zero_add, hF0]; exact VS.toA)) fun j => ?_
  obtain ⟨j, hj, hno⟩ := j
  dsimp only
  by_cases hlt : j < l.length
  ·obtain ⟨n, hn⟩ : ∃ n, l[j] = n := ⟨_, rfl⟩
   have hnl : n ∈ l := hn ▸ List.getElem_mem hlt
   have hb := hbad n hnl
   have hr := hM n ((hmm n).1 hnl)
   have hF1 := hFs j hlt
   rw [hn] at hF1
   have hsm : Rn.sm n d = if n < 0 ∧ d < 0 then -1 else if n ≥ 0 ∧ d ≥ 0 ∧ (n > 1000 ∨ d > 1000) then 1001 else n + d := rfl
   have hnx : ¬ Rn.sm n d < 0 → ∀ i (h : i < l.length), i < j + 1 → ¬ Rn.sm l[i] d < 0 := fun h0 i h h1 => by
    by_cases e : i = j
    ·subst e; rw [hn]; exact h0
    ·exact hno i h (by omega)
   have hel : (eIs l).getD (↑j : Int).toNat [] = [.v (.int .i64 n)] := by rw [Int.toNat_natCast, eIs_getD l j hlt, hn]
   obtain ⟨lg, hlg⟩ : ∃ lg, F j = lg := ⟨_, rfl⟩
   rw [hlg]
   refine dw_seq ?_; refine dw_seq ?_; refine dwk [(15, .v (.int .i64 (↑l.length))), (16, .v (.bool true))] TOW_ok hnt fun K hK => ?_; refine And.intro (dintE (by rw [eIs_len])) ?_; refine And.intro auT ?_; refine hK _ _ ?_; clear hK K; refine dw_cond (t := true) rfl ?_; rw [if_pos rfl]; refine dw_skip ?_; refine dw_seq ?_; refine dw_block ?_; refine dw_seq ?_; refine dwk [(21, .q [.v (.int .i64 n)])] TOW_ok hnt fun K hK => ?_
   refine And.intro (⟨by omega, by rw [eIs_len]; omega⟩) ?_; refine And.intro (VLe.of_eq (by rw [hel])) ?_; refine hK _ _ ?_; clear hK K
   by_cases n0 : n < 0
   ·by_cases d0 : d < 0
    ·rw [if_pos ⟨n0, d0⟩] at hsm; refine dw_block ?_; refine dw_seq ?_; refine dwk [(32, .v (.bool true)), (35, .v (.bool true))] TOW_ok hnt fun K hK => ?_; refine And.intro auT ?_; refine And.intro auT ?_; refine hK _ _ ?_; clear hK K; refine dw_cond (t := true) rfl ?_; rw [if_pos rfl]
     have h1 := hb (by omega)
     subst h1
     rw [if_neg (by decide), eTm_z]; refine dw_seq ?_; refine dwk [] TOW_ok hnt fun K hK => ?_; refine hK _ _ ?_; clear hK K; refine dw_ret ?_
     exact reta rfl
    ·rw [if_neg (fun h => d0 h.2), if_neg (fun h => by omega)] at hsm; refine dw_block ?_; refine dw_seq ?_; refine dwk [(32, .v (.bool true)), (35, .v (.bool false))] TOW_ok hnt fun K hK => ?_; refine And.intro auT ?_; refine And.intro auF ?_; refine hK _ _ ?_; clear hK K; refine dw_cond (t := false) rfl ?_; rw [if_neg (by simp)]; refine dw_seq ?_; refine dwk [(40, .v (.bool false))] TOW_ok hnt fun K hK => ?_
     refine And.intro auF ?_; refine hK _ _ ?_; clear hK K; refine dw_cond (t := false) rfl ?_; rw [if_neg (by simp)]
     by_cases b1 : n + d < 0
     ·skip
      refine dw_seq ?_; refine dwk [(63, .v (.int .i64 ((n + d)))), (64, .v (.bool true))] TOW_ok hnt fun K hK => ?_; refine And.intro auI ?_; refine And.intro auT ?_; refine hK _ _ ?_; clear hK K; refine dw_cond (t := true) rfl ?_; rw [if_pos rfl]
      have h1 := hb (by omega)
      subst h1
      rw [if_neg (by decide), eTm_z]; refine dw_seq ?_; refine dwk [] TOW_ok hnt fun K hK => ?_; refine hK _ _ ?_; clear hK K; refine dw_ret ?_
      exact reta rfl
     ·skip
      refine dw_seq ?_; refine dwk [(63, .v (.int .i64 ((n + d)))), (64, .v (.bool false))] TOW_ok hnt fun K hK => ?_; refine And.intro auI ?_; refine And.intro auF ?_; refine hK _ _ ?_; clear hK K; refine dw_cond (t := false) rfl ?_; rw [if_neg (by simp)]
      cases lg with
      | true =>
       refine dwk [] TOW_ok hnt fun K hK => ?_; refine hK _ _ ?_; clear hK K
       have hF2 : F (j + 1) = true := by rw [hF1, hlg]; rfl
       refine dwk [(18, .v (.int .i64 (↑(j + 1))))] TOW_ok hnt fun K hK => ?_; refine And.intro auI ?_; refine hK _ _ ?_; clear hK K
       refine ⟨⟨j + 1, hlt, hnx (by omega)⟩, by first | omega | (dsimp only; omega), (by try simp only [List.length_append, List.length_take, List.length_cons, List.length_nil, Nat.zero_add, hF2]; exact VS.toA)⟩
      | false =>
       by_cases b2 : n + d > 1000
       ·skip
        refine dwk [(27, .v (.int .i64 ((n + d)))), (28, .v (.bool true))] TOW_ok hnt fun K hK => ?_; refine And.intro auI ?_; refine And.intro auT ?_; refine hK _ _ ?_; clear hK K
        have hF2 : F (j + 1) = true := by rw [hF1, hlg]; rw [Bool.false_or, decide_eq_true_eq]; omega
        refine dwk [(18, .v (.int .i64 (↑(j + 1))))] TOW_ok hnt fun K hK => ?_; refine And.intro auI ?_; refine hK _ _ ?_; clear hK K
        refine ⟨⟨j + 1, hlt, hnx (by omega)⟩, by first | omega | (dsimp only; omega), (by try simp only [List.length_append, List.length_take, List.length_cons, List.length_nil, Nat.zero_add, hF2]; exact VS.toA)⟩
       ·skip
        refine dwk [(27, .v (.int .i64 ((n + d)))), (28, .v (.bool false))] TOW_ok hnt fun K hK => ?_; refine And.intro auI ?_; refine And.intro auF ?_; refine hK _ _ ?_; clear hK K
        have hF2 : F (j + 1) = false := by rw [hF1, hlg]; rw [Bool.false_or, decide_eq_false_iff_not]; omega
        refine dwk [(18, .v (.int .i64 (↑(j + 1))))] TOW_ok hnt fun K hK => ?_; refine And.intro auI ?_; refine hK _ _ ?_; clear hK K
        refine ⟨⟨j + 1, hlt, hnx (by omega)⟩, by first | omega | (dsimp only; omega), (by try simp only [List.length_append, List.length_take, List.length_cons, List.length_nil, Nat.zero_add, hF2]; exact VS.toA)⟩
   ·by_cases d0 : d < 0
    ·rw [if_neg (fun h => n0 h.1), if_neg (fun h => by omega)] at hsm; refine dw_block ?_; refine dw_seq ?_; refine dwk [(32, .v (.bool false))] TOW_ok hnt fun K hK => ?_; refine And.intro auF ?_; refine hK _ _ ?_; clear hK K; refine dw_cond (t := false) rfl ?_; rw [if_neg (by simp)]; refine dw_seq ?_; refine dwk [(40, .v (.bool true)), (43, .v (.bool false))] TOW_ok hnt fun K hK => ?_; refine And.intro auT ?_
     refine And.intro auF ?_; refine hK _ _ ?_; clear hK K; refine dw_cond (t := false) rfl ?_; rw [if_neg (by simp)]
     by_cases b1 : n + d < 0
     ·skip
      refine dw_seq ?_; refine dwk [(63, .v (.int .i64 ((n + d)))), (64, .v (.bool true))] TOW_ok hnt fun K hK => ?_; refine And.intro auI ?_; refine And.intro auT ?_; refine hK _ _ ?_; clear hK K; refine dw_cond (t := true) rfl ?_; rw [if_pos rfl]
      have h1 := hb (by omega)
      subst h1
      rw [if_neg (by decide), eTm_z]; refine dw_seq ?_; refine dwk [] TOW_ok hnt fun K hK => ?_; refine hK _ _ ?_; clear hK K; refine dw_ret ?_
      exact reta rfl
     ·skip
      refine dw_seq ?_; refine dwk [(63, .v (.int .i64 ((n + d)))), (64, .v (.bool false))] TOW_ok hnt fun K hK => ?_; refine And.intro auI ?_; refine And.intro auF ?_; refine hK _ _ ?_; clear hK K; refine dw_cond (t := false) rfl ?_; rw [if_neg (by simp)]
      cases lg with
      | true =>
       refine dwk [] TOW_ok hnt fun K hK => ?_; refine hK _ _ ?_; clear hK K
       have hF2 : F (j + 1) = true := by rw [hF1, hlg]; rfl
       refine dwk [(18, .v (.int .i64 (↑(j + 1))))] TOW_ok hnt fun K hK => ?_; refine And.intro auI ?_; refine hK _ _ ?_; clear hK K
       refine ⟨⟨j + 1, hlt, hnx (by omega)⟩, by first | omega | (dsimp only; omega), (by try simp only [List.length_append, List.length_take, List.length_cons, List.length_nil, Nat.zero_add, hF2]; exact VS.toA)⟩
      | false =>
       by_cases b2 : n + d > 1000
       ·skip
        refine dwk [(27, .v (.int .i64 ((n + d)))), (28, .v (.bool true))] TOW_ok hnt fun K hK => ?_; refine And.intro auI ?_; refine And.intro auT ?_; refine hK _ _ ?_; clear hK K
        have hF2 : F (j + 1) = true := by rw [hF1, hlg]; rw [Bool.false_or, decide_eq_true_eq]; omega
        refine dwk [(18, .v (.int .i64 (↑(j + 1))))] TOW_ok hnt fun K hK => ?_; refine And.intro auI ?_; refine hK _ _ ?_; clear hK K
        refine ⟨⟨j + 1, hlt, hnx (by omega)⟩, by first | omega | (dsimp only; omega), (by try simp only [List.length_append, List.length_take, List.length_cons, List.length_nil, Nat.zero_add, hF2]; exact VS.toA)⟩
       ·skip
        refine dwk [(27, .v (.int .i64 ((n + d)))), (28, .v (.bool false))] TOW_ok hnt fun K hK => ?_; refine And.intro auI ?_; refine And.intro auF ?_; refine hK _ _ ?_; clear hK K
        have hF2 : F (j + 1) = false := by rw [hF1, hlg]; rw [Bool.false_or, decide_eq_false_iff_not]; omega
        refine dwk [(18, .v (.int .i64 (↑(j + 1))))] TOW_ok hnt fun K hK => ?_; refine And.intro auI ?_; refine hK _ _ ?_; clear hK K
        refine ⟨⟨j + 1, hlt, hnx (by omega)⟩, by first | omega | (dsimp only; omega), (by try simp only [List.length_append, List.length_take, List.length_cons, List.length_nil, Nat.zero_add, hF2]; exact VS.toA)⟩
    ·rw [if_neg (fun h => n0 h.1)] at hsm; refine dw_block ?_; refine dw_seq ?_; refine dwk [(32, .v (.bool false))] TOW_ok hnt fun K hK => ?_; refine And.intro auF ?_; refine hK _ _ ?_; clear hK K; refine dw_cond (t := false) rfl ?_; rw [if_neg (by simp)]; refine dw_seq ?_; refine dwk [(40, .v (.bool true)), (43, .v (.bool true))] TOW_ok hnt fun K hK => ?_; refine And.intro auT ?_; refine And.intro auT ?_
     refine hK _ _ ?_; clear hK K; refine dw_cond (t := true) rfl ?_; rw [if_pos rfl]
     cases lg with
     | true =>
      have hs0 : ¬ Rn.sm n d < 0 := by rw [hsm]; split <;> omega
      refine dwk [] TOW_ok hnt fun K hK => ?_; refine hK _ _ ?_; clear hK K
      have hF2 : F (j + 1) = true := by rw [hF1, hlg]; rfl
      refine dwk [(18, .v (.int .i64 (↑(j + 1))))] TOW_ok hnt fun K hK => ?_; refine And.intro auI ?_; refine hK _ _ ?_; clear hK K
      refine ⟨⟨j + 1, hlt, hnx (by omega)⟩, by first | omega | (dsimp only; omega), (by try simp only [List.length_append, List.length_take, List.length_cons, List.length_nil, Nat.zero_add, hF2]; exact VS.toA)⟩
     | false =>
      by_cases b1 : n > 1000
      ·rw [if_pos ⟨by omega, by omega, .inl b1⟩] at hsm; refine dwk [(48, .v (.bool true))] TOW_ok hnt fun K hK => ?_; refine And.intro auT ?_; refine hK _ _ ?_; clear hK K
       have hF2 : F (j + 1) = true := by rw [hF1, hlg]; rw [Bool.false_or, decide_eq_true_eq]; omega
       refine dwk [(18, .v (.int .i64 (↑(j + 1))))] TOW_ok hnt fun K hK => ?_; refine And.intro auI ?_; refine hK _ _ ?_; clear hK K
       refine ⟨⟨j + 1, hlt, hnx (by omega)⟩, by first | omega | (dsimp only; omega), (by try simp only [List.length_append, List.length_take, List.length_cons, List.length_nil, Nat.zero_add, hF2]; exact VS.toA)⟩
      ·by_cases b2 : d > 1000
       ·rw [if_pos ⟨by omega, by omega, .inr b2⟩] at hsm; refine dwk [(48, .v (.bool false)), (52, .v (.bool true))] TOW_ok hnt fun K hK => ?_; refine And.intro auF ?_; refine And.intro auT ?_; refine hK _ _ ?_; clear hK K
        have hF2 : F (j + 1) = true := by rw [hF1, hlg]; rw [Bool.false_or, decide_eq_true_eq]; omega
        refine dwk [(18, .v (.int .i64 (↑(j + 1))))] TOW_ok hnt fun K hK => ?_; refine And.intro auI ?_; refine hK _ _ ?_; clear hK K
        refine ⟨⟨j + 1, hlt, hnx (by omega)⟩, by first | omega | (dsimp only; omega), (by try simp only [List.length_append, List.length_take, List.length_cons, List.length_nil, Nat.zero_add, hF2]; exact VS.toA)⟩
       ·rw [if_neg (fun h => by omega)] at hsm
        by_cases b3 : n + d > 1000
        ·skip
         refine dwk [(48, .v (.bool false)), (52, .v (.bool false)), (57, .v (.int .i64 ((n + d)))), (58, .v (.bool true))] TOW_ok hnt fun K hK => ?_; refine And.intro auF ?_; refine And.intro auF ?_; refine And.intro auI ?_; refine And.intro auT ?_; refine hK _ _ ?_; clear hK K
         have hF2 : F (j + 1) = true := by rw [hF1, hlg]; rw [Bool.false_or, decide_eq_true_eq]; omega
         refine dwk [(18, .v (.int .i64 (↑(j + 1))))] TOW_ok hnt fun K hK => ?_; refine And.intro auI ?_; refine hK _ _ ?_; clear hK K
         refine ⟨⟨j + 1, hlt, hnx (by omega)⟩, by first | omega | (dsimp only; omega), (by try simp only [List.length_append, List.length_take, List.length_cons, List.length_nil, Nat.zero_add, hF2]; exact VS.toA)⟩
        ·skip
         refine dwk [(48, .v (.bool false)), (52, .v (.bool false)), (57, .v (.int .i64 ((n + d)))), (58, .v (.bool false))] TOW_ok hnt fun K hK => ?_; refine And.intro auF ?_; refine And.intro auF ?_; refine And.intro auI ?_; refine And.intro auF ?_; refine hK _ _ ?_; clear hK K
         have hF2 : F (j + 1) = false := by rw [hF1, hlg]; rw [Bool.false_or, decide_eq_false_iff_not]; omega
         refine dwk [(18, .v (.int .i64 (↑(j + 1))))] TOW_ok hnt fun K hK => ?_; refine And.intro auI ?_; refine hK _ _ ?_; clear hK K
         refine ⟨⟨j + 1, hlt, hnx (by omega)⟩, by first | omega | (dsimp only; omega), (by try simp only [List.length_append, List.length_take, List.length_cons, List.length_nil, Nat.zero_add, hF2]; exact VS.toA)⟩
  ·have hFl : F j = true ↔ ∃ n ∈ Rn.mts t, Rn.sm n d > 1000 := by
    rw [hF]; dsimp only
    rw [List.take_of_length_le (by omega), List.any_eq_true]
    constructor
    ·rintro ⟨n, h1, h2⟩; exact ⟨n, (hmm n).1 h1, of_decide_eq_true h2⟩
    ·rintro ⟨n, h1, h2⟩; exact ⟨n, (hmm n).2 h1, decide_eq_true h2⟩
   have hall : ∀ n ∈ Rn.mts t, ¬ Rn.sm n d < 0 := fun n hn => by
    obtain ⟨i, h1, h2⟩ := List.getElem_of_mem ((hmm n).2 hn)
    have := hno i h1 (by omega)
    rw [h2] at this; exact this
   rw [if_neg (fun ⟨n, h1, h2⟩ => hall n h1 h2)] at hE
   obtain ⟨lg, hlg⟩ : ∃ lg, F j = lg := ⟨_, rfl⟩
   rw [hlg] at hFl ⊢
   cases lg with
   | true =>
    rw [if_pos (hFl.1 rfl)] at hE
    subst hE
    rw [if_neg (by decide), eTm_z]; refine dw_seq ?_; refine dw_seq ?_; refine dwk [(15, .v (.int .i64 (↑l.length))), (16, .v (.bool false))] TOW_ok hnt fun K hK => ?_; refine And.intro (dintE (by rw [eIs_len])) ?_; refine And.intro auF ?_; refine hK _ _ ?_; clear hK K; refine dw_cond (t := false) rfl ?_; rw [if_neg (by simp)]; refine dw_exit ?_; refine dw_seq ?_; refine dw_seq ?_; refine dwk [] TOW_ok hnt fun K hK => ?_
    refine hK _ _ ?_; clear hK K; refine dw_cond (t := true) rfl ?_; rw [if_pos rfl]; refine dw_seq ?_; refine dwk [] TOW_ok hnt fun K hK => ?_; refine hK _ _ ?_; clear hK K; refine dw_ret ?_
    exact reta rfl
   | false =>
    have hno2 : ¬ ∃ n ∈ Rn.mts t, Rn.sm n d > 1000 := fun h => by have := hFl.2 h; cases this
    rw [if_neg hno2] at hE
    subst hE
    have hr := hr fun n hn => ⟨by have := hall n hn; omega, by
     by_cases h : Rn.sm n d > 1000
     ·exact absurd ⟨n, hn, h⟩ hno2
     ·omega⟩
    rw [if_pos rfl]
    rw [eTm_eq, eTm_eq] at hr
    rw [eTm_eq]
    refine dw_seq ?_; refine dw_seq ?_; refine dwk [(15, .v (.int .i64 (↑l.length))), (16, .v (.bool false))] TOW_ok hnt fun K hK => ?_; refine And.intro (dintE (by rw [eIs_len])) ?_; refine And.intro auF ?_; refine hK _ _ ?_; clear hK K; refine dw_cond (t := false) rfl ?_; rw [if_neg (by simp)]; refine dw_exit ?_; refine dw_seq ?_; refine dw_seq ?_; refine dwk [] TOW_ok hnt fun K hK => ?_; refine hK _ _ ?_; clear hK K
    refine dw_cond (t := false) rfl ?_; rw [if_neg (by simp)]; refine dw_skip ?_; refine dw_seq ?_; refine dwk [] TOW_ok hnt fun K hK => ?_; refine dcl (hr) ?_; refine hK _ _ ?_; clear hK K; refine dw_ret ?_
    exact reta rfl
end Go.Proofs.Ytcblpjheoclkeaa

namespace Go.Proofs.Ytcblpjheoclkeaa
open Go.RowKit
def TS2_34 : TI := ⟨4, true, [Value.slice none 0 0, Value.int IntKind.i64 0, Value.int IntKind.i64 0, Value.slice none 0 0], [(0, 1, false), (1, 2, true), (3, 1, false)], none, 64, 6, none, false⟩
theorem TS2_34_ok : TypOk Try.prog 34 TS2_34 := ⟨by kernel_rfl, by kernel_rfl, by kernel_rfl, by kernel_rfl, by kernel_rfl⟩
def TS2_139 : TI := ⟨3, true, [Value.pointer none, Value.slice none 0 0, Value.int IntKind.i64 0], [(0, 1, false), (1, 1, false), (2, 1, false)], none, 40, 6, none, false⟩
theorem TS2_139_ok : TypOk Try.prog 139 TS2_139 := ⟨by kernel_rfl, by kernel_rfl, by kernel_rfl, by kernel_rfl, by kernel_rfl⟩
def TS2_35 : TI := ⟨1, false, [Value.int IntKind.i64 0], [], none, 8, 2, none, false⟩
theorem TS2_35_ok : TypOk Try.prog 35 TS2_35 := ⟨by kernel_rfl, by kernel_rfl, by kernel_rfl, by kernel_rfl, by kernel_rfl⟩
def TS2_3 : TI := ⟨1, false, [Value.int IntKind.i64 0], [], none, 8, 2, none, false⟩
theorem TS2_3_ok : TypOk Try.prog 3 TS2_3 := ⟨by kernel_rfl, by kernel_rfl, by kernel_rfl, by kernel_rfl, by kernel_rfl⟩
def TS2_32 : TI := ⟨1, false, [Value.slice none 0 0], [], some 34, 24, 5, none, false⟩
theorem TS2_32_ok : TypOk Try.prog 32 TS2_32 := ⟨by kernel_rfl, by kernel_rfl, by kernel_rfl, by kernel_rfl, by kernel_rfl⟩
def TS2_30 : TI := ⟨1, false, [Value.slice none 0 0], [], some 83, 24, 5, none, false⟩
theorem TS2_30_ok : TypOk Try.prog 30 TS2_30 := ⟨by kernel_rfl, by kernel_rfl, by kernel_rfl, by kernel_rfl, by kernel_rfl⟩
def TS2_89 : TI := ⟨1, false, [Value.pointer none], [], none, 8, 4, none, false⟩
theorem TS2_89_ok : TypOk Try.prog 89 TS2_89 := ⟨by kernel_rfl, by kernel_rfl, by kernel_rfl, by kernel_rfl, by kernel_rfl⟩
def TS2_31 : TI := ⟨2, true, [Value.int IntKind.i64 0, Value.int IntKind.i64 0], [(0, 1, false), (1, 1, false)], none, 16, 6, none, true⟩
theorem TS2_31_ok : TypOk Try.prog 31 TS2_31 := ⟨by kernel_rfl, by kernel_rfl, by kernel_rfl, by kernel_rfl, by kernel_rfl⟩
def TS2_47 : TI := ⟨1, false, [Value.slice none 0 0], [], some 88, 24, 5, none, false⟩
theorem TS2_47_ok : TypOk Try.prog 47 TS2_47 := ⟨by kernel_rfl, by kernel_rfl, by kernel_rfl, by kernel_rfl, by kernel_rfl⟩
def TS2_137 : TI := ⟨1, false, [Value.pointer none], [], none, 8, 4, none, false⟩
theorem TS2_137_ok : TypOk Try.prog 137 TS2_137 := ⟨by kernel_rfl, by kernel_rfl, by kernel_rfl, by kernel_rfl, by kernel_rfl⟩
def TS2_88 : TI := ⟨5, true, [Value.int IntKind.i64 0, Value.slice none 0 0, Value.int IntKind.i64 0, Value.int IntKind.i64 0, Value.slice none 0 0], [(0, 1, false), (1, 4, true)], none, 72, 6, none, false⟩
theorem TS2_88_ok : TypOk Try.prog 88 TS2_88 := ⟨by kernel_rfl, by kernel_rfl, by kernel_rfl, by kernel_rfl, by kernel_rfl⟩
def TS2_202 : TI := ⟨1, false, [Value.pointer none], [], none, 8, 4, none, false⟩
theorem TS2_202_ok : TypOk Try.prog 202 TS2_202 := ⟨by kernel_rfl, by kernel_rfl, by kernel_rfl, by kernel_rfl, by kernel_rfl⟩
def TS2_83 : TI := ⟨2, true, [Value.slice none 0 0, Value.int IntKind.i64 0], [(0, 1, false), (1, 1, false)], none, 32, 6, none, false⟩
theorem TS2_83_ok : TypOk Try.prog 83 TS2_83 := ⟨by kernel_rfl, by kernel_rfl, by kernel_rfl, by kernel_rfl, by kernel_rfl⟩
def TS2 : List (Nat × TI) := [(34, TS2_34), (139, TS2_139), (35, TS2_35), (3, TS2_3), (32, TS2_32), (30, TS2_30), (89, TS2_89), (31, TS2_31), (47, TS2_47), (137, TS2_137), (88, TS2_88), (202, TS2_202), (83, TS2_83)]
theorem TS2_ok : TabOk Try.prog TS2 := ((((((((((((((TabOk.nil _).cons TS2_83_ok).cons TS2_202_ok).cons TS2_88_ok).cons TS2_137_ok).cons TS2_47_ok).cons TS2_31_ok).cons TS2_89_ok).cons TS2_30_ok).cons TS2_32_ok).cons TS2_3_ok).cons TS2_35_ok).cons TS2_139_ok).cons TS2_34_ok)

def swE (l : List (Int × Tm)) (s : Nm.St) : List (Key × D) := [(.c 0 0, .o 1), (.c 0 1, .sl 5 (ePairs l) none), (.c 0 2, .v (.int .i64 s.e)), (.o 1, .ob (BudJ s.left s.dry))]
theorem replaced_d (l : List (Int × Tm)) (t u : Tm) (s : Nm.St) (h0 : 0 ≤ s.left) (h1 : s.left ≤ 1000000000) (hu : Wide u) (ha : ∀ a ∈ t.args, Wide a)
  (ho : u.binds.length = t.args.length → (Nm.put 100001 u t.args ⟨s.left, s.dry, 0, 0⟩).2.e = 0 → DoneOk (Nm.put 100001 u t.args ⟨s.left, s.dry, 0, 0⟩).1) (he : s.e = 0) :
  CallC Try.prog 109 [.p 0 0, .ag (eTm t), .ag (eTm u)] (swE l s) (swE l (Sb.replaced t u s).2) (.ag (eTm (Sb.replaced t u s).1)) := by
 have hP := Put_d u t.args s.left s.dry h0 h1 hu ha
 obtain ⟨left, dry, count, er⟩ := s
 dsimp only at he h0 h1 ho hP
 subst he
 obtain ⟨bs, k, i, a⟩ := t
 dsimp only [Tm.args] at ho hP ha
 obtain ⟨p, hp⟩ : ∃ p, Sb.replaced (.mk bs k i a) u ⟨left, dry, count, 0⟩ = p := ⟨_, rfl⟩
 rw [hp]
 have hpd := hp.symm
 clear hp
 have hp1 : u.binds.length ≠ a.length → p = (Nm.tz, ⟨left, dry, count, 1⟩) := fun h => hpd.trans (if_pos h)
 have hp2 : u.binds.length = a.length → p = if (Nm.Put u a left dry).2.e ≠ 0 then (Nm.tz, ⟨(Nm.Put u a left dry).2.left, (Nm.Put u a left dry).2.dry, count, (Nm.Put u a left dry).2.e⟩) else (.mk bs (Nm.Put u a left dry).1.kind (Nm.Put u a left dry).1.index (Nm.Put u a left dry).1.args, ⟨(Nm.Put u a left dry).2.left, (Nm.Put u a left dry).2.dry, count, 0⟩) := fun h => hpd.trans (if_neg (fun h' => h' h))
 clear hpd
 obtain ⟨ub, uk, ui, ua⟩ := u
 rw [eTm_eq, eTm_eq (.mk ub uk ui ua)]
 dsimp only [Tm.binds] at hp1 hp2 ho
 refine call_of_dw 2 42 [ResultVar.cell 6 34] TS2_ok (by kernel_rfl) Try.func109 rfl Try.ntmps109 rfl (by simp) ?dwords ?dbody
 case dwords => simp [wordsOk, swE, D.ok, D.oks, rnames, inN, ckey, eTm_ok, eTms_ok, eTys_ok, ePairs_ok]
 case dbody =>
  intro cx hnt hn0
  dsimp only [Tm.binds, Tm.kind, Tm.index, Tm.args]
  refine dw_seq ?_; refine dwk [] TS2_ok hnt fun K hK => ?_; refine hK _ _ ?_; clear hK K; refine dw_seq (dw_seq ?_)
  by_cases hl : ub.length = a.length
  ·have hpd := hp2 hl
   have hP := hP (ho hl)
   obtain ⟨r, hr⟩ : ∃ r, Nm.Put (.mk ub uk ui ua) a left dry = r := ⟨_, rfl⟩
   rw [hr] at hP hpd
   clear hr
   obtain ⟨rt, rs⟩ := r
   dsimp only at hP hpd
   rw [eTm_eq, eTm_eq rt] at hP
   refine dwk [(15, .v (.bool false))] TS2_ok hnt fun K hK => ?_; refine And.intro (VLe.of_eq (by simp [eTys_len, eTms_len, hl])) ?_; refine hK _ _ ?_; clear hK K; refine dw_cond (t := false) rfl ?_; rw [if_neg (by simp)]; refine dw_skip ?_; refine dw_seq ?_; refine dwkD [] TS2_ok hnt fun K hK => ?_; refine dcl (hP) ?_; refine hK _ _ (by kernel_rfl) ?_; clear hK K; refine dw_seq (dw_seq ?_)
   by_cases hre : rs.e = 0
   ·rw [if_neg (by simp [hre])] at hpd
    subst hpd
    refine dwk [(32, .v (.bool false))] TS2_ok hnt fun K hK => ?_; refine And.intro (VLe.of_eq (by simp [hre])) ?_; refine hK _ _ ?_; clear hK K; refine dw_cond (t := false) rfl ?_; rw [if_neg (by simp)]; refine dw_skip ?_; refine dw_seq ?_; refine dwk [] TS2_ok hnt fun K hK => ?_; refine hK _ _ ?_; clear hK K; refine dw_seq ?_; refine dwk [] TS2_ok hnt fun K hK => ?_; refine hK _ _ ?_; clear hK K; refine dw_ret ?_
    rw [eTm_eq]
    exact retv (N := 0) (.inr rfl) rfl (by repeat first | exact VLe.refl _ | exact VLe.nil _ | exact VLe.untag _ _ _ | refine VLe.ag ?_ | refine VLe.tu ?_ | refine VLeL.cons ?_ ?_ | exact VLeL.nil) (by repeat first | exact trivial | refine And.intro rfl ?_)
   ·rw [if_pos hre] at hpd
    subst hpd
    refine dwk [(32, .v (.bool true))] TS2_ok hnt fun K hK => ?_; refine And.intro (VLe.of_eq (by simp [hre])) ?_; refine hK _ _ ?_; clear hK K; refine dw_cond (t := true) rfl ?_; rw [if_pos rfl]; refine dw_seq ?_; refine dwk [] TS2_ok hnt fun K hK => ?_; refine hK _ _ ?_; clear hK K; refine dw_seq ?_; refine dwk [] TS2_ok hnt fun K hK => ?_; refine hK _ _ ?_; clear hK K; refine dw_ret ?_
    rw [tz_eq]
    exact retv (N := 0) (.inr rfl) rfl (by repeat first | exact VLe.refl _ | exact VLe.nil _ | exact VLe.untag _ _ _ | refine VLe.ag ?_ | refine VLe.tu ?_ | refine VLeL.cons ?_ ?_ | exact VLeL.nil) (by repeat first | exact trivial | refine And.intro rfl ?_)
  ·have hpd := hp1 hl
   subst hpd
   refine dwk [(15, .v (.bool true))] TS2_ok hnt fun K hK => ?_; refine And.intro (VLe.of_eq (by simp [eTys_len, eTms_len]; omega)) ?_; refine hK _ _ ?_; clear hK K; refine dw_cond (t := true) rfl ?_; rw [if_pos rfl]; refine dw_seq ?_; refine dwk [] TS2_ok hnt fun K hK => ?_; refine hK _ _ ?_; clear hK K; refine dw_seq ?_; refine dwk [] TS2_ok hnt fun K hK => ?_; refine hK _ _ ?_; clear hK K; refine dw_ret ?_
   rw [tz_eq]
   exact retv (N := 0) (.inr rfl) rfl (by repeat first | exact VLe.refl _ | exact VLe.nil _ | exact VLe.untag _ _ _ | refine VLe.ag ?_ | refine VLe.tu ?_ | refine VLeL.cons ?_ ?_ | exact VLeL.nil) (by repeat first | exact trivial | refine And.intro rfl ?_)
end Go.Proofs.Ytcblpjheoclkeaa

namespace Go.Proofs.Ytcblpjheoclkeaa
open Go.RowKit

def repOk (l : List (Int × Tm)) (k i ins : Int) (q : List Tm × Nm.St) : Prop := k = 2 → q.2.e = 0 → ∀ u, Sb.find l i = some u →
  Wide u ∧ Wide (Nm.lift ins u 0) ∧ (∀ a ∈ q.1, Wide a) ∧ ((Nm.lift ins u 0).binds.length = q.1.length → (Nm.put 100001 (Nm.lift ins u 0) q.1 ⟨q.2.left, q.2.dry, 0, 0⟩).2.e = 0 → DoneOk (Nm.put 100001 (Nm.lift ins u 0) q.1 ⟨q.2.left, q.2.dry, 0, 0⟩).1)
mutual
def thOk (l : List (Int × Tm)) : Tm → Int → Nm.St → Prop
  | .mk b k i a, ins, s => s.e = 0 → (Nm.spend s).1 = true → thOks l a (Nm.wr (ins + b.length)) (Nm.spend s).2 ∧ repOk l k i (Nm.wr (ins + b.length)) (Sb.throughs l a (Nm.wr (ins + b.length)) (Nm.spend s).2)
def thOks (l : List (Int × Tm)) : List Tm → Int → Nm.St → Prop
  | [], _, _ => True
  | t :: r, ins, s => thOk l t ins s ∧ thOks l r ins (Sb.through l t ins s).2
end
def InR (s : Nm.St) : Prop := 0 ≤ s.left ∧ s.left ≤ 1000000000
theorem spend_in {s : Nm.St} (h : InR s) : InR (Nm.spend s).2 := by
  unfold InR at *
  unfold Nm.spend
  split
  · exact ⟨Int.le_refl _, by show (0 : Int) ≤ 1000000000; decide⟩
  · rename_i hc; dsimp only; omega
theorem done_in {p : Tm × Nm.St} (h : InR p.2) : InR (Nm.done p).2 := by
  unfold Nm.done
  dsimp only
  have : InR (if p.2.e = 0 ∧ ¬ (p.1.size ≤ 5000 ∧ p.1.depth ≤ 60) then Nm.fail p.2 2 else p.2) := by
    split
    · unfold Nm.fail; split <;> exact h
    · exact h
  generalize (if p.2.e = 0 ∧ ¬ (p.1.size ≤ 5000 ∧ p.1.depth ≤ 60) then Nm.fail p.2 2 else p.2) = s at this ⊢
  split <;> exact this
theorem Put_in {t : Tm} {xs : List Tm} {left : Int} {dry : Bool} (h : 0 ≤ left ∧ left ≤ 1000000000) : InR (Nm.Put t xs left dry).2 :=
  done_in (putW_wk (through_wk 100001) t xs ⟨left, dry, 0, 0⟩ ⟨h, ⟨Int.le_refl 0, (by decide : (0 : Int) ≤ 100001)⟩, fun _ => (by decide : (0 : Int) ≤ 100000)⟩).left
theorem replaced_in {t u : Tm} {s : Nm.St} (h : InR s) : InR (Sb.replaced t u s).2 := by
  unfold Sb.replaced
  dsimp only
  split
  · exact h
  · have := Put_in (t := u) (xs := t.args) (dry := s.dry) h
    split <;> exact this
theorem seqM_in {g : Tm → Nm.St → Tm × Nm.St} : ∀ (l : List Tm) (hg : ∀ t ∈ l, ∀ s, InR s → InR (g t s).2) (s : Nm.St), InR s → InR (Nm.seqM g l s).2
  | [], _, _, h => h
  | t :: l, hg, s, h => seqM_in l (fun u hu => hg u (by simp [hu])) _ (hg t (by simp) s h)
theorem through_in (l : List (Int × Tm)) : ∀ (t : Tm) (ins : Int) (s : Nm.St), InR s → InR (Sb.through l t ins s).2 := by
  intro t
  induction t using Tm.ind with
  | h bs k i a ih =>
    intro ins s h
    rw [Sb.through]
    dsimp only
    rw [Sb.throughs_seq]
    have hq := seqM_in (g := fun t s => Sb.through l t (Nm.wr (ins + bs.length)) s) a (fun t ht s hs => ih t ht _ s hs) _ (spend_in h)
    split
    · exact h
    · split
      · exact spend_in h
      · split
        · exact hq
        · split
          · exact hq
          · exact replaced_in hq
theorem thOks_at (l : List (Int × Tm)) (ins : Int) : ∀ (a : List Tm) (s : Nm.St), thOks l a ins s → ∀ j (h : j < a.length), thOk l a[j] ins (Nm.seqM (fun t s => Sb.through l t ins s) (a.take j) s).2
  | t :: a, s, h, 0, _ => by rw [thOks] at h; exact h.1
  | t :: a, s, h, j + 1, hj => by
    rw [thOks] at h
    exact thOks_at l ins a _ h.2 j (by simpa using hj)

theorem Sb_find_idx (l : List (Int × Tm)) (m : Int) : Sb.find l m = ((idxOf m l).bind fun i => l[i]?).map (·.2) := by
  rw [find_idx]
  cases idxOf m l <;> rfl
def sthE (l : List (Int × Tm)) (s : Nm.St) (bs : List Ty) (k i : Int) (a : List Tm) (ins : Int) : List (Key × D) :=
  [(.t 0, .p 0 0), (.t 2, .v (.int .i64 ins)), (.t 4, .p 2 0), (.t 6, .p 3 0), (.t 7, .p 26 0), (.c 2 0, .sl 2 (eTys bs) none), (.c 2 1, .v (.int .i64 k)), (.c 2 2, .v (.int .i64 i)), (.c 2 3, .sl 4 (eTms a) none),
   (.c 3 0, .v (.slice none 0 0)), (.c 3 1, .v (.int .i64 0)), (.c 3 2, .v (.int .i64 0)), (.c 3 3, .v (.slice none 0 0)), (.c 26 0, .sl 2 (eTys bs) none), (.c 26 1, .v (.int .i64 k)), (.c 26 2, .v (.int .i64 i)),
   (.c 0 0, .o 1), (.c 0 1, .sl 5 (ePairs l) none), (.c 0 2, .v (.int .i64 s.e)), (.o 1, .ob (BudJ s.left s.dry))]
set_option maxHeartbeats 4000000 in
theorem sthr_d (l : List (Int × Tm)) (hl : l.length ≤ 1000000) : ∀ (t : Tm) (_ : Wide t) (ins : Int) (s : Nm.St), InR s → thOk l t ins s →
  CallC Try.prog 72 [.p 0 0, .ag (eTm t), .v (.int .i64 ins)] (swE l s) (swE l (Sb.through l t ins s).2) (.ag (eTm (Sb.through l t ins s).1)) := by
 intro t
 induction t using Tm.ind with
 | h bs k i a ih =>
 intro ht ins s hs hok
 obtain ⟨w1, w2, w3⟩ := ht.inv
 obtain ⟨p, hp⟩ : ∃ p, Sb.through l (.mk bs k i a) ins s = p := ⟨_, rfl⟩
 rw [Sb.through, Sb.throughs_seq] at hp
 rw [thOk, Sb.throughs_seq] at hok
 obtain ⟨m, hm⟩ : ∃ m, Nm.wr (ins + (bs.length : Int)) = m := ⟨_, rfl⟩
 rw [hm] at hp hok
 have hp' : Sb.through l (.mk bs k i a) ins s = p := by rw [← hp, Sb.through, Sb.throughs_seq, hm]
 rw [hp', eTm_eq]
 have hpd := hp.symm
 dsimp only at hpd
 clear hp hp'
 have hsp := spend_d 1 s hs.1 hs.2
 have hsi := spend_in hs
 have hse := (Nm.spend_keeps s).2
 obtain ⟨g, hg⟩ : ∃ g : Tm → Nm.St → Tm × Nm.St, (fun t s => Sb.through l t m s) = g := ⟨_, rfl⟩
 have hat := thOks_at l m a (Nm.spend s).2
 rw [hg] at hpd hok hat
 obtain ⟨left, dry, count, er⟩ := s
 dsimp only at hsp hsi hse hpd hok hat
 refine call_of_dw 2 86 [ResultVar.cell 6 34] TS2_ok (by kernel_rfl) Try.func72 rfl Try.ntmps72 rfl (by simp) ?dwords ?dbody
 case dwords => simp [wordsOk, swE, D.ok, D.oks, rnames, inN, ckey, eTm_ok, eTms_ok, eTys_ok, ePairs_ok]
 case dbody =>
  intro cx hnt hn0
  dsimp only [Tm.binds, Tm.kind, Tm.index, Tm.args]
  refine dw_seq ?_; refine dwk [] TS2_ok hnt fun K hK => ?_; refine hK _ _ ?_; clear hK K; refine dw_seq (dw_seq ?_)
  by_cases he : er = 0
  ·subst he
   refine dwk [(15, .v (.bool false))] TS2_ok hnt fun K hK => ?_; refine And.intro (VLe.refl _) ?_; refine hK _ _ ?_; clear hK K; refine dw_cond (t := false) rfl ?_; rw [if_neg (by simp)]; refine dw_skip ?_; rw [if_neg (by simp)] at hpd; refine dw_seq (dw_seq ?_)
   obtain ⟨sp, hspq⟩ : ∃ sp, Nm.spend ⟨left, dry, count, 0⟩ = sp := ⟨_, rfl⟩
   rw [hspq] at hsp hsi hse hpd hok hat
   clear hspq
   obtain ⟨b, s1⟩ := sp
   dsimp only at hsp hsi hse hpd hok hat
   cases b with
   | false =>
    rw [if_pos rfl] at hpd
    subst hpd
    refine dwk [] TS2_ok hnt fun K hK => ?_; refine dcl (hsp) ?_; refine hK _ _ ?_; clear hK K; refine dw_cond (t := true) rfl ?_; rw [if_pos rfl]; refine dw_seq ?_; refine dwk [] TS2_ok hnt fun K hK => ?_; refine hK _ _ ?_; clear hK K; refine dw_seq ?_; refine dwk [] TS2_ok hnt fun K hK => ?_; refine hK _ _ ?_; clear hK K; refine dw_ret ?_
    rw [tz_eq]
    exact retv (N := 0) (.inr rfl) rfl (by repeat first | exact VLe.refl _ | exact VLe.nil _ | exact VLe.untag _ _ _ | refine VLe.ag ?_ | refine VLe.tu ?_ | refine VLeL.cons ?_ ?_ | exact VLeL.nil) (by repeat first | exact trivial | refine And.intro rfl ?_)
   | true =>
    rw [if_neg (by simp)] at hpd
    obtain ⟨hok1, hok2⟩ := hok rfl rfl
    have hat := hat hok1
    clear hok hok1
    refine dwk [] TS2_ok hnt fun K hK => ?_; refine dcl (hsp) ?_; refine hK _ _ ?_; clear hK K; refine dw_cond (t := false) rfl ?_; rw [if_neg (by simp)]; refine dw_skip ?_; refine dw_seq ?_; refine dwk [(31, .v (.int .i64 m))] TS2_ok hnt fun K hK => ?_; refine And.intro (VLe.of_eq (by rw [eTys_len, ← wr_wrap, hm])) ?_; refine hK _ _ ?_; clear hK K
    refine dw_cut (τ := (.c 26 3, .v (.slice none 0 0)) :: sthE l ⟨s1.left, s1.dry, s1.count, 0⟩ bs k i a m) (N1 := 27) ?_ ?_
    ·skip
     refine dwk [] TS2_ok hnt fun K hK => ?_; refine hK _ _ ?_; clear hK K
     exact cut_ok VS.toA
    ·have hs1 : (⟨s1.left, s1.dry, s1.count, 0⟩ : Nm.St) = s1 := by rw [← hse]
     rw [hs1]
     dsimp only [sthE]
     refine dw_seq ?_; refine dw_seq ?_; refine dwk [(39, .v (.int .i64 a.length))] TS2_ok hnt fun K hK => ?_; refine And.intro (dintE (by rw [eTms_len])) ?_; refine hK _ _ ?_; clear hK K; refine dw_block ?_
     refine dw_loop (ι := Nat) (fun j => (.t 38, .sl 4 (eTms a) none) :: (.t 39, .v (.int .i64 a.length)) :: (.t 40, .v (.int .i64 j)) :: (.c 26 3, .sl 4 (eTms (Nm.seqM g (a.take j) s1).1) (some 31)) :: (.r 31, .rw 34 4 j) :: sthE l (Nm.seqM g (a.take j) s1).2 bs k i a m) 32 (fun j => a.length - j) 0 (VS.trans (VS.row (k := 26) (off := 3) 34 4 rfl) VS.toA) fun j => ?_
     dsimp only [sthE]
     have hst : InR (Nm.seqM g (a.take j) s1).2 := seqM_in _ (fun t _ s h => by rw [← hg]; exact through_in l t m s h) _ hsi
     have hll : (Nm.seqM g (a.take j) s1).1.length = (a.take j).length := Nm.seqM_length ..
     refine dw_seq ?_
     by_cases hlt : j < a.length
     ·have hcon := ih a[j] (List.getElem_mem hlt) (w3 _ (List.getElem_mem hlt)) m (Nm.seqM g (a.take j) s1).2 hst (hat j hlt)
      have hg2 : Sb.through l a[j] m (Nm.seqM g (a.take j) s1).2 = g a[j] (Nm.seqM g (a.take j) s1).2 := by rw [← hg]
      rw [hg2] at hcon
      have hsq := Nm.seqM_take g a j hlt s1
      rw [eTm_eq, eTm_eq] at hcon
      refine dwk [(41, .v (.bool true))] TS2_ok hnt fun K hK => ?_; refine And.intro (dtrue (by omega)) ?_; refine hK _ _ ?_; clear hK K; refine dw_seq (dw_cond (t := true) rfl ?_); rw [if_pos rfl]; refine dw_skip (dw_seq (dw_block (dw_seq ?_))); refine dwk [(42, .q [.sl 2 (eTys a[j].binds) none, .v (.int .i64 a[j].kind), .v (.int .i64 a[j].index), .sl 4 (eTms a[j].args) none])] TS2_ok hnt fun K hK => ?_
      refine And.intro (⟨by omega, by rw [eTms_len]; omega⟩) ?_; refine And.intro (VLe.of_eq (by rw [Int.toNat_natCast, eTms_getD a j hlt, eTm_eq])) ?_; refine hK _ _ ?_; clear hK K; refine dwkD [(51, .sl 4 (eTms (Nm.seqM g (a.take (j + 1)) s1).1) (some 31))] TS2_ok hnt fun K hK => ?_; refine dcl (hcon) ?_; refine And.intro (⟨by rw [eTms_len, hll, List.length_take]; omega, by rw [eTms_len, hll, List.length_take]; simp; omega⟩) ?_
      refine And.intro (VLe.of_eq (by rw [hsq, eTms_append, eTms, eTms, eTm_eq (g a[j] _).1])) ?_; refine hK _ _ (by kernel_rfl) ?_; clear hK K; refine dwk [(53, .v (.int .i64 ((j + 1 : Nat) : Int)))] TS2_ok hnt fun K hK => ?_; refine And.intro (dintE (by rw [IntWalk.i64_in _ (by omega)]; omega)) ?_; refine hK _ _ ?_; clear hK K
      refine ⟨j + 1, by omega, ?_⟩
      have hl2 : (eTms (Nm.seqM g (a.take j) s1).1).length = j := by rw [eTms_len, hll, List.length_take]; omega
      rw [hsq]
      exact (by try simp only [List.length_append, List.length_take, List.length_cons, List.length_nil, Nat.zero_add, hl2]; exact VS.toA)
     ·rw [List.take_of_length_le (by omega)] at hst hll ⊢
      obtain ⟨q, hq⟩ : ∃ q, Nm.seqM g a s1 = q := ⟨_, rfl⟩
      rw [hq] at hst hll hpd hok2 ⊢
      clear hq
      obtain ⟨as', s2⟩ := q
      dsimp only at hst hll hpd hok2 ⊢
      have hen := eTms_len as'
      obtain ⟨left, dry, count, er⟩ := s2
      dsimp only at hst hpd hok2 ⊢
      refine dwk [(41, .v (.bool false))] TS2_ok hnt fun K hK => ?_; refine And.intro (dfalse (by omega)) ?_; refine hK _ _ ?_; clear hK K; refine dw_seq (dw_cond (t := false) rfl ?_); rw [if_neg (by simp)]; refine dw_exit ?_; refine dw_seq ?_; refine dw_seq ?_
      by_cases hk : k ≠ 2
      ·rw [if_pos (.inl hk)] at hpd
       subst hpd
       refine dwk [(57, .v (.bool true))] TS2_ok hnt fun K hK => ?_; refine And.intro (VLe.of_eq (by simp [hk])) ?_; refine hK _ _ ?_; clear hK K; refine dw_cond (t := true) rfl ?_; rw [if_pos rfl]; refine dw_seq ?_; refine dwk [] TS2_ok hnt fun K hK => ?_; refine hK _ _ ?_; clear hK K; refine dw_ret ?_
       rw [eTm_eq]
       exact retv (N := 0) (.inr rfl) rfl (by repeat first | exact VLe.refl _ | exact VLe.nil _ | exact VLe.untag _ _ _ | refine VLe.ag ?_ | refine VLe.tu ?_ | refine VLeL.cons ?_ ?_ | exact VLeL.nil) (by repeat first | exact trivial | refine And.intro rfl ?_)
      ·have hk : k = 2 := by simpa using hk
       by_cases her : er ≠ 0
       ·rw [if_pos (.inr her)] at hpd
        subst hpd
        refine dwk [(57, .v (.bool false)), (63, .v (.bool true))] TS2_ok hnt fun K hK => ?_; refine And.intro (VLe.of_eq (by simp [hk])) ?_; refine And.intro (VLe.of_eq (by simp [her])) ?_; refine hK _ _ ?_; clear hK K; refine dw_cond (t := true) rfl ?_; rw [if_pos rfl]; refine dw_seq ?_; refine dwk [] TS2_ok hnt fun K hK => ?_; refine hK _ _ ?_; clear hK K; refine dw_ret ?_
        rw [eTm_eq]
        exact retv (N := 0) (.inr rfl) rfl (by repeat first | exact VLe.refl _ | exact VLe.nil _ | exact VLe.untag _ _ _ | refine VLe.ag ?_ | refine VLe.tu ?_ | refine VLeL.cons ?_ ?_ | exact VLeL.nil) (by repeat first | exact trivial | refine And.intro rfl ?_)
       ·have her : er = 0 := by simpa using her
        rw [if_neg (fun h => h.elim (fun h => h hk) fun h => h her)] at hpd
        subst her
        have hok2 := hok2 hk rfl
        have hfind := sfind_d l hl i
        rw [Sb_find_idx] at hpd hok2
        refine dwk [(57, .v (.bool false)), (63, .v (.bool false))] TS2_ok hnt fun K hK => ?_; refine And.intro (VLe.of_eq (by simp [hk])) ?_; refine And.intro (VLe.refl _) ?_; refine hK _ _ ?_; clear hK K; refine dw_cond (t := false) rfl ?_; rw [if_neg (by simp)]; refine dw_skip ?_; refine dw_seq ?_
        cases hx : (idxOf i l).bind fun i => l[i]? with
        | none =>
         rw [hx] at hfind hpd
         dsimp only at hfind
         simp only [Option.map_none] at hpd
         subst hpd
         refine dwkD [] TS2_ok hnt fun K hK => ?_; refine dcl (hfind) ?_; refine hK _ _ (by kernel_rfl) ?_; clear hK K; refine dw_seq (dw_seq ?_); refine dwk [] TS2_ok hnt fun K hK => ?_; refine hK _ _ ?_; clear hK K; refine dw_cond (t := true) rfl ?_; rw [if_pos rfl]; refine dw_seq ?_; refine dwk [] TS2_ok hnt fun K hK => ?_; refine hK _ _ ?_; clear hK K; refine dw_ret ?_
         rw [eTm_eq]
         exact retv (N := 0) (.inr rfl) rfl (by repeat first | exact VLe.refl _ | exact VLe.nil _ | exact VLe.untag _ _ _ | refine VLe.ag ?_ | refine VLe.tu ?_ | refine VLeL.cons ?_ ?_ | exact VLeL.nil) (by repeat first | exact trivial | refine And.intro rfl ?_)
        | some pr =>
         rw [hx] at hfind hpd hok2
         simp only [Option.map_some] at hpd hok2
         obtain ⟨o1, o2, o3, o4⟩ := hok2 pr.2 rfl
         have hgr := grown_d pr.2 o1 m 0
         obtain ⟨v, hv⟩ : ∃ v, Nm.lift m pr.2 0 = v := ⟨_, rfl⟩
         rw [hv] at hpd hgr o2 o4
         have hrep := replaced_d l (.mk bs k i as') v ⟨left, dry, count, 0⟩ hst.1 hst.2 o2 o3 o4 rfl
         rw [← hpd] at hrep
         dsimp only at hfind
         rw [ePair_eq] at hfind
         rw [eTm_eq, eTm_eq] at hgr
         rw [eTm_eq, eTm_eq, eTm_eq] at hrep
         refine dwkD [] TS2_ok hnt fun K hK => ?_; refine dcl (hfind) ?_; refine hK _ _ (by kernel_rfl) ?_; clear hK K; refine dw_seq (dw_seq ?_); refine dwk [] TS2_ok hnt fun K hK => ?_; refine hK _ _ ?_; clear hK K; refine dw_cond (t := false) rfl ?_; rw [if_neg (by simp)]; refine dw_skip ?_; refine dw_seq ?_; refine dwkD [(78, .ag [.sl 2 (eTys bs) none, .v (.int .i64 k), .v (.int .i64 i), .sl 4 (eTms as') none])] TS2_ok hnt fun K hK => ?_
         refine And.intro (auV) ?_; refine dcl (hgr) ?_; refine dcl (hrep) ?_; refine hK _ _ (by kernel_rfl) ?_; clear hK K; refine dw_ret ?_
         rw [eTm_eq]
         exact retv (N := 0) (.inr rfl) rfl (by repeat first | exact VLe.refl _ | exact VLe.nil _ | exact VLe.untag _ _ _ | refine VLe.ag ?_ | refine VLe.tu ?_ | refine VLeL.cons ?_ ?_ | exact VLeL.nil) (by repeat first | exact trivial | refine And.intro rfl ?_)
  ·rw [if_pos he] at hpd
   subst hpd
   refine dwk [(15, .v (.bool true))] TS2_ok hnt fun K hK => ?_; refine And.intro (VLe.of_eq (by simp [he])) ?_; refine hK _ _ ?_; clear hK K; refine dw_cond (t := true) rfl ?_; rw [if_pos rfl]; refine dw_seq ?_; refine dwk [] TS2_ok hnt fun K hK => ?_; refine hK _ _ ?_; clear hK K; refine dw_ret ?_
   rw [tz_eq]
   exact retv (N := 0) (.inr rfl) rfl (by repeat first | exact VLe.refl _ | exact VLe.nil _ | exact VLe.untag _ _ _ | refine VLe.ag ?_ | refine VLe.tu ?_ | refine VLeL.cons ?_ ?_ | exact VLeL.nil) (by repeat first | exact trivial | refine And.intro rfl ?_)
end Go.Proofs.Ytcblpjheoclkeaa

