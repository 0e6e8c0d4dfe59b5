/-
  Indexes that grow, and back: plain law.
-/
import Derived.Test.YtejpgifofkiofaaShiftLaw
namespace Go.Proofs.Ytejpgifofkiofaa
open Go.RowKit

namespace Tm
theorem fulls_mapls_of (v : Int → Int) {l : List Tm} (h : ∀ t ∈ l, ∀ n, (mapl v t n).full = t.full) : ∀ n, fulls (mapls v l n) = fulls l := by
  induction l with
  | nil => intro n; simp [mapls]
  | cons t l ih => intro n; simp [mapls, fulls, h t (by simp) n, ih (fun u hu => h u (by simp [hu])) n]
theorem full_mapl (v : Int → Int) (t : Tm) : ∀ n, (mapl v t n).full = t.full := by
  induction t using Tm.ind with
  | h b k i a ih => intro n; rw [mapl_eq v b k i a n _ rfl, full_eq, full_eq, fulls_mapls_of v ih]

theorem loosess_mapls_of (v : Int → Int) {l : List Tm} (h : ∀ t ∈ l, ∀ n, (∀ x ∈ looses t n, 0 ≤ v x) → looses (mapl v t n) n = (looses t n).map v) : ∀ n, (∀ x ∈ loosess l n, 0 ≤ v x) → loosess (mapls v l n) n = (loosess l n).map v := by
  induction l with
  | nil => intro n _; simp [mapls, loosess]
  | cons t l ih =>
    intro n hx
    simp only [loosess, List.mem_append] at hx
    rw [mapls, loosess, loosess, h t (by simp) n fun x hx' => hx x (.inl hx'), ih (fun u hu => h u (by simp [hu])) n fun x hx' => hx x (.inr hx'), List.map_append]
theorem looses_mapl (v : Int → Int) (t : Tm) : ∀ n, (∀ x ∈ looses t n, 0 ≤ v x) → looses (mapl v t n) n = (looses t n).map v := by
  induction t using Tm.ind with
  | h b k i a ih =>
    intro n hx
    obtain ⟨m, hm⟩ : ∃ m : Int, n + (b.length : Int) = m := ⟨_, rfl⟩
    rw [looses_eq b k i a n m hm] at hx
    rw [mapl_eq v b k i a n m hm, looses_eq b k _ _ n m hm, looses_eq b k i a n m hm, loosess_mapls_of v ih m fun x hx' => hx x (List.mem_append.2 (.inr hx')), List.map_append]
    congr 1
    by_cases hc : k = 0 ∧ m ≤ i
    · rw [if_pos hc] at hx
      have h0 := hx (i - m) (by simp)
      rw [if_pos hc, if_pos hc, if_pos ⟨hc.1, by omega⟩]
      simp
      omega
    · simp only [if_neg hc]
      rfl

theorem mapls_mapls_of (u v : Int → Int) {l : List Tm} (h : ∀ t ∈ l, ∀ n, (∀ x ∈ looses t n, 0 ≤ v x) → mapl u (mapl v t n) n = mapl (fun x => u (v x)) t n) : ∀ n, (∀ x ∈ loosess l n, 0 ≤ v x) → mapls u (mapls v l n) n = mapls (fun x => u (v x)) l n := by
  induction l with
  | nil => intro n _; simp [mapls]
  | cons t l ih =>
    intro n hx
    simp only [loosess, List.mem_append] at hx
    rw [mapls, mapls, mapls, h t (by simp) n fun x hx' => hx x (.inl hx'), ih (fun u hu => h u (by simp [hu])) n fun x hx' => hx x (.inr hx')]
theorem mapl_mapl (u v : Int → Int) (t : Tm) : ∀ n, (∀ x ∈ looses t n, 0 ≤ v x) → mapl u (mapl v t n) n = mapl (fun x => u (v x)) t n := by
  induction t using Tm.ind with
  | h b k i a ih =>
    intro n hx
    obtain ⟨m, hm⟩ : ∃ m : Int, n + (b.length : Int) = m := ⟨_, rfl⟩
    rw [looses_eq b k i a n m hm] at hx
    rw [mapl_eq v b k i a n m hm, mapl_eq u b k _ _ n m hm, mapl_eq _ b k i a n m hm, mapls_mapls_of u v ih m fun x hx' => hx x (List.mem_append.2 (.inr hx'))]
    by_cases hc : k = 0 ∧ m ≤ i
    · rw [if_pos hc] at hx
      have h0 := hx (i - m) (by simp)
      rw [if_pos hc, if_pos hc, if_pos ⟨hc.1, by omega⟩, show m + v (i - m) - m = v (i - m) by omega]
    · rw [if_neg hc, if_neg hc, if_neg hc]

theorem mapls_id_of (v : Int → Int) {l : List Tm} (h : ∀ t ∈ l, ∀ n, (∀ x ∈ looses t n, v x = x) → mapl v t n = t) : ∀ n, (∀ x ∈ loosess l n, v x = x) → mapls v l n = l := by
  induction l with
  | nil => intro n _; simp [mapls]
  | cons t l ih =>
    intro n hx
    simp only [loosess, List.mem_append] at hx
    rw [mapls, h t (by simp) n fun x hx' => hx x (.inl hx'), ih (fun u hu => h u (by simp [hu])) n fun x hx' => hx x (.inr hx')]
theorem mapl_id (v : Int → Int) (t : Tm) : ∀ n, (∀ x ∈ looses t n, v x = x) → mapl v t n = t := by
  induction t using Tm.ind with
  | h b k i a ih =>
    intro n hx
    obtain ⟨m, hm⟩ : ∃ m : Int, n + (b.length : Int) = m := ⟨_, rfl⟩
    rw [looses_eq b k i a n m hm] at hx
    rw [mapl_eq v b k i a n m hm, mapls_id_of v ih m fun x hx' => hx x (List.mem_append.2 (.inr hx'))]
    by_cases hc : k = 0 ∧ m ≤ i
    · rw [if_pos hc] at hx
      rw [if_pos hc, hx (i - m) (by simp), show m + (i - m) = i by omega]
    · rw [if_neg hc]

theorem mapl_fit (v : Int → Int) (t : Tm) : ∀ n : Int, t.Fit → 0 ≤ n → n + t.full ≤ 90000 → (∀ x ∈ looses t n, 0 ≤ v x ∧ (v x ≤ 1000 ∨ v x ≤ x)) → (mapl v t n).Fit := by
  induction t using Tm.ind with
  | h b k i a ih =>
    intro n hf hn hsz hx
    obtain ⟨h1, h2, h3⟩ := fit_iff.1 hf
    obtain ⟨m, hm⟩ : ∃ m : Int, n + (b.length : Int) = m := ⟨_, rfl⟩
    rw [looses_eq b k i a n m hm] at hx
    rw [full_eq] at hsz
    have hbl := Ty.le_sizes b
    rw [mapl_eq v b k i a n m hm]
    have hargs : ∀ (l : List Tm), (∀ t ∈ l, t ∈ a) → (∀ x ∈ loosess l m, 0 ≤ v x ∧ (v x ≤ 1000 ∨ v x ≤ x)) → ∀ t ∈ mapls v l m, t.Fit := by
      intro l
      induction l with
      | nil => intro _ _ t ht; simp [mapls] at ht
      | cons u l ihl =>
        intro hl hxl t ht
        simp only [loosess, List.mem_append] at hxl
        rw [mapls] at ht
        rcases List.mem_cons.1 ht with rfl | ht
        · exact ih u (hl u (by simp)) m (h3 u (hl u (by simp))) (by omega) (by have := full_mem (hl u (by simp)); omega) fun x hx' => hxl x (.inl hx')
        · exact ihl (fun t ht => hl t (by simp [ht])) (fun x hx' => hxl x (.inr hx')) t ht
    refine fit_iff.2 ⟨?_, ?_, hargs a (fun _ h => h) fun x hx' => hx x (List.mem_append.2 (.inr hx'))⟩
    · split
      · rename_i hc
        have := hx (i - m) (List.mem_append.2 (.inl (by rw [if_pos hc]; simp)))
        omega
      · exact h1
    · split
      · rename_i hc
        have := hx (i - m) (List.mem_append.2 (.inl (by rw [if_pos hc]; simp)))
        omega
      · exact h2
end Tm

theorem shiftCode_zero {b f : Int} {l : List Int} (h : shiftCode b f l = 0) : ∀ x ∈ l, ¬ argBad b f x ∧ ¬ longBad b f x := by
  intro x hx
  unfold shiftCode at h
  by_cases h1 : ∃ x ∈ l, argBad b f x
  · rw [if_pos h1] at h; cases h
  · rw [if_neg h1] at h
    by_cases h2 : ∃ x ∈ l, longBad b f x
    · rw [if_pos h2] at h; cases h
    · exact ⟨fun h => h1 ⟨x, hx, h⟩, fun h => h2 ⟨x, hx, h⟩⟩
theorem shiftCode_of {b f : Int} {l : List Int} (h : ∀ x ∈ l, ¬ argBad b f x ∧ ¬ longBad b f x) : shiftCode b f l = 0 := by
  unfold shiftCode
  rw [if_neg (fun ⟨x, hx, h'⟩ => (h x hx).1 h'), if_neg (fun ⟨x, hx, h'⟩ => (h x hx).2 h')]
theorem shiftCode_ne (b f : Int) (l : List Int) : shiftCode b f l = 0 ∨ shiftCode b f l = 1 ∨ shiftCode b f l = 2 := by
  unfold shiftCode; split
  · simp
  · split <;> simp

theorem Tm.shift_zero {t : Tm} {b f : Int} (h : (t.shift b f).2 = 0) : 0 ≤ f ∧ (∀ x ∈ t.looses 0, ¬ argBad b f x ∧ ¬ longBad b f x) ∧ (t.shift b f).1 = t.mapl (grow b f) 0 := by
  by_cases hf : f < 0
  · rw [Tm.shift, if_pos hf] at h; cases h
  · by_cases hc : shiftCode b f (t.looses 0) = 0
    · exact ⟨by omega, shiftCode_zero hc, by rw [Tm.shift, if_neg hf, if_pos hc]⟩
    · rw [Tm.shift, if_neg hf, if_neg hc] at h; exact absurd h hc
theorem grow_ok {b f x : Int} (hx : 0 ≤ x) (hf : 0 ≤ f) (h1 : ¬ argBad b f x) (h2 : ¬ longBad b f x) : 0 ≤ grow b f x ∧ (grow b f x ≤ 1000 ∨ grow b f x ≤ x) := by
  unfold grow; unfold argBad at h1; unfold longBad at h2
  split <;> omega
theorem Tm.shift_code (t : Tm) (b f : Int) : 0 ≤ (t.shift b f).2 ∧ (t.shift b f).2 ≤ 2 := by
  unfold Tm.shift
  split
  · simp
  · split
    · simp
    · rcases shiftCode_ne b f (t.looses 0) with h | h | h <;> simp [h]
/-- there and back -/
theorem Tm.shift_back {t : Tm} {b f : Int} (h : (t.shift b f).2 = 0) (hb : 0 ≤ b) (hb1 : b ≤ 9223372036854775807) : (t.shift b f).1.shift (-b) f = (t, 0) := by
  obtain ⟨hf, ha, he⟩ := Tm.shift_zero h
  have hnn := Tm.looses_nonneg t 0
  have hg : ∀ x ∈ t.looses 0, 0 ≤ grow b f x := fun x hx => (grow_ok (hnn x hx) hf (ha x hx).1 (ha x hx).2).1
  have hl := Tm.looses_mapl (grow b f) t 0 hg
  have hm := Tm.mapl_mapl (grow (-b) f) (grow b f) t 0 hg
  rw [he, Tm.shift, if_neg (by omega), hl, if_pos, hm, Tm.mapl_id]
  · intro x _
    unfold grow
    split
    · rename_i h; simp [h]
    · rw [if_neg (by omega)]; omega
  · refine shiftCode_of fun y hy => ?_
    obtain ⟨x, hx, rfl⟩ := List.mem_map.1 hy
    obtain ⟨h1, h2⟩ := ha x hx
    have h0 := hnn x hx
    unfold argBad at h1 ⊢; unfold longBad at h2 ⊢; unfold grow
    constructor
    · rintro ⟨_, h4⟩
      split at h4 <;> omega
    · rintro ⟨h3, h4⟩
      split at h3 <;> split at h4 <;> omega
/-- what Shift hands back is as large, and its indexes fit -/
theorem Tm.shift_fit {t : Tm} {b f : Int} (hfit : t.Fit) (hsz : t.full ≤ 80000) : (t.shift b f).1.Fit ∧ (t.shift b f).1.full ≤ t.full := by
  by_cases h : (t.shift b f).2 = 0
  · obtain ⟨hf, ha, he⟩ := Tm.shift_zero h
    rw [he]
    exact ⟨Tm.mapl_fit _ t 0 hfit (by omega) (by omega) fun x hx => grow_ok (Tm.looses_nonneg t 0 x hx) hf (ha x hx).1 (ha x hx).2, by rw [Tm.full_mapl]; omega⟩
  · have hz : (t.shift b f).1 = Tm.zero := by
      unfold Tm.shift at h ⊢
      by_cases hf : f < 0
      · rw [if_pos hf]
      · rw [if_neg hf] at h ⊢
        by_cases hc : shiftCode b f (t.looses 0) = 0
        · rw [if_pos hc] at h; exact absurd rfl h
        · rw [if_neg hc]
    rw [hz]
    have := Tm.full_pos t
    exact ⟨Tm.fit_iff.2 ⟨by omega, by omega, by simp⟩, by simpa [Tm.zero, Tm.full, Tm.fulls, Ty.sizes] using this⟩
end Go.Proofs.Ytejpgifofkiofaa
