/-
  The plain law behind QueueOnce: what was put and not dropped is what is taken. The law QueueOnce, stepped through.
-/
import Derived.Test.YtplfbdkljnblmaaRowQOncep12
import Derived.Deep.OwnRows
import Derived.Maps.RangeWalk
set_option linter.unusedVariables false
set_option linter.unusedSimpArgs false
namespace Go.Proofs.Ytplfbdkljnblmaa
open Go.RowKit

def ent (ws : Nat → Int) (j : Nat) : Ent := ⟨j, ws j, j⟩
def bools (f : Nat → Bool) (k : Nat) : Array Value := ((List.range k).map fun i => Value.bool (f i)).toArray
theorem bools_get {f : Nat → Bool} {k i : Nat} (h : i < k) : (bools f k)[i]? = some (.bool (f i)) := by simp [bools, h]
theorem bools_set {f : Nat → Bool} {k i : Nat} (b : Bool) : (bools f k).setIfInBounds i (.bool b) = bools (fun j => if j = i then b else f j) k := by
  apply Array.ext_getElem?
  intro j
  rw [Array.getElem?_setIfInBounds]
  unfold bools
  by_cases hj : j < k
  · by_cases he : i = j
    · subst he; simp [hj]
    · simp [hj, he, Ne.symm he, fun e : j = i => he e.symm]
  · by_cases he : i = j
    · subst he; simp [hj]
    · simp [hj, he]

structure Puts (per : Int) (ws : Nat → Int) (i : Nat) (s : QS) : Prop where
  hper : s.period = per
  tak : s.taken = 0
  put : s.put = i
  L : s.L = (List.range i).map (ent ws)
theorem findK_range (ws : Nat → Int) (i : Nat) (k : Int) : findK ((List.range i).map (ent ws)) k = if 0 ≤ k ∧ k < i then some (ent ws k.toNat) else none := by
  induction i with
  | zero =>
    rw [if_neg (by omega)]; rfl
  | succ i ih =>
    rw [List.range_succ, List.map_append, List.map_cons, List.map_nil, MapOf.findK_append, ih]
    by_cases h1 : 0 ≤ k ∧ k < i
    · have h3 : 0 ≤ k ∧ k < ((i + 1 : Nat) : Int) := by omega
      rw [if_pos h1, if_pos h3]; rfl
    · rw [if_neg h1, Option.none_or]
      by_cases h2 : (i : Int) = k
      · have h3 : 0 ≤ k ∧ k < ((i + 1 : Nat) : Int) := by omega
        rw [if_pos (show (ent ws i).key = k from h2), if_pos h3]
        rw [← h2]; simp
      · have h3 : ¬ (0 ≤ k ∧ k < ((i + 1 : Nat) : Int)) := by omega
        rw [if_neg (show ¬ (ent ws i).key = k from h2), if_neg h3]
theorem Puts.step {per : Int} {ws : Nat → Int} {i : Nat} {s : QS} (h : Puts per ws i s) (hi : i ≤ 100) {e : Ending} {s' : QS} (hp : PutRes s i (ws i) e s') : e = .returned (.int .i64 0) ∧ Puts per ws (i + 1) s' := by
  obtain ⟨h1, rfl⟩ := put_new hp (fun x hx e => by
    rw [h.L] at hx
    obtain ⟨j, hj, rfl⟩ := List.mem_map.1 hx
    simp [ent] at e hj
    omega) (by rw [h.L]; simp; omega)
  refine ⟨h1, ⟨h.hper, h.tak, by show s.put + 1 = _; rw [h.put], ?_⟩⟩
  show s.L ++ [_] = _
  rw [h.L, h.put, List.range_succ, List.map_append]; rfl
theorem Puts.again {per : Int} {ws : Nat → Int} {i : Nat} {s : QS} (h : Puts per ws (i + 1) s) {e : Ending} {s' : QS} (hp : PutRes s i 0 e s') : e = .returned (.int .i64 4) ∧ s' = s := by
  have hf : findK s.L (i : Int) = some (ent ws i) := by rw [h.L, findK_range, if_pos (by omega)]; simp
  rcases hp with ⟨_, h1, h2⟩ | ⟨h1, _⟩ | ⟨h1, _⟩
  · exact ⟨h1, h2⟩
  · rw [hf] at h1; cases h1
  · rw [hf] at h1; cases h1

structure Left (ws : Nat → Int) (k : Nat) (f : Nat → Bool) (s : QS) : Prop where
  tak : 0 ≤ s.taken ∧ s.taken + s.L.length ≤ 100
  el : ∀ e ∈ s.L, ∃ j, j < k ∧ e = ent ws j
  f : ∀ j, j < k → f j = (findK s.L j).isSome
theorem findK_drops (l : List Int) : ∀ (s : QS) (n : Nat) (k : Int), findK (l.foldl dr (s, n)).1.L k = if k ∈ l then none else findK s.L k := by
  induction l with
  | nil => intro s n k; simp
  | cons x l ih =>
    intro s n k
    simp only [List.foldl_cons]
    show findK (l.foldl dr (s.gone x, _)).1.L k = _
    rw [ih]
    show (if k ∈ l then none else findK (MapOf.less s.L x) k) = _
    rw [MapOf.findK_less]
    by_cases h1 : k = x <;> by_cases h2 : k ∈ l <;> simp [h1, h2] <;> (subst h1; simp [h2])
theorem drops_sub (l : List Int) : ∀ (s : QS) (n : Nat), (∀ e ∈ (l.foldl dr (s, n)).1.L, e ∈ s.L) ∧ (l.foldl dr (s, n)).1.taken = s.taken ∧ (l.foldl dr (s, n)).1.L.length ≤ s.L.length := by
  induction l with
  | nil => intro s n; exact ⟨fun _ h => h, rfl, Nat.le_refl _⟩
  | cons x l ih =>
    intro s n
    simp only [List.foldl_cons]
    obtain ⟨h1, h2, h3⟩ := ih (s.gone x) (n + if (findK s.L x).isSome then 1 else 0)
    exact ⟨fun e he => (List.mem_filter.1 (h1 e he)).1, h2, Nat.le_trans h3 (List.length_filter_le _ _)⟩
theorem Left.start {per : Int} {ws : Nat → Int} {k : Nat} {s : QS} (h : Puts per ws k s) (hk : k ≤ 60) (l : List Int) (n : Nat) : Left ws k (fun j => !(l.contains (j : Int))) (l.foldl dr (s, n)).1 := by
  obtain ⟨h1, h2, h3⟩ := drops_sub l s n
  have hl : s.L.length = k := by rw [h.L]; simp
  refine ⟨by rw [h2, h.tak]; omega, fun e he => ?_, fun j hj => ?_⟩
  · have := h1 e he
    rw [h.L] at this
    obtain ⟨j, hj, rfl⟩ := List.mem_map.1 this
    exact ⟨j, by simpa using hj, rfl⟩
  · rw [findK_drops, h.L, findK_range]
    by_cases hm : (j : Int) ∈ l
    · simp [hm]
    · rw [if_neg hm, if_pos (by omega)]; simp [hm]
theorem Left.take {ws : Nat → Int} {k : Nat} {f : Nat → Bool} {s : QS} (h : Left ws k f s) (hk : (s.L.map Ent.key).Nodup) {j : Nat} (hj : j < k) (hx : ent ws j ∈ s.L) : f j = true ∧ Left ws k (fun i => if i = j then false else f i) (s.took (ent ws j).key) := by
  have h1 : findK s.L (ent ws j).key = some (ent ws j) := findK_of_mem hk hx
  have h1' : findK s.L (j : Int) = some (ent ws j) := h1
  refine ⟨by rw [h.f j hj, h1']; rfl, ⟨?_, fun e he => h.el e (List.mem_filter.1 he).1, fun i hi => ?_⟩⟩
  · have h2 := MapOf.length_less hk (ent ws j).key
    rw [h1] at h2
    simp at h2
    have := h.tak
    show 0 ≤ s.taken + 1 ∧ s.taken + 1 + ((MapOf.less s.L (ent ws j).key).length : Int) ≤ 100
    omega
  · show _ = (findK (MapOf.less s.L (ent ws j).key) i).isSome
    rw [MapOf.findK_less]
    by_cases he : i = j
    · subst he; rw [if_pos rfl, if_pos (show ((i : Nat) : Int) = (ent ws i).key from rfl)]; rfl
    · rw [if_neg he, if_neg (by simp [ent]; omega)]; exact h.f i hi
theorem Left.none {ws : Nat → Int} {k : Nat} {f : Nat → Bool} {s : QS} (h : Left ws k f s) (hL : s.L = []) : ∀ j, j < k → f j = false := fun j hj => by
  rw [h.f j hj, hL]; rfl
end Go.Proofs.Ytplfbdkljnblmaa

namespace Go.Proofs.Ytplfbdkljnblmaa
open Go.RowKit

theorem made_bools (k : Nat) : madeCells #[.bool false] k = bools (fun _ => false) k := by
  apply Array.ext_getElem?
  intro j
  unfold madeCells bools
  by_cases hj : j < k
  · simp [hj, Nat.mod_one]
  · simp [hj]
theorem infoB : (Try.prog.info? 4).map (fun i => (i.zero, i.size, i.bytes)) = some (some (.bool false), 1, 1) := by kernel_rfl
def takenAt (w : World) (q : Nat) : Int := match w.cell? ⟨q, 1, none⟩ with
  | some (.int _ t) => t
  | _ => 0
theorem QueueAt.taken {F : Nat → Prop} {w : World} {q : Nat} {s : QS} (h : QueueAt F w q s) : takenAt w q = s.taken := by
  obtain ⟨lv, ov, m, n, light, old, h⟩ := h
  have c1 : w.cell? ⟨q, 1, none⟩ = some (.int .i64 s.taken) := h.blk.cell rfl
  unfold takenAt
  rw [c1]

theorem bools_congr {f g : Nat → Bool} {k : Nat} (h : ∀ j, j < k → f j = g j) : bools f k = bools g k := by
  unfold bools
  congr 1
  apply List.map_congr_left
  intro j hj
  rw [h j (by simpa using hj)]

end Go.Proofs.Ytplfbdkljnblmaa

