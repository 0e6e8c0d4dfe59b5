/-
  The reference's count of a type's types: how far it counts, and what its count says.
-/
import Derived.Test.YtejpgifofkiofaaTy
import Derived.Test.YtejpgifofkiofaaProg
import Derived.Lib.Hide
import Derived.Deep.QuietTactic
import Derived.BigQuiet
namespace Go.Proofs.Ytejpgifofkiofaa
open Go.RowKit

/-- what 'few' counts -/
def fewOk (t : Ty) (most depth : Int) (r : Int) : Prop :=
  1 ≤ r ∧ r ≤ (most + 1) * (max depth 0 + 1) ∧ ((r ≤ most ∧ r = t.size ∧ (t.depth : Int) ≤ depth) ∨ (most < r ∧ ¬ ((t.size : Int) ≤ most ∧ (t.depth : Int) ≤ depth)))

def FewPost (t : Ty) (most depth : Int) (w : World) (e : Ending) (w' : World) : Prop := ∃ r : Int, fewOk t most depth r ∧ e = .returned (.int .i64 r) ∧ Below w.heap.size w w'

def FewRel (l : List Ty) (most depth : Int) (k : Nat) (r : Int) : Prop :=
  (r ≤ most ∧ r = Ty.sizes (l.take k) + 1 ∧ (Ty.depths (l.take k) : Int) + 1 ≤ depth) ∨ (most < r ∧ ¬ ((Ty.sizes l : Int) + 1 ≤ most ∧ (Ty.depths l : Int) + 1 ≤ depth))

theorem fewRel_start (l : List Ty) (most depth : Int) (hd : 1 ≤ depth) (hm : 1 ≤ most) : FewRel l most depth 0 1 := by
  unfold FewRel
  exact .inl ⟨hm, by simp [Ty.sizes], by simp [Ty.depths]; omega⟩
theorem fewRel_step (l : List Ty) (most depth : Int) (k : Nat) (r r' : Int) (h : FewRel l most depth k r) (hr : r ≤ most) (hk : k < l.length) (h' : fewOk l[k] most (depth - 1) r') (h0 : 1 ≤ r) :
    FewRel l most depth (k + 1) (r + r') := by
  unfold FewRel fewOk at *
  have s1 := Ty.sizes_take l k hk
  have s2 := Ty.depths_take l k hk
  have s3 := Ty.sizes_take_le l (k + 1)
  have s4 := Ty.depths_take_le l (k + 1)
  omega
theorem fewRel_end (l : List Ty) (b : Int) (most depth : Int) (k : Nat) (r : Int) (h : FewRel l most depth k r) (h' : most < r ∨ l.length ≤ k) (h0 : 1 ≤ r) (hb : r ≤ (most + 1) * (max depth 0 + 1)) :
    fewOk (.mk l b) most depth r := by
  unfold FewRel at h
  refine ⟨h0, hb, ?_⟩
  simp only [Ty.size, Ty.depth]
  rcases h' with h' | h'
  · omega
  · rw [List.take_of_length_le h'] at h; omega

set_option maxHeartbeats 400000 in
theorem few_any {F : Nat → Prop} {w0 : World} {s b : Value} {t : Ty} (ht : IsTy F w0 s b t) : ∀ (most depth : Int) (w : World), 1 ≤ most → most ≤ 1000 → depth ≤ 1000 → -1000 ≤ depth →
    Keep F w0 w →
    Calls Try.prog 84 #[.agg #[s, b], .int .i64 most, .int .i64 depth] w (FewPost t most depth w) := by
  induction ht with
  | mk a n c b args bl off A N C B hn hm ha h1 h2 h3 ih =>
  intro most depth w hm0 hm1 hd1 hd0 hw
  unfold maxLen at hm
  by_cases hd : depth ≤ 0
  · go_enter Try.func84, Try.ntmps84
    go_wp2_with fail
    go_ret
    refine ⟨_, ?_, rfl, (Below.refl _ _).alloc (Nat.le_refl _) _⟩
    have := Ty.depth_pos (.mk args b)
    refine ⟨by omega, ?_, .inr ⟨by omega, by omega⟩⟩
    rw [show max depth 0 = 0 from by omega]; omega
  · have hd' : 1 ≤ depth := by omega
    clear h3
    have Hih := Lib.hid ih; clear ih
    have hst := Lib.hid (fewRel_start args most depth hd' hm0)
    have hmul : Hid ((most + 1) * max (depth - 1) 0 + (most + 1) = (most + 1) * (max depth 0) ∧ 0 ≤ (most + 1) * max depth 0 ∧ (most + 1) * max depth 0 ≤ 1001 * 1000 ∧ (most + 1) * (max depth 0 + 1) = (most + 1) * max depth 0 + (most + 1) ∧ (most + 1) * (max (depth - 1) 0 + 1) = (most + 1) * max (depth - 1) 0 + (most + 1)) := by
      refine ⟨?_, Int.mul_nonneg (by omega) (by omega), Int.mul_le_mul (by omega) (by omega) (by omega) (by omega), by rw [Int.mul_add]; omega, by rw [Int.mul_add]; omega⟩
      rw [show max depth 0 = max (depth - 1) 0 + 1 from by omega, Int.mul_add]; omega
    go_enter Try.func84, Try.ntmps84
    go_wp2_with fail
    go_loopw [7, 8] (fun x i wr => ∃ (k : Nat) (r : Int), i = .int .i64 k ∧ x = .int .i64 r ∧ k ≤ n ∧ FewRel args most depth k r ∧ 1 ≤ r ∧ r ≤ most + (most + 1) * (max depth 0) ∧
      Below w.heap.size w wr ∧ wr.heap[w.heap.size]? = some (.cells #[.slice a n c, .int .i64 b] 26)) (fun _ i _ => n - (intOf i).toNat)
    case atStart =>
      have := hmul.out
      exact ⟨0, 1, rfl, rfl, by omega, hst.out, by omega, by omega, (Below.refl _ _).alloc (Nat.le_refl _) _, heap_alloc_new _ _⟩
    case round =>
      obtain ⟨k, r, rfl, rfl, hk, hrel, hr1, hr2, hb, hbox⟩ := hrel
      have c0 : wr.cell? ⟨w.heap.size, 0, none⟩ = some (.slice a n c) := by simp [World.cell?, hbox]
      have hrb : r ≤ 2000000 := by have := hmul.out; omega
      have hsz : w.heap.size < wr.heap.size := lt_of_block hbox
      have Hbox := Lib.hid hbox; clear hbox
      by_cases hlt : k < n
      · obtain ⟨rfl, hF⟩ := ha (by omega)
        have e1 : wr.cell? ⟨bl, off + k * 2, none⟩ = some (.slice (A k) (N k) (C k)) := (hw.below hb) _ _ _ hF (h1 k hlt)
        have e2 : wr.cell? ⟨bl, off + k * 2 + 1, none⟩ = some (.int .i64 (B k)) := (hw.below hb) _ _ _ hF (h2 k hlt)
        by_cases hr : r ≤ most
        · go_wp2_with fail
          refine (Hih.out k (by omega) most (depth - 1) wr hm0 hm1 (by omega) (by omega) (hw.below hb)).mono ?_
          rintro e w1 ⟨r', hf, rfl, hb1⟩
          have hr' : 1 ≤ r' ∧ r' ≤ 3000000 := by have := hmul.out; have := hf.1; have := hf.2.1; omega
          go_wp2_with fail
          go_roundw
          case rel =>
            have := hmul.out; have := hf.2.1
            exact ⟨k + 1, r + r', by go_num, rfl, by omega, fewRel_step _ _ _ _ _ _ hrel hr (by omega) hf hr1, by omega, by omega, hb.trans (hb1.mono (by omega)), by rw [hb1.block _ hsz]; exact Hbox.out⟩
          case measure => simp [intOf]; omega
        · have hend := Lib.hid (fewRel_end args b most depth k r hrel (.inl (by omega)) hr1 (by have := hmul.out; omega))
          go_wp2_with fail
          go_ret
          exact ⟨r, hend.out, rfl, hb⟩
      · have hend := Lib.hid (fewRel_end args b most depth k r hrel (.inr (by omega)) hr1 (by have := hmul.out; omega))
        go_wp2_with fail
        go_ret
        exact ⟨r, hend.out, rfl, hb⟩
end Go.Proofs.Ytejpgifofkiofaa
