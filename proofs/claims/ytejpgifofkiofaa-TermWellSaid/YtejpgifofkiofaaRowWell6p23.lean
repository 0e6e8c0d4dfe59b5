/-
  The type of a head: the document's.
-/
import Derived.Test.YtejpgifofkiofaaRowWell6p21
set_option linter.unusedVariables false
set_option linter.unusedSimpArgs false
namespace Go.Proofs.Ytejpgifofkiofaa
open Go.RowKit

set_option maxRecDepth 100000 in
set_option maxHeartbeats 4000000 in
theorem headType_r {F : Nat → Prop} {w : World} {b : Int} {cv mv xv : Value} {C M X : List Ty} (hF : ∀ q, F q → q < w.heap.size) (hc : IsSl rpTy F w cv C) (hm : IsSl rpTy F w mv M) (hx : IsSl2 rpTy (fun _ => True) F w xv X) (k i : Int) :
    Calls Try.prog 60 #[.agg #[.int .i64 b, cv, mv], xv, .agg #[.int .i64 k, .int .i64 i]] w (HeadPost F (headTy C M X k i) w) := by
  obtain ⟨ca, cc, rfl⟩ := hc.shape
  obtain ⟨ma, mc, rfl⟩ := hm.shape
  obtain ⟨xa, xc, rfl⟩ := hx.shape
  have Hxl : Hid ((X.length : Int) ≤ 9223372036854775807) := by obtain ⟨_, _, _, _, _, _, h, _⟩ := hx; unfold maxLen at h; show _ ≤ _; omega
  have Hc := Lib.hid (sl_at (IsSl2.of hc)); have Hm := Lib.hid (sl_at (IsSl2.of hm)); have Hx := Lib.hid (sl_at hx)
  have hF := Lib.hid hF
  clear hc hm hx
  obtain ⟨o, ho⟩ : ∃ o, headTy C M X k i = o := ⟨_, rfl⟩
  have Ho := Lib.hid ho
  rw [ho]
  clear ho
  by_cases i0 : i < 0
  · skip
    go_enter Try.func60, Try.ntmps60
    go_wp2_with fail
    obtain ⟨w3, hw3⟩ : ∃ w3, ((w.alloc (.cells #[.int .i64 b, .slice ca C.length cc, .slice ma M.length mc] 87)).alloc (.cells #[.int .i64 k, .int .i64 i] 23)).alloc (.cells #[.slice none 0 0, .int .i64 0] 26) = w3 := ⟨_, rfl⟩
    have B_w3 : Below w.heap.size w w3 := by rw [← hw3]; exact (((Below.refl _ _).alloc (Nat.le_refl _) _).alloc (by simp) _).alloc (by simp; omega) _
    have x0_w3 : Blk w3 w.heap.size #[.int .i64 b, .slice ca C.length cc, .slice ma M.length mc] 87 := by rw [← hw3]; exact ((Blk.new _ _ _ rfl).alloc _).alloc _
    have x1_w3 : Blk w3 (w.heap.size + 1) #[.int .i64 k, .int .i64 i] 23 := by rw [← hw3]; exact (Blk.new _ _ _ (by simp)).alloc _
    have x2_w3 : Blk w3 (w.heap.size + 1 + 1) #[.slice none 0 0, .int .i64 0] 26 := by rw [← hw3]; exact Blk.new _ _ _ (by simp)
    rw [hw3]
    clear hw3
    have cx00 : w3.cell? ⟨w.heap.size, 0, none⟩ = some (.int .i64 b) := x0_w3.cell rfl
    have cx01 : w3.cell? ⟨w.heap.size, 1, none⟩ = some (.slice ca C.length cc) := x0_w3.cell rfl
    have cx02 : w3.cell? ⟨w.heap.size, 2, none⟩ = some (.slice ma M.length mc) := x0_w3.cell rfl
    have lx0 := x0_w3.lt
    have cx10 : w3.cell? ⟨w.heap.size + 1, 0, none⟩ = some (.int .i64 k) := x1_w3.cell rfl
    have cx11 : w3.cell? ⟨w.heap.size + 1, 1, none⟩ = some (.int .i64 i) := x1_w3.cell rfl
    have lx1 := x1_w3.lt
    have cx20 : w3.cell? ⟨w.heap.size + 1 + 1, 0, none⟩ = some (.slice none 0 0) := x2_w3.cell rfl
    have cx21 : w3.cell? ⟨w.heap.size + 1 + 1, 1, none⟩ = some (.int .i64 0) := x2_w3.cell rfl
    have lx2 := x2_w3.lt
    have f0 := x2_w3.free 0
    have f1 := x2_w3.free 1
    go_wp2_with fail
    first
    | (refine bodyPost_ret (v := .tuple #[.agg #[.slice none 0 0, .int .i64 0], .bool false]) (by simp [results, Try.results60, go_sem, cx20, cx21]) rfl ?_
       exact head_end0 B_w3 (by rw [← Ho.out, headTy_neg i0]))
    | (have z0 := (x2_w3.set 0 (.slice none 0 0)).cell (i := 0) (v := .slice none 0 0) rfl
       have z1 := ((x2_w3.set 0 (.slice none 0 0)).set 1 (.int .i64 0)).cell (i := 1) (v := .int .i64 0) rfl
       refine bodyPost_ret (v := .tuple #[.agg #[.slice none 0 0, .int .i64 0], .bool false]) (by simp [results, Try.results60, go_sem, z0, z1]) rfl ?_
       exact head_end hF.out (by omega) B_w3 (isTy_zero _ _) (by rw [← Ho.out, headTy_neg i0]; rfl) _ (by rw [← Ho.out, headTy_neg i0]; rfl))
  obtain ⟨j, rfl⟩ : ∃ j : Nat, i = (j : Int) := ⟨i.toNat, by omega⟩
  have i0' : decide ((j : Int) < 0) = false := by simp
  by_cases k1 : k = 1
  · subst k1
    by_cases i1 : j < C.length
    · skip
      go_enter Try.func60, Try.ntmps60
      go_wp2_with fail
      obtain ⟨w3, hw3⟩ : ∃ w3, ((w.alloc (.cells #[.int .i64 b, .slice ca C.length cc, .slice ma M.length mc] 87)).alloc (.cells #[.int .i64 1, .int .i64 (j : Int)] 23)).alloc (.cells #[.slice none 0 0, .int .i64 0] 26) = w3 := ⟨_, rfl⟩
      have B_w3 : Below w.heap.size w w3 := by rw [← hw3]; exact (((Below.refl _ _).alloc (Nat.le_refl _) _).alloc (by simp) _).alloc (by simp; omega) _
      have x0_w3 : Blk w3 w.heap.size #[.int .i64 b, .slice ca C.length cc, .slice ma M.length mc] 87 := by rw [← hw3]; exact ((Blk.new _ _ _ rfl).alloc _).alloc _
      have x1_w3 : Blk w3 (w.heap.size + 1) #[.int .i64 1, .int .i64 (j : Int)] 23 := by rw [← hw3]; exact (Blk.new _ _ _ (by simp)).alloc _
      have x2_w3 : Blk w3 (w.heap.size + 1 + 1) #[.slice none 0 0, .int .i64 0] 26 := by rw [← hw3]; exact Blk.new _ _ _ (by simp)
      rw [hw3]
      clear hw3
      have cx00 : w3.cell? ⟨w.heap.size, 0, none⟩ = some (.int .i64 b) := x0_w3.cell rfl
      have cx01 : w3.cell? ⟨w.heap.size, 1, none⟩ = some (.slice ca C.length cc) := x0_w3.cell rfl
      have cx02 : w3.cell? ⟨w.heap.size, 2, none⟩ = some (.slice ma M.length mc) := x0_w3.cell rfl
      have lx0 := x0_w3.lt
      have cx10 : w3.cell? ⟨w.heap.size + 1, 0, none⟩ = some (.int .i64 1) := x1_w3.cell rfl
      have cx11 : w3.cell? ⟨w.heap.size + 1, 1, none⟩ = some (.int .i64 (j : Int)) := x1_w3.cell rfl
      have lx1 := x1_w3.lt
      have cx20 : w3.cell? ⟨w.heap.size + 1 + 1, 0, none⟩ = some (.slice none 0 0) := x2_w3.cell rfl
      have cx21 : w3.cell? ⟨w.heap.size + 1 + 1, 1, none⟩ = some (.int .i64 0) := x2_w3.cell rfl
      have lx2 := x2_w3.lt
      have f0 := x2_w3.free 0
      have f1 := x2_w3.free 1
      obtain ⟨bl, off, A, N, Cc, Bb, rfl, _, e1, e2, hT⟩ := Hc.out j i1
      have e1 : w3.cell? ⟨bl, off + j * 2, none⟩ = some (.slice A N Cc) := ((Keep.refl (fun _ => True) _).below B_w3) _ _ _ trivial e1
      have e2 : w3.cell? ⟨bl, off + j * 2 + 1, none⟩ = some (.int .i64 Bb) := ((Keep.refl (fun _ => True) _).below B_w3) _ _ _ trivial e2
      have HT := Lib.hid hT; clear hT
      have l0 := Keep.lt e1
      go_wp2_with fail
      clear i0'
      go_simp
      have i4 : (0 : Int) ≤ (j : Int) := by omega
      go_wp2_with fail
      have z0_0 := ((x2_w3).set 0 (.slice A N Cc)).cell (i := 0) (v := .slice A N Cc) rfl
      have z0_1 := (((x2_w3).set 0 (.slice A N Cc)).set 1 (.int .i64 Bb)).cell (i := 0) (v := .slice A N Cc) rfl
      have z1_1 := (((x2_w3).set 0 (.slice A N Cc)).set 1 (.int .i64 Bb)).cell (i := 1) (v := .int .i64 Bb) rfl
      refine bodyPost_ret (v := .tuple #[.agg #[.slice A N Cc, .int .i64 Bb], .bool true]) (by simp [results, Try.results60, go_sem, z0_0, z0_1, z1_1]) rfl ?_
      clear z0_0 z0_1 z1_1
      exact head_end hF.out (by omega) B_w3 HT.out (by rw [← Ho.out, headTy_1, List.getElem?_eq_getElem i1]; rfl) _ (by rw [← Ho.out, headTy_1, List.getElem?_eq_getElem i1]; rfl)
    · skip
      go_enter Try.func60, Try.ntmps60
      go_wp2_with fail
      obtain ⟨w3, hw3⟩ : ∃ w3, ((w.alloc (.cells #[.int .i64 b, .slice ca C.length cc, .slice ma M.length mc] 87)).alloc (.cells #[.int .i64 1, .int .i64 (j : Int)] 23)).alloc (.cells #[.slice none 0 0, .int .i64 0] 26) = w3 := ⟨_, rfl⟩
      have B_w3 : Below w.heap.size w w3 := by rw [← hw3]; exact (((Below.refl _ _).alloc (Nat.le_refl _) _).alloc (by simp) _).alloc (by simp; omega) _
      have x0_w3 : Blk w3 w.heap.size #[.int .i64 b, .slice ca C.length cc, .slice ma M.length mc] 87 := by rw [← hw3]; exact ((Blk.new _ _ _ rfl).alloc _).alloc _
      have x1_w3 : Blk w3 (w.heap.size + 1) #[.int .i64 1, .int .i64 (j : Int)] 23 := by rw [← hw3]; exact (Blk.new _ _ _ (by simp)).alloc _
      have x2_w3 : Blk w3 (w.heap.size + 1 + 1) #[.slice none 0 0, .int .i64 0] 26 := by rw [← hw3]; exact Blk.new _ _ _ (by simp)
      rw [hw3]
      clear hw3
      have cx00 : w3.cell? ⟨w.heap.size, 0, none⟩ = some (.int .i64 b) := x0_w3.cell rfl
      have cx01 : w3.cell? ⟨w.heap.size, 1, none⟩ = some (.slice ca C.length cc) := x0_w3.cell rfl
      have cx02 : w3.cell? ⟨w.heap.size, 2, none⟩ = some (.slice ma M.length mc) := x0_w3.cell rfl
      have lx0 := x0_w3.lt
      have cx10 : w3.cell? ⟨w.heap.size + 1, 0, none⟩ = some (.int .i64 1) := x1_w3.cell rfl
      have cx11 : w3.cell? ⟨w.heap.size + 1, 1, none⟩ = some (.int .i64 (j : Int)) := x1_w3.cell rfl
      have lx1 := x1_w3.lt
      have cx20 : w3.cell? ⟨w.heap.size + 1 + 1, 0, none⟩ = some (.slice none 0 0) := x2_w3.cell rfl
      have cx21 : w3.cell? ⟨w.heap.size + 1 + 1, 1, none⟩ = some (.int .i64 0) := x2_w3.cell rfl
      have lx2 := x2_w3.lt
      have f0 := x2_w3.free 0
      have f1 := x2_w3.free 1
      go_wp2_with fail
      first
      | (refine bodyPost_ret (v := .tuple #[.agg #[.slice none 0 0, .int .i64 0], .bool false]) (by simp [results, Try.results60, go_sem, cx20, cx21]) rfl ?_
         exact head_end0 B_w3 (by rw [← Ho.out, headTy_1, List.getElem?_eq_none (by omega)]))
      | (have z0 := (x2_w3.set 0 (.slice none 0 0)).cell (i := 0) (v := .slice none 0 0) rfl
         have z1 := ((x2_w3.set 0 (.slice none 0 0)).set 1 (.int .i64 0)).cell (i := 1) (v := .int .i64 0) rfl
         refine bodyPost_ret (v := .tuple #[.agg #[.slice none 0 0, .int .i64 0], .bool false]) (by simp [results, Try.results60, go_sem, z0, z1]) rfl ?_
         exact head_end hF.out (by omega) B_w3 (isTy_zero _ _) (by rw [← Ho.out, headTy_1, List.getElem?_eq_none (by omega)]; rfl) _ (by rw [← Ho.out, headTy_1, List.getElem?_eq_none (by omega)]; rfl))
  by_cases k2 : k = 2
  · subst k2
    by_cases i1 : j < M.length
    · skip
      go_enter Try.func60, Try.ntmps60
      go_wp2_with fail
      obtain ⟨w3, hw3⟩ : ∃ w3, ((w.alloc (.cells #[.int .i64 b, .slice ca C.length cc, .slice ma M.length mc] 87)).alloc (.cells #[.int .i64 2, .int .i64 (j : Int)] 23)).alloc (.cells #[.slice none 0 0, .int .i64 0] 26) = w3 := ⟨_, rfl⟩
      have B_w3 : Below w.heap.size w w3 := by rw [← hw3]; exact (((Below.refl _ _).alloc (Nat.le_refl _) _).alloc (by simp) _).alloc (by simp; omega) _
      have x0_w3 : Blk w3 w.heap.size #[.int .i64 b, .slice ca C.length cc, .slice ma M.length mc] 87 := by rw [← hw3]; exact ((Blk.new _ _ _ rfl).alloc _).alloc _
      have x1_w3 : Blk w3 (w.heap.size + 1) #[.int .i64 2, .int .i64 (j : Int)] 23 := by rw [← hw3]; exact (Blk.new _ _ _ (by simp)).alloc _
      have x2_w3 : Blk w3 (w.heap.size + 1 + 1) #[.slice none 0 0, .int .i64 0] 26 := by rw [← hw3]; exact Blk.new _ _ _ (by simp)
      rw [hw3]
      clear hw3
      have cx00 : w3.cell? ⟨w.heap.size, 0, none⟩ = some (.int .i64 b) := x0_w3.cell rfl
      have cx01 : w3.cell? ⟨w.heap.size, 1, none⟩ = some (.slice ca C.length cc) := x0_w3.cell rfl
      have cx02 : w3.cell? ⟨w.heap.size, 2, none⟩ = some (.slice ma M.length mc) := x0_w3.cell rfl
      have lx0 := x0_w3.lt
      have cx10 : w3.cell? ⟨w.heap.size + 1, 0, none⟩ = some (.int .i64 2) := x1_w3.cell rfl
      have cx11 : w3.cell? ⟨w.heap.size + 1, 1, none⟩ = some (.int .i64 (j : Int)) := x1_w3.cell rfl
      have lx1 := x1_w3.lt
      have cx20 : w3.cell? ⟨w.heap.size + 1 + 1, 0, none⟩ = some (.slice none 0 0) := x2_w3.cell rfl
      have cx21 : w3.cell? ⟨w.heap.size + 1 + 1, 1, none⟩ = some (.int .i64 0) := x2_w3.cell rfl
      have lx2 := x2_w3.lt
      have f0 := x2_w3.free 0
      have f1 := x2_w3.free 1
      obtain ⟨bl, off, A, N, Cc, Bb, rfl, _, e1, e2, hT⟩ := Hm.out j i1
      have e1 : w3.cell? ⟨bl, off + j * 2, none⟩ = some (.slice A N Cc) := ((Keep.refl (fun _ => True) _).below B_w3) _ _ _ trivial e1
      have e2 : w3.cell? ⟨bl, off + j * 2 + 1, none⟩ = some (.int .i64 Bb) := ((Keep.refl (fun _ => True) _).below B_w3) _ _ _ trivial e2
      have HT := Lib.hid hT; clear hT
      have l0 := Keep.lt e1
      go_wp2_with fail
      clear i0'
      go_simp
      have i4 : (0 : Int) ≤ (j : Int) := by omega
      go_wp2_with fail
      have z0_0 := ((x2_w3).set 0 (.slice A N Cc)).cell (i := 0) (v := .slice A N Cc) rfl
      have z0_1 := (((x2_w3).set 0 (.slice A N Cc)).set 1 (.int .i64 Bb)).cell (i := 0) (v := .slice A N Cc) rfl
      have z1_1 := (((x2_w3).set 0 (.slice A N Cc)).set 1 (.int .i64 Bb)).cell (i := 1) (v := .int .i64 Bb) rfl
      refine bodyPost_ret (v := .tuple #[.agg #[.slice A N Cc, .int .i64 Bb], .bool true]) (by simp [results, Try.results60, go_sem, z0_0, z0_1, z1_1]) rfl ?_
      clear z0_0 z0_1 z1_1
      exact head_end hF.out (by omega) B_w3 HT.out (by rw [← Ho.out, headTy_2, List.getElem?_eq_getElem i1]; rfl) _ (by rw [← Ho.out, headTy_2, List.getElem?_eq_getElem i1]; rfl)
    · skip
      go_enter Try.func60, Try.ntmps60
      go_wp2_with fail
      obtain ⟨w3, hw3⟩ : ∃ w3, ((w.alloc (.cells #[.int .i64 b, .slice ca C.length cc, .slice ma M.length mc] 87)).alloc (.cells #[.int .i64 2, .int .i64 (j : Int)] 23)).alloc (.cells #[.slice none 0 0, .int .i64 0] 26) = w3 := ⟨_, rfl⟩
      have B_w3 : Below w.heap.size w w3 := by rw [← hw3]; exact (((Below.refl _ _).alloc (Nat.le_refl _) _).alloc (by simp) _).alloc (by simp; omega) _
      have x0_w3 : Blk w3 w.heap.size #[.int .i64 b, .slice ca C.length cc, .slice ma M.length mc] 87 := by rw [← hw3]; exact ((Blk.new _ _ _ rfl).alloc _).alloc _
      have x1_w3 : Blk w3 (w.heap.size + 1) #[.int .i64 2, .int .i64 (j : Int)] 23 := by rw [← hw3]; exact (Blk.new _ _ _ (by simp)).alloc _
      have x2_w3 : Blk w3 (w.heap.size + 1 + 1) #[.slice none 0 0, .int .i64 0] 26 := by rw [← hw3]; exact Blk.new _ _ _ (by simp)
      rw [hw3]
      clear hw3
      have cx00 : w3.cell? ⟨w.heap.size, 0, none⟩ = some (.int .i64 b) := x0_w3.cell rfl
      have cx01 : w3.cell? ⟨w.heap.size, 1, none⟩ = some (.slice ca C.length cc) := x0_w3.cell rfl
      have cx02 : w3.cell? ⟨w.heap.size, 2, none⟩ = some (.slice ma M.length mc) := x0_w3.cell rfl
      have lx0 := x0_w3.lt
      have cx10 : w3.cell? ⟨w.heap.size + 1, 0, none⟩ = some (.int .i64 2) := x1_w3.cell rfl
      have cx11 : w3.cell? ⟨w.heap.size + 1, 1, none⟩ = some (.int .i64 (j : Int)) := x1_w3.cell rfl
      have lx1 := x1_w3.lt
      have cx20 : w3.cell? ⟨w.heap.size + 1 + 1, 0, none⟩ = some (.slice none 0 0) := x2_w3.cell rfl
      have cx21 : w3.cell? ⟨w.heap.size + 1 + 1, 1, none⟩ = some (.int .i64 0) := x2_w3.cell rfl
      have lx2 := x2_w3.lt
      have f0 := x2_w3.free 0
      have f1 := x2_w3.free 1
      go_wp2_with fail
      first
      | (refine bodyPost_ret (v := .tuple #[.agg #[.slice none 0 0, .int .i64 0], .bool false]) (by simp [results, Try.results60, go_sem, cx20, cx21]) rfl ?_
         exact head_end0 B_w3 (by rw [← Ho.out, headTy_2, List.getElem?_eq_none (by omega)]))
      | (have z0 := (x2_w3.set 0 (.slice none 0 0)).cell (i := 0) (v := .slice none 0 0) rfl
         have z1 := ((x2_w3.set 0 (.slice none 0 0)).set 1 (.int .i64 0)).cell (i := 1) (v := .int .i64 0) rfl
         refine bodyPost_ret (v := .tuple #[.agg #[.slice none 0 0, .int .i64 0], .bool false]) (by simp [results, Try.results60, go_sem, z0, z1]) rfl ?_
         exact head_end hF.out (by omega) B_w3 (isTy_zero _ _) (by rw [← Ho.out, headTy_2, List.getElem?_eq_none (by omega)]; rfl) _ (by rw [← Ho.out, headTy_2, List.getElem?_eq_none (by omega)]; rfl))
  by_cases k0 : k = 0
  · subst k0
    by_cases i1 : j < X.length
    · skip
      obtain ⟨m, hm⟩ : ∃ m : Nat, X.length - 1 - j = m := ⟨_, rfl⟩
      have i2 : m < X.length := by omega
      have hq0 : IntKind.i64.wrap ((X.length : Int) - 1) = (X.length : Int) - 1 := IntWalk.i64_in _ (by have := Hxl.out; omega)
      have hq2 : IntKind.i64.wrap ((X.length : Int) - 1 - j) = (m : Int) := by rw [show (X.length : Int) - 1 - j = (m : Int) by omega]; exact IntWalk.i64_in _ (by have := Hxl.out; omega)
      have Hm2 := Lib.hid hm; have Hi1 := Lib.hid i1
      clear hm
      go_enter Try.func60, Try.ntmps60
      go_wp2_with fail
      obtain ⟨w3, hw3⟩ : ∃ w3, ((w.alloc (.cells #[.int .i64 b, .slice ca C.length cc, .slice ma M.length mc] 87)).alloc (.cells #[.int .i64 0, .int .i64 (j : Int)] 23)).alloc (.cells #[.slice none 0 0, .int .i64 0] 26) = w3 := ⟨_, rfl⟩
      have B_w3 : Below w.heap.size w w3 := by rw [← hw3]; exact (((Below.refl _ _).alloc (Nat.le_refl _) _).alloc (by simp) _).alloc (by simp; omega) _
      have x0_w3 : Blk w3 w.heap.size #[.int .i64 b, .slice ca C.length cc, .slice ma M.length mc] 87 := by rw [← hw3]; exact ((Blk.new _ _ _ rfl).alloc _).alloc _
      have x1_w3 : Blk w3 (w.heap.size + 1) #[.int .i64 0, .int .i64 (j : Int)] 23 := by rw [← hw3]; exact (Blk.new _ _ _ (by simp)).alloc _
      have x2_w3 : Blk w3 (w.heap.size + 1 + 1) #[.slice none 0 0, .int .i64 0] 26 := by rw [← hw3]; exact Blk.new _ _ _ (by simp)
      rw [hw3]
      clear hw3
      have cx00 : w3.cell? ⟨w.heap.size, 0, none⟩ = some (.int .i64 b) := x0_w3.cell rfl
      have cx01 : w3.cell? ⟨w.heap.size, 1, none⟩ = some (.slice ca C.length cc) := x0_w3.cell rfl
      have cx02 : w3.cell? ⟨w.heap.size, 2, none⟩ = some (.slice ma M.length mc) := x0_w3.cell rfl
      have lx0 := x0_w3.lt
      have cx10 : w3.cell? ⟨w.heap.size + 1, 0, none⟩ = some (.int .i64 0) := x1_w3.cell rfl
      have cx11 : w3.cell? ⟨w.heap.size + 1, 1, none⟩ = some (.int .i64 (j : Int)) := x1_w3.cell rfl
      have lx1 := x1_w3.lt
      have cx20 : w3.cell? ⟨w.heap.size + 1 + 1, 0, none⟩ = some (.slice none 0 0) := x2_w3.cell rfl
      have cx21 : w3.cell? ⟨w.heap.size + 1 + 1, 1, none⟩ = some (.int .i64 0) := x2_w3.cell rfl
      have lx2 := x2_w3.lt
      have f0 := x2_w3.free 0
      have f1 := x2_w3.free 1
      obtain ⟨bl, off, A, N, Cc, Bb, rfl, _, e1, e2, hT⟩ := Hx.out m i2
      have e1 : w3.cell? ⟨bl, off + m * 2, none⟩ = some (.slice A N Cc) := ((Keep.refl (fun _ => True) _).below B_w3) _ _ _ trivial e1
      have e2 : w3.cell? ⟨bl, off + m * 2 + 1, none⟩ = some (.int .i64 Bb) := ((Keep.refl (fun _ => True) _).below B_w3) _ _ _ trivial e2
      have HT := Lib.hid hT; clear hT
      have l0 := Keep.lt e1
      go_wp2_with fail
      clear hq0 hq2 i0'
      go_simp
      have i4 : (0 : Int) ≤ (m : Int) := by omega
      go_wp2_with fail
      have z0_0 := ((x2_w3).set 0 (.slice A N Cc)).cell (i := 0) (v := .slice A N Cc) rfl
      have z0_1 := (((x2_w3).set 0 (.slice A N Cc)).set 1 (.int .i64 Bb)).cell (i := 0) (v := .slice A N Cc) rfl
      have z1_1 := (((x2_w3).set 0 (.slice A N Cc)).set 1 (.int .i64 Bb)).cell (i := 1) (v := .int .i64 Bb) rfl
      refine bodyPost_ret (v := .tuple #[.agg #[.slice A N Cc, .int .i64 Bb], .bool true]) (by simp [results, Try.results60, go_sem, z0_0, z0_1, z1_1]) rfl ?_
      clear z0_0 z0_1 z1_1
      exact head_end hF.out (by omega) B_w3 HT.out (by rw [← Ho.out, headTy_0, List.getElem?_reverse Hi1.out, Hm2.out, List.getElem?_eq_getElem i2]; rfl) _ (by rw [← Ho.out, headTy_0, List.getElem?_reverse Hi1.out, Hm2.out, List.getElem?_eq_getElem i2]; rfl)
    · skip
      go_enter Try.func60, Try.ntmps60
      go_wp2_with fail
      obtain ⟨w3, hw3⟩ : ∃ w3, ((w.alloc (.cells #[.int .i64 b, .slice ca C.length cc, .slice ma M.length mc] 87)).alloc (.cells #[.int .i64 0, .int .i64 (j : Int)] 23)).alloc (.cells #[.slice none 0 0, .int .i64 0] 26) = w3 := ⟨_, rfl⟩
      have B_w3 : Below w.heap.size w w3 := by rw [← hw3]; exact (((Below.refl _ _).alloc (Nat.le_refl _) _).alloc (by simp) _).alloc (by simp; omega) _
      have x0_w3 : Blk w3 w.heap.size #[.int .i64 b, .slice ca C.length cc, .slice ma M.length mc] 87 := by rw [← hw3]; exact ((Blk.new _ _ _ rfl).alloc _).alloc _
      have x1_w3 : Blk w3 (w.heap.size + 1) #[.int .i64 0, .int .i64 (j : Int)] 23 := by rw [← hw3]; exact (Blk.new _ _ _ (by simp)).alloc _
      have x2_w3 : Blk w3 (w.heap.size + 1 + 1) #[.slice none 0 0, .int .i64 0] 26 := by rw [← hw3]; exact Blk.new _ _ _ (by simp)
      rw [hw3]
      clear hw3
      have cx00 : w3.cell? ⟨w.heap.size, 0, none⟩ = some (.int .i64 b) := x0_w3.cell rfl
      have cx01 : w3.cell? ⟨w.heap.size, 1, none⟩ = some (.slice ca C.length cc) := x0_w3.cell rfl
      have cx02 : w3.cell? ⟨w.heap.size, 2, none⟩ = some (.slice ma M.length mc) := x0_w3.cell rfl
      have lx0 := x0_w3.lt
      have cx10 : w3.cell? ⟨w.heap.size + 1, 0, none⟩ = some (.int .i64 0) := x1_w3.cell rfl
      have cx11 : w3.cell? ⟨w.heap.size + 1, 1, none⟩ = some (.int .i64 (j : Int)) := x1_w3.cell rfl
      have lx1 := x1_w3.lt
      have cx20 : w3.cell? ⟨w.heap.size + 1 + 1, 0, none⟩ = some (.slice none 0 0) := x2_w3.cell rfl
      have cx21 : w3.cell? ⟨w.heap.size + 1 + 1, 1, none⟩ = some (.int .i64 0) := x2_w3.cell rfl
      have lx2 := x2_w3.lt
      have f0 := x2_w3.free 0
      have f1 := x2_w3.free 1
      go_wp2_with fail
      first
      | (refine bodyPost_ret (v := .tuple #[.agg #[.slice none 0 0, .int .i64 0], .bool false]) (by simp [results, Try.results60, go_sem, cx20, cx21]) rfl ?_
         exact head_end0 B_w3 (by rw [← Ho.out, headTy_0, List.getElem?_eq_none (by simp; omega)]))
      | (have z0 := (x2_w3.set 0 (.slice none 0 0)).cell (i := 0) (v := .slice none 0 0) rfl
         have z1 := ((x2_w3.set 0 (.slice none 0 0)).set 1 (.int .i64 0)).cell (i := 1) (v := .int .i64 0) rfl
         refine bodyPost_ret (v := .tuple #[.agg #[.slice none 0 0, .int .i64 0], .bool false]) (by simp [results, Try.results60, go_sem, z0, z1]) rfl ?_
         exact head_end hF.out (by omega) B_w3 (isTy_zero _ _) (by rw [← Ho.out, headTy_0, List.getElem?_eq_none (by simp; omega)]; rfl) _ (by rw [← Ho.out, headTy_0, List.getElem?_eq_none (by simp; omega)]; rfl))
  have g0 : (k == 0) = false := by simpa using k0
  have g1 : (k == 1) = false := by simpa using k1
  have g2 : (k == 2) = false := by simpa using k2
  go_enter Try.func60, Try.ntmps60
  go_wp2_with fail
  obtain ⟨w3, hw3⟩ : ∃ w3, ((w.alloc (.cells #[.int .i64 b, .slice ca C.length cc, .slice ma M.length mc] 87)).alloc (.cells #[.int .i64 k, .int .i64 (j : Int)] 23)).alloc (.cells #[.slice none 0 0, .int .i64 0] 26) = w3 := ⟨_, rfl⟩
  have B_w3 : Below w.heap.size w w3 := by rw [← hw3]; exact (((Below.refl _ _).alloc (Nat.le_refl _) _).alloc (by simp) _).alloc (by simp; omega) _
  have x0_w3 : Blk w3 w.heap.size #[.int .i64 b, .slice ca C.length cc, .slice ma M.length mc] 87 := by rw [← hw3]; exact ((Blk.new _ _ _ rfl).alloc _).alloc _
  have x1_w3 : Blk w3 (w.heap.size + 1) #[.int .i64 k, .int .i64 (j : Int)] 23 := by rw [← hw3]; exact (Blk.new _ _ _ (by simp)).alloc _
  have x2_w3 : Blk w3 (w.heap.size + 1 + 1) #[.slice none 0 0, .int .i64 0] 26 := by rw [← hw3]; exact Blk.new _ _ _ (by simp)
  rw [hw3]
  clear hw3
  have cx00 : w3.cell? ⟨w.heap.size, 0, none⟩ = some (.int .i64 b) := x0_w3.cell rfl
  have cx01 : w3.cell? ⟨w.heap.size, 1, none⟩ = some (.slice ca C.length cc) := x0_w3.cell rfl
  have cx02 : w3.cell? ⟨w.heap.size, 2, none⟩ = some (.slice ma M.length mc) := x0_w3.cell rfl
  have lx0 := x0_w3.lt
  have cx10 : w3.cell? ⟨w.heap.size + 1, 0, none⟩ = some (.int .i64 k) := x1_w3.cell rfl
  have cx11 : w3.cell? ⟨w.heap.size + 1, 1, none⟩ = some (.int .i64 (j : Int)) := x1_w3.cell rfl
  have lx1 := x1_w3.lt
  have cx20 : w3.cell? ⟨w.heap.size + 1 + 1, 0, none⟩ = some (.slice none 0 0) := x2_w3.cell rfl
  have cx21 : w3.cell? ⟨w.heap.size + 1 + 1, 1, none⟩ = some (.int .i64 0) := x2_w3.cell rfl
  have lx2 := x2_w3.lt
  have f0 := x2_w3.free 0
  have f1 := x2_w3.free 1
  go_wp2_with fail
  first
  | (refine bodyPost_ret (v := .tuple #[.agg #[.slice none 0 0, .int .i64 0], .bool false]) (by simp [results, Try.results60, go_sem, cx20, cx21]) rfl ?_
     exact head_end0 B_w3 (by rw [← Ho.out, headTy_o k0 k1 k2]))
  | (have z0 := (x2_w3.set 0 (.slice none 0 0)).cell (i := 0) (v := .slice none 0 0) rfl
     have z1 := ((x2_w3.set 0 (.slice none 0 0)).set 1 (.int .i64 0)).cell (i := 1) (v := .int .i64 0) rfl
     refine bodyPost_ret (v := .tuple #[.agg #[.slice none 0 0, .int .i64 0], .bool false]) (by simp [results, Try.results60, go_sem, z0, z1]) rfl ?_
     exact head_end hF.out (by omega) B_w3 (isTy_zero _ _) (by rw [← Ho.out, headTy_o k0 k1 k2]; rfl) _ (by rw [← Ho.out, headTy_o k0 k1 k2]; rfl))
end Go.Proofs.Ytejpgifofkiofaa

