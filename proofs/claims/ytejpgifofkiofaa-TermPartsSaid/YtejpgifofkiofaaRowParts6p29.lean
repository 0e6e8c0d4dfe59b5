/-
  The type of a head: the document's. Whether a term is of a type: the plain law. A context with more binders: the program's and the document's.
-/
import Derived.Test.YtejpgifofkiofaaRowParts6p28
set_option linter.unusedVariables false
set_option linter.unusedSimpArgs false
namespace Go.Proofs.Ytejpgifofkiofaa
open Go.RowKit

set_option maxRecDepth 100000 in
set_option maxHeartbeats 4000000 in
theorem headType_r {F : Nat → Prop} {w : World} {b : Int} {cv mv xv : Value} {C M X : List Ty} (hF : ∀ q, F q → q < w.heap.size) (hc : IsSl rpTy F w cv C) (hm : IsSl rpTy F w mv M) (hx : IsSl2 rpTy (fun _ => True) F w xv X) (k i : Int) :
    Calls Try.prog 60 #[.agg #[.int .i64 b, cv, mv], xv, .agg #[.int .i64 k, .int .i64 i]] w (HeadPost F (headTy C M X k i) w) := by
  obtain ⟨ca, cc, rfl⟩ := hc.shape
  obtain ⟨ma, mc, rfl⟩ := hm.shape
  obtain ⟨xa, xc, rfl⟩ := hx.shape
  have Hxl : Hid ((X.length : Int) ≤ 9223372036854775807) := by obtain ⟨_, _, _, _, _, _, h, _⟩ := hx; unfold maxLen at h; show _ ≤ _; omega
  have Hc := Lib.hid (sl_at (IsSl2.of hc)); have Hm := Lib.hid (sl_at (IsSl2.of hm)); have Hx := Lib.hid (sl_at hx)
  have hF := Lib.hid hF
  clear hc hm hx
  obtain ⟨o, ho⟩ : ∃ o, headTy C M X k i = o := ⟨_, rfl⟩
  have Ho := Lib.hid ho
  rw [ho]
  clear ho
  by_cases i0 : i < 0
  · skip
    go_enter Try.func60, Try.ntmps60
    go_wp2_with fail
    obtain ⟨w3, hw3⟩ : ∃ w3, ((w.alloc (.cells #[.int .i64 b, .slice ca C.length cc, .slice ma M.length mc] 87)).alloc (.cells #[.int .i64 k, .int .i64 i] 23)).alloc (.cells #[.slice none 0 0, .int .i64 0] 26) = w3 := ⟨_, rfl⟩
    have B_w3 : Below w.heap.size w w3 := by rw [← hw3]; exact (((Below.refl _ _).alloc (Nat.le_refl _) _).alloc (by simp) _).alloc (by simp; omega) _
    have x0_w3 : Blk w3 w.heap.size #[.int .i64 b, .slice ca C.length cc, .slice ma M.length mc] 87 := by rw [← hw3]; exact ((Blk.new _ _ _ rfl).alloc _).alloc _
    have x1_w3 : Blk w3 (w.heap.size + 1) #[.int .i64 k, .int .i64 i] 23 := by rw [← hw3]; exact (Blk.new _ _ _ (by simp)).alloc _
    have x2_w3 : Blk w3 (w.heap.size + 1 + 1) #[.slice none 0 0, .int .i64 0] 26 := by rw [← hw3]; exact Blk.new _ _ _ (by simp)
    rw [hw3]
    clear hw3
    have cx00 : w3.cell? ⟨w.heap.size, 0, none⟩ = some (.int .i64 b) := x0_w3.cell rfl
    have cx01 : w3.cell? ⟨w.heap.size, 1, none⟩ = some (.slice ca C.length cc) := x0_w3.cell rfl
    have cx02 : w3.cell? ⟨w.heap.size, 2, none⟩ = some (.slice ma M.length mc) := x0_w3.cell rfl
    have lx0 := x0_w3.lt
    have cx10 : w3.cell? ⟨w.heap.size + 1, 0, none⟩ = some (.int .i64 k) := x1_w3.cell rfl
    have cx11 : w3.cell? ⟨w.heap.size + 1, 1, none⟩ = some (.int .i64 i) := x1_w3.cell rfl
    have lx1 := x1_w3.lt
    have cx20 : w3.cell? ⟨w.heap.size + 1 + 1, 0, none⟩ = some (.slice none 0 0) := x2_w3.cell rfl
    have cx21 : w3.cell? ⟨w.heap.size + 1 + 1, 1, none⟩ = some (.int .i64 0) := x2_w3.cell rfl
    have lx2 := x2_w3.lt
    have f0 := x2_w3.free 0
    have f1 := x2_w3.free 1
    go_wp2_with fail
    first
    | (refine bodyPost_ret (v := .tuple #[.agg #[.slice none 0 0, .int .i64 0], .bool false]) (by simp [results, Try.results60, go_sem, cx20, cx21]) rfl ?_
       exact head_end0 B_w3 (by rw [← Ho.out, headTy_neg i0]))
    | (have z0 := (x2_w3.set 0 (.slice none 0 0)).cell (i := 0) (v := .slice none 0 0) rfl
       have z1 := ((x2_w3.set 0 (.slice none 0 0)).set 1 (.int .i64 0)).cell (i := 1) (v := .int .i64 0) rfl
       refine bodyPost_ret (v := .tuple #[.agg #[.slice none 0 0, .int .i64 0], .bool false]) (by simp [results, Try.results60, go_sem, z0, z1]) rfl ?_
       exact head_end hF.out (by omega) B_w3 (isTy_zero _ _) (by rw [← Ho.out, headTy_neg i0]; rfl) _ (by rw [← Ho.out, headTy_neg i0]; rfl))
  obtain ⟨j, rfl⟩ : ∃ j : Nat, i = (j : Int) := ⟨i.toNat, by omega⟩
  have i0' : decide ((j : Int) < 0) = false := by simp
  by_cases k1 : k = 1
  · subst k1
    by_cases i1 : j < C.length
    · skip
      go_enter Try.func60, Try.ntmps60
      go_wp2_with fail
      obtain ⟨w3, hw3⟩ : ∃ w3, ((w.alloc (.cells #[.int .i64 b, .slice ca C.length cc, .slice ma M.length mc] 87)).alloc (.cells #[.int .i64 1, .int .i64 (j : Int)] 23)).alloc (.cells #[.slice none 0 0, .int .i64 0] 26) = w3 := ⟨_, rfl⟩
      have B_w3 : Below w.heap.size w w3 := by rw [← hw3]; exact (((Below.refl _ _).alloc (Nat.le_refl _) _).alloc (by simp) _).alloc (by simp; omega) _
      have x0_w3 : Blk w3 w.heap.size #[.int .i64 b, .slice ca C.length cc, .slice ma M.length mc] 87 := by rw [← hw3]; exact ((Blk.new _ _ _ rfl).alloc _).alloc _
      have x1_w3 : Blk w3 (w.heap.size + 1) #[.int .i64 1, .int .i64 (j : Int)] 23 := by rw [← hw3]; exact (Blk.new _ _ _ (by simp)).alloc _
      have x2_w3 : Blk w3 (w.heap.size + 1 + 1) #[.slice none 0 0, .int .i64 0] 26 := by rw [← hw3]; exact Blk.new _ _ _ (by simp)
      rw [hw3]
      clear hw3
      have cx00 : w3.cell? ⟨w.heap.size, 0, none⟩ = some (.int .i64 b) := x0_w3.cell rfl
      have cx01 : w3.cell? ⟨w.heap.size, 1, none⟩ = some (.slice ca C.length cc) := x0_w3.cell rfl
      have cx02 : w3.cell? ⟨w.heap.size, 2, none⟩ = some (.slice ma M.length mc) := x0_w3.cell rfl
      have lx0 := x0_w3.lt
      have cx10 : w3.cell? ⟨w.heap.size + 1, 0, none⟩ = some (.int .i64 1) := x1_w3.cell rfl
      have cx11 : w3.cell? ⟨w.heap.size + 1, 1, none⟩ = some (.int .i64 (j : Int)) := x1_w3.cell rfl
      have lx1 := x1_w3.lt
      have cx20 : w3.cell? ⟨w.heap.size + 1 + 1, 0, none⟩ = some (.slice none 0 0) := x2_w3.cell rfl
      have cx21 : w3.cell? ⟨w.heap.size + 1 + 1, 1, none⟩ = some (.int .i64 0) := x2_w3.cell rfl
      have lx2 := x2_w3.lt
      have f0 := x2_w3.free 0
      have f1 := x2_w3.free 1
      obtain ⟨bl, off, A, N, Cc, Bb, rfl, _, e1, e2, hT⟩ := Hc.out j i1
      have e1 : w3.cell? ⟨bl, off + j * 2, none⟩ = some (.slice A N Cc) := ((Keep.refl (fun _ => True) _).below B_w3) _ _ _ trivial e1
      have e2 : w3.cell? ⟨bl, off + j * 2 + 1, none⟩ = some (.int .i64 Bb) := ((Keep.refl (fun _ => True) _).below B_w3) _ _ _ trivial e2
      have HT := Lib.hid hT; clear hT
      have l0 := Keep.lt e1
      go_wp2_with fail
      clear i0'
      go_simp
      have i4 : (0 : Int) ≤ (j : Int) := by omega
      go_wp2_with fail
      have z0_0 := ((x2_w3).set 0 (.slice A N Cc)).cell (i := 0) (v := .slice A N Cc) rfl
      have z0_1 := (((x2_w3).set 0 (.slice A N Cc)).set 1 (.int .i64 Bb)).cell (i := 0) (v := .slice A N Cc) rfl
      have z1_1 := (((x2_w3).set 0 (.slice A N Cc)).set 1 (.int .i64 Bb)).cell (i := 1) (v := .int .i64 Bb) rfl
      refine bodyPost_ret (v := .tuple #[.agg #[.slice A N Cc, .int .i64 Bb], .bool true]) (by simp [results, Try.results60, go_sem, z0_0, z0_1, z1_1]) rfl ?_
      clear z0_0 z0_1 z1_1
      exact head_end hF.out (by omega) B_w3 HT.out (by rw [← Ho.out, headTy_1, List.getElem?_eq_getElem i1]; rfl) _ (by rw [← Ho.out, headTy_1, List.getElem?_eq_getElem i1]; rfl)
    · skip
      go_enter Try.func60, Try.ntmps60
      go_wp2_with fail
      obtain ⟨w3, hw3⟩ : ∃ w3, ((w.alloc (.cells #[.int .i64 b, .slice ca C.length cc, .slice ma M.length mc] 87)).alloc (.cells #[.int .i64 1, .int .i64 (j : Int)] 23)).alloc (.cells #[.slice none 0 0, .int .i64 0] 26) = w3 := ⟨_, rfl⟩
      have B_w3 : Below w.heap.size w w3 := by rw [← hw3]; exact (((Below.refl _ _).alloc (Nat.le_refl _) _).alloc (by simp) _).alloc (by simp; omega) _
      have x0_w3 : Blk w3 w.heap.size #[.int .i64 b, .slice ca C.length cc, .slice ma M.length mc] 87 := by rw [← hw3]; exact ((Blk.new _ _ _ rfl).alloc _).alloc _
      have x1_w3 : Blk w3 (w.heap.size + 1) #[.int .i64 1, .int .i64 (j : Int)] 23 := by rw [← hw3]; exact (Blk.new _ _ _ (by simp)).alloc _
      have x2_w3 : Blk w3 (w.heap.size + 1 + 1) #[.slice none 0 0, .int .i64 0] 26 := by rw [← hw3]; exact Blk.new _ _ _ (by simp)
      rw [hw3]
      clear hw3
      have cx00 : w3.cell? ⟨w.heap.size, 0, none⟩ = some (.int .i64 b) := x0_w3.cell rfl
      have cx01 : w3.cell? ⟨w.heap.size, 1, none⟩ = some (.slice ca C.length cc) := x0_w3.cell rfl
      have cx02 : w3.cell? ⟨w.heap.size, 2, none⟩ = some (.slice ma M.length mc) := x0_w3.cell rfl
      have lx0 := x0_w3.lt
      have cx10 : w3.cell? ⟨w.heap.size + 1, 0, none⟩ = some (.int .i64 1) := x1_w3.cell rfl
      have cx11 : w3.cell? ⟨w.heap.size + 1, 1, none⟩ = some (.int .i64 (j : Int)) := x1_w3.cell rfl
      have lx1 := x1_w3.lt
      have cx20 : w3.cell? ⟨w.heap.size + 1 + 1, 0, none⟩ = some (.slice none 0 0) := x2_w3.cell rfl
      have cx21 : w3.cell? ⟨w.heap.size + 1 + 1, 1, none⟩ = some (.int .i64 0) := x2_w3.cell rfl
      have lx2 := x2_w3.lt
      have f0 := x2_w3.free 0
      have f1 := x2_w3.free 1
      go_wp2_with fail
      first
      | (refine bodyPost_ret (v := .tuple #[.agg #[.slice none 0 0, .int .i64 0], .bool false]) (by simp [results, Try.results60, go_sem, cx20, cx21]) rfl ?_
         exact head_end0 B_w3 (by rw [← Ho.out, headTy_1, List.getElem?_eq_none (by omega)]))
      | (have z0 := (x2_w3.set 0 (.slice none 0 0)).cell (i := 0) (v := .slice none 0 0) rfl
         have z1 := ((x2_w3.set 0 (.slice none 0 0)).set 1 (.int .i64 0)).cell (i := 1) (v := .int .i64 0) rfl
         refine bodyPost_ret (v := .tuple #[.agg #[.slice none 0 0, .int .i64 0], .bool false]) (by simp [results, Try.results60, go_sem, z0, z1]) rfl ?_
         exact head_end hF.out (by omega) B_w3 (isTy_zero _ _) (by rw [← Ho.out, headTy_1, List.getElem?_eq_none (by omega)]; rfl) _ (by rw [← Ho.out, headTy_1, List.getElem?_eq_none (by omega)]; rfl))
  by_cases k2 : k = 2
  · subst k2
    by_cases i1 : j < M.length
    · skip
      go_enter Try.func60, Try.ntmps60
      go_wp2_with fail
      obtain ⟨w3, hw3⟩ : ∃ w3, ((w.alloc (.cells #[.int .i64 b, .slice ca C.length cc, .slice ma M.length mc] 87)).alloc (.cells #[.int .i64 2, .int .i64 (j : Int)] 23)).alloc (.cells #[.slice none 0 0, .int .i64 0] 26) = w3 := ⟨_, rfl⟩
      have B_w3 : Below w.heap.size w w3 := by rw [← hw3]; exact (((Below.refl _ _).alloc (Nat.le_refl _) _).alloc (by simp) _).alloc (by simp; omega) _
      have x0_w3 : Blk w3 w.heap.size #[.int .i64 b, .slice ca C.length cc, .slice ma M.length mc] 87 := by rw [← hw3]; exact ((Blk.new _ _ _ rfl).alloc _).alloc _
      have x1_w3 : Blk w3 (w.heap.size + 1) #[.int .i64 2, .int .i64 (j : Int)] 23 := by rw [← hw3]; exact (Blk.new _ _ _ (by simp)).alloc _
      have x2_w3 : Blk w3 (w.heap.size + 1 + 1) #[.slice none 0 0, .int .i64 0] 26 := by rw [← hw3]; exact Blk.new _ _ _ (by simp)
      rw [hw3]
      clear hw3
      have cx00 : w3.cell? ⟨w.heap.size, 0, none⟩ = some (.int .i64 b) := x0_w3.cell rfl
      have cx01 : w3.cell? ⟨w.heap.size, 1, none⟩ = some (.slice ca C.length cc) := x0_w3.cell rfl
      have cx02 : w3.cell? ⟨w.heap.size, 2, none⟩ = some (.slice ma M.length mc) := x0_w3.cell rfl
      have lx0 := x0_w3.lt
      have cx10 : w3.cell? ⟨w.heap.size + 1, 0, none⟩ = some (.int .i64 2) := x1_w3.cell rfl
      have cx11 : w3.cell? ⟨w.heap.size + 1, 1, none⟩ = some (.int .i64 (j : Int)) := x1_w3.cell rfl
      have lx1 := x1_w3.lt
      have cx20 : w3.cell? ⟨w.heap.size + 1 + 1, 0, none⟩ = some (.slice none 0 0) := x2_w3.cell rfl
      have cx21 : w3.cell? ⟨w.heap.size + 1 + 1, 1, none⟩ = some (.int .i64 0) := x2_w3.cell rfl
      have lx2 := x2_w3.lt
      have f0 := x2_w3.free 0
      have f1 := x2_w3.free 1
      obtain ⟨bl, off, A, N, Cc, Bb, rfl, _, e1, e2, hT⟩ := Hm.out j i1
      have e1 : w3.cell? ⟨bl, off + j * 2, none⟩ = some (.slice A N Cc) := ((Keep.refl (fun _ => True) _).below B_w3) _ _ _ trivial e1
      have e2 : w3.cell? ⟨bl, off + j * 2 + 1, none⟩ = some (.int .i64 Bb) := ((Keep.refl (fun _ => True) _).below B_w3) _ _ _ trivial e2
      have HT := Lib.hid hT; clear hT
      have l0 := Keep.lt e1
      go_wp2_with fail
      clear i0'
      go_simp
      have i4 : (0 : Int) ≤ (j : Int) := by omega
      go_wp2_with fail
      have z0_0 := ((x2_w3).set 0 (.slice A N Cc)).cell (i := 0) (v := .slice A N Cc) rfl
      have z0_1 := (((x2_w3).set 0 (.slice A N Cc)).set 1 (.int .i64 Bb)).cell (i := 0) (v := .slice A N Cc) rfl
      have z1_1 := (((x2_w3).set 0 (.slice A N Cc)).set 1 (.int .i64 Bb)).cell (i := 1) (v := .int .i64 Bb) rfl
      refine bodyPost_ret (v := .tuple #[.agg #[.slice A N Cc, .int .i64 Bb], .bool true]) (by simp [results, Try.results60, go_sem, z0_0, z0_1, z1_1]) rfl ?_
      clear z0_0 z0_1 z1_1
      exact head_end hF.out (by omega) B_w3 HT.out (by rw [← Ho.out, headTy_2, List.getElem?_eq_getElem i1]; rfl) _ (by rw [← Ho.out, headTy_2, List.getElem?_eq_getElem i1]; rfl)
    · skip
      go_enter Try.func60, Try.ntmps60
      go_wp2_with fail
      obtain ⟨w3, hw3⟩ : ∃ w3, ((w.alloc (.cells #[.int .i64 b, .slice ca C.length cc, .slice ma M.length mc] 87)).alloc (.cells #[.int .i64 2, .int .i64 (j : Int)] 23)).alloc (.cells #[.slice none 0 0, .int .i64 0] 26) = w3 := ⟨_, rfl⟩
      have B_w3 : Below w.heap.size w w3 := by rw [← hw3]; exact (((Below.refl _ _).alloc (Nat.le_refl _) _).alloc (by simp) _).alloc (by simp; omega) _
      have x0_w3 : Blk w3 w.heap.size #[.int .i64 b, .slice ca C.length cc, .slice ma M.length mc] 87 := by rw [← hw3]; exact ((Blk.new _ _ _ rfl).alloc _).alloc _
      have x1_w3 : Blk w3 (w.heap.size + 1) #[.int .i64 2, .int .i64 (j : Int)] 23 := by rw [← hw3]; exact (Blk.new _ _ _ (by simp)).alloc _
      have x2_w3 : Blk w3 (w.heap.size + 1 + 1) #[.slice none 0 0, .int .i64 0] 26 := by rw [← hw3]; exact Blk.new _ _ _ (by simp)
      rw [hw3]
      clear hw3
      have cx00 : w3.cell? ⟨w.heap.size, 0, none⟩ = some (.int .i64 b) := x0_w3.cell rfl
      have cx01 : w3.cell? ⟨w.heap.size, 1, none⟩ = some (.slice ca C.length cc) := x0_w3.cell rfl
      have cx02 : w3.cell? ⟨w.heap.size, 2, none⟩ = some (.slice ma M.length mc) := x0_w3.cell rfl
      have lx0 := x0_w3.lt
      have cx10 : w3.cell? ⟨w.heap.size + 1, 0, none⟩ = some (.int .i64 2) := x1_w3.cell rfl
      have cx11 : w3.cell? ⟨w.heap.size + 1, 1, none⟩ = some (.int .i64 (j : Int)) := x1_w3.cell rfl
      have lx1 := x1_w3.lt
      have cx20 : w3.cell? ⟨w.heap.size + 1 + 1, 0, none⟩ = some (.slice none 0 0) := x2_w3.cell rfl
      have cx21 : w3.cell? ⟨w.heap.size + 1 + 1, 1, none⟩ = some (.int .i64 0) := x2_w3.cell rfl
      have lx2 := x2_w3.lt
      have f0 := x2_w3.free 0
      have f1 := x2_w3.free 1
      go_wp2_with fail
      first
      | (refine bodyPost_ret (v := .tuple #[.agg #[.slice none 0 0, .int .i64 0], .bool false]) (by simp [results, Try.results60, go_sem, cx20, cx21]) rfl ?_
         exact head_end0 B_w3 (by rw [← Ho.out, headTy_2, List.getElem?_eq_none (by omega)]))
      | (have z0 := (x2_w3.set 0 (.slice none 0 0)).cell (i := 0) (v := .slice none 0 0) rfl
         have z1 := ((x2_w3.set 0 (.slice none 0 0)).set 1 (.int .i64 0)).cell (i := 1) (v := .int .i64 0) rfl
         refine bodyPost_ret (v := .tuple #[.agg #[.slice none 0 0, .int .i64 0], .bool false]) (by simp [results, Try.results60, go_sem, z0, z1]) rfl ?_
         exact head_end hF.out (by omega) B_w3 (isTy_zero _ _) (by rw [← Ho.out, headTy_2, List.getElem?_eq_none (by omega)]; rfl) _ (by rw [← Ho.out, headTy_2, List.getElem?_eq_none (by omega)]; rfl))
  by_cases k0 : k = 0
  · subst k0
    by_cases i1 : j < X.length
    · skip
      obtain ⟨m, hm⟩ : ∃ m : Nat, X.length - 1 - j = m := ⟨_, rfl⟩
      have i2 : m < X.length := by omega
      have hq0 : IntKind.i64.wrap ((X.length : Int) - 1) = (X.length : Int) - 1 := IntWalk.i64_in _ (by have := Hxl.out; omega)
      have hq2 : IntKind.i64.wrap ((X.length : Int) - 1 - j) = (m : Int) := by rw [show (X.length : Int) - 1 - j = (m : Int) by omega]; exact IntWalk.i64_in _ (by have := Hxl.out; omega)
      have Hm2 := Lib.hid hm; have Hi1 := Lib.hid i1
      clear hm
      go_enter Try.func60, Try.ntmps60
      go_wp2_with fail
      obtain ⟨w3, hw3⟩ : ∃ w3, ((w.alloc (.cells #[.int .i64 b, .slice ca C.length cc, .slice ma M.length mc] 87)).alloc (.cells #[.int .i64 0, .int .i64 (j : Int)] 23)).alloc (.cells #[.slice none 0 0, .int .i64 0] 26) = w3 := ⟨_, rfl⟩
      have B_w3 : Below w.heap.size w w3 := by rw [← hw3]; exact (((Below.refl _ _).alloc (Nat.le_refl _) _).alloc (by simp) _).alloc (by simp; omega) _
      have x0_w3 : Blk w3 w.heap.size #[.int .i64 b, .slice ca C.length cc, .slice ma M.length mc] 87 := by rw [← hw3]; exact ((Blk.new _ _ _ rfl).alloc _).alloc _
      have x1_w3 : Blk w3 (w.heap.size + 1) #[.int .i64 0, .int .i64 (j : Int)] 23 := by rw [← hw3]; exact (Blk.new _ _ _ (by simp)).alloc _
      have x2_w3 : Blk w3 (w.heap.size + 1 + 1) #[.slice none 0 0, .int .i64 0] 26 := by rw [← hw3]; exact Blk.new _ _ _ (by simp)
      rw [hw3]
      clear hw3
      have cx00 : w3.cell? ⟨w.heap.size, 0, none⟩ = some (.int .i64 b) := x0_w3.cell rfl
      have cx01 : w3.cell? ⟨w.heap.size, 1, none⟩ = some (.slice ca C.length cc) := x0_w3.cell rfl
      have cx02 : w3.cell? ⟨w.heap.size, 2, none⟩ = some (.slice ma M.length mc) := x0_w3.cell rfl
      have lx0 := x0_w3.lt
      have cx10 : w3.cell? ⟨w.heap.size + 1, 0, none⟩ = some (.int .i64 0) := x1_w3.cell rfl
      have cx11 : w3.cell? ⟨w.heap.size + 1, 1, none⟩ = some (.int .i64 (j : Int)) := x1_w3.cell rfl
      have lx1 := x1_w3.lt
      have cx20 : w3.cell? ⟨w.heap.size + 1 + 1, 0, none⟩ = some (.slice none 0 0) := x2_w3.cell rfl
      have cx21 : w3.cell? ⟨w.heap.size + 1 + 1, 1, none⟩ = some (.int .i64 0) := x2_w3.cell rfl
      have lx2 := x2_w3.lt
      have f0 := x2_w3.free 0
      have f1 := x2_w3.free 1
      obtain ⟨bl, off, A, N, Cc, Bb, rfl, _, e1, e2, hT⟩ := Hx.out m i2
      have e1 : w3.cell? ⟨bl, off + m * 2, none⟩ = some (.slice A N Cc) := ((Keep.refl (fun _ => True) _).below B_w3) _ _ _ trivial e1
      have e2 : w3.cell? ⟨bl, off + m * 2 + 1, none⟩ = some (.int .i64 Bb) := ((Keep.refl (fun _ => True) _).below B_w3) _ _ _ trivial e2
      have HT := Lib.hid hT; clear hT
      have l0 := Keep.lt e1
      go_wp2_with fail
      clear hq0 hq2 i0'
      go_simp
      have i4 : (0 : Int) ≤ (m : Int) := by omega
      go_wp2_with fail
      have z0_0 := ((x2_w3).set 0 (.slice A N Cc)).cell (i := 0) (v := .slice A N Cc) rfl
      have z0_1 := (((x2_w3).set 0 (.slice A N Cc)).set 1 (.int .i64 Bb)).cell (i := 0) (v := .slice A N Cc) rfl
      have z1_1 := (((x2_w3).set 0 (.slice A N Cc)).set 1 (.int .i64 Bb)).cell (i := 1) (v := .int .i64 Bb) rfl
      refine bodyPost_ret (v := .tuple #[.agg #[.slice A N Cc, .int .i64 Bb], .bool true]) (by simp [results, Try.results60, go_sem, z0_0, z0_1, z1_1]) rfl ?_
      clear z0_0 z0_1 z1_1
      exact head_end hF.out (by omega) B_w3 HT.out (by rw [← Ho.out, headTy_0, List.getElem?_reverse Hi1.out, Hm2.out, List.getElem?_eq_getElem i2]; rfl) _ (by rw [← Ho.out, headTy_0, List.getElem?_reverse Hi1.out, Hm2.out, List.getElem?_eq_getElem i2]; rfl)
    · skip
      go_enter Try.func60, Try.ntmps60
      go_wp2_with fail
      obtain ⟨w3, hw3⟩ : ∃ w3, ((w.alloc (.cells #[.int .i64 b, .slice ca C.length cc, .slice ma M.length mc] 87)).alloc (.cells #[.int .i64 0, .int .i64 (j : Int)] 23)).alloc (.cells #[.slice none 0 0, .int .i64 0] 26) = w3 := ⟨_, rfl⟩
      have B_w3 : Below w.heap.size w w3 := by rw [← hw3]; exact (((Below.refl _ _).alloc (Nat.le_refl _) _).alloc (by simp) _).alloc (by simp; omega) _
      have x0_w3 : Blk w3 w.heap.size #[.int .i64 b, .slice ca C.length cc, .slice ma M.length mc] 87 := by rw [← hw3]; exact ((Blk.new _ _ _ rfl).alloc _).alloc _
      have x1_w3 : Blk w3 (w.heap.size + 1) #[.int .i64 0, .int .i64 (j : Int)] 23 := by rw [← hw3]; exact (Blk.new _ _ _ (by simp)).alloc _
      have x2_w3 : Blk w3 (w.heap.size + 1 + 1) #[.slice none 0 0, .int .i64 0] 26 := by rw [← hw3]; exact Blk.new _ _ _ (by simp)
      rw [hw3]
      clear hw3
      have cx00 : w3.cell? ⟨w.heap.size, 0, none⟩ = some (.int .i64 b) := x0_w3.cell rfl
      have cx01 : w3.cell? ⟨w.heap.size, 1, none⟩ = some (.slice ca C.length cc) := x0_w3.cell rfl
      have cx02 : w3.cell? ⟨w.heap.size, 2, none⟩ = some (.slice ma M.length mc) := x0_w3.cell rfl
      have lx0 := x0_w3.lt
      have cx10 : w3.cell? ⟨w.heap.size + 1, 0, none⟩ = some (.int .i64 0) := x1_w3.cell rfl
      have cx11 : w3.cell? ⟨w.heap.size + 1, 1, none⟩ = some (.int .i64 (j : Int)) := x1_w3.cell rfl
      have lx1 := x1_w3.lt
      have cx20 : w3.cell? ⟨w.heap.size + 1 + 1, 0, none⟩ = some (.slice none 0 0) := x2_w3.cell rfl
      have cx21 : w3.cell? ⟨w.heap.size + 1 + 1, 1, none⟩ = some (.int .i64 0) := x2_w3.cell rfl
      have lx2 := x2_w3.lt
      have f0 := x2_w3.free 0
      have f1 := x2_w3.free 1
      go_wp2_with fail
      first
      | (refine bodyPost_ret (v := .tuple #[.agg #[.slice none 0 0, .int .i64 0], .bool false]) (by simp [results, Try.results60, go_sem, cx20, cx21]) rfl ?_
         exact head_end0 B_w3 (by rw [← Ho.out, headTy_0, List.getElem?_eq_none (by simp; omega)]))
      | (have z0 := (x2_w3.set 0 (.slice none 0 0)).cell (i := 0) (v := .slice none 0 0) rfl
         have z1 := ((x2_w3.set 0 (.slice none 0 0)).set 1 (.int .i64 0)).cell (i := 1) (v := .int .i64 0) rfl
         refine bodyPost_ret (v := .tuple #[.agg #[.slice none 0 0, .int .i64 0], .bool false]) (by simp [results, Try.results60, go_sem, z0, z1]) rfl ?_
         exact head_end hF.out (by omega) B_w3 (isTy_zero _ _) (by rw [← Ho.out, headTy_0, List.getElem?_eq_none (by simp; omega)]; rfl) _ (by rw [← Ho.out, headTy_0, List.getElem?_eq_none (by simp; omega)]; rfl))
  have g0 : (k == 0) = false := by simpa using k0
  have g1 : (k == 1) = false := by simpa using k1
  have g2 : (k == 2) = false := by simpa using k2
  go_enter Try.func60, Try.ntmps60
  go_wp2_with fail
  obtain ⟨w3, hw3⟩ : ∃ w3, ((w.alloc (.cells #[.int .i64 b, .slice ca C.length cc, .slice ma M.length mc] 87)).alloc (.cells #[.int .i64 k, .int .i64 (j : Int)] 23)).alloc (.cells #[.slice none 0 0, .int .i64 0] 26) = w3 := ⟨_, rfl⟩
  have B_w3 : Below w.heap.size w w3 := by rw [← hw3]; exact (((Below.refl _ _).alloc (Nat.le_refl _) _).alloc (by simp) _).alloc (by simp; omega) _
  have x0_w3 : Blk w3 w.heap.size #[.int .i64 b, .slice ca C.length cc, .slice ma M.length mc] 87 := by rw [← hw3]; exact ((Blk.new _ _ _ rfl).alloc _).alloc _
  have x1_w3 : Blk w3 (w.heap.size + 1) #[.int .i64 k, .int .i64 (j : Int)] 23 := by rw [← hw3]; exact (Blk.new _ _ _ (by simp)).alloc _
  have x2_w3 : Blk w3 (w.heap.size + 1 + 1) #[.slice none 0 0, .int .i64 0] 26 := by rw [← hw3]; exact Blk.new _ _ _ (by simp)
  rw [hw3]
  clear hw3
  have cx00 : w3.cell? ⟨w.heap.size, 0, none⟩ = some (.int .i64 b) := x0_w3.cell rfl
  have cx01 : w3.cell? ⟨w.heap.size, 1, none⟩ = some (.slice ca C.length cc) := x0_w3.cell rfl
  have cx02 : w3.cell? ⟨w.heap.size, 2, none⟩ = some (.slice ma M.length mc) := x0_w3.cell rfl
  have lx0 := x0_w3.lt
  have cx10 : w3.cell? ⟨w.heap.size + 1, 0, none⟩ = some (.int .i64 k) := x1_w3.cell rfl
  have cx11 : w3.cell? ⟨w.heap.size + 1, 1, none⟩ = some (.int .i64 (j : Int)) := x1_w3.cell rfl
  have lx1 := x1_w3.lt
  have cx20 : w3.cell? ⟨w.heap.size + 1 + 1, 0, none⟩ = some (.slice none 0 0) := x2_w3.cell rfl
  have cx21 : w3.cell? ⟨w.heap.size + 1 + 1, 1, none⟩ = some (.int .i64 0) := x2_w3.cell rfl
  have lx2 := x2_w3.lt
  have f0 := x2_w3.free 0
  have f1 := x2_w3.free 1
  go_wp2_with fail
  first
  | (refine bodyPost_ret (v := .tuple #[.agg #[.slice none 0 0, .int .i64 0], .bool false]) (by simp [results, Try.results60, go_sem, cx20, cx21]) rfl ?_
     exact head_end0 B_w3 (by rw [← Ho.out, headTy_o k0 k1 k2]))
  | (have z0 := (x2_w3.set 0 (.slice none 0 0)).cell (i := 0) (v := .slice none 0 0) rfl
     have z1 := ((x2_w3.set 0 (.slice none 0 0)).set 1 (.int .i64 0)).cell (i := 1) (v := .int .i64 0) rfl
     refine bodyPost_ret (v := .tuple #[.agg #[.slice none 0 0, .int .i64 0], .bool false]) (by simp [results, Try.results60, go_sem, z0, z1]) rfl ?_
     exact head_end hF.out (by omega) B_w3 (isTy_zero _ _) (by rw [← Ho.out, headTy_o k0 k1 k2]; rfl) _ (by rw [← Ho.out, headTy_o k0 k1 k2]; rfl))
end Go.Proofs.Ytejpgifofkiofaa

namespace Go.Proofs.Ytejpgifofkiofaa
open Go.RowKit

mutual
def IsOf (C M : List Ty) : Tm → List Ty → Ty → Prop
  | .mk b k i a, X, u => b = u.args ∧ ∃ h, headTy C M (X ++ b) k i = some h ∧ h.base = u.base ∧ IsOfs C M a (X ++ b) h.args
def IsOfs (C M : List Ty) : List Tm → List Ty → List Ty → Prop
  | [], _, [] => True
  | [], _, _ :: _ => False
  | _ :: _, _, [] => False
  | t :: l, X, u :: l' => IsOf C M t X u ∧ IsOfs C M l X l'
end
theorem isOf_mk {C M : List Ty} {b : List Ty} {k i : Int} {a : List Tm} {X : List Ty} {u : Ty} : IsOf C M (.mk b k i a) X u ↔ b = u.args ∧ ∃ h, headTy C M (X ++ b) k i = some h ∧ h.base = u.base ∧ IsOfs C M a (X ++ b) h.args := by rw [IsOf]
theorem isOfs_iff {C M : List Ty} {X : List Ty} : ∀ {l : List Tm} {l' : List Ty}, IsOfs C M l X l' ↔ l'.length = l.length ∧ ∀ i (h : i < l.length) (h' : i < l'.length), IsOf C M l[i] X l'[i]
  | [], [] => by simp [IsOfs]
  | [], _ :: _ => by simp [IsOfs]
  | _ :: _, [] => by simp [IsOfs]
  | t :: l, u :: l' => by
    rw [IsOfs, isOfs_iff]
    constructor
    · rintro ⟨h1, h2, h3⟩
      refine ⟨by simp [h2], fun i h h' => ?_⟩
      cases i with
      | zero => exact h1
      | succ i => exact h3 i (by simpa using h) (by simpa using h')
    · rintro ⟨h1, h2⟩
      exact ⟨h2 0 (by simp) (by simp), by simpa using h1, fun i h h' => h2 (i + 1) (by simpa using h) (by simpa using h')⟩
end Go.Proofs.Ytejpgifofkiofaa

namespace Go.Proofs.Ytejpgifofkiofaa
open Go.RowKit

theorem IsSl.bel {α : Type} {r : Rp α} {F : Nat → Prop} {w w' : World} {v : Value} {l : List α} (h : IsSl r F w v l) (hb : Below w.heap.size w w') : IsSl r F w' v l := h.keep ((Keep.refl _ _).below hb)
theorem below_own {F : Nat → Prop} {w wr : World} {v : Value} {l : List Ty} {T : TypeId} (h : Acc rpTy T w.heap.size (fun q => F q ∧ q < w.heap.size) wr v l) : ∀ q, (F q ∧ q < w.heap.size) → ((F q ∧ q < w.heap.size) ∧ v.ownBlock ≠ some q) :=
  fun q hq => ⟨hq, fun e => by have := (h.base_le q e).1; omega⟩

set_option maxRecDepth 100000 in
set_option maxHeartbeats 1000000 in
theorem within_k {G G' F : Nat → Prop} {w : World} {v v' : Value} {l l' : List Ty} (h : IsSl2 rpTy G F w v l) (h' : IsSl2 rpTy G' F w v' l') (hl : l.length + l'.length ≤ 100000) :
    Calls Try.prog 107 #[v, v'] w (OutSl2 F (l ++ l') w) := by
  obtain ⟨a, c, rfl⟩ := h.shape
  obtain ⟨a', c', rfl⟩ := h'.shape
  have H := Lib.hid h; have H' := Lib.hid h'
  clear h h'
  obtain ⟨r, hr⟩ : ∃ r, l ++ l' = r := ⟨_, rfl⟩
  have Hr := Lib.hid hr
  rw [hr]
  clear hr
  go_enter Try.func107, Try.ntmps107
  go_wp2_with fail
  obtain ⟨w1, hw1⟩ : ∃ w1, w.alloc (.cells #[.slice a l.length c, .slice a' l'.length c'] 33) = w1 := ⟨_, rfl⟩
  have hb1 : Below w.heap.size w w1 := by rw [← hw1]; exact (Below.refl _ _).alloc (Nat.le_refl _) _
  have x : Blk w1 w.heap.size #[.slice a l.length c, .slice a' l'.length c'] 33 := by rw [← hw1]; exact Blk.new _ _ _ rfl
  try rw [hw1]
  clear hw1
  refine (concat_any2 x (H.out.bel hb1) (H'.out.bel hb1) hl).mono ?_
  rintro e w2 ⟨a2, c2, rfl, hT, hb2⟩
  have hs1 := hb1.size
  have HT := Lib.hid (hT.weaken (G' := fun q => w.heap.size ≤ q) (F' := F) (by decide) (fun q _ h => by omega) fun _ _ h => h); clear hT
  rw [Hr.out] at HT ⊢
  go_wp2_with fail
  go_ret
  exact ⟨_, _, rfl, HT.out, hb1.trans (hb2.mono hb1.size)⟩

set_option maxRecDepth 100000 in
set_option maxHeartbeats 1000000 in
theorem behind_r {G G' F : Nat → Prop} {w : World} {v v' : Value} {l l' : List Ty} (h : IsSl2 rpTy G F w v l) (h' : IsSl2 rpTy G' F w v' l') (hl : l.length + l'.length ≤ 100000) :
    Calls Try.prog 68 #[v, v'] w (OutSl2 F (l ++ l') w) := by
  obtain ⟨a, c, rfl⟩ := h.shape
  obtain ⟨a', c', rfl⟩ := h'.shape
  obtain ⟨i0, hi0, hz0, hz1, hz2⟩ := info_parts infoR
  have H := Lib.hid (h.weaken (G' := fun q => q < w.heap.size) (F' := fun q => F q ∧ q < w.heap.size) (by decide) (fun k hk _ => hk) fun k hk hF => ⟨hF, hk⟩)
  have H' := Lib.hid (h'.weaken (G' := fun q => q < w.heap.size) (F' := fun q => F q ∧ q < w.heap.size) (by decide) (fun k hk _ => hk) fun k hk hF => ⟨hF, hk⟩)
  clear h h'
  have hll : l.length ≤ 1000000 := by omega
  have hacc0 := Acc.nil rpTy 26 w.heap.size (fun q => F q ∧ q < w.heap.size) w
  have Ha := Lib.hid hacc0; clear hacc0
  go_enter Try.func68, Try.ntmps68
  go_wp2_with (first
    | (at_builtin
       refine wpList_push_sl rpTy (by decide) rfl _ _ _ rfl w.heap.size 26 i0 _ 32 Try.underlying24 hi0 hz0 hz1 hz2 rfl (by decide) (fun q => F q ∧ q < w.heap.size) _ [] rfl Ha.out _ l rfl (H.out.weaken (by decide) (fun _ _ h => h) fun q _ hq => below_own Ha.out q hq) (by simp; omega) (Nat.le_refl _) ?_
       intro v1 w1 hacc1 hgrow hat
       have hb1 : Below w.heap.size w w1 := (Below.refl _ _).grown hgrow (Nat.le_refl _) (fun q hq => (Ha.out.base_le q hq).1)
       simp only [List.nil_append] at hacc1
       obtain ⟨a1, c1, hv1⟩ := hacc1.len_shape
       subst hv1
       have Ha1 := Lib.hid hacc1
       have H1' := Lib.hid (H'.out.bel hb1)
       have hs1 := hb1.size
       clear hacc1 hgrow hat)
    | (at_builtin
       refine wpList_push_sl rpTy (by decide) rfl _ _ _ rfl w.heap.size 26 i0 _ 32 Try.underlying24 hi0 hz0 hz1 hz2 rfl (by decide) (fun q => F q ∧ q < w.heap.size) _ l rfl Ha1.out _ l' rfl (H1'.out.weaken (by decide) (fun _ _ h => h) fun q _ hq => below_own Ha1.out q hq) (by omega) hs1 ?_
       intro v2 w2 hacc2 hgrow hat
       have Ha2 := Lib.hid hacc2
       clear hacc2 hat))
  have hb2 : Below w.heap.size w w2 := hb1.grown hgrow hs1 (fun q hq => (Ha1.out.base_le q hq).1)
  obtain ⟨a2, c2, hv⟩ := Ha2.out.len_shape
  go_ret
  refine ⟨a2, c2, ?_, ?_, hb2⟩
  · rw [← hv]; rfl
  · rw [← hv]; exact Ha2.out.sl2.weaken (by decide) (fun _ _ h => h) (fun _ _ h => h.1)
end Go.Proofs.Ytejpgifofkiofaa

