/-
  The law KindMakes, stepped through.
-/
import Derived.Test.YtejpgifofkiofaaRest
import Derived.Test.YtejpgifofkiofaaFloat
namespace Go.Proofs.Ytejpgifofkiofaa
open Go.RowKit

theorem args_mk (l : List Ty) (b : Int) : (Ty.mk l b).args = l := rfl
theorem base_mk (l : List Ty) (b : Int) : (Ty.mk l b).base = b := rfl

theorem size_args (t : Ty) : t.size = Ty.sizes t.args + 1 := by cases t; simp [Ty.size, Ty.args]
theorem len_args (t : Ty) : t.args.length < t.size := by have := Ty.le_sizes t.args; rw [size_args]; omega

theorem sizes_le {l : List Ty} {n : Nat} (h : ∀ t ∈ l, t.size ≤ n) : Ty.sizes l ≤ n * l.length := by
  induction l with
  | nil => simp [Ty.sizes]
  | cons t l ih =>
    have h1 := h t (by simp)
    have h2 := ih fun u hu => h u (by simp [hu])
    simp only [Ty.sizes, List.length_cons, Nat.mul_succ]; omega

set_option maxRecDepth 100000 in
set_option maxHeartbeats 4000000 in
theorem kindMakes_walk {w : World} {s b : Value} {na : Option Addr} {nn nc : Nat} {t : Ty} {l : List Ty} (n : Int) (ht : IsTy (fun _ => True) w s b t) (hn : IsSl rpTy (fun _ => True) w (.slice na nn nc) l) :
    Calls Try.prog 7 #[.agg #[s, b], .slice na nn nc, .int .i64 n] w fun e w' => e = .returned (.bool true) ∧ Below w.heap.size w w' := by
  have hcap := hn.le
  obtain ⟨a, c, rfl, rfl⟩ := ht.shape
  have Ht := Lib.hid ht; clear ht
  have hnn : l.length = nn := by obtain ⟨_, _, h⟩ := isSl_shape hn; simp only [Value.slice.injEq] at h; exact h.2.1.symm
  obtain ⟨k, hk⟩ : ∃ k, min nn 20 = k := ⟨_, rfl⟩
  obtain ⟨m, hm⟩ : ∃ m, l.take k = m := ⟨_, rfl⟩
  have hn' := hn.take k (by omega)
  rw [hm] at hn'
  have Hn := Lib.hid hn'; clear hn'
  have Hk := Lib.hid (show m.length = k ∧ k ≤ 20 by rw [← hm]; simp; omega)
  have Hcap := Lib.hid (show (min (nn : Int) 20).toNat = k by omega)
  clear hn hnn hk hm
  obtain ⟨l2, hl2⟩ : ∃ l2, t.args.length = l2 := ⟨_, rfl⟩
  obtain ⟨b2, hb2⟩ : ∃ b2, t.base = b2 := ⟨_, rfl⟩
  rw [hl2, hb2] at Ht ⊢
  have Hl2 := Lib.hid hl2
  have Hb2 := Lib.hid hb2
  clear hl2 hb2
  go_enter Try.func7, Try.ntmps7
  go_wp2_with fail
  rw [Hcap.out]
  have B1 := (Below.refl w.heap.size w).alloc (Nat.le_refl _) (.cells #[.slice a l2 c, .int .i64 b2] 26)
  have B2 := B1.alloc (by simp) (.cells #[.slice a l2 c, .int .i64 b2] 26)
  have x2 := (Blk.new w #[.slice a l2 c, .int .i64 b2] 26 rfl).alloc (.cells #[.slice a l2 c, .int .i64 b2] 26)
  have H2 := Lib.hid (Ht.out.bel B2)
  refine (few04 (isSl_one (Blk.new _ _ _ (by simp)) H2.out) (by simp)).mono ?_
  rintro e w3 ⟨r, hr, rfl, hb3⟩
  have B3 := B2.trans (hb3.mono (by simp; omega))
  have x3 := x2.below (hb3.mono (by simp))
  have H3 := Lib.hid (H2.out.bel hb3)
  have N3 := Lib.hid (Hn.out.keep ((Keep.refl _ _).below B3))
  clear H2 Ht Hn
  cases r
  · clear hr
    go_wp2_with fail
    refine (known04 w3).mono ?_
    rintro e w4 ⟨rfl, hb4⟩
    go_wp2_with fail
    go_ret
    exact ⟨rfl, B3.trans (hb4.mono B3.size)⟩
  have Hr := Lib.hid (show t.size ≤ 100 ∧ t.depth ≤ 70 by have := yes_of hr; simpa using this)
  clear hr hb3 B1 B2 x2
  have c0 : w3.cell? ⟨w.heap.size, 0, none⟩ = some (.slice a l2 c) := x3.cell rfl
  have c1 : w3.cell? ⟨w.heap.size, 1, none⟩ = some (.int .i64 b2) := x3.cell rfl
  go_wp2_with fail
  refine (few04 N3.out (by have := Hk.out; omega)).mono ?_
  rintro e w4 ⟨r, hr, rfl, hb4⟩
  have B4 := B3.trans (hb4.mono B3.size)
  have x4 := x3.below hb4
  have H4 := Lib.hid (H3.out.bel hb4)
  have N4 := Lib.hid (N3.out.keep ((Keep.refl _ _).below hb4))
  clear H3 N3 c0 c1 B3 x3 hb4
  cases r
  · clear hr
    go_wp2_with fail
    refine (known04 w4).mono ?_
    rintro e w5 ⟨rfl, hb5⟩
    go_wp2_with fail
    go_ret
    exact ⟨rfl, B4.trans (hb5.mono B4.size)⟩
  have Hm := Lib.hid (yes_of hr); clear hr
  have c0 : w4.cell? ⟨w.heap.size, 0, none⟩ = some (.slice a l2 c) := x4.cell rfl
  have c1 : w4.cell? ⟨w.heap.size, 1, none⟩ = some (.int .i64 b2) := x4.cell rfl
  go_wp2_with fail
  refine (all_any N4.out (by have := Hk.out; omega) (fun t h => by have := Hm.out t h; omega)).mono ?_
  rintro e w5 ⟨ma, mc, rfl, hm5, hb5⟩
  rw [Hk.out.1] at hm5 ⊢
  have M5 := Lib.hid hm5; clear hm5
  have B5 := B4.trans (hb5.mono B4.size)
  have x5 := x4.below hb5
  have H5 := Lib.hid (H4.out.bel hb5)
  have N5 := Lib.hid (N4.out.keep ((Keep.refl _ _).below hb5))
  clear H4 N4 c0 c1 B4 x4 hb5
  go_wp2_with fail
  have d0 : w5.cell? ⟨w.heap.size, 0, none⟩ = some (.slice a l2 c) := x5.cell rfl
  have d1 : w5.cell? ⟨w.heap.size, 1, none⟩ = some (.int .i64 b2) := x5.cell rfl
  have hms : Ty.sizes m + 1 ≤ 100000 := by
    have h1 := sizes_le (fun t h => (Hm.out t h).1); have h2 := Hk.out; rw [h2.1] at h1; omega
  have hms2 : Ty.sizes m + t.size ≤ 100000 := by
    have h1 := sizes_le (fun t h => (Hm.out t h).1); have h2 := Hk.out; have h3 := Hr.out; rw [h2.1] at h1; omega
  have Hms := Lib.hid hms; have Hms2 := Lib.hid hms2; clear hms hms2
  refine wp_region_noPanic (wp_region_need (S := fun w' => w'.cell? ⟨w.heap.size, 0, none⟩ = some (.slice a l2 c) ∧ w'.cell? ⟨w.heap.size, 1, none⟩ = some (.int .i64 b2)) (by kernel_rfl) ?_)
  have hS : (w5.drew).cell? ⟨w.heap.size, 0, none⟩ = some (.slice a l2 c) ∧ (w5.drew).cell? ⟨w.heap.size, 1, none⟩ = some (.int .i64 b2) := ⟨d0, d1⟩
  refine wpN_take (i := 0) (v := ?v1) rfl (by kernel_rfl) (fun _ _ _ h => h) hS (Or.inl ⟨by rfl, ?hy1⟩) ?hr1
  case hy1 => (intro wS hSw; (try dsimp only at hSw); go_simp; (try with_reducible rfl))
  try simp only [Act.put, List.setIfInBounds_toArray, List.set_cons_zero, List.set_cons_succ, List.getElem_toArray, List.getElem_cons_zero, List.getElem_cons_succ]
  refine wpN_take (i := 1) (v := ?v2) rfl (by kernel_rfl) (fun _ _ _ h => h) hS (Or.inl ⟨by rfl, ?hy2⟩) ?hr2
  case hy2 => (intro wS hSw; (try dsimp only at hSw); go_simp; (try with_reducible rfl))
  try simp only [Act.put, List.setIfInBounds_toArray, List.set_cons_zero, List.set_cons_succ, List.getElem_toArray, List.getElem_cons_zero, List.getElem_cons_succ]
  refine wpN_take (i := 2) (v := ?v3) rfl (by kernel_rfl) (fun _ _ _ h => h) hS (Or.inl ⟨by rfl, ?hy3⟩) ?hr3
  case hy3 => (intro wS hSw; (try dsimp only at hSw); go_simp; (try with_reducible rfl))
  try simp only [Act.put, List.setIfInBounds_toArray, List.set_cons_zero, List.set_cons_succ, List.getElem_toArray, List.getElem_cons_zero, List.getElem_cons_succ]
  refine wpN_takeD [5, 7, 10, 11] (i := 4) (v := ?v4) rfl (by kernel_rfl) (fun _ _ _ h => h) hS (Or.inl ⟨by rfl, ?hy4⟩) ?hr4
  case hy4 => (intro wS hSw; (try dsimp only at hSw); go_simp; (try with_reducible rfl))
  try simp only [Act.put, List.setIfInBounds_toArray, List.set_cons_zero, List.set_cons_succ, List.getElem_toArray, List.getElem_cons_zero, List.getElem_cons_succ]
  refine wpN_takeD [7, 10, 11] (i := 6) (v := ?v5) rfl (by kernel_rfl) (fun _ _ _ h => h) hS (Or.inl ⟨by rfl, ?hy5⟩) ?hr5
  case hy5 => (intro wS hSw; (try dsimp only at hSw); go_simp; (try with_reducible rfl))
  try simp only [Act.put, List.setIfInBounds_toArray, List.set_cons_zero, List.set_cons_succ, List.getElem_toArray, List.getElem_cons_zero, List.getElem_cons_succ]
  clear hS d0 d1
  refine wpN_name fun ops5 Q5 S5 a5 hops hQ5 hS5 hact => ?_
  try dsimp only [Act.put, List.setIfInBounds_toArray, List.set_cons_zero, List.set_cons_succ, List.getElem_toArray, List.getElem_cons_zero, List.getElem_cons_succ] at hact
  have Hops := Lib.hid hops; clear hops
  have HQ5 := Lib.hid hQ5; clear hQ5
  have st3tt : Hid (∀ (a34 : Option Addr) (c34 : Nat) (a36 : Option Addr) (c36 : Nat) (a38 : Option Addr) (c38 : Nat) (p8 : Nat) (p9 : Nat) (w' : World), Below w5.heap.size w5 w' → Blk w' w.heap.size #[.slice a l2 c, .int .i64 b2] 26 → IsTy (fun q => q ≠ p8 ∧ q ≠ p9) w' (.slice a34 k c34) (.int .i64 b2) (.mk m b2) → IsTy (fun q => q ≠ p8 ∧ q ≠ p9) w' (.slice a36 l2 c36) (.int .i64 b2) t → IsTy (fun q => q ≠ p8 ∧ q ≠ p9) w' (.slice a38 (k + l2) c38) (.int .i64 b2) (.mk (m ++ t.args) b2) → w5.heap.size ≤ p8 → Blk w' p8 #[.slice none 0 0, .int .i64 0] 40 → w5.heap.size ≤ p9 → Blk w' p9 #[.slice none 0 0, .int .i64 0] 40 → p8 ≠ p9 → wpN Try.prog .any ops5 Q5 S5 2 #[true, true, true, true, true, true, true, true, true, true, false, false] (((((a5.put (some 34) (.agg #[.slice a34 k c34, .int .i64 b2])).put (some 36) (.agg #[.slice a36 l2 c36, .int .i64 b2])).put (some 38) (.agg #[.slice a38 (k + l2) c38, .int .i64 b2])).put (some 8) (.pointer (some ⟨p8, 0, none⟩))).put (some 9) (.pointer (some ⟨p9, 0, none⟩))) w') := by
    intro a34 c34 a36 c36 a38 c38 p8 p9 w' B X T34 T36 T38 L8 Z8 L9 Z9 D
    refine wpN_step (i := 10) (by rw [Hops.out]; kernel_rfl) (by rw [Hops.out]; rfl) (fun K hK => ?_)
    have hK := Lib.hid hK
    simp only [hact, Act.put, List.setIfInBounds_toArray, List.set_cons_zero, List.set_cons_succ]
    have r80 : w'.cell? ⟨p8, 0, none⟩ = some (.slice none 0 0) := Z8.cell rfl
    have r81 : w'.cell? ⟨p8, 1, none⟩ = some (.int .i64 0) := Z8.cell rfl
    have r90 : w'.cell? ⟨p9, 0, none⟩ = some (.slice none 0 0) := Z9.cell rfl
    have r91 : w'.cell? ⟨p9, 1, none⟩ = some (.int .i64 0) := Z9.cell rfl
    have D' := Ne.symm D
    have f80 := Z8.free 0
    have f81 := Z8.free 1
    have f90 := Z9.free 0
    have f91 := Z9.free 1
    go_simp
    refine hK.out _ _ (fun h => absurd h (by rw [Hops.out]; decide)) ?_
    refine wpN_step (i := 11) (by rw [Hops.out]; kernel_rfl) (by rw [Hops.out]; rfl) (fun K hK => ?_)
    have hK := Lib.hid hK
    simp only [Act.put, List.setIfInBounds_toArray, List.set_cons_zero, List.set_cons_succ]
    go_simp
    refine hK.out _ _ (fun h => absurd h (by rw [Hops.out]; decide)) ?_
    refine wpN_done (by rw [Hops.out]; kernel_rfl) ?_
    rw [HQ5.out]
    refine NoPanic.normal ?_
    obtain ⟨w6, hw6⟩ : ∃ w6, (((w'.setCell ⟨p8, 0, none⟩ (.slice a34 k c34)).setCell ⟨p8, 1, none⟩ (.int .i64 b2)).setCell ⟨p9, 0, none⟩ (.slice a38 (k + l2) c38)).setCell ⟨p9, 1, none⟩ (.int .i64 b2) = w6 := ⟨_, rfl⟩
    have hlt8 : w.heap.size < p8 := Nat.lt_of_lt_of_le x5.lt L8
    have hlt9 : w.heap.size < p9 := Nat.lt_of_lt_of_le x5.lt L9
    have X6 : Blk w6 w.heap.size #[.slice a l2 c, .int .i64 b2] 26 := by
      rw [← hw6]; exact (((X.far _ _ (by simp; omega)).far _ _ (by simp; omega)).far _ _ (by simp; omega)).far _ _ (by simp; omega)
    have P8 : Blk w6 p8 #[.slice a34 k c34, .int .i64 b2] 40 := by
      rw [← hw6]; exact ((((Z8.set 0 _).set 1 _).far _ _ (by simpa using D)).far _ _ (by simpa using D))
    have P9 : Blk w6 p9 #[.slice a38 (k + l2) c38, .int .i64 b2] 40 := by
      rw [← hw6]; exact ((((Z9.far _ _ (by simpa using D')).far _ _ (by simpa using D')).set 0 _).set 1 _)
    have K6 : Keep (fun q => q ≠ p8 ∧ q ≠ p9) w' w6 := by
      rw [← hw6]; exact ((((Keep.refl _ _).setCell _ _ (by simp)).setCell _ _ (by simp)).setCell _ _ (by simp)).setCell _ _ (by simp)
    have K5 : Keep (fun q => q < w5.heap.size) w5 w6 := by
      rw [← hw6]; exact (((((Keep.refl _ _).below B).setCell _ _ (by simp; omega)).setCell _ _ (by simp; omega)).setCell _ _ (by simp; omega)).setCell _ _ (by simp; omega)
    have B6 : Below w.heap.size w w6 := by
      rw [← hw6]; exact ((((B5.trans (B.mono B5.size)).setCell (by simp; omega) _).setCell (by simp; omega) _).setCell (by simp; omega) _).setCell (by simp; omega) _
    have T34' := Lib.hid ((T34.keep K6).weaken (F' := fun _ => True) fun _ _ _ => trivial)
    have T38' := Lib.hid ((T38.keep K6).weaken (F' := fun _ => True) fun _ _ _ => trivial)
    have H6 := Lib.hid (((H5.out.weaken (F' := fun q => q < w5.heap.size) fun q hq _ => hq).keep K5).weaken (F' := fun _ => True) fun _ _ _ => trivial)
    have N6 := Lib.hid (((N5.out.weaken (F' := fun q => q < w5.heap.size) (by decide) fun q hq _ => hq).keep K5).weaken (F' := fun _ => True) (by decide) fun _ _ _ => trivial)
    rw [hw6]
    clear hw6 K6 K5 T34 T36 T38 X Z8 Z9 B L8 L9 r80 r81 r90 r91 f80 f81 f90 f91 H5 N5 M5 x5 B5
    have c0 : w6.cell? ⟨w.heap.size, 0, none⟩ = some (.slice a l2 c) := X6.cell rfl
    have c1 : w6.cell? ⟨w.heap.size, 1, none⟩ = some (.int .i64 b2) := X6.cell rfl
    go_wp2_with fail
    refine (to_any H6.out w6 (by have := Hr.out; omega) (Keep.refl _ _)).mono ?_
    intro e w7 h
    obtain ⟨_, _, rfl, T7, hb7⟩ := h
    obtain ⟨a7, c7, rfl, rfl⟩ := T7.shape
    rw [Hl2.out, Hb2.out] at T7 ⊢
    have hT7 := Lib.hid (T7.weaken (F' := fun _ => True) fun _ _ _ => trivial); clear T7
    go_wp2_with fail
    refine (rest_k hT7.out n (by have := Hr.out; omega)).mono ?_
    intro e w8 h
    obtain ⟨hb8, h⟩ := h
    obtain ⟨a8, n8, c8, b8, e8, r8, rfl, hT8, hq⟩ : ∃ (a8 : Option Addr) (n8 c8 : Nat) (b8 e8 : Int) (r8 : Ty), e = .returned (.tuple #[.agg #[.slice a8 n8 c8, .int .i64 b8], .int .i64 e8]) ∧ IsTy (fun _ => True) w8 (.slice a8 n8 c8) (.int .i64 b8) r8 ∧
        ((0 ≤ n ∧ n ≤ (l2 : Int) ∧ e8 = 0 ∧ r8 = .mk (t.args.drop n.toNat) t.base) ∨ ((n < 0 ∨ (l2 : Int) < n) ∧ e8 = 1 ∧ n8 = 0 ∧ b8 = 0 ∧ a8 = none ∧ r8 = .mk [] 0)) := by
      rw [Hl2.out] at h
      rcases h with ⟨h0, h1, a, c, rfl, hT⟩ | ⟨h0, rfl⟩
      · exact ⟨a, _, c, _, 0, _, rfl, hT, .inl ⟨h0, h1, rfl, rfl⟩⟩
      · exact ⟨none, 0, 0, 0, 1, .mk [] 0, rfl, isTy_mk (isSl_nil _ _ _) 0, .inr ⟨h0, rfl, rfl, rfl, rfl, rfl⟩⟩
    clear h
    have T8 := Lib.hid hT8; clear hT8
    have Hq := Lib.hid hq; clear hq
    have hb78 : Below w6.heap.size w6 w8 := hb7.trans (hb8.mono hb7.size)
    have B8 := B6.trans (hb78.mono B6.size)
    have X8 := X6.below hb78
    have P8' := P8.below hb78
    have P9' := P9.below hb78
    have T34'' := Lib.hid (T34'.out.bel hb78)
    have T38'' := Lib.hid (T38'.out.bel hb78)
    have H8 := Lib.hid (H6.out.bel hb78)
    have N8 := Lib.hid (N6.out.keep ((Keep.refl _ _).below hb78))
    clear T34' T38' H6 N6 P8 P9 X6 B6 hb7 hb8 hb78 hT7 c0 c1
    have d0 : w8.cell? ⟨p9, 0, none⟩ = some (.slice a38 (k + l2) c38) := P9'.cell rfl
    have d1 : w8.cell? ⟨p9, 1, none⟩ = some (.int .i64 b2) := P9'.cell rfl
    have hlt9' := P9'.lt
    go_wp2_with fail
    obtain ⟨w9, hw9⟩ : ∃ w9, w8.alloc (.cells #[.slice a8 n8 c8, .int .i64 b8] 40) = w9 := ⟨_, rfl⟩
    obtain ⟨p10, hp10⟩ : ∃ p10, w8.heap.size = p10 := ⟨_, rfl⟩
    have b9 : Below w8.heap.size w8 w9 := by rw [← hw9]; exact (Below.refl _ _).alloc (Nat.le_refl _) _
    have P10 : Blk w9 p10 #[.slice a8 n8 c8, .int .i64 b8] 40 := by rw [← hw9, ← hp10]; exact Blk.new _ _ _ rfl
    rw [hw9]
    rw [hp10]
    clear hw9 hp10
    have B9 := B8.trans (b9.mono B8.size)
    have X9 := X8.below b9
    have P8_9 := P8'.below b9
    have P9_9 := P9'.below b9
    have T8_9 := Lib.hid (T8.out.bel b9)
    have T34_9 := Lib.hid (T34''.out.bel b9)
    have T38_9 := Lib.hid (T38''.out.bel b9)
    have H9 := Lib.hid (H8.out.bel b9)
    have N9 := Lib.hid (N8.out.keep ((Keep.refl _ _).below b9))
    clear T8 T34'' T38'' H8 N8 P8' P9' X8 B8 d0 d1 hlt9' b9
    refine (rest_k T38_9.out k (by
      have h := Hms2.out; have h2 : t.size = Ty.sizes t.args + 1 := by cases t; simp [Ty.size, Ty.args]
      rw [Ty.size_eq, Ty.sizes_append]; omega)).mono ?_
    intro e w10 h
    obtain ⟨hb10, h⟩ := h
    obtain ⟨a10, c10, rfl, hT10⟩ : ∃ a10 c10, e = .returned (.tuple #[.agg #[.slice a10 l2 c10, .int .i64 b2], .int .i64 0]) ∧ IsTy (fun _ => True) w10 (.slice a10 l2 c10) (.int .i64 b2) t := by
      have hd : (m ++ t.args).drop (k : Int).toNat = t.args := by
        have := Hk.out.1
        simp [← this]
      rcases h with ⟨h0, h1, a, c, rfl, hT⟩ | ⟨h0, _⟩
      · simp only [args_mk, base_mk] at hT
        simp only [args_mk, base_mk]
        rw [hd, Hl2.out] at hT
        rw [hd, Hl2.out]
        have ht : Ty.mk t.args b2 = t := by rw [← Hb2.out]; cases t; rfl
        rw [ht] at hT
        exact ⟨a, c, rfl, hT⟩
      · have := Hk.out.1; simp only [args_mk, List.length_append] at h0; omega
    clear h
    have T10 := Lib.hid hT10; clear hT10
    have B10 := B9.trans (hb10.mono B9.size)
    have X10 := X9.below hb10
    have P8_10 := P8_9.below hb10
    have P9_10 := P9_9.below hb10
    have P10_10 := P10.below hb10
    have T8_10 := Lib.hid (T8_9.out.bel hb10)
    have T34_10 := Lib.hid (T34_9.out.bel hb10)
    have T38_10 := Lib.hid (T38_9.out.bel hb10)
    have H10 := Lib.hid (H9.out.bel hb10)
    have N10 := Lib.hid (N9.out.keep ((Keep.refl _ _).below hb10))
    clear T8_9 T34_9 T38_9 H9 N9 P8_9 P9_9 P10 X9 B9 hb10
    have c0 : w10.cell? ⟨w.heap.size, 0, none⟩ = some (.slice a l2 c) := X10.cell rfl
    have hltx := X10.lt
    rcases Hq.out with ⟨hq0, hq1, rfl, hq3⟩ | ⟨hq0, rfl, rfl, rfl, rfl, rfl⟩
    · have hn0 : ¬ n < 0 := by omega
      have hn1 : ¬ n > (l2 : Int) := by omega
      clear Hq
      obtain ⟨l8, hl8⟩ : ∃ l8, t.args.drop n.toNat = l8 := ⟨_, rfl⟩
      have Hs8 := Lib.hid (show (Ty.mk l8 b2).size ≤ 1000000 by
        have h := Hr.out; have h2 := size_args t
        have h3 : Ty.sizes t.args = Ty.sizes (t.args.take n.toNat) + Ty.sizes (t.args.drop n.toNat) := by rw [← Ty.sizes_append, List.take_append_drop]
        rw [Ty.size_eq, ← hl8]; omega)
      rw [hl8, Hb2.out] at hq3
      subst hq3
      have Hl8 := Lib.hid hl8; clear hl8
      have hnn8 : n8 = l8.length := by obtain ⟨_, _, h, _⟩ := T8_10.out.shape; simp only [Value.slice.injEq, args_mk] at h; exact h.2.1
      have hbb8 : b8 = b2 := by obtain ⟨_, _, _, h⟩ := T8_10.out.shape; simp only [base_mk, Value.int.injEq, true_and] at h; exact h
      subst hbb8
      have Hn8 := Lib.hid hnn8; clear hnn8
      go_wp2_with fail
      obtain ⟨w11, hw11⟩ : ∃ w11, w10.alloc (.cells #[.slice a10 l2 c10, .int .i64 b8] 40) = w11 := ⟨_, rfl⟩
      obtain ⟨p12, hp12⟩ : ∃ p12, w10.heap.size = p12 := ⟨_, rfl⟩
      have b11 : Below w10.heap.size w10 w11 := by rw [← hw11]; exact (Below.refl _ _).alloc (Nat.le_refl _) _
      have P12_w11 : Blk w11 p12 #[.slice a10 l2 c10, .int .i64 b8] 40 := by rw [← hw11, ← hp12]; exact Blk.new _ _ _ rfl
      rw [hw11]
      rw [hp12]
      clear hw11 hp12
      have B_w11 := B10.trans (b11.mono B10.size)
      have X_w11 := X10.below b11
      have P8_w11 := P8_10.below b11
      have P9_w11 := P9_10.below b11
      have P10_w11 := P10_10.below b11
      have T8_w11 := Lib.hid (T8_10.out.bel b11)
      have T34_w11 := Lib.hid (T34_10.out.bel b11)
      have T38_w11 := Lib.hid (T38_10.out.bel b11)
      have T10_w11 := Lib.hid (T10.out.bel b11)
      have H_w11 := Lib.hid (H10.out.bel b11)
      have N_w11 := Lib.hid (N10.out.keep ((Keep.refl _ _).below b11))
      clear T8_10 T34_10 T38_10 T10 H10 N10 P8_10 P9_10 P10_10 X10 B10 b11 c0 hltx
      have Hlt := Lib.hid (show t.args.length ≤ 1000 by have h := Hr.out; have h3 := len_args t; omega)
      have Hs34 := Lib.hid (show (Ty.mk m b8).size ≤ 1000000 by have h := Hms.out; rw [Ty.size_eq]; omega)
      have Hs38 := Lib.hid (show (Ty.mk (m ++ t.args) b8).size ≤ 1000000 by have h := Hms2.out; have h2 := size_args t; rw [Ty.size_eq, Ty.sizes_append]; omega)
      have Hs10 := Lib.hid (show t.size ≤ 1000000 by have h := Hr.out; omega)
      refine wp_region_noPanic (wp_region_need (S := fun w' => w'.cell? ⟨w.heap.size, 0, none⟩ = some (.slice a l2 c) ∧ w'.cell? ⟨w.heap.size, 1, none⟩ = some (.int .i64 b8) ∧ w'.cell? ⟨p10, 0, none⟩ = some (.slice a8 n8 c8) ∧ w'.cell? ⟨p10, 1, none⟩ = some (.int .i64 b8)) (by kernel_rfl) ?_)
      have hS : (w11.drew).cell? ⟨w.heap.size, 0, none⟩ = some (.slice a l2 c) ∧ (w11.drew).cell? ⟨w.heap.size, 1, none⟩ = some (.int .i64 b8) ∧ (w11.drew).cell? ⟨p10, 0, none⟩ = some (.slice a8 n8 c8) ∧ (w11.drew).cell? ⟨p10, 1, none⟩ = some (.int .i64 b8) := ⟨X_w11.drew.cell rfl, X_w11.drew.cell rfl, P10_w11.drew.cell rfl, P10_w11.drew.cell rfl⟩
      refine wpN_take (i := 0) (v := ?v6) rfl (by kernel_rfl) (fun _ _ _ h => h) hS (Or.inl ⟨by rfl, ?hy6⟩) ?hr6
      case hy6 => (intro wS hSw; (try dsimp only at hSw); go_simp; (try with_reducible rfl))
      try simp only [Act.put, List.setIfInBounds_toArray, List.set_cons_zero, List.set_cons_succ, List.getElem_toArray, List.getElem_cons_zero, List.getElem_cons_succ]
      refine wpN_take (i := 1) (v := ?v7) rfl (by kernel_rfl) (fun _ _ _ h => h) hS (Or.inl ⟨by rfl, ?hy7⟩) ?hr7
      case hy7 => (intro wS hSw; (try dsimp only at hSw); go_simp; (try with_reducible rfl))
      try simp only [Act.put, List.setIfInBounds_toArray, List.set_cons_zero, List.set_cons_succ, List.getElem_toArray, List.getElem_cons_zero, List.getElem_cons_succ]
      refine wpN_take (i := 2) (v := ?v8) rfl (by kernel_rfl) (fun _ _ _ h => h) hS (Or.inl ⟨by rfl, ?hy8⟩) ?hr8
      case hy8 => (intro wS hSw; (try dsimp only at hSw); go_simp; (try with_reducible rfl))
      try simp only [Act.put, List.setIfInBounds_toArray, List.set_cons_zero, List.set_cons_succ, List.getElem_toArray, List.getElem_cons_zero, List.getElem_cons_succ]
      refine wpN_take (i := 3) (v := ?v9) rfl (by kernel_rfl) (fun _ _ _ h => h) hS (Or.inl ⟨by rfl, ?hy9⟩) ?hr9
      case hy9 => (intro wS hSw; (try dsimp only at hSw); go_simp; (try with_reducible rfl))
      try simp only [Act.put, List.setIfInBounds_toArray, List.set_cons_zero, List.set_cons_succ, List.getElem_toArray, List.getElem_cons_zero, List.getElem_cons_succ]
      refine wpN_take (i := 5) (v := ?v10) rfl (by kernel_rfl) (fun _ _ _ h => h) hS (Or.inl ⟨by rfl, ?hy10⟩) ?hr10
      case hy10 => (intro wS hSw; (try dsimp only at hSw); go_simp; (try with_reducible rfl))
      try simp only [Act.put, List.setIfInBounds_toArray, List.set_cons_zero, List.set_cons_succ, List.getElem_toArray, List.getElem_cons_zero, List.getElem_cons_succ]
      refine wpN_take (i := 6) (v := ?v11) rfl (by kernel_rfl) (fun _ _ _ h => h) hS (Or.inl ⟨by rfl, ?hy11⟩) ?hr11
      case hy11 => (intro wS hSw; (try dsimp only at hSw); go_simp; (try with_reducible rfl))
      try simp only [Act.put, List.setIfInBounds_toArray, List.set_cons_zero, List.set_cons_succ, List.getElem_toArray, List.getElem_cons_zero, List.getElem_cons_succ]
      refine wpN_step (i := 4) (by kernel_rfl) rfl (fun K hK => ?_)
      go_simp
      refine (of_any T8_w11.out w11.drew Hs8.out (Keep.refl _ _).drew).mono ?_
      intro e w12 h
      obtain ⟨_, _, rfl, hT, hbd⟩ := h
      obtain ⟨q8, qc8, rfl, rfl⟩ := hT.shape
      simp only [args_mk, base_mk] at hT ⊢
      rw [← Hn8.out] at hT ⊢
      have O8_w12 := Lib.hid (hT.weaken (F' := fun _ => True) fun _ _ _ => trivial)
      clear hT
      have hbx : Below w11.heap.size w11 w12 := (Below.refl _ _).drew.trans hbd
      clear hbd
      have X_w12 := X_w11.below hbx
      have P8_w12 := P8_w11.below hbx
      have P9_w12 := P9_w11.below hbx
      have P12_w12 := P12_w11.below hbx
      have P10_w12 := P10_w11.below hbx
      have T34_w12 := Lib.hid (T34_w11.out.bel hbx)
      have T38_w12 := Lib.hid (T38_w11.out.bel hbx)
      have T10_w12 := Lib.hid (T10_w11.out.bel hbx)
      have H_w12 := Lib.hid (H_w11.out.bel hbx)
      have T8_w12 := Lib.hid (T8_w11.out.bel hbx)
      have N_w12 := Lib.hid (N_w11.out.keep ((Keep.refl _ _).below hbx))
      have B_w12 := B_w11.trans (hbx.mono B_w11.size)
      clear X_w11 P8_w11 P9_w11 P12_w11 T34_w11 T38_w11 T10_w11 H_w11 N_w11 B_w11 P10_w11 T8_w11
      clear hbx
      have hS : (w12).cell? ⟨w.heap.size, 0, none⟩ = some (.slice a l2 c) ∧ (w12).cell? ⟨w.heap.size, 1, none⟩ = some (.int .i64 b8) ∧ (w12).cell? ⟨p10, 0, none⟩ = some (.slice a8 n8 c8) ∧ (w12).cell? ⟨p10, 1, none⟩ = some (.int .i64 b8) := ⟨X_w12.cell rfl, X_w12.cell rfl, P10_w12.cell rfl, P10_w12.cell rfl⟩
      refine hK.out _ _ (fun _ => hS) ?_
      clear hK K
      try simp only [Act.put, List.setIfInBounds_toArray, List.set_cons_zero, List.set_cons_succ, List.getElem_toArray, List.getElem_cons_zero, List.getElem_cons_succ]
      refine wpN_step (i := 7) (by kernel_rfl) rfl (fun K hK => ?_)
      go_simp
      have hrr := rest_r H_w12.out n (by rw [Hl2.out]; omega) (by have := Hr.out; omega)
      rw [Hl8.out, Hb2.out] at hrr
      refine hrr.mono ?_
      clear hrr
      rintro e w13 ⟨qr, qrc, rfl, hT, hbx⟩
      simp only [args_mk, base_mk] at hT ⊢
      rw [← Hn8.out] at hT ⊢
      have R8_w13 := Lib.hid (hT.weaken (F' := fun _ => True) fun _ _ _ => trivial)
      clear hT
      have O8_w13 := Lib.hid (O8_w12.out.bel hbx)
      have X_w13 := X_w12.below hbx
      have P8_w13 := P8_w12.below hbx
      have P9_w13 := P9_w12.below hbx
      have P12_w13 := P12_w12.below hbx
      have P10_w13 := P10_w12.below hbx
      have T34_w13 := Lib.hid (T34_w12.out.bel hbx)
      have T38_w13 := Lib.hid (T38_w12.out.bel hbx)
      have T10_w13 := Lib.hid (T10_w12.out.bel hbx)
      have H_w13 := Lib.hid (H_w12.out.bel hbx)
      have T8_w13 := Lib.hid (T8_w12.out.bel hbx)
      have N_w13 := Lib.hid (N_w12.out.keep ((Keep.refl _ _).below hbx))
      have B_w13 := B_w12.trans (hbx.mono B_w12.size)
      clear X_w12 P8_w12 P9_w12 P12_w12 T34_w12 T38_w12 T10_w12 H_w12 N_w12 B_w12 P10_w12 T8_w12
      clear hbx O8_w12
      have hS : (w13).cell? ⟨w.heap.size, 0, none⟩ = some (.slice a l2 c) ∧ (w13).cell? ⟨w.heap.size, 1, none⟩ = some (.int .i64 b8) ∧ (w13).cell? ⟨p10, 0, none⟩ = some (.slice a8 n8 c8) ∧ (w13).cell? ⟨p10, 1, none⟩ = some (.int .i64 b8) := ⟨X_w13.cell rfl, X_w13.cell rfl, P10_w13.cell rfl, P10_w13.cell rfl⟩
      refine hK.out _ _ (fun _ => hS) ?_
      clear hK K
      try simp only [Act.put, List.setIfInBounds_toArray, List.set_cons_zero, List.set_cons_succ, List.getElem_toArray, List.getElem_cons_zero, List.getElem_cons_succ]
      refine wpN_step (i := 8) (by kernel_rfl) rfl (fun K hK => ?_)
      go_simp
      refine (same_r O8_w13.out R8_w13.out w13 (Keep.refl _ _) (Keep.refl _ _)).mono ?_
      intro e w14 h
      obtain ⟨r, Hq, rfl, hbx⟩ := of_retB h
      clear h
      obtain rfl : r = true := Hq.out.2 rfl
      clear Hq
      have X_w14 := X_w13.below hbx
      have P8_w14 := P8_w13.below hbx
      have P9_w14 := P9_w13.below hbx
      have P12_w14 := P12_w13.below hbx
      have P10_w14 := P10_w13.below hbx
      have T34_w14 := Lib.hid (T34_w13.out.bel hbx)
      have T38_w14 := Lib.hid (T38_w13.out.bel hbx)
      have T10_w14 := Lib.hid (T10_w13.out.bel hbx)
      have H_w14 := Lib.hid (H_w13.out.bel hbx)
      have T8_w14 := Lib.hid (T8_w13.out.bel hbx)
      have N_w14 := Lib.hid (N_w13.out.keep ((Keep.refl _ _).below hbx))
      have B_w14 := B_w13.trans (hbx.mono B_w13.size)
      clear X_w13 P8_w13 P9_w13 P12_w13 T34_w13 T38_w13 T10_w13 H_w13 N_w13 B_w13 P10_w13 T8_w13
      clear hbx O8_w13 R8_w13
      have hS : (w14).cell? ⟨w.heap.size, 0, none⟩ = some (.slice a l2 c) ∧ (w14).cell? ⟨w.heap.size, 1, none⟩ = some (.int .i64 b8) ∧ (w14).cell? ⟨p10, 0, none⟩ = some (.slice a8 n8 c8) ∧ (w14).cell? ⟨p10, 1, none⟩ = some (.int .i64 b8) := ⟨X_w14.cell rfl, X_w14.cell rfl, P10_w14.cell rfl, P10_w14.cell rfl⟩
      refine hK.out _ _ (fun _ => hS) ?_
      clear hK K
      try simp only [Act.put, List.setIfInBounds_toArray, List.set_cons_zero, List.set_cons_succ, List.getElem_toArray, List.getElem_cons_zero, List.getElem_cons_succ]
      refine wpN_take (i := 9) (v := ?v12) rfl (by kernel_rfl) (fun _ _ _ h => h) hS (Or.inl ⟨by rfl, ?hy12⟩) ?hr12
      case hy12 => (intro wS hSw; (try dsimp only at hSw); go_simp; (try with_reducible rfl))
      try simp only [Act.put, List.setIfInBounds_toArray, List.set_cons_zero, List.set_cons_succ, List.getElem_toArray, List.getElem_cons_zero, List.getElem_cons_succ]
      refine wpN_take (i := 10) (v := ?v13) rfl (by kernel_rfl) (fun _ _ _ h => h) hS (Or.inl ⟨by rfl, ?hy13⟩) ?hr13
      case hy13 => (intro wS hSw; (try dsimp only at hSw); go_simp; (try with_reducible rfl))
      try simp only [Act.put, List.setIfInBounds_toArray, List.set_cons_zero, List.set_cons_succ, List.getElem_toArray, List.getElem_cons_zero, List.getElem_cons_succ]
      refine wpN_done (by kernel_rfl) ?_
      refine NoPanic.normal ?_
      clear hS
      go_wp2_with fail
      refine wp_region_noPanic (wp_region_need (S := fun w' => w'.cell? ⟨w.heap.size, 0, none⟩ = some (.slice a l2 c) ∧ w'.cell? ⟨w.heap.size, 1, none⟩ = some (.int .i64 b8) ∧ w'.cell? ⟨p8, 0, none⟩ = some (.slice a34 k c34) ∧ w'.cell? ⟨p8, 1, none⟩ = some (.int .i64 b8) ∧ w'.cell? ⟨p9, 0, none⟩ = some (.slice a38 (k + l2) c38) ∧ w'.cell? ⟨p9, 1, none⟩ = some (.int .i64 b8) ∧ w'.cell? ⟨p12, 0, none⟩ = some (.slice a10 l2 c10) ∧ w'.cell? ⟨p12, 1, none⟩ = some (.int .i64 b8)) (by kernel_rfl) ?_)
      have hS : (w14.drew).cell? ⟨w.heap.size, 0, none⟩ = some (.slice a l2 c) ∧ (w14.drew).cell? ⟨w.heap.size, 1, none⟩ = some (.int .i64 b8) ∧ (w14.drew).cell? ⟨p8, 0, none⟩ = some (.slice a34 k c34) ∧ (w14.drew).cell? ⟨p8, 1, none⟩ = some (.int .i64 b8) ∧ (w14.drew).cell? ⟨p9, 0, none⟩ = some (.slice a38 (k + l2) c38) ∧ (w14.drew).cell? ⟨p9, 1, none⟩ = some (.int .i64 b8) ∧ (w14.drew).cell? ⟨p12, 0, none⟩ = some (.slice a10 l2 c10) ∧ (w14.drew).cell? ⟨p12, 1, none⟩ = some (.int .i64 b8) := ⟨X_w14.drew.cell rfl, X_w14.drew.cell rfl, P8_w14.drew.cell rfl, P8_w14.drew.cell rfl, P9_w14.drew.cell rfl, P9_w14.drew.cell rfl, P12_w14.drew.cell rfl, P12_w14.drew.cell rfl⟩
      refine wpN_step (i := 0) (by kernel_rfl) rfl (fun K hK => ?_)
      go_simp
      refine (known04 w14.drew).mono ?_
      rintro e v0 ⟨rfl, hbd⟩
      have hbx : Below w14.heap.size w14 v0 := (Below.refl _ _).drew.trans hbd
      clear hbd
      have X_v0 := X_w14.below hbx
      have P8_v0 := P8_w14.below hbx
      have P9_v0 := P9_w14.below hbx
      have P12_v0 := P12_w14.below hbx
      have T34_v0 := Lib.hid (T34_w14.out.bel hbx)
      have T38_v0 := Lib.hid (T38_w14.out.bel hbx)
      have T10_v0 := Lib.hid (T10_w14.out.bel hbx)
      have H_v0 := Lib.hid (H_w14.out.bel hbx)
      have N_v0 := Lib.hid (N_w14.out.keep ((Keep.refl _ _).below hbx))
      have B_v0 := B_w14.trans (hbx.mono B_w14.size)
      clear X_w14 P8_w14 P9_w14 P12_w14 T34_w14 T38_w14 T10_w14 H_w14 N_w14 B_w14
      clear hbx
      have hS : (v0).cell? ⟨w.heap.size, 0, none⟩ = some (.slice a l2 c) ∧ (v0).cell? ⟨w.heap.size, 1, none⟩ = some (.int .i64 b8) ∧ (v0).cell? ⟨p8, 0, none⟩ = some (.slice a34 k c34) ∧ (v0).cell? ⟨p8, 1, none⟩ = some (.int .i64 b8) ∧ (v0).cell? ⟨p9, 0, none⟩ = some (.slice a38 (k + l2) c38) ∧ (v0).cell? ⟨p9, 1, none⟩ = some (.int .i64 b8) ∧ (v0).cell? ⟨p12, 0, none⟩ = some (.slice a10 l2 c10) ∧ (v0).cell? ⟨p12, 1, none⟩ = some (.int .i64 b8) := ⟨X_v0.cell rfl, X_v0.cell rfl, P8_v0.cell rfl, P8_v0.cell rfl, P9_v0.cell rfl, P9_v0.cell rfl, P12_v0.cell rfl, P12_v0.cell rfl⟩
      refine hK.out _ _ (fun _ => hS) ?_
      clear hK K
      try simp only [Act.put, List.setIfInBounds_toArray, List.set_cons_zero, List.set_cons_succ, List.getElem_toArray, List.getElem_cons_zero, List.getElem_cons_succ]
      refine wpN_take (i := 1) (v := ?v14) rfl (by kernel_rfl) (fun _ _ _ h => h) hS (Or.inl ⟨by rfl, ?hy14⟩) ?hr14
      case hy14 => (intro wS hSw; (try dsimp only at hSw); go_simp; (try with_reducible rfl))
      try simp only [Act.put, List.setIfInBounds_toArray, List.set_cons_zero, List.set_cons_succ, List.getElem_toArray, List.getElem_cons_zero, List.getElem_cons_succ]
      refine wpN_take (i := 2) (v := ?v15) rfl (by kernel_rfl) (fun _ _ _ h => h) hS (Or.inl ⟨by rfl, ?hy15⟩) ?hr15
      case hy15 => (intro wS hSw; (try dsimp only at hSw); go_simp; (try with_reducible rfl))
      try simp only [Act.put, List.setIfInBounds_toArray, List.set_cons_zero, List.set_cons_succ, List.getElem_toArray, List.getElem_cons_zero, List.getElem_cons_succ]
      refine wpN_take (i := 4) (v := ?v16) rfl (by kernel_rfl) (fun _ _ _ h => h) hS (Or.inl ⟨by rfl, ?hy16⟩) ?hr16
      case hy16 => (intro wS hSw; (try dsimp only at hSw); go_simp; (try with_reducible rfl))
      try simp only [Act.put, List.setIfInBounds_toArray, List.set_cons_zero, List.set_cons_succ, List.getElem_toArray, List.getElem_cons_zero, List.getElem_cons_succ]
      refine wpN_take (i := 5) (v := ?v17) rfl (by kernel_rfl) (fun _ _ _ h => h) hS (Or.inl ⟨by rfl, ?hy17⟩) ?hr17
      case hy17 => (intro wS hSw; (try dsimp only at hSw); go_simp; (try with_reducible rfl))
      try simp only [Act.put, List.setIfInBounds_toArray, List.set_cons_zero, List.set_cons_succ, List.getElem_toArray, List.getElem_cons_zero, List.getElem_cons_succ]
      refine wpN_take (i := 6) (v := ?v18) rfl (by kernel_rfl) (fun _ _ _ h => h) hS (Or.inl ⟨by rfl, ?hy18⟩) ?hr18
      case hy18 => (intro wS hSw; (try dsimp only at hSw); go_simp; (try with_reducible rfl))
      try simp only [Act.put, List.setIfInBounds_toArray, List.set_cons_zero, List.set_cons_succ, List.getElem_toArray, List.getElem_cons_zero, List.getElem_cons_succ]
      refine wpN_take (i := 7) (v := ?v19) rfl (by kernel_rfl) (fun _ _ _ h => h) hS (Or.inl ⟨by rfl, ?hy19⟩) ?hr19
      case hy19 => (intro wS hSw; (try dsimp only at hSw); go_simp; (try with_reducible rfl))
      try simp only [Act.put, List.setIfInBounds_toArray, List.set_cons_zero, List.set_cons_succ, List.getElem_toArray, List.getElem_cons_zero, List.getElem_cons_succ]
      refine wpN_step (i := 3) (by kernel_rfl) rfl (fun K hK => ?_)
      go_simp
      refine (of_any T34_v0.out v0 Hs34.out (Keep.refl _ _)).mono ?_
      intro e v1 h
      obtain ⟨_, _, rfl, hT, hbx⟩ := h
      obtain ⟨q34, qc34, rfl, rfl⟩ := hT.shape
      simp only [args_mk, base_mk, List.length_append, Hk.out.1, Hl2.out, Hb2.out] at hT ⊢
      have O34_v1 := Lib.hid (hT.weaken (F' := fun _ => True) fun _ _ _ => trivial)
      clear hT
      have X_v1 := X_v0.below hbx
      have P8_v1 := P8_v0.below hbx
      have P9_v1 := P9_v0.below hbx
      have P12_v1 := P12_v0.below hbx
      have T34_v1 := Lib.hid (T34_v0.out.bel hbx)
      have T38_v1 := Lib.hid (T38_v0.out.bel hbx)
      have T10_v1 := Lib.hid (T10_v0.out.bel hbx)
      have H_v1 := Lib.hid (H_v0.out.bel hbx)
      have N_v1 := Lib.hid (N_v0.out.keep ((Keep.refl _ _).below hbx))
      have B_v1 := B_v0.trans (hbx.mono B_v0.size)
      clear X_v0 P8_v0 P9_v0 P12_v0 T34_v0 T38_v0 T10_v0 H_v0 N_v0 B_v0
      clear hbx
      have hS : (v1).cell? ⟨w.heap.size, 0, none⟩ = some (.slice a l2 c) ∧ (v1).cell? ⟨w.heap.size, 1, none⟩ = some (.int .i64 b8) ∧ (v1).cell? ⟨p8, 0, none⟩ = some (.slice a34 k c34) ∧ (v1).cell? ⟨p8, 1, none⟩ = some (.int .i64 b8) ∧ (v1).cell? ⟨p9, 0, none⟩ = some (.slice a38 (k + l2) c38) ∧ (v1).cell? ⟨p9, 1, none⟩ = some (.int .i64 b8) ∧ (v1).cell? ⟨p12, 0, none⟩ = some (.slice a10 l2 c10) ∧ (v1).cell? ⟨p12, 1, none⟩ = some (.int .i64 b8) := ⟨X_v1.cell rfl, X_v1.cell rfl, P8_v1.cell rfl, P8_v1.cell rfl, P9_v1.cell rfl, P9_v1.cell rfl, P12_v1.cell rfl, P12_v1.cell rfl⟩
      refine hK.out _ _ (fun _ => hS) ?_
      clear hK K
      try simp only [Act.put, List.setIfInBounds_toArray, List.set_cons_zero, List.set_cons_succ, List.getElem_toArray, List.getElem_cons_zero, List.getElem_cons_succ]
      refine wpN_step (i := 8) (by kernel_rfl) rfl (fun K hK => ?_)
      go_simp
      refine (arrow_r (t := .mk [] b8) (isTy_mk (isSl_nil rpTy (fun _ => True) v1) b8) N_v1.out (by have := Hk.out; simp [Ty.args]; omega)).mono ?_
      rintro e v2 ⟨qa, qac, rfl, hT, hbx⟩
      simp only [args_mk, base_mk, List.length_append, List.append_nil, Hk.out.1, Hl2.out, Hb2.out] at hT ⊢
      have A34_v2 := Lib.hid (hT.weaken (F' := fun _ => True) fun _ _ _ => trivial)
      clear hT
      have O34_v2 := Lib.hid (O34_v1.out.bel hbx)
      clear O34_v1
      have X_v2 := X_v1.below hbx
      have P8_v2 := P8_v1.below hbx
      have P9_v2 := P9_v1.below hbx
      have P12_v2 := P12_v1.below hbx
      have T34_v2 := Lib.hid (T34_v1.out.bel hbx)
      have T38_v2 := Lib.hid (T38_v1.out.bel hbx)
      have T10_v2 := Lib.hid (T10_v1.out.bel hbx)
      have H_v2 := Lib.hid (H_v1.out.bel hbx)
      have N_v2 := Lib.hid (N_v1.out.keep ((Keep.refl _ _).below hbx))
      have B_v2 := B_v1.trans (hbx.mono B_v1.size)
      clear X_v1 P8_v1 P9_v1 P12_v1 T34_v1 T38_v1 T10_v1 H_v1 N_v1 B_v1
      clear hbx
      have hS : (v2).cell? ⟨w.heap.size, 0, none⟩ = some (.slice a l2 c) ∧ (v2).cell? ⟨w.heap.size, 1, none⟩ = some (.int .i64 b8) ∧ (v2).cell? ⟨p8, 0, none⟩ = some (.slice a34 k c34) ∧ (v2).cell? ⟨p8, 1, none⟩ = some (.int .i64 b8) ∧ (v2).cell? ⟨p9, 0, none⟩ = some (.slice a38 (k + l2) c38) ∧ (v2).cell? ⟨p9, 1, none⟩ = some (.int .i64 b8) ∧ (v2).cell? ⟨p12, 0, none⟩ = some (.slice a10 l2 c10) ∧ (v2).cell? ⟨p12, 1, none⟩ = some (.int .i64 b8) := ⟨X_v2.cell rfl, X_v2.cell rfl, P8_v2.cell rfl, P8_v2.cell rfl, P9_v2.cell rfl, P9_v2.cell rfl, P12_v2.cell rfl, P12_v2.cell rfl⟩
      refine hK.out _ _ (fun _ => hS) ?_
      clear hK K
      try simp only [Act.put, List.setIfInBounds_toArray, List.set_cons_zero, List.set_cons_succ, List.getElem_toArray, List.getElem_cons_zero, List.getElem_cons_succ]
      refine wpN_step (i := 9) (by kernel_rfl) rfl (fun K hK => ?_)
      go_simp
      refine (same_r O34_v2.out A34_v2.out v2 (Keep.refl _ _) (Keep.refl _ _)).mono ?_
      intro e v3 h
      obtain ⟨r, Hq, rfl, hbx⟩ := of_retB h
      clear h
      obtain rfl : r = true := Hq.out.2 rfl
      clear Hq
      have X_v3 := X_v2.below hbx
      have P8_v3 := P8_v2.below hbx
      have P9_v3 := P9_v2.below hbx
      have P12_v3 := P12_v2.below hbx
      have T34_v3 := Lib.hid (T34_v2.out.bel hbx)
      have T38_v3 := Lib.hid (T38_v2.out.bel hbx)
      have T10_v3 := Lib.hid (T10_v2.out.bel hbx)
      have H_v3 := Lib.hid (H_v2.out.bel hbx)
      have N_v3 := Lib.hid (N_v2.out.keep ((Keep.refl _ _).below hbx))
      have B_v3 := B_v2.trans (hbx.mono B_v2.size)
      clear X_v2 P8_v2 P9_v2 P12_v2 T34_v2 T38_v2 T10_v2 H_v2 N_v2 B_v2
      clear hbx
      have hS : (v3).cell? ⟨w.heap.size, 0, none⟩ = some (.slice a l2 c) ∧ (v3).cell? ⟨w.heap.size, 1, none⟩ = some (.int .i64 b8) ∧ (v3).cell? ⟨p8, 0, none⟩ = some (.slice a34 k c34) ∧ (v3).cell? ⟨p8, 1, none⟩ = some (.int .i64 b8) ∧ (v3).cell? ⟨p9, 0, none⟩ = some (.slice a38 (k + l2) c38) ∧ (v3).cell? ⟨p9, 1, none⟩ = some (.int .i64 b8) ∧ (v3).cell? ⟨p12, 0, none⟩ = some (.slice a10 l2 c10) ∧ (v3).cell? ⟨p12, 1, none⟩ = some (.int .i64 b8) := ⟨X_v3.cell rfl, X_v3.cell rfl, P8_v3.cell rfl, P8_v3.cell rfl, P9_v3.cell rfl, P9_v3.cell rfl, P12_v3.cell rfl, P12_v3.cell rfl⟩
      refine hK.out _ _ (fun _ => hS) ?_
      clear hK K
      try simp only [Act.put, List.setIfInBounds_toArray, List.set_cons_zero, List.set_cons_succ, List.getElem_toArray, List.getElem_cons_zero, List.getElem_cons_succ]
      clear O34_v2 A34_v2
      refine wpN_take (i := 10) (v := ?v20) rfl (by kernel_rfl) (fun _ _ _ h => h) hS (Or.inl ⟨by rfl, ?hy20⟩) ?hr20
      case hy20 => (intro wS hSw; (try dsimp only at hSw); go_simp; (try with_reducible rfl))
      try simp only [Act.put, List.setIfInBounds_toArray, List.set_cons_zero, List.set_cons_succ, List.getElem_toArray, List.getElem_cons_zero, List.getElem_cons_succ]
      refine wpN_take (i := 11) (v := ?v21) rfl (by kernel_rfl) (fun _ _ _ h => h) hS (Or.inl ⟨by rfl, ?hy21⟩) ?hr21
      case hy21 => (intro wS hSw; (try dsimp only at hSw); go_simp; (try with_reducible rfl))
      try simp only [Act.put, List.setIfInBounds_toArray, List.set_cons_zero, List.set_cons_succ, List.getElem_toArray, List.getElem_cons_zero, List.getElem_cons_succ]
      refine wpN_take (i := 12) (v := ?v22) rfl (by kernel_rfl) (fun _ _ _ h => h) hS (Or.inl ⟨by rfl, ?hy22⟩) ?hr22
      case hy22 => (intro wS hSw; (try dsimp only at hSw); go_simp; (try with_reducible rfl))
      try simp only [Act.put, List.setIfInBounds_toArray, List.set_cons_zero, List.set_cons_succ, List.getElem_toArray, List.getElem_cons_zero, List.getElem_cons_succ]
      refine wpN_take (i := 14) (v := ?v23) rfl (by kernel_rfl) (fun _ _ _ h => h) hS (Or.inl ⟨by rfl, ?hy23⟩) ?hr23
      case hy23 => (intro wS hSw; (try dsimp only at hSw); go_simp; (try with_reducible rfl))
      try simp only [Act.put, List.setIfInBounds_toArray, List.set_cons_zero, List.set_cons_succ, List.getElem_toArray, List.getElem_cons_zero, List.getElem_cons_succ]
      refine wpN_take (i := 15) (v := ?v24) rfl (by kernel_rfl) (fun _ _ _ h => h) hS (Or.inl ⟨by rfl, ?hy24⟩) ?hr24
      case hy24 => (intro wS hSw; (try dsimp only at hSw); go_simp; (try with_reducible rfl))
      try simp only [Act.put, List.setIfInBounds_toArray, List.set_cons_zero, List.set_cons_succ, List.getElem_toArray, List.getElem_cons_zero, List.getElem_cons_succ]
      refine wpN_step (i := 13) (by kernel_rfl) rfl (fun K hK => ?_)
      go_simp
      refine (of_any T38_v3.out v3 Hs38.out (Keep.refl _ _)).mono ?_
      intro e v4 h
      obtain ⟨_, _, rfl, hT, hbx⟩ := h
      obtain ⟨q38, qc38, rfl, rfl⟩ := hT.shape
      simp only [args_mk, base_mk, List.length_append, Hk.out.1, Hl2.out, Hb2.out] at hT ⊢
      have O38_v4 := Lib.hid (hT.weaken (F' := fun _ => True) fun _ _ _ => trivial)
      clear hT
      have X_v4 := X_v3.below hbx
      have P8_v4 := P8_v3.below hbx
      have P9_v4 := P9_v3.below hbx
      have P12_v4 := P12_v3.below hbx
      have T34_v4 := Lib.hid (T34_v3.out.bel hbx)
      have T38_v4 := Lib.hid (T38_v3.out.bel hbx)
      have T10_v4 := Lib.hid (T10_v3.out.bel hbx)
      have H_v4 := Lib.hid (H_v3.out.bel hbx)
      have N_v4 := Lib.hid (N_v3.out.keep ((Keep.refl _ _).below hbx))
      have B_v4 := B_v3.trans (hbx.mono B_v3.size)
      clear X_v3 P8_v3 P9_v3 P12_v3 T34_v3 T38_v3 T10_v3 H_v3 N_v3 B_v3
      clear hbx
      have hS : (v4).cell? ⟨w.heap.size, 0, none⟩ = some (.slice a l2 c) ∧ (v4).cell? ⟨w.heap.size, 1, none⟩ = some (.int .i64 b8) ∧ (v4).cell? ⟨p8, 0, none⟩ = some (.slice a34 k c34) ∧ (v4).cell? ⟨p8, 1, none⟩ = some (.int .i64 b8) ∧ (v4).cell? ⟨p9, 0, none⟩ = some (.slice a38 (k + l2) c38) ∧ (v4).cell? ⟨p9, 1, none⟩ = some (.int .i64 b8) ∧ (v4).cell? ⟨p12, 0, none⟩ = some (.slice a10 l2 c10) ∧ (v4).cell? ⟨p12, 1, none⟩ = some (.int .i64 b8) := ⟨X_v4.cell rfl, X_v4.cell rfl, P8_v4.cell rfl, P8_v4.cell rfl, P9_v4.cell rfl, P9_v4.cell rfl, P12_v4.cell rfl, P12_v4.cell rfl⟩
      refine hK.out _ _ (fun _ => hS) ?_
      clear hK K
      try simp only [Act.put, List.setIfInBounds_toArray, List.set_cons_zero, List.set_cons_succ, List.getElem_toArray, List.getElem_cons_zero, List.getElem_cons_succ]
      refine wpN_step (i := 16) (by kernel_rfl) rfl (fun K hK => ?_)
      go_simp
      refine (arrow_r H_v4.out N_v4.out (by have := Hk.out; have := Hlt.out; omega)).mono ?_
      rintro e v5 ⟨qa, qac, rfl, hT, hbx⟩
      simp only [args_mk, base_mk, List.length_append, List.append_nil, Hk.out.1, Hl2.out, Hb2.out] at hT ⊢
      have A38_v5 := Lib.hid (hT.weaken (F' := fun _ => True) fun _ _ _ => trivial)
      clear hT
      have O38_v5 := Lib.hid (O38_v4.out.bel hbx)
      clear O38_v4
      have X_v5 := X_v4.below hbx
      have P8_v5 := P8_v4.below hbx
      have P9_v5 := P9_v4.below hbx
      have P12_v5 := P12_v4.below hbx
      have T34_v5 := Lib.hid (T34_v4.out.bel hbx)
      have T38_v5 := Lib.hid (T38_v4.out.bel hbx)
      have T10_v5 := Lib.hid (T10_v4.out.bel hbx)
      have H_v5 := Lib.hid (H_v4.out.bel hbx)
      have N_v5 := Lib.hid (N_v4.out.keep ((Keep.refl _ _).below hbx))
      have B_v5 := B_v4.trans (hbx.mono B_v4.size)
      clear X_v4 P8_v4 P9_v4 P12_v4 T34_v4 T38_v4 T10_v4 H_v4 N_v4 B_v4
      clear hbx
      have hS : (v5).cell? ⟨w.heap.size, 0, none⟩ = some (.slice a l2 c) ∧ (v5).cell? ⟨w.heap.size, 1, none⟩ = some (.int .i64 b8) ∧ (v5).cell? ⟨p8, 0, none⟩ = some (.slice a34 k c34) ∧ (v5).cell? ⟨p8, 1, none⟩ = some (.int .i64 b8) ∧ (v5).cell? ⟨p9, 0, none⟩ = some (.slice a38 (k + l2) c38) ∧ (v5).cell? ⟨p9, 1, none⟩ = some (.int .i64 b8) ∧ (v5).cell? ⟨p12, 0, none⟩ = some (.slice a10 l2 c10) ∧ (v5).cell? ⟨p12, 1, none⟩ = some (.int .i64 b8) := ⟨X_v5.cell rfl, X_v5.cell rfl, P8_v5.cell rfl, P8_v5.cell rfl, P9_v5.cell rfl, P9_v5.cell rfl, P12_v5.cell rfl, P12_v5.cell rfl⟩
      refine hK.out _ _ (fun _ => hS) ?_
      clear hK K
      try simp only [Act.put, List.setIfInBounds_toArray, List.set_cons_zero, List.set_cons_succ, List.getElem_toArray, List.getElem_cons_zero, List.getElem_cons_succ]
      refine wpN_step (i := 17) (by kernel_rfl) rfl (fun K hK => ?_)
      go_simp
      refine (same_r O38_v5.out A38_v5.out v5 (Keep.refl _ _) (Keep.refl _ _)).mono ?_
      intro e v6 h
      obtain ⟨r, Hq, rfl, hbx⟩ := of_retB h
      clear h
      obtain rfl : r = true := Hq.out.2 rfl
      clear Hq
      have X_v6 := X_v5.below hbx
      have P8_v6 := P8_v5.below hbx
      have P9_v6 := P9_v5.below hbx
      have P12_v6 := P12_v5.below hbx
      have T34_v6 := Lib.hid (T34_v5.out.bel hbx)
      have T38_v6 := Lib.hid (T38_v5.out.bel hbx)
      have T10_v6 := Lib.hid (T10_v5.out.bel hbx)
      have H_v6 := Lib.hid (H_v5.out.bel hbx)
      have N_v6 := Lib.hid (N_v5.out.keep ((Keep.refl _ _).below hbx))
      have B_v6 := B_v5.trans (hbx.mono B_v5.size)
      clear X_v5 P8_v5 P9_v5 P12_v5 T34_v5 T38_v5 T10_v5 H_v5 N_v5 B_v5
      clear hbx
      have hS : (v6).cell? ⟨w.heap.size, 0, none⟩ = some (.slice a l2 c) ∧ (v6).cell? ⟨w.heap.size, 1, none⟩ = some (.int .i64 b8) ∧ (v6).cell? ⟨p8, 0, none⟩ = some (.slice a34 k c34) ∧ (v6).cell? ⟨p8, 1, none⟩ = some (.int .i64 b8) ∧ (v6).cell? ⟨p9, 0, none⟩ = some (.slice a38 (k + l2) c38) ∧ (v6).cell? ⟨p9, 1, none⟩ = some (.int .i64 b8) ∧ (v6).cell? ⟨p12, 0, none⟩ = some (.slice a10 l2 c10) ∧ (v6).cell? ⟨p12, 1, none⟩ = some (.int .i64 b8) := ⟨X_v6.cell rfl, X_v6.cell rfl, P8_v6.cell rfl, P8_v6.cell rfl, P9_v6.cell rfl, P9_v6.cell rfl, P12_v6.cell rfl, P12_v6.cell rfl⟩
      refine hK.out _ _ (fun _ => hS) ?_
      clear hK K
      try simp only [Act.put, List.setIfInBounds_toArray, List.set_cons_zero, List.set_cons_succ, List.getElem_toArray, List.getElem_cons_zero, List.getElem_cons_succ]
      clear O38_v5 A38_v5
      refine wpN_take (i := 18) (v := ?v25) rfl (by kernel_rfl) (fun _ _ _ h => h) hS (Or.inl ⟨by rfl, ?hy25⟩) ?hr25
      case hy25 => (intro wS hSw; (try dsimp only at hSw); go_simp; (try with_reducible rfl))
      try simp only [Act.put, List.setIfInBounds_toArray, List.set_cons_zero, List.set_cons_succ, List.getElem_toArray, List.getElem_cons_zero, List.getElem_cons_succ]
      refine wpN_take (i := 19) (v := ?v26) rfl (by kernel_rfl) (fun _ _ _ h => h) hS (Or.inl ⟨by rfl, ?hy26⟩) ?hr26
      case hy26 => (intro wS hSw; (try dsimp only at hSw); go_simp; (try with_reducible rfl))
      try simp only [Act.put, List.setIfInBounds_toArray, List.set_cons_zero, List.set_cons_succ, List.getElem_toArray, List.getElem_cons_zero, List.getElem_cons_succ]
      refine wpN_take (i := 20) (v := ?v27) rfl (by kernel_rfl) (fun _ _ _ h => h) hS (Or.inl ⟨by rfl, ?hy27⟩) ?hr27
      case hy27 => (intro wS hSw; (try dsimp only at hSw); go_simp; (try with_reducible rfl))
      try simp only [Act.put, List.setIfInBounds_toArray, List.set_cons_zero, List.set_cons_succ, List.getElem_toArray, List.getElem_cons_zero, List.getElem_cons_succ]
      refine wpN_take (i := 21) (v := ?v28) rfl (by kernel_rfl) (fun _ _ _ h => h) hS (Or.inl ⟨by rfl, ?hy28⟩) ?hr28
      case hy28 => (intro wS hSw; (try dsimp only at hSw); go_simp; (try with_reducible rfl))
      try simp only [Act.put, List.setIfInBounds_toArray, List.set_cons_zero, List.set_cons_succ, List.getElem_toArray, List.getElem_cons_zero, List.getElem_cons_succ]
      refine wpN_take (i := 22) (v := ?v29) rfl (by kernel_rfl) (fun _ _ _ h => h) hS (Or.inl ⟨by rfl, ?hy29⟩) ?hr29
      case hy29 => (intro wS hSw; (try dsimp only at hSw); go_simp; (try with_reducible rfl))
      try simp only [Act.put, List.setIfInBounds_toArray, List.set_cons_zero, List.set_cons_succ, List.getElem_toArray, List.getElem_cons_zero, List.getElem_cons_succ]
      refine wpN_take (i := 23) (v := ?v30) rfl (by kernel_rfl) (fun _ _ _ h => h) hS (Or.inl ⟨by rfl, ?hy30⟩) ?hr30
      case hy30 => (intro wS hSw; (try dsimp only at hSw); go_simp; (try with_reducible rfl))
      try simp only [Act.put, List.setIfInBounds_toArray, List.set_cons_zero, List.set_cons_succ, List.getElem_toArray, List.getElem_cons_zero, List.getElem_cons_succ]
      refine wpN_take (i := 24) (v := ?v31) rfl (by kernel_rfl) (fun _ _ _ h => h) hS (Or.inl ⟨by rfl, ?hy31⟩) ?hr31
      case hy31 => (intro wS hSw; (try dsimp only at hSw); go_simp; (try with_reducible rfl))
      try simp only [Act.put, List.setIfInBounds_toArray, List.set_cons_zero, List.set_cons_succ, List.getElem_toArray, List.getElem_cons_zero, List.getElem_cons_succ]
      refine wpN_take (i := 26) (v := ?v32) rfl (by kernel_rfl) (fun _ _ _ h => h) hS (Or.inl ⟨by rfl, ?hy32⟩) ?hr32
      case hy32 => (intro wS hSw; (try dsimp only at hSw); go_simp; (try with_reducible rfl))
      try simp only [Act.put, List.setIfInBounds_toArray, List.set_cons_zero, List.set_cons_succ, List.getElem_toArray, List.getElem_cons_zero, List.getElem_cons_succ]
      refine wpN_step (i := 25) (by kernel_rfl) rfl (fun K hK => ?_)
      go_simp
      refine (of_any T10_v6.out v6 Hs10.out (Keep.refl _ _)).mono ?_
      intro e v7 h
      obtain ⟨_, _, rfl, hT, hbx⟩ := h
      obtain ⟨q10, qc10, rfl, rfl⟩ := hT.shape
      simp only [args_mk, base_mk, List.length_append, Hk.out.1, Hl2.out, Hb2.out] at hT ⊢
      have O10_v7 := Lib.hid (hT.weaken (F' := fun _ => True) fun _ _ _ => trivial)
      clear hT
      have X_v7 := X_v6.below hbx
      have P8_v7 := P8_v6.below hbx
      have P9_v7 := P9_v6.below hbx
      have P12_v7 := P12_v6.below hbx
      have T34_v7 := Lib.hid (T34_v6.out.bel hbx)
      have T38_v7 := Lib.hid (T38_v6.out.bel hbx)
      have T10_v7 := Lib.hid (T10_v6.out.bel hbx)
      have H_v7 := Lib.hid (H_v6.out.bel hbx)
      have N_v7 := Lib.hid (N_v6.out.keep ((Keep.refl _ _).below hbx))
      have B_v7 := B_v6.trans (hbx.mono B_v6.size)
      clear X_v6 P8_v6 P9_v6 P12_v6 T34_v6 T38_v6 T10_v6 H_v6 N_v6 B_v6
      clear hbx
      have hS : (v7).cell? ⟨w.heap.size, 0, none⟩ = some (.slice a l2 c) ∧ (v7).cell? ⟨w.heap.size, 1, none⟩ = some (.int .i64 b8) ∧ (v7).cell? ⟨p8, 0, none⟩ = some (.slice a34 k c34) ∧ (v7).cell? ⟨p8, 1, none⟩ = some (.int .i64 b8) ∧ (v7).cell? ⟨p9, 0, none⟩ = some (.slice a38 (k + l2) c38) ∧ (v7).cell? ⟨p9, 1, none⟩ = some (.int .i64 b8) ∧ (v7).cell? ⟨p12, 0, none⟩ = some (.slice a10 l2 c10) ∧ (v7).cell? ⟨p12, 1, none⟩ = some (.int .i64 b8) := ⟨X_v7.cell rfl, X_v7.cell rfl, P8_v7.cell rfl, P8_v7.cell rfl, P9_v7.cell rfl, P9_v7.cell rfl, P12_v7.cell rfl, P12_v7.cell rfl⟩
      refine hK.out _ _ (fun _ => hS) ?_
      clear hK K
      try simp only [Act.put, List.setIfInBounds_toArray, List.set_cons_zero, List.set_cons_succ, List.getElem_toArray, List.getElem_cons_zero, List.getElem_cons_succ]
      refine wpN_step (i := 27) (by kernel_rfl) rfl (fun K hK => ?_)
      go_simp
      refine (same_r O10_v7.out H_v7.out v7 (Keep.refl _ _) (Keep.refl _ _)).mono ?_
      intro e v8 h
      obtain ⟨r, Hq, rfl, hbx⟩ := of_retB h
      clear h
      obtain rfl : r = true := Hq.out.2 rfl
      clear Hq
      have X_v8 := X_v7.below hbx
      have P8_v8 := P8_v7.below hbx
      have P9_v8 := P9_v7.below hbx
      have P12_v8 := P12_v7.below hbx
      have T34_v8 := Lib.hid (T34_v7.out.bel hbx)
      have T38_v8 := Lib.hid (T38_v7.out.bel hbx)
      have T10_v8 := Lib.hid (T10_v7.out.bel hbx)
      have H_v8 := Lib.hid (H_v7.out.bel hbx)
      have N_v8 := Lib.hid (N_v7.out.keep ((Keep.refl _ _).below hbx))
      have B_v8 := B_v7.trans (hbx.mono B_v7.size)
      clear X_v7 P8_v7 P9_v7 P12_v7 T34_v7 T38_v7 T10_v7 H_v7 N_v7 B_v7
      clear hbx
      have hS : (v8).cell? ⟨w.heap.size, 0, none⟩ = some (.slice a l2 c) ∧ (v8).cell? ⟨w.heap.size, 1, none⟩ = some (.int .i64 b8) ∧ (v8).cell? ⟨p8, 0, none⟩ = some (.slice a34 k c34) ∧ (v8).cell? ⟨p8, 1, none⟩ = some (.int .i64 b8) ∧ (v8).cell? ⟨p9, 0, none⟩ = some (.slice a38 (k + l2) c38) ∧ (v8).cell? ⟨p9, 1, none⟩ = some (.int .i64 b8) ∧ (v8).cell? ⟨p12, 0, none⟩ = some (.slice a10 l2 c10) ∧ (v8).cell? ⟨p12, 1, none⟩ = some (.int .i64 b8) := ⟨X_v8.cell rfl, X_v8.cell rfl, P8_v8.cell rfl, P8_v8.cell rfl, P9_v8.cell rfl, P9_v8.cell rfl, P12_v8.cell rfl, P12_v8.cell rfl⟩
      refine hK.out _ _ (fun _ => hS) ?_
      clear hK K
      try simp only [Act.put, List.setIfInBounds_toArray, List.set_cons_zero, List.set_cons_succ, List.getElem_toArray, List.getElem_cons_zero, List.getElem_cons_succ]
      refine wpN_take (i := 28) (v := ?v33) rfl (by kernel_rfl) (fun _ _ _ h => h) hS (Or.inl ⟨by rfl, ?hy33⟩) ?hr33
      case hy33 => (intro wS hSw; (try dsimp only at hSw); go_simp; (try with_reducible rfl))
      try simp only [Act.put, List.setIfInBounds_toArray, List.set_cons_zero, List.set_cons_succ, List.getElem_toArray, List.getElem_cons_zero, List.getElem_cons_succ]
      refine wpN_step (i := 29) (by kernel_rfl) rfl (fun K hK => ?_)
      go_simp
      refine hK.out _ _ (fun h => absurd h (by decide)) ?_
      clear hK K
      try simp only [Act.put, List.setIfInBounds_toArray, List.set_cons_zero, List.set_cons_succ, List.getElem_toArray, List.getElem_cons_zero, List.getElem_cons_succ]
      refine wpN_done (by kernel_rfl) ?_
      refine NoPanic.normal ?_
      go_wp2_with fail
      go_ret
      exact ⟨rfl, B_v8⟩
    · have hn1 : n < 0 ∨ n > (l2 : Int) := hq0
      clear Hq
      have g0 : w10.cell? ⟨p10, 0, none⟩ = some (.slice none 0 c8) := P10_10.cell rfl
      have g1 : w10.cell? ⟨p10, 1, none⟩ = some (.int .i64 0) := P10_10.cell rfl
      have g2 := P10_10.lt
      rcases hn1 with hn1 | hn1
      · go_wp2_with fail
        obtain ⟨w11, hw11⟩ : ∃ w11, w10.alloc (.cells #[.slice a10 l2 c10, .int .i64 b2] 40) = w11 := ⟨_, rfl⟩
        obtain ⟨p12, hp12⟩ : ∃ p12, w10.heap.size = p12 := ⟨_, rfl⟩
        have b11 : Below w10.heap.size w10 w11 := by rw [← hw11]; exact (Below.refl _ _).alloc (Nat.le_refl _) _
        have P12_w11 : Blk w11 p12 #[.slice a10 l2 c10, .int .i64 b2] 40 := by rw [← hw11, ← hp12]; exact Blk.new _ _ _ rfl
        rw [hw11]
        rw [hp12]
        clear hw11 hp12
        have B_w11 := B10.trans (b11.mono B10.size)
        have X_w11 := X10.below b11
        have P8_w11 := P8_10.below b11
        have P9_w11 := P9_10.below b11
        have P10_w11 := P10_10.below b11
        have T8_w11 := Lib.hid (T8_10.out.bel b11)
        have T34_w11 := Lib.hid (T34_10.out.bel b11)
        have T38_w11 := Lib.hid (T38_10.out.bel b11)
        have T10_w11 := Lib.hid (T10.out.bel b11)
        have H_w11 := Lib.hid (H10.out.bel b11)
        have N_w11 := Lib.hid (N10.out.keep ((Keep.refl _ _).below b11))
        clear g0 g1 g2 T8_10 T34_10 T38_10 T10 H10 N10 P8_10 P9_10 P10_10 X10 B10 b11 c0 hltx
        have Hlt := Lib.hid (show t.args.length ≤ 1000 by have h := Hr.out; have h3 := len_args t; omega)
        have Hs34 := Lib.hid (show (Ty.mk m b2).size ≤ 1000000 by have h := Hms.out; rw [Ty.size_eq]; omega)
        have Hs38 := Lib.hid (show (Ty.mk (m ++ t.args) b2).size ≤ 1000000 by have h := Hms2.out; have h2 := size_args t; rw [Ty.size_eq, Ty.sizes_append]; omega)
        have Hs10 := Lib.hid (show t.size ≤ 1000000 by have h := Hr.out; omega)
        refine (of_any T8_w11.out w11 (by simp [Ty.size, Ty.sizes]) (Keep.refl _ _)).mono ?_
        intro e w12 h
        obtain ⟨_, _, rfl, hT, hbx⟩ := h
        obtain ⟨q8, qc8, rfl, rfl⟩ := hT.shape
        simp only [args_mk, base_mk, List.length_nil] at hT ⊢
        have O8_w12 := Lib.hid (hT.weaken (F' := fun _ => True) fun _ _ _ => trivial)
        clear hT
        have X_w12 := X_w11.below hbx
        have P8_w12 := P8_w11.below hbx
        have P9_w12 := P9_w11.below hbx
        have P12_w12 := P12_w11.below hbx
        have T34_w12 := Lib.hid (T34_w11.out.bel hbx)
        have T38_w12 := Lib.hid (T38_w11.out.bel hbx)
        have T10_w12 := Lib.hid (T10_w11.out.bel hbx)
        have H_w12 := Lib.hid (H_w11.out.bel hbx)
        have N_w12 := Lib.hid (N_w11.out.keep ((Keep.refl _ _).below hbx))
        have B_w12 := B_w11.trans (hbx.mono B_w11.size)
        clear X_w11 P8_w11 P9_w11 P12_w11 T34_w11 T38_w11 T10_w11 H_w11 N_w11 B_w11
        clear hbx P10_w11 T8_w11
        go_wp2_with fail
        refine (same_r O8_w12.out (isTy_mk (isSl_nil rpTy (fun _ => True) w12) 0) w12 (Keep.refl _ _) (Keep.refl _ _)).mono ?_
        intro e w13 h
        obtain ⟨r, Hq, rfl, hbx⟩ := of_retB h
        clear h
        obtain rfl : r = true := Hq.out.2 rfl
        clear Hq
        have X_w13 := X_w12.below hbx
        have P8_w13 := P8_w12.below hbx
        have P9_w13 := P9_w12.below hbx
        have P12_w13 := P12_w12.below hbx
        have T34_w13 := Lib.hid (T34_w12.out.bel hbx)
        have T38_w13 := Lib.hid (T38_w12.out.bel hbx)
        have T10_w13 := Lib.hid (T10_w12.out.bel hbx)
        have H_w13 := Lib.hid (H_w12.out.bel hbx)
        have N_w13 := Lib.hid (N_w12.out.keep ((Keep.refl _ _).below hbx))
        have B_w13 := B_w12.trans (hbx.mono B_w12.size)
        clear X_w12 P8_w12 P9_w12 P12_w12 T34_w12 T38_w12 T10_w12 H_w12 N_w12 B_w12
        clear hbx O8_w12
        go_wp2_with fail
        refine wp_region_noPanic (wp_region_need (S := fun w' => w'.cell? ⟨w.heap.size, 0, none⟩ = some (.slice a l2 c) ∧ w'.cell? ⟨w.heap.size, 1, none⟩ = some (.int .i64 b2) ∧ w'.cell? ⟨p8, 0, none⟩ = some (.slice a34 k c34) ∧ w'.cell? ⟨p8, 1, none⟩ = some (.int .i64 b2) ∧ w'.cell? ⟨p9, 0, none⟩ = some (.slice a38 (k + l2) c38) ∧ w'.cell? ⟨p9, 1, none⟩ = some (.int .i64 b2) ∧ w'.cell? ⟨p12, 0, none⟩ = some (.slice a10 l2 c10) ∧ w'.cell? ⟨p12, 1, none⟩ = some (.int .i64 b2)) (by kernel_rfl) ?_)
        have hS : (w13.drew).cell? ⟨w.heap.size, 0, none⟩ = some (.slice a l2 c) ∧ (w13.drew).cell? ⟨w.heap.size, 1, none⟩ = some (.int .i64 b2) ∧ (w13.drew).cell? ⟨p8, 0, none⟩ = some (.slice a34 k c34) ∧ (w13.drew).cell? ⟨p8, 1, none⟩ = some (.int .i64 b2) ∧ (w13.drew).cell? ⟨p9, 0, none⟩ = some (.slice a38 (k + l2) c38) ∧ (w13.drew).cell? ⟨p9, 1, none⟩ = some (.int .i64 b2) ∧ (w13.drew).cell? ⟨p12, 0, none⟩ = some (.slice a10 l2 c10) ∧ (w13.drew).cell? ⟨p12, 1, none⟩ = some (.int .i64 b2) := ⟨X_w13.drew.cell rfl, X_w13.drew.cell rfl, P8_w13.drew.cell rfl, P8_w13.drew.cell rfl, P9_w13.drew.cell rfl, P9_w13.drew.cell rfl, P12_w13.drew.cell rfl, P12_w13.drew.cell rfl⟩
        refine wpN_step (i := 0) (by kernel_rfl) rfl (fun K hK => ?_)
        go_simp
        refine (known04 w13.drew).mono ?_
        rintro e v0 ⟨rfl, hbd⟩
        have hbx : Below w13.heap.size w13 v0 := (Below.refl _ _).drew.trans hbd
        clear hbd
        have X_v0 := X_w13.below hbx
        have P8_v0 := P8_w13.below hbx
        have P9_v0 := P9_w13.below hbx
        have P12_v0 := P12_w13.below hbx
        have T34_v0 := Lib.hid (T34_w13.out.bel hbx)
        have T38_v0 := Lib.hid (T38_w13.out.bel hbx)
        have T10_v0 := Lib.hid (T10_w13.out.bel hbx)
        have H_v0 := Lib.hid (H_w13.out.bel hbx)
        have N_v0 := Lib.hid (N_w13.out.keep ((Keep.refl _ _).below hbx))
        have B_v0 := B_w13.trans (hbx.mono B_w13.size)
        clear X_w13 P8_w13 P9_w13 P12_w13 T34_w13 T38_w13 T10_w13 H_w13 N_w13 B_w13
        clear hbx
        have hS : (v0).cell? ⟨w.heap.size, 0, none⟩ = some (.slice a l2 c) ∧ (v0).cell? ⟨w.heap.size, 1, none⟩ = some (.int .i64 b2) ∧ (v0).cell? ⟨p8, 0, none⟩ = some (.slice a34 k c34) ∧ (v0).cell? ⟨p8, 1, none⟩ = some (.int .i64 b2) ∧ (v0).cell? ⟨p9, 0, none⟩ = some (.slice a38 (k + l2) c38) ∧ (v0).cell? ⟨p9, 1, none⟩ = some (.int .i64 b2) ∧ (v0).cell? ⟨p12, 0, none⟩ = some (.slice a10 l2 c10) ∧ (v0).cell? ⟨p12, 1, none⟩ = some (.int .i64 b2) := ⟨X_v0.cell rfl, X_v0.cell rfl, P8_v0.cell rfl, P8_v0.cell rfl, P9_v0.cell rfl, P9_v0.cell rfl, P12_v0.cell rfl, P12_v0.cell rfl⟩
        refine hK.out _ _ (fun _ => hS) ?_
        clear hK K
        try simp only [Act.put, List.setIfInBounds_toArray, List.set_cons_zero, List.set_cons_succ, List.getElem_toArray, List.getElem_cons_zero, List.getElem_cons_succ]
        refine wpN_take (i := 1) (v := ?v34) rfl (by kernel_rfl) (fun _ _ _ h => h) hS (Or.inl ⟨by rfl, ?hy34⟩) ?hr34
        case hy34 => (intro wS hSw; (try dsimp only at hSw); go_simp; (try with_reducible rfl))
        try simp only [Act.put, List.setIfInBounds_toArray, List.set_cons_zero, List.set_cons_succ, List.getElem_toArray, List.getElem_cons_zero, List.getElem_cons_succ]
        refine wpN_take (i := 2) (v := ?v35) rfl (by kernel_rfl) (fun _ _ _ h => h) hS (Or.inl ⟨by rfl, ?hy35⟩) ?hr35
        case hy35 => (intro wS hSw; (try dsimp only at hSw); go_simp; (try with_reducible rfl))
        try simp only [Act.put, List.setIfInBounds_toArray, List.set_cons_zero, List.set_cons_succ, List.getElem_toArray, List.getElem_cons_zero, List.getElem_cons_succ]
        refine wpN_take (i := 4) (v := ?v36) rfl (by kernel_rfl) (fun _ _ _ h => h) hS (Or.inl ⟨by rfl, ?hy36⟩) ?hr36
        case hy36 => (intro wS hSw; (try dsimp only at hSw); go_simp; (try with_reducible rfl))
        try simp only [Act.put, List.setIfInBounds_toArray, List.set_cons_zero, List.set_cons_succ, List.getElem_toArray, List.getElem_cons_zero, List.getElem_cons_succ]
        refine wpN_take (i := 5) (v := ?v37) rfl (by kernel_rfl) (fun _ _ _ h => h) hS (Or.inl ⟨by rfl, ?hy37⟩) ?hr37
        case hy37 => (intro wS hSw; (try dsimp only at hSw); go_simp; (try with_reducible rfl))
        try simp only [Act.put, List.setIfInBounds_toArray, List.set_cons_zero, List.set_cons_succ, List.getElem_toArray, List.getElem_cons_zero, List.getElem_cons_succ]
        refine wpN_take (i := 6) (v := ?v38) rfl (by kernel_rfl) (fun _ _ _ h => h) hS (Or.inl ⟨by rfl, ?hy38⟩) ?hr38
        case hy38 => (intro wS hSw; (try dsimp only at hSw); go_simp; (try with_reducible rfl))
        try simp only [Act.put, List.setIfInBounds_toArray, List.set_cons_zero, List.set_cons_succ, List.getElem_toArray, List.getElem_cons_zero, List.getElem_cons_succ]
        refine wpN_take (i := 7) (v := ?v39) rfl (by kernel_rfl) (fun _ _ _ h => h) hS (Or.inl ⟨by rfl, ?hy39⟩) ?hr39
        case hy39 => (intro wS hSw; (try dsimp only at hSw); go_simp; (try with_reducible rfl))
        try simp only [Act.put, List.setIfInBounds_toArray, List.set_cons_zero, List.set_cons_succ, List.getElem_toArray, List.getElem_cons_zero, List.getElem_cons_succ]
        refine wpN_step (i := 3) (by kernel_rfl) rfl (fun K hK => ?_)
        go_simp
        refine (of_any T34_v0.out v0 Hs34.out (Keep.refl _ _)).mono ?_
        intro e v1 h
        obtain ⟨_, _, rfl, hT, hbx⟩ := h
        obtain ⟨q34, qc34, rfl, rfl⟩ := hT.shape
        simp only [args_mk, base_mk, List.length_append, Hk.out.1, Hl2.out, Hb2.out] at hT ⊢
        have O34_v1 := Lib.hid (hT.weaken (F' := fun _ => True) fun _ _ _ => trivial)
        clear hT
        have X_v1 := X_v0.below hbx
        have P8_v1 := P8_v0.below hbx
        have P9_v1 := P9_v0.below hbx
        have P12_v1 := P12_v0.below hbx
        have T34_v1 := Lib.hid (T34_v0.out.bel hbx)
        have T38_v1 := Lib.hid (T38_v0.out.bel hbx)
        have T10_v1 := Lib.hid (T10_v0.out.bel hbx)
        have H_v1 := Lib.hid (H_v0.out.bel hbx)
        have N_v1 := Lib.hid (N_v0.out.keep ((Keep.refl _ _).below hbx))
        have B_v1 := B_v0.trans (hbx.mono B_v0.size)
        clear X_v0 P8_v0 P9_v0 P12_v0 T34_v0 T38_v0 T10_v0 H_v0 N_v0 B_v0
        clear hbx
        have hS : (v1).cell? ⟨w.heap.size, 0, none⟩ = some (.slice a l2 c) ∧ (v1).cell? ⟨w.heap.size, 1, none⟩ = some (.int .i64 b2) ∧ (v1).cell? ⟨p8, 0, none⟩ = some (.slice a34 k c34) ∧ (v1).cell? ⟨p8, 1, none⟩ = some (.int .i64 b2) ∧ (v1).cell? ⟨p9, 0, none⟩ = some (.slice a38 (k + l2) c38) ∧ (v1).cell? ⟨p9, 1, none⟩ = some (.int .i64 b2) ∧ (v1).cell? ⟨p12, 0, none⟩ = some (.slice a10 l2 c10) ∧ (v1).cell? ⟨p12, 1, none⟩ = some (.int .i64 b2) := ⟨X_v1.cell rfl, X_v1.cell rfl, P8_v1.cell rfl, P8_v1.cell rfl, P9_v1.cell rfl, P9_v1.cell rfl, P12_v1.cell rfl, P12_v1.cell rfl⟩
        refine hK.out _ _ (fun _ => hS) ?_
        clear hK K
        try simp only [Act.put, List.setIfInBounds_toArray, List.set_cons_zero, List.set_cons_succ, List.getElem_toArray, List.getElem_cons_zero, List.getElem_cons_succ]
        refine wpN_step (i := 8) (by kernel_rfl) rfl (fun K hK => ?_)
        go_simp
        refine (arrow_r (t := .mk [] b2) (isTy_mk (isSl_nil rpTy (fun _ => True) v1) b2) N_v1.out (by have := Hk.out; simp [Ty.args]; omega)).mono ?_
        rintro e v2 ⟨qa, qac, rfl, hT, hbx⟩
        simp only [args_mk, base_mk, List.length_append, List.append_nil, Hk.out.1, Hl2.out, Hb2.out] at hT ⊢
        have A34_v2 := Lib.hid (hT.weaken (F' := fun _ => True) fun _ _ _ => trivial)
        clear hT
        have O34_v2 := Lib.hid (O34_v1.out.bel hbx)
        clear O34_v1
        have X_v2 := X_v1.below hbx
        have P8_v2 := P8_v1.below hbx
        have P9_v2 := P9_v1.below hbx
        have P12_v2 := P12_v1.below hbx
        have T34_v2 := Lib.hid (T34_v1.out.bel hbx)
        have T38_v2 := Lib.hid (T38_v1.out.bel hbx)
        have T10_v2 := Lib.hid (T10_v1.out.bel hbx)
        have H_v2 := Lib.hid (H_v1.out.bel hbx)
        have N_v2 := Lib.hid (N_v1.out.keep ((Keep.refl _ _).below hbx))
        have B_v2 := B_v1.trans (hbx.mono B_v1.size)
        clear X_v1 P8_v1 P9_v1 P12_v1 T34_v1 T38_v1 T10_v1 H_v1 N_v1 B_v1
        clear hbx
        have hS : (v2).cell? ⟨w.heap.size, 0, none⟩ = some (.slice a l2 c) ∧ (v2).cell? ⟨w.heap.size, 1, none⟩ = some (.int .i64 b2) ∧ (v2).cell? ⟨p8, 0, none⟩ = some (.slice a34 k c34) ∧ (v2).cell? ⟨p8, 1, none⟩ = some (.int .i64 b2) ∧ (v2).cell? ⟨p9, 0, none⟩ = some (.slice a38 (k + l2) c38) ∧ (v2).cell? ⟨p9, 1, none⟩ = some (.int .i64 b2) ∧ (v2).cell? ⟨p12, 0, none⟩ = some (.slice a10 l2 c10) ∧ (v2).cell? ⟨p12, 1, none⟩ = some (.int .i64 b2) := ⟨X_v2.cell rfl, X_v2.cell rfl, P8_v2.cell rfl, P8_v2.cell rfl, P9_v2.cell rfl, P9_v2.cell rfl, P12_v2.cell rfl, P12_v2.cell rfl⟩
        refine hK.out _ _ (fun _ => hS) ?_
        clear hK K
        try simp only [Act.put, List.setIfInBounds_toArray, List.set_cons_zero, List.set_cons_succ, List.getElem_toArray, List.getElem_cons_zero, List.getElem_cons_succ]
        refine wpN_step (i := 9) (by kernel_rfl) rfl (fun K hK => ?_)
        go_simp
        refine (same_r O34_v2.out A34_v2.out v2 (Keep.refl _ _) (Keep.refl _ _)).mono ?_
        intro e v3 h
        obtain ⟨r, Hq, rfl, hbx⟩ := of_retB h
        clear h
        obtain rfl : r = true := Hq.out.2 rfl
        clear Hq
        have X_v3 := X_v2.below hbx
        have P8_v3 := P8_v2.below hbx
        have P9_v3 := P9_v2.below hbx
        have P12_v3 := P12_v2.below hbx
        have T34_v3 := Lib.hid (T34_v2.out.bel hbx)
        have T38_v3 := Lib.hid (T38_v2.out.bel hbx)
        have T10_v3 := Lib.hid (T10_v2.out.bel hbx)
        have H_v3 := Lib.hid (H_v2.out.bel hbx)
        have N_v3 := Lib.hid (N_v2.out.keep ((Keep.refl _ _).below hbx))
        have B_v3 := B_v2.trans (hbx.mono B_v2.size)
        clear X_v2 P8_v2 P9_v2 P12_v2 T34_v2 T38_v2 T10_v2 H_v2 N_v2 B_v2
        clear hbx
        have hS : (v3).cell? ⟨w.heap.size, 0, none⟩ = some (.slice a l2 c) ∧ (v3).cell? ⟨w.heap.size, 1, none⟩ = some (.int .i64 b2) ∧ (v3).cell? ⟨p8, 0, none⟩ = some (.slice a34 k c34) ∧ (v3).cell? ⟨p8, 1, none⟩ = some (.int .i64 b2) ∧ (v3).cell? ⟨p9, 0, none⟩ = some (.slice a38 (k + l2) c38) ∧ (v3).cell? ⟨p9, 1, none⟩ = some (.int .i64 b2) ∧ (v3).cell? ⟨p12, 0, none⟩ = some (.slice a10 l2 c10) ∧ (v3).cell? ⟨p12, 1, none⟩ = some (.int .i64 b2) := ⟨X_v3.cell rfl, X_v3.cell rfl, P8_v3.cell rfl, P8_v3.cell rfl, P9_v3.cell rfl, P9_v3.cell rfl, P12_v3.cell rfl, P12_v3.cell rfl⟩
        refine hK.out _ _ (fun _ => hS) ?_
        clear hK K
        try simp only [Act.put, List.setIfInBounds_toArray, List.set_cons_zero, List.set_cons_succ, List.getElem_toArray, List.getElem_cons_zero, List.getElem_cons_succ]
        clear O34_v2 A34_v2
        refine wpN_take (i := 10) (v := ?v40) rfl (by kernel_rfl) (fun _ _ _ h => h) hS (Or.inl ⟨by rfl, ?hy40⟩) ?hr40
        case hy40 => (intro wS hSw; (try dsimp only at hSw); go_simp; (try with_reducible rfl))
        try simp only [Act.put, List.setIfInBounds_toArray, List.set_cons_zero, List.set_cons_succ, List.getElem_toArray, List.getElem_cons_zero, List.getElem_cons_succ]
        refine wpN_take (i := 11) (v := ?v41) rfl (by kernel_rfl) (fun _ _ _ h => h) hS (Or.inl ⟨by rfl, ?hy41⟩) ?hr41
        case hy41 => (intro wS hSw; (try dsimp only at hSw); go_simp; (try with_reducible rfl))
        try simp only [Act.put, List.setIfInBounds_toArray, List.set_cons_zero, List.set_cons_succ, List.getElem_toArray, List.getElem_cons_zero, List.getElem_cons_succ]
        refine wpN_take (i := 12) (v := ?v42) rfl (by kernel_rfl) (fun _ _ _ h => h) hS (Or.inl ⟨by rfl, ?hy42⟩) ?hr42
        case hy42 => (intro wS hSw; (try dsimp only at hSw); go_simp; (try with_reducible rfl))
        try simp only [Act.put, List.setIfInBounds_toArray, List.set_cons_zero, List.set_cons_succ, List.getElem_toArray, List.getElem_cons_zero, List.getElem_cons_succ]
        refine wpN_take (i := 14) (v := ?v43) rfl (by kernel_rfl) (fun _ _ _ h => h) hS (Or.inl ⟨by rfl, ?hy43⟩) ?hr43
        case hy43 => (intro wS hSw; (try dsimp only at hSw); go_simp; (try with_reducible rfl))
        try simp only [Act.put, List.setIfInBounds_toArray, List.set_cons_zero, List.set_cons_succ, List.getElem_toArray, List.getElem_cons_zero, List.getElem_cons_succ]
        refine wpN_take (i := 15) (v := ?v44) rfl (by kernel_rfl) (fun _ _ _ h => h) hS (Or.inl ⟨by rfl, ?hy44⟩) ?hr44
        case hy44 => (intro wS hSw; (try dsimp only at hSw); go_simp; (try with_reducible rfl))
        try simp only [Act.put, List.setIfInBounds_toArray, List.set_cons_zero, List.set_cons_succ, List.getElem_toArray, List.getElem_cons_zero, List.getElem_cons_succ]
        refine wpN_step (i := 13) (by kernel_rfl) rfl (fun K hK => ?_)
        go_simp
        refine (of_any T38_v3.out v3 Hs38.out (Keep.refl _ _)).mono ?_
        intro e v4 h
        obtain ⟨_, _, rfl, hT, hbx⟩ := h
        obtain ⟨q38, qc38, rfl, rfl⟩ := hT.shape
        simp only [args_mk, base_mk, List.length_append, Hk.out.1, Hl2.out, Hb2.out] at hT ⊢
        have O38_v4 := Lib.hid (hT.weaken (F' := fun _ => True) fun _ _ _ => trivial)
        clear hT
        have X_v4 := X_v3.below hbx
        have P8_v4 := P8_v3.below hbx
        have P9_v4 := P9_v3.below hbx
        have P12_v4 := P12_v3.below hbx
        have T34_v4 := Lib.hid (T34_v3.out.bel hbx)
        have T38_v4 := Lib.hid (T38_v3.out.bel hbx)
        have T10_v4 := Lib.hid (T10_v3.out.bel hbx)
        have H_v4 := Lib.hid (H_v3.out.bel hbx)
        have N_v4 := Lib.hid (N_v3.out.keep ((Keep.refl _ _).below hbx))
        have B_v4 := B_v3.trans (hbx.mono B_v3.size)
        clear X_v3 P8_v3 P9_v3 P12_v3 T34_v3 T38_v3 T10_v3 H_v3 N_v3 B_v3
        clear hbx
        have hS : (v4).cell? ⟨w.heap.size, 0, none⟩ = some (.slice a l2 c) ∧ (v4).cell? ⟨w.heap.size, 1, none⟩ = some (.int .i64 b2) ∧ (v4).cell? ⟨p8, 0, none⟩ = some (.slice a34 k c34) ∧ (v4).cell? ⟨p8, 1, none⟩ = some (.int .i64 b2) ∧ (v4).cell? ⟨p9, 0, none⟩ = some (.slice a38 (k + l2) c38) ∧ (v4).cell? ⟨p9, 1, none⟩ = some (.int .i64 b2) ∧ (v4).cell? ⟨p12, 0, none⟩ = some (.slice a10 l2 c10) ∧ (v4).cell? ⟨p12, 1, none⟩ = some (.int .i64 b2) := ⟨X_v4.cell rfl, X_v4.cell rfl, P8_v4.cell rfl, P8_v4.cell rfl, P9_v4.cell rfl, P9_v4.cell rfl, P12_v4.cell rfl, P12_v4.cell rfl⟩
        refine hK.out _ _ (fun _ => hS) ?_
        clear hK K
        try simp only [Act.put, List.setIfInBounds_toArray, List.set_cons_zero, List.set_cons_succ, List.getElem_toArray, List.getElem_cons_zero, List.getElem_cons_succ]
        refine wpN_step (i := 16) (by kernel_rfl) rfl (fun K hK => ?_)
        go_simp
        refine (arrow_r H_v4.out N_v4.out (by have := Hk.out; have := Hlt.out; omega)).mono ?_
        rintro e v5 ⟨qa, qac, rfl, hT, hbx⟩
        simp only [args_mk, base_mk, List.length_append, List.append_nil, Hk.out.1, Hl2.out, Hb2.out] at hT ⊢
        have A38_v5 := Lib.hid (hT.weaken (F' := fun _ => True) fun _ _ _ => trivial)
        clear hT
        have O38_v5 := Lib.hid (O38_v4.out.bel hbx)
        clear O38_v4
        have X_v5 := X_v4.below hbx
        have P8_v5 := P8_v4.below hbx
        have P9_v5 := P9_v4.below hbx
        have P12_v5 := P12_v4.below hbx
        have T34_v5 := Lib.hid (T34_v4.out.bel hbx)
        have T38_v5 := Lib.hid (T38_v4.out.bel hbx)
        have T10_v5 := Lib.hid (T10_v4.out.bel hbx)
        have H_v5 := Lib.hid (H_v4.out.bel hbx)
        have N_v5 := Lib.hid (N_v4.out.keep ((Keep.refl _ _).below hbx))
        have B_v5 := B_v4.trans (hbx.mono B_v4.size)
        clear X_v4 P8_v4 P9_v4 P12_v4 T34_v4 T38_v4 T10_v4 H_v4 N_v4 B_v4
        clear hbx
        have hS : (v5).cell? ⟨w.heap.size, 0, none⟩ = some (.slice a l2 c) ∧ (v5).cell? ⟨w.heap.size, 1, none⟩ = some (.int .i64 b2) ∧ (v5).cell? ⟨p8, 0, none⟩ = some (.slice a34 k c34) ∧ (v5).cell? ⟨p8, 1, none⟩ = some (.int .i64 b2) ∧ (v5).cell? ⟨p9, 0, none⟩ = some (.slice a38 (k + l2) c38) ∧ (v5).cell? ⟨p9, 1, none⟩ = some (.int .i64 b2) ∧ (v5).cell? ⟨p12, 0, none⟩ = some (.slice a10 l2 c10) ∧ (v5).cell? ⟨p12, 1, none⟩ = some (.int .i64 b2) := ⟨X_v5.cell rfl, X_v5.cell rfl, P8_v5.cell rfl, P8_v5.cell rfl, P9_v5.cell rfl, P9_v5.cell rfl, P12_v5.cell rfl, P12_v5.cell rfl⟩
        refine hK.out _ _ (fun _ => hS) ?_
        clear hK K
        try simp only [Act.put, List.setIfInBounds_toArray, List.set_cons_zero, List.set_cons_succ, List.getElem_toArray, List.getElem_cons_zero, List.getElem_cons_succ]
        refine wpN_step (i := 17) (by kernel_rfl) rfl (fun K hK => ?_)
        go_simp
        refine (same_r O38_v5.out A38_v5.out v5 (Keep.refl _ _) (Keep.refl _ _)).mono ?_
        intro e v6 h
        obtain ⟨r, Hq, rfl, hbx⟩ := of_retB h
        clear h
        obtain rfl : r = true := Hq.out.2 rfl
        clear Hq
        have X_v6 := X_v5.below hbx
        have P8_v6 := P8_v5.below hbx
        have P9_v6 := P9_v5.below hbx
        have P12_v6 := P12_v5.below hbx
        have T34_v6 := Lib.hid (T34_v5.out.bel hbx)
        have T38_v6 := Lib.hid (T38_v5.out.bel hbx)
        have T10_v6 := Lib.hid (T10_v5.out.bel hbx)
        have H_v6 := Lib.hid (H_v5.out.bel hbx)
        have N_v6 := Lib.hid (N_v5.out.keep ((Keep.refl _ _).below hbx))
        have B_v6 := B_v5.trans (hbx.mono B_v5.size)
        clear X_v5 P8_v5 P9_v5 P12_v5 T34_v5 T38_v5 T10_v5 H_v5 N_v5 B_v5
        clear hbx
        have hS : (v6).cell? ⟨w.heap.size, 0, none⟩ = some (.slice a l2 c) ∧ (v6).cell? ⟨w.heap.size, 1, none⟩ = some (.int .i64 b2) ∧ (v6).cell? ⟨p8, 0, none⟩ = some (.slice a34 k c34) ∧ (v6).cell? ⟨p8, 1, none⟩ = some (.int .i64 b2) ∧ (v6).cell? ⟨p9, 0, none⟩ = some (.slice a38 (k + l2) c38) ∧ (v6).cell? ⟨p9, 1, none⟩ = some (.int .i64 b2) ∧ (v6).cell? ⟨p12, 0, none⟩ = some (.slice a10 l2 c10) ∧ (v6).cell? ⟨p12, 1, none⟩ = some (.int .i64 b2) := ⟨X_v6.cell rfl, X_v6.cell rfl, P8_v6.cell rfl, P8_v6.cell rfl, P9_v6.cell rfl, P9_v6.cell rfl, P12_v6.cell rfl, P12_v6.cell rfl⟩
        refine hK.out _ _ (fun _ => hS) ?_
        clear hK K
        try simp only [Act.put, List.setIfInBounds_toArray, List.set_cons_zero, List.set_cons_succ, List.getElem_toArray, List.getElem_cons_zero, List.getElem_cons_succ]
        clear O38_v5 A38_v5
        refine wpN_take (i := 18) (v := ?v45) rfl (by kernel_rfl) (fun _ _ _ h => h) hS (Or.inl ⟨by rfl, ?hy45⟩) ?hr45
        case hy45 => (intro wS hSw; (try dsimp only at hSw); go_simp; (try with_reducible rfl))
        try simp only [Act.put, List.setIfInBounds_toArray, List.set_cons_zero, List.set_cons_succ, List.getElem_toArray, List.getElem_cons_zero, List.getElem_cons_succ]
        refine wpN_take (i := 19) (v := ?v46) rfl (by kernel_rfl) (fun _ _ _ h => h) hS (Or.inl ⟨by rfl, ?hy46⟩) ?hr46
        case hy46 => (intro wS hSw; (try dsimp only at hSw); go_simp; (try with_reducible rfl))
        try simp only [Act.put, List.setIfInBounds_toArray, List.set_cons_zero, List.set_cons_succ, List.getElem_toArray, List.getElem_cons_zero, List.getElem_cons_succ]
        refine wpN_take (i := 20) (v := ?v47) rfl (by kernel_rfl) (fun _ _ _ h => h) hS (Or.inl ⟨by rfl, ?hy47⟩) ?hr47
        case hy47 => (intro wS hSw; (try dsimp only at hSw); go_simp; (try with_reducible rfl))
        try simp only [Act.put, List.setIfInBounds_toArray, List.set_cons_zero, List.set_cons_succ, List.getElem_toArray, List.getElem_cons_zero, List.getElem_cons_succ]
        refine wpN_take (i := 21) (v := ?v48) rfl (by kernel_rfl) (fun _ _ _ h => h) hS (Or.inl ⟨by rfl, ?hy48⟩) ?hr48
        case hy48 => (intro wS hSw; (try dsimp only at hSw); go_simp; (try with_reducible rfl))
        try simp only [Act.put, List.setIfInBounds_toArray, List.set_cons_zero, List.set_cons_succ, List.getElem_toArray, List.getElem_cons_zero, List.getElem_cons_succ]
        refine wpN_take (i := 22) (v := ?v49) rfl (by kernel_rfl) (fun _ _ _ h => h) hS (Or.inl ⟨by rfl, ?hy49⟩) ?hr49
        case hy49 => (intro wS hSw; (try dsimp only at hSw); go_simp; (try with_reducible rfl))
        try simp only [Act.put, List.setIfInBounds_toArray, List.set_cons_zero, List.set_cons_succ, List.getElem_toArray, List.getElem_cons_zero, List.getElem_cons_succ]
        refine wpN_take (i := 23) (v := ?v50) rfl (by kernel_rfl) (fun _ _ _ h => h) hS (Or.inl ⟨by rfl, ?hy50⟩) ?hr50
        case hy50 => (intro wS hSw; (try dsimp only at hSw); go_simp; (try with_reducible rfl))
        try simp only [Act.put, List.setIfInBounds_toArray, List.set_cons_zero, List.set_cons_succ, List.getElem_toArray, List.getElem_cons_zero, List.getElem_cons_succ]
        refine wpN_take (i := 24) (v := ?v51) rfl (by kernel_rfl) (fun _ _ _ h => h) hS (Or.inl ⟨by rfl, ?hy51⟩) ?hr51
        case hy51 => (intro wS hSw; (try dsimp only at hSw); go_simp; (try with_reducible rfl))
        try simp only [Act.put, List.setIfInBounds_toArray, List.set_cons_zero, List.set_cons_succ, List.getElem_toArray, List.getElem_cons_zero, List.getElem_cons_succ]
        refine wpN_take (i := 26) (v := ?v52) rfl (by kernel_rfl) (fun _ _ _ h => h) hS (Or.inl ⟨by rfl, ?hy52⟩) ?hr52
        case hy52 => (intro wS hSw; (try dsimp only at hSw); go_simp; (try with_reducible rfl))
        try simp only [Act.put, List.setIfInBounds_toArray, List.set_cons_zero, List.set_cons_succ, List.getElem_toArray, List.getElem_cons_zero, List.getElem_cons_succ]
        refine wpN_step (i := 25) (by kernel_rfl) rfl (fun K hK => ?_)
        go_simp
        refine (of_any T10_v6.out v6 Hs10.out (Keep.refl _ _)).mono ?_
        intro e v7 h
        obtain ⟨_, _, rfl, hT, hbx⟩ := h
        obtain ⟨q10, qc10, rfl, rfl⟩ := hT.shape
        simp only [args_mk, base_mk, List.length_append, Hk.out.1, Hl2.out, Hb2.out] at hT ⊢
        have O10_v7 := Lib.hid (hT.weaken (F' := fun _ => True) fun _ _ _ => trivial)
        clear hT
        have X_v7 := X_v6.below hbx
        have P8_v7 := P8_v6.below hbx
        have P9_v7 := P9_v6.below hbx
        have P12_v7 := P12_v6.below hbx
        have T34_v7 := Lib.hid (T34_v6.out.bel hbx)
        have T38_v7 := Lib.hid (T38_v6.out.bel hbx)
        have T10_v7 := Lib.hid (T10_v6.out.bel hbx)
        have H_v7 := Lib.hid (H_v6.out.bel hbx)
        have N_v7 := Lib.hid (N_v6.out.keep ((Keep.refl _ _).below hbx))
        have B_v7 := B_v6.trans (hbx.mono B_v6.size)
        clear X_v6 P8_v6 P9_v6 P12_v6 T34_v6 T38_v6 T10_v6 H_v6 N_v6 B_v6
        clear hbx
        have hS : (v7).cell? ⟨w.heap.size, 0, none⟩ = some (.slice a l2 c) ∧ (v7).cell? ⟨w.heap.size, 1, none⟩ = some (.int .i64 b2) ∧ (v7).cell? ⟨p8, 0, none⟩ = some (.slice a34 k c34) ∧ (v7).cell? ⟨p8, 1, none⟩ = some (.int .i64 b2) ∧ (v7).cell? ⟨p9, 0, none⟩ = some (.slice a38 (k + l2) c38) ∧ (v7).cell? ⟨p9, 1, none⟩ = some (.int .i64 b2) ∧ (v7).cell? ⟨p12, 0, none⟩ = some (.slice a10 l2 c10) ∧ (v7).cell? ⟨p12, 1, none⟩ = some (.int .i64 b2) := ⟨X_v7.cell rfl, X_v7.cell rfl, P8_v7.cell rfl, P8_v7.cell rfl, P9_v7.cell rfl, P9_v7.cell rfl, P12_v7.cell rfl, P12_v7.cell rfl⟩
        refine hK.out _ _ (fun _ => hS) ?_
        clear hK K
        try simp only [Act.put, List.setIfInBounds_toArray, List.set_cons_zero, List.set_cons_succ, List.getElem_toArray, List.getElem_cons_zero, List.getElem_cons_succ]
        refine wpN_step (i := 27) (by kernel_rfl) rfl (fun K hK => ?_)
        go_simp
        refine (same_r O10_v7.out H_v7.out v7 (Keep.refl _ _) (Keep.refl _ _)).mono ?_
        intro e v8 h
        obtain ⟨r, Hq, rfl, hbx⟩ := of_retB h
        clear h
        obtain rfl : r = true := Hq.out.2 rfl
        clear Hq
        have X_v8 := X_v7.below hbx
        have P8_v8 := P8_v7.below hbx
        have P9_v8 := P9_v7.below hbx
        have P12_v8 := P12_v7.below hbx
        have T34_v8 := Lib.hid (T34_v7.out.bel hbx)
        have T38_v8 := Lib.hid (T38_v7.out.bel hbx)
        have T10_v8 := Lib.hid (T10_v7.out.bel hbx)
        have H_v8 := Lib.hid (H_v7.out.bel hbx)
        have N_v8 := Lib.hid (N_v7.out.keep ((Keep.refl _ _).below hbx))
        have B_v8 := B_v7.trans (hbx.mono B_v7.size)
        clear X_v7 P8_v7 P9_v7 P12_v7 T34_v7 T38_v7 T10_v7 H_v7 N_v7 B_v7
        clear hbx
        have hS : (v8).cell? ⟨w.heap.size, 0, none⟩ = some (.slice a l2 c) ∧ (v8).cell? ⟨w.heap.size, 1, none⟩ = some (.int .i64 b2) ∧ (v8).cell? ⟨p8, 0, none⟩ = some (.slice a34 k c34) ∧ (v8).cell? ⟨p8, 1, none⟩ = some (.int .i64 b2) ∧ (v8).cell? ⟨p9, 0, none⟩ = some (.slice a38 (k + l2) c38) ∧ (v8).cell? ⟨p9, 1, none⟩ = some (.int .i64 b2) ∧ (v8).cell? ⟨p12, 0, none⟩ = some (.slice a10 l2 c10) ∧ (v8).cell? ⟨p12, 1, none⟩ = some (.int .i64 b2) := ⟨X_v8.cell rfl, X_v8.cell rfl, P8_v8.cell rfl, P8_v8.cell rfl, P9_v8.cell rfl, P9_v8.cell rfl, P12_v8.cell rfl, P12_v8.cell rfl⟩
        refine hK.out _ _ (fun _ => hS) ?_
        clear hK K
        try simp only [Act.put, List.setIfInBounds_toArray, List.set_cons_zero, List.set_cons_succ, List.getElem_toArray, List.getElem_cons_zero, List.getElem_cons_succ]
        refine wpN_take (i := 28) (v := ?v53) rfl (by kernel_rfl) (fun _ _ _ h => h) hS (Or.inl ⟨by rfl, ?hy53⟩) ?hr53
        case hy53 => (intro wS hSw; (try dsimp only at hSw); go_simp; (try with_reducible rfl))
        try simp only [Act.put, List.setIfInBounds_toArray, List.set_cons_zero, List.set_cons_succ, List.getElem_toArray, List.getElem_cons_zero, List.getElem_cons_succ]
        refine wpN_step (i := 29) (by kernel_rfl) rfl (fun K hK => ?_)
        go_simp
        refine hK.out _ _ (fun h => absurd h (by decide)) ?_
        clear hK K
        try simp only [Act.put, List.setIfInBounds_toArray, List.set_cons_zero, List.set_cons_succ, List.getElem_toArray, List.getElem_cons_zero, List.getElem_cons_succ]
        refine wpN_done (by kernel_rfl) ?_
        refine NoPanic.normal ?_
        go_wp2_with fail
        go_ret
        exact ⟨rfl, B_v8⟩
      · have hn0 : ¬ n < 0 := by omega
        go_wp2_with fail
        obtain ⟨w11, hw11⟩ : ∃ w11, w10.alloc (.cells #[.slice a10 l2 c10, .int .i64 b2] 40) = w11 := ⟨_, rfl⟩
        obtain ⟨p12, hp12⟩ : ∃ p12, w10.heap.size = p12 := ⟨_, rfl⟩
        have b11 : Below w10.heap.size w10 w11 := by rw [← hw11]; exact (Below.refl _ _).alloc (Nat.le_refl _) _
        have P12_w11 : Blk w11 p12 #[.slice a10 l2 c10, .int .i64 b2] 40 := by rw [← hw11, ← hp12]; exact Blk.new _ _ _ rfl
        rw [hw11]
        rw [hp12]
        clear hw11 hp12
        have B_w11 := B10.trans (b11.mono B10.size)
        have X_w11 := X10.below b11
        have P8_w11 := P8_10.below b11
        have P9_w11 := P9_10.below b11
        have P10_w11 := P10_10.below b11
        have T8_w11 := Lib.hid (T8_10.out.bel b11)
        have T34_w11 := Lib.hid (T34_10.out.bel b11)
        have T38_w11 := Lib.hid (T38_10.out.bel b11)
        have T10_w11 := Lib.hid (T10.out.bel b11)
        have H_w11 := Lib.hid (H10.out.bel b11)
        have N_w11 := Lib.hid (N10.out.keep ((Keep.refl _ _).below b11))
        clear g0 g1 g2 T8_10 T34_10 T38_10 T10 H10 N10 P8_10 P9_10 P10_10 X10 B10 b11 c0 hltx
        have Hlt := Lib.hid (show t.args.length ≤ 1000 by have h := Hr.out; have h3 := len_args t; omega)
        have Hs34 := Lib.hid (show (Ty.mk m b2).size ≤ 1000000 by have h := Hms.out; rw [Ty.size_eq]; omega)
        have Hs38 := Lib.hid (show (Ty.mk (m ++ t.args) b2).size ≤ 1000000 by have h := Hms2.out; have h2 := size_args t; rw [Ty.size_eq, Ty.sizes_append]; omega)
        have Hs10 := Lib.hid (show t.size ≤ 1000000 by have h := Hr.out; omega)
        refine (of_any T8_w11.out w11 (by simp [Ty.size, Ty.sizes]) (Keep.refl _ _)).mono ?_
        intro e w12 h
        obtain ⟨_, _, rfl, hT, hbx⟩ := h
        obtain ⟨q8, qc8, rfl, rfl⟩ := hT.shape
        simp only [args_mk, base_mk, List.length_nil] at hT ⊢
        have O8_w12 := Lib.hid (hT.weaken (F' := fun _ => True) fun _ _ _ => trivial)
        clear hT
        have X_w12 := X_w11.below hbx
        have P8_w12 := P8_w11.below hbx
        have P9_w12 := P9_w11.below hbx
        have P12_w12 := P12_w11.below hbx
        have T34_w12 := Lib.hid (T34_w11.out.bel hbx)
        have T38_w12 := Lib.hid (T38_w11.out.bel hbx)
        have T10_w12 := Lib.hid (T10_w11.out.bel hbx)
        have H_w12 := Lib.hid (H_w11.out.bel hbx)
        have N_w12 := Lib.hid (N_w11.out.keep ((Keep.refl _ _).below hbx))
        have B_w12 := B_w11.trans (hbx.mono B_w11.size)
        clear X_w11 P8_w11 P9_w11 P12_w11 T34_w11 T38_w11 T10_w11 H_w11 N_w11 B_w11
        clear hbx P10_w11 T8_w11
        go_wp2_with fail
        refine (same_r O8_w12.out (isTy_mk (isSl_nil rpTy (fun _ => True) w12) 0) w12 (Keep.refl _ _) (Keep.refl _ _)).mono ?_
        intro e w13 h
        obtain ⟨r, Hq, rfl, hbx⟩ := of_retB h
        clear h
        obtain rfl : r = true := Hq.out.2 rfl
        clear Hq
        have X_w13 := X_w12.below hbx
        have P8_w13 := P8_w12.below hbx
        have P9_w13 := P9_w12.below hbx
        have P12_w13 := P12_w12.below hbx
        have T34_w13 := Lib.hid (T34_w12.out.bel hbx)
        have T38_w13 := Lib.hid (T38_w12.out.bel hbx)
        have T10_w13 := Lib.hid (T10_w12.out.bel hbx)
        have H_w13 := Lib.hid (H_w12.out.bel hbx)
        have N_w13 := Lib.hid (N_w12.out.keep ((Keep.refl _ _).below hbx))
        have B_w13 := B_w12.trans (hbx.mono B_w12.size)
        clear X_w12 P8_w12 P9_w12 P12_w12 T34_w12 T38_w12 T10_w12 H_w12 N_w12 B_w12
        clear hbx O8_w12
        go_wp2_with fail
        refine wp_region_noPanic (wp_region_need (S := fun w' => w'.cell? ⟨w.heap.size, 0, none⟩ = some (.slice a l2 c) ∧ w'.cell? ⟨w.heap.size, 1, none⟩ = some (.int .i64 b2) ∧ w'.cell? ⟨p8, 0, none⟩ = some (.slice a34 k c34) ∧ w'.cell? ⟨p8, 1, none⟩ = some (.int .i64 b2) ∧ w'.cell? ⟨p9, 0, none⟩ = some (.slice a38 (k + l2) c38) ∧ w'.cell? ⟨p9, 1, none⟩ = some (.int .i64 b2) ∧ w'.cell? ⟨p12, 0, none⟩ = some (.slice a10 l2 c10) ∧ w'.cell? ⟨p12, 1, none⟩ = some (.int .i64 b2)) (by kernel_rfl) ?_)
        have hS : (w13.drew).cell? ⟨w.heap.size, 0, none⟩ = some (.slice a l2 c) ∧ (w13.drew).cell? ⟨w.heap.size, 1, none⟩ = some (.int .i64 b2) ∧ (w13.drew).cell? ⟨p8, 0, none⟩ = some (.slice a34 k c34) ∧ (w13.drew).cell? ⟨p8, 1, none⟩ = some (.int .i64 b2) ∧ (w13.drew).cell? ⟨p9, 0, none⟩ = some (.slice a38 (k + l2) c38) ∧ (w13.drew).cell? ⟨p9, 1, none⟩ = some (.int .i64 b2) ∧ (w13.drew).cell? ⟨p12, 0, none⟩ = some (.slice a10 l2 c10) ∧ (w13.drew).cell? ⟨p12, 1, none⟩ = some (.int .i64 b2) := ⟨X_w13.drew.cell rfl, X_w13.drew.cell rfl, P8_w13.drew.cell rfl, P8_w13.drew.cell rfl, P9_w13.drew.cell rfl, P9_w13.drew.cell rfl, P12_w13.drew.cell rfl, P12_w13.drew.cell rfl⟩
        refine wpN_step (i := 0) (by kernel_rfl) rfl (fun K hK => ?_)
        go_simp
        refine (known04 w13.drew).mono ?_
        rintro e v0 ⟨rfl, hbd⟩
        have hbx : Below w13.heap.size w13 v0 := (Below.refl _ _).drew.trans hbd
        clear hbd
        have X_v0 := X_w13.below hbx
        have P8_v0 := P8_w13.below hbx
        have P9_v0 := P9_w13.below hbx
        have P12_v0 := P12_w13.below hbx
        have T34_v0 := Lib.hid (T34_w13.out.bel hbx)
        have T38_v0 := Lib.hid (T38_w13.out.bel hbx)
        have T10_v0 := Lib.hid (T10_w13.out.bel hbx)
        have H_v0 := Lib.hid (H_w13.out.bel hbx)
        have N_v0 := Lib.hid (N_w13.out.keep ((Keep.refl _ _).below hbx))
        have B_v0 := B_w13.trans (hbx.mono B_w13.size)
        clear X_w13 P8_w13 P9_w13 P12_w13 T34_w13 T38_w13 T10_w13 H_w13 N_w13 B_w13
        clear hbx
        have hS : (v0).cell? ⟨w.heap.size, 0, none⟩ = some (.slice a l2 c) ∧ (v0).cell? ⟨w.heap.size, 1, none⟩ = some (.int .i64 b2) ∧ (v0).cell? ⟨p8, 0, none⟩ = some (.slice a34 k c34) ∧ (v0).cell? ⟨p8, 1, none⟩ = some (.int .i64 b2) ∧ (v0).cell? ⟨p9, 0, none⟩ = some (.slice a38 (k + l2) c38) ∧ (v0).cell? ⟨p9, 1, none⟩ = some (.int .i64 b2) ∧ (v0).cell? ⟨p12, 0, none⟩ = some (.slice a10 l2 c10) ∧ (v0).cell? ⟨p12, 1, none⟩ = some (.int .i64 b2) := ⟨X_v0.cell rfl, X_v0.cell rfl, P8_v0.cell rfl, P8_v0.cell rfl, P9_v0.cell rfl, P9_v0.cell rfl, P12_v0.cell rfl, P12_v0.cell rfl⟩
        refine hK.out _ _ (fun _ => hS) ?_
        clear hK K
        try simp only [Act.put, List.setIfInBounds_toArray, List.set_cons_zero, List.set_cons_succ, List.getElem_toArray, List.getElem_cons_zero, List.getElem_cons_succ]
        refine wpN_take (i := 1) (v := ?v54) rfl (by kernel_rfl) (fun _ _ _ h => h) hS (Or.inl ⟨by rfl, ?hy54⟩) ?hr54
        case hy54 => (intro wS hSw; (try dsimp only at hSw); go_simp; (try with_reducible rfl))
        try simp only [Act.put, List.setIfInBounds_toArray, List.set_cons_zero, List.set_cons_succ, List.getElem_toArray, List.getElem_cons_zero, List.getElem_cons_succ]
        refine wpN_take (i := 2) (v := ?v55) rfl (by kernel_rfl) (fun _ _ _ h => h) hS (Or.inl ⟨by rfl, ?hy55⟩) ?hr55
        case hy55 => (intro wS hSw; (try dsimp only at hSw); go_simp; (try with_reducible rfl))
        try simp only [Act.put, List.setIfInBounds_toArray, List.set_cons_zero, List.set_cons_succ, List.getElem_toArray, List.getElem_cons_zero, List.getElem_cons_succ]
        refine wpN_take (i := 4) (v := ?v56) rfl (by kernel_rfl) (fun _ _ _ h => h) hS (Or.inl ⟨by rfl, ?hy56⟩) ?hr56
        case hy56 => (intro wS hSw; (try dsimp only at hSw); go_simp; (try with_reducible rfl))
        try simp only [Act.put, List.setIfInBounds_toArray, List.set_cons_zero, List.set_cons_succ, List.getElem_toArray, List.getElem_cons_zero, List.getElem_cons_succ]
        refine wpN_take (i := 5) (v := ?v57) rfl (by kernel_rfl) (fun _ _ _ h => h) hS (Or.inl ⟨by rfl, ?hy57⟩) ?hr57
        case hy57 => (intro wS hSw; (try dsimp only at hSw); go_simp; (try with_reducible rfl))
        try simp only [Act.put, List.setIfInBounds_toArray, List.set_cons_zero, List.set_cons_succ, List.getElem_toArray, List.getElem_cons_zero, List.getElem_cons_succ]
        refine wpN_take (i := 6) (v := ?v58) rfl (by kernel_rfl) (fun _ _ _ h => h) hS (Or.inl ⟨by rfl, ?hy58⟩) ?hr58
        case hy58 => (intro wS hSw; (try dsimp only at hSw); go_simp; (try with_reducible rfl))
        try simp only [Act.put, List.setIfInBounds_toArray, List.set_cons_zero, List.set_cons_succ, List.getElem_toArray, List.getElem_cons_zero, List.getElem_cons_succ]
        refine wpN_take (i := 7) (v := ?v59) rfl (by kernel_rfl) (fun _ _ _ h => h) hS (Or.inl ⟨by rfl, ?hy59⟩) ?hr59
        case hy59 => (intro wS hSw; (try dsimp only at hSw); go_simp; (try with_reducible rfl))
        try simp only [Act.put, List.setIfInBounds_toArray, List.set_cons_zero, List.set_cons_succ, List.getElem_toArray, List.getElem_cons_zero, List.getElem_cons_succ]
        refine wpN_step (i := 3) (by kernel_rfl) rfl (fun K hK => ?_)
        go_simp
        refine (of_any T34_v0.out v0 Hs34.out (Keep.refl _ _)).mono ?_
        intro e v1 h
        obtain ⟨_, _, rfl, hT, hbx⟩ := h
        obtain ⟨q34, qc34, rfl, rfl⟩ := hT.shape
        simp only [args_mk, base_mk, List.length_append, Hk.out.1, Hl2.out, Hb2.out] at hT ⊢
        have O34_v1 := Lib.hid (hT.weaken (F' := fun _ => True) fun _ _ _ => trivial)
        clear hT
        have X_v1 := X_v0.below hbx
        have P8_v1 := P8_v0.below hbx
        have P9_v1 := P9_v0.below hbx
        have P12_v1 := P12_v0.below hbx
        have T34_v1 := Lib.hid (T34_v0.out.bel hbx)
        have T38_v1 := Lib.hid (T38_v0.out.bel hbx)
        have T10_v1 := Lib.hid (T10_v0.out.bel hbx)
        have H_v1 := Lib.hid (H_v0.out.bel hbx)
        have N_v1 := Lib.hid (N_v0.out.keep ((Keep.refl _ _).below hbx))
        have B_v1 := B_v0.trans (hbx.mono B_v0.size)
        clear X_v0 P8_v0 P9_v0 P12_v0 T34_v0 T38_v0 T10_v0 H_v0 N_v0 B_v0
        clear hbx
        have hS : (v1).cell? ⟨w.heap.size, 0, none⟩ = some (.slice a l2 c) ∧ (v1).cell? ⟨w.heap.size, 1, none⟩ = some (.int .i64 b2) ∧ (v1).cell? ⟨p8, 0, none⟩ = some (.slice a34 k c34) ∧ (v1).cell? ⟨p8, 1, none⟩ = some (.int .i64 b2) ∧ (v1).cell? ⟨p9, 0, none⟩ = some (.slice a38 (k + l2) c38) ∧ (v1).cell? ⟨p9, 1, none⟩ = some (.int .i64 b2) ∧ (v1).cell? ⟨p12, 0, none⟩ = some (.slice a10 l2 c10) ∧ (v1).cell? ⟨p12, 1, none⟩ = some (.int .i64 b2) := ⟨X_v1.cell rfl, X_v1.cell rfl, P8_v1.cell rfl, P8_v1.cell rfl, P9_v1.cell rfl, P9_v1.cell rfl, P12_v1.cell rfl, P12_v1.cell rfl⟩
        refine hK.out _ _ (fun _ => hS) ?_
        clear hK K
        try simp only [Act.put, List.setIfInBounds_toArray, List.set_cons_zero, List.set_cons_succ, List.getElem_toArray, List.getElem_cons_zero, List.getElem_cons_succ]
        refine wpN_step (i := 8) (by kernel_rfl) rfl (fun K hK => ?_)
        go_simp
        refine (arrow_r (t := .mk [] b2) (isTy_mk (isSl_nil rpTy (fun _ => True) v1) b2) N_v1.out (by have := Hk.out; simp [Ty.args]; omega)).mono ?_
        rintro e v2 ⟨qa, qac, rfl, hT, hbx⟩
        simp only [args_mk, base_mk, List.length_append, List.append_nil, Hk.out.1, Hl2.out, Hb2.out] at hT ⊢
        have A34_v2 := Lib.hid (hT.weaken (F' := fun _ => True) fun _ _ _ => trivial)
        clear hT
        have O34_v2 := Lib.hid (O34_v1.out.bel hbx)
        clear O34_v1
        have X_v2 := X_v1.below hbx
        have P8_v2 := P8_v1.below hbx
        have P9_v2 := P9_v1.below hbx
        have P12_v2 := P12_v1.below hbx
        have T34_v2 := Lib.hid (T34_v1.out.bel hbx)
        have T38_v2 := Lib.hid (T38_v1.out.bel hbx)
        have T10_v2 := Lib.hid (T10_v1.out.bel hbx)
        have H_v2 := Lib.hid (H_v1.out.bel hbx)
        have N_v2 := Lib.hid (N_v1.out.keep ((Keep.refl _ _).below hbx))
        have B_v2 := B_v1.trans (hbx.mono B_v1.size)
        clear X_v1 P8_v1 P9_v1 P12_v1 T34_v1 T38_v1 T10_v1 H_v1 N_v1 B_v1
        clear hbx
        have hS : (v2).cell? ⟨w.heap.size, 0, none⟩ = some (.slice a l2 c) ∧ (v2).cell? ⟨w.heap.size, 1, none⟩ = some (.int .i64 b2) ∧ (v2).cell? ⟨p8, 0, none⟩ = some (.slice a34 k c34) ∧ (v2).cell? ⟨p8, 1, none⟩ = some (.int .i64 b2) ∧ (v2).cell? ⟨p9, 0, none⟩ = some (.slice a38 (k + l2) c38) ∧ (v2).cell? ⟨p9, 1, none⟩ = some (.int .i64 b2) ∧ (v2).cell? ⟨p12, 0, none⟩ = some (.slice a10 l2 c10) ∧ (v2).cell? ⟨p12, 1, none⟩ = some (.int .i64 b2) := ⟨X_v2.cell rfl, X_v2.cell rfl, P8_v2.cell rfl, P8_v2.cell rfl, P9_v2.cell rfl, P9_v2.cell rfl, P12_v2.cell rfl, P12_v2.cell rfl⟩
        refine hK.out _ _ (fun _ => hS) ?_
        clear hK K
        try simp only [Act.put, List.setIfInBounds_toArray, List.set_cons_zero, List.set_cons_succ, List.getElem_toArray, List.getElem_cons_zero, List.getElem_cons_succ]
        refine wpN_step (i := 9) (by kernel_rfl) rfl (fun K hK => ?_)
        go_simp
        refine (same_r O34_v2.out A34_v2.out v2 (Keep.refl _ _) (Keep.refl _ _)).mono ?_
        intro e v3 h
        obtain ⟨r, Hq, rfl, hbx⟩ := of_retB h
        clear h
        obtain rfl : r = true := Hq.out.2 rfl
        clear Hq
        have X_v3 := X_v2.below hbx
        have P8_v3 := P8_v2.below hbx
        have P9_v3 := P9_v2.below hbx
        have P12_v3 := P12_v2.below hbx
        have T34_v3 := Lib.hid (T34_v2.out.bel hbx)
        have T38_v3 := Lib.hid (T38_v2.out.bel hbx)
        have T10_v3 := Lib.hid (T10_v2.out.bel hbx)
        have H_v3 := Lib.hid (H_v2.out.bel hbx)
        have N_v3 := Lib.hid (N_v2.out.keep ((Keep.refl _ _).below hbx))
        have B_v3 := B_v2.trans (hbx.mono B_v2.size)
        clear X_v2 P8_v2 P9_v2 P12_v2 T34_v2 T38_v2 T10_v2 H_v2 N_v2 B_v2
        clear hbx
        have hS : (v3).cell? ⟨w.heap.size, 0, none⟩ = some (.slice a l2 c) ∧ (v3).cell? ⟨w.heap.size, 1, none⟩ = some (.int .i64 b2) ∧ (v3).cell? ⟨p8, 0, none⟩ = some (.slice a34 k c34) ∧ (v3).cell? ⟨p8, 1, none⟩ = some (.int .i64 b2) ∧ (v3).cell? ⟨p9, 0, none⟩ = some (.slice a38 (k + l2) c38) ∧ (v3).cell? ⟨p9, 1, none⟩ = some (.int .i64 b2) ∧ (v3).cell? ⟨p12, 0, none⟩ = some (.slice a10 l2 c10) ∧ (v3).cell? ⟨p12, 1, none⟩ = some (.int .i64 b2) := ⟨X_v3.cell rfl, X_v3.cell rfl, P8_v3.cell rfl, P8_v3.cell rfl, P9_v3.cell rfl, P9_v3.cell rfl, P12_v3.cell rfl, P12_v3.cell rfl⟩
        refine hK.out _ _ (fun _ => hS) ?_
        clear hK K
        try simp only [Act.put, List.setIfInBounds_toArray, List.set_cons_zero, List.set_cons_succ, List.getElem_toArray, List.getElem_cons_zero, List.getElem_cons_succ]
        clear O34_v2 A34_v2
        refine wpN_take (i := 10) (v := ?v60) rfl (by kernel_rfl) (fun _ _ _ h => h) hS (Or.inl ⟨by rfl, ?hy60⟩) ?hr60
        case hy60 => (intro wS hSw; (try dsimp only at hSw); go_simp; (try with_reducible rfl))
        try simp only [Act.put, List.setIfInBounds_toArray, List.set_cons_zero, List.set_cons_succ, List.getElem_toArray, List.getElem_cons_zero, List.getElem_cons_succ]
        refine wpN_take (i := 11) (v := ?v61) rfl (by kernel_rfl) (fun _ _ _ h => h) hS (Or.inl ⟨by rfl, ?hy61⟩) ?hr61
        case hy61 => (intro wS hSw; (try dsimp only at hSw); go_simp; (try with_reducible rfl))
        try simp only [Act.put, List.setIfInBounds_toArray, List.set_cons_zero, List.set_cons_succ, List.getElem_toArray, List.getElem_cons_zero, List.getElem_cons_succ]
        refine wpN_take (i := 12) (v := ?v62) rfl (by kernel_rfl) (fun _ _ _ h => h) hS (Or.inl ⟨by rfl, ?hy62⟩) ?hr62
        case hy62 => (intro wS hSw; (try dsimp only at hSw); go_simp; (try with_reducible rfl))
        try simp only [Act.put, List.setIfInBounds_toArray, List.set_cons_zero, List.set_cons_succ, List.getElem_toArray, List.getElem_cons_zero, List.getElem_cons_succ]
        refine wpN_take (i := 14) (v := ?v63) rfl (by kernel_rfl) (fun _ _ _ h => h) hS (Or.inl ⟨by rfl, ?hy63⟩) ?hr63
        case hy63 => (intro wS hSw; (try dsimp only at hSw); go_simp; (try with_reducible rfl))
        try simp only [Act.put, List.setIfInBounds_toArray, List.set_cons_zero, List.set_cons_succ, List.getElem_toArray, List.getElem_cons_zero, List.getElem_cons_succ]
        refine wpN_take (i := 15) (v := ?v64) rfl (by kernel_rfl) (fun _ _ _ h => h) hS (Or.inl ⟨by rfl, ?hy64⟩) ?hr64
        case hy64 => (intro wS hSw; (try dsimp only at hSw); go_simp; (try with_reducible rfl))
        try simp only [Act.put, List.setIfInBounds_toArray, List.set_cons_zero, List.set_cons_succ, List.getElem_toArray, List.getElem_cons_zero, List.getElem_cons_succ]
        refine wpN_step (i := 13) (by kernel_rfl) rfl (fun K hK => ?_)
        go_simp
        refine (of_any T38_v3.out v3 Hs38.out (Keep.refl _ _)).mono ?_
        intro e v4 h
        obtain ⟨_, _, rfl, hT, hbx⟩ := h
        obtain ⟨q38, qc38, rfl, rfl⟩ := hT.shape
        simp only [args_mk, base_mk, List.length_append, Hk.out.1, Hl2.out, Hb2.out] at hT ⊢
        have O38_v4 := Lib.hid (hT.weaken (F' := fun _ => True) fun _ _ _ => trivial)
        clear hT
        have X_v4 := X_v3.below hbx
        have P8_v4 := P8_v3.below hbx
        have P9_v4 := P9_v3.below hbx
        have P12_v4 := P12_v3.below hbx
        have T34_v4 := Lib.hid (T34_v3.out.bel hbx)
        have T38_v4 := Lib.hid (T38_v3.out.bel hbx)
        have T10_v4 := Lib.hid (T10_v3.out.bel hbx)
        have H_v4 := Lib.hid (H_v3.out.bel hbx)
        have N_v4 := Lib.hid (N_v3.out.keep ((Keep.refl _ _).below hbx))
        have B_v4 := B_v3.trans (hbx.mono B_v3.size)
        clear X_v3 P8_v3 P9_v3 P12_v3 T34_v3 T38_v3 T10_v3 H_v3 N_v3 B_v3
        clear hbx
        have hS : (v4).cell? ⟨w.heap.size, 0, none⟩ = some (.slice a l2 c) ∧ (v4).cell? ⟨w.heap.size, 1, none⟩ = some (.int .i64 b2) ∧ (v4).cell? ⟨p8, 0, none⟩ = some (.slice a34 k c34) ∧ (v4).cell? ⟨p8, 1, none⟩ = some (.int .i64 b2) ∧ (v4).cell? ⟨p9, 0, none⟩ = some (.slice a38 (k + l2) c38) ∧ (v4).cell? ⟨p9, 1, none⟩ = some (.int .i64 b2) ∧ (v4).cell? ⟨p12, 0, none⟩ = some (.slice a10 l2 c10) ∧ (v4).cell? ⟨p12, 1, none⟩ = some (.int .i64 b2) := ⟨X_v4.cell rfl, X_v4.cell rfl, P8_v4.cell rfl, P8_v4.cell rfl, P9_v4.cell rfl, P9_v4.cell rfl, P12_v4.cell rfl, P12_v4.cell rfl⟩
        refine hK.out _ _ (fun _ => hS) ?_
        clear hK K
        try simp only [Act.put, List.setIfInBounds_toArray, List.set_cons_zero, List.set_cons_succ, List.getElem_toArray, List.getElem_cons_zero, List.getElem_cons_succ]
        refine wpN_step (i := 16) (by kernel_rfl) rfl (fun K hK => ?_)
        go_simp
        refine (arrow_r H_v4.out N_v4.out (by have := Hk.out; have := Hlt.out; omega)).mono ?_
        rintro e v5 ⟨qa, qac, rfl, hT, hbx⟩
        simp only [args_mk, base_mk, List.length_append, List.append_nil, Hk.out.1, Hl2.out, Hb2.out] at hT ⊢
        have A38_v5 := Lib.hid (hT.weaken (F' := fun _ => True) fun _ _ _ => trivial)
        clear hT
        have O38_v5 := Lib.hid (O38_v4.out.bel hbx)
        clear O38_v4
        have X_v5 := X_v4.below hbx
        have P8_v5 := P8_v4.below hbx
        have P9_v5 := P9_v4.below hbx
        have P12_v5 := P12_v4.below hbx
        have T34_v5 := Lib.hid (T34_v4.out.bel hbx)
        have T38_v5 := Lib.hid (T38_v4.out.bel hbx)
        have T10_v5 := Lib.hid (T10_v4.out.bel hbx)
        have H_v5 := Lib.hid (H_v4.out.bel hbx)
        have N_v5 := Lib.hid (N_v4.out.keep ((Keep.refl _ _).below hbx))
        have B_v5 := B_v4.trans (hbx.mono B_v4.size)
        clear X_v4 P8_v4 P9_v4 P12_v4 T34_v4 T38_v4 T10_v4 H_v4 N_v4 B_v4
        clear hbx
        have hS : (v5).cell? ⟨w.heap.size, 0, none⟩ = some (.slice a l2 c) ∧ (v5).cell? ⟨w.heap.size, 1, none⟩ = some (.int .i64 b2) ∧ (v5).cell? ⟨p8, 0, none⟩ = some (.slice a34 k c34) ∧ (v5).cell? ⟨p8, 1, none⟩ = some (.int .i64 b2) ∧ (v5).cell? ⟨p9, 0, none⟩ = some (.slice a38 (k + l2) c38) ∧ (v5).cell? ⟨p9, 1, none⟩ = some (.int .i64 b2) ∧ (v5).cell? ⟨p12, 0, none⟩ = some (.slice a10 l2 c10) ∧ (v5).cell? ⟨p12, 1, none⟩ = some (.int .i64 b2) := ⟨X_v5.cell rfl, X_v5.cell rfl, P8_v5.cell rfl, P8_v5.cell rfl, P9_v5.cell rfl, P9_v5.cell rfl, P12_v5.cell rfl, P12_v5.cell rfl⟩
        refine hK.out _ _ (fun _ => hS) ?_
        clear hK K
        try simp only [Act.put, List.setIfInBounds_toArray, List.set_cons_zero, List.set_cons_succ, List.getElem_toArray, List.getElem_cons_zero, List.getElem_cons_succ]
        refine wpN_step (i := 17) (by kernel_rfl) rfl (fun K hK => ?_)
        go_simp
        refine (same_r O38_v5.out A38_v5.out v5 (Keep.refl _ _) (Keep.refl _ _)).mono ?_
        intro e v6 h
        obtain ⟨r, Hq, rfl, hbx⟩ := of_retB h
        clear h
        obtain rfl : r = true := Hq.out.2 rfl
        clear Hq
        have X_v6 := X_v5.below hbx
        have P8_v6 := P8_v5.below hbx
        have P9_v6 := P9_v5.below hbx
        have P12_v6 := P12_v5.below hbx
        have T34_v6 := Lib.hid (T34_v5.out.bel hbx)
        have T38_v6 := Lib.hid (T38_v5.out.bel hbx)
        have T10_v6 := Lib.hid (T10_v5.out.bel hbx)
        have H_v6 := Lib.hid (H_v5.out.bel hbx)
        have N_v6 := Lib.hid (N_v5.out.keep ((Keep.refl _ _).below hbx))
        have B_v6 := B_v5.trans (hbx.mono B_v5.size)
        clear X_v5 P8_v5 P9_v5 P12_v5 T34_v5 T38_v5 T10_v5 H_v5 N_v5 B_v5
        clear hbx
        have hS : (v6).cell? ⟨w.heap.size, 0, none⟩ = some (.slice a l2 c) ∧ (v6).cell? ⟨w.heap.size, 1, none⟩ = some (.int .i64 b2) ∧ (v6).cell? ⟨p8, 0, none⟩ = some (.slice a34 k c34) ∧ (v6).cell? ⟨p8, 1, none⟩ = some (.int .i64 b2) ∧ (v6).cell? ⟨p9, 0, none⟩ = some (.slice a38 (k + l2) c38) ∧ (v6).cell? ⟨p9, 1, none⟩ = some (.int .i64 b2) ∧ (v6).cell? ⟨p12, 0, none⟩ = some (.slice a10 l2 c10) ∧ (v6).cell? ⟨p12, 1, none⟩ = some (.int .i64 b2) := ⟨X_v6.cell rfl, X_v6.cell rfl, P8_v6.cell rfl, P8_v6.cell rfl, P9_v6.cell rfl, P9_v6.cell rfl, P12_v6.cell rfl, P12_v6.cell rfl⟩
        refine hK.out _ _ (fun _ => hS) ?_
        clear hK K
        try simp only [Act.put, List.setIfInBounds_toArray, List.set_cons_zero, List.set_cons_succ, List.getElem_toArray, List.getElem_cons_zero, List.getElem_cons_succ]
        clear O38_v5 A38_v5
        refine wpN_take (i := 18) (v := ?v65) rfl (by kernel_rfl) (fun _ _ _ h => h) hS (Or.inl ⟨by rfl, ?hy65⟩) ?hr65
        case hy65 => (intro wS hSw; (try dsimp only at hSw); go_simp; (try with_reducible rfl))
        try simp only [Act.put, List.setIfInBounds_toArray, List.set_cons_zero, List.set_cons_succ, List.getElem_toArray, List.getElem_cons_zero, List.getElem_cons_succ]
        refine wpN_take (i := 19) (v := ?v66) rfl (by kernel_rfl) (fun _ _ _ h => h) hS (Or.inl ⟨by rfl, ?hy66⟩) ?hr66
        case hy66 => (intro wS hSw; (try dsimp only at hSw); go_simp; (try with_reducible rfl))
        try simp only [Act.put, List.setIfInBounds_toArray, List.set_cons_zero, List.set_cons_succ, List.getElem_toArray, List.getElem_cons_zero, List.getElem_cons_succ]
        refine wpN_take (i := 20) (v := ?v67) rfl (by kernel_rfl) (fun _ _ _ h => h) hS (Or.inl ⟨by rfl, ?hy67⟩) ?hr67
        case hy67 => (intro wS hSw; (try dsimp only at hSw); go_simp; (try with_reducible rfl))
        try simp only [Act.put, List.setIfInBounds_toArray, List.set_cons_zero, List.set_cons_succ, List.getElem_toArray, List.getElem_cons_zero, List.getElem_cons_succ]
        refine wpN_take (i := 21) (v := ?v68) rfl (by kernel_rfl) (fun _ _ _ h => h) hS (Or.inl ⟨by rfl, ?hy68⟩) ?hr68
        case hy68 => (intro wS hSw; (try dsimp only at hSw); go_simp; (try with_reducible rfl))
        try simp only [Act.put, List.setIfInBounds_toArray, List.set_cons_zero, List.set_cons_succ, List.getElem_toArray, List.getElem_cons_zero, List.getElem_cons_succ]
        refine wpN_take (i := 22) (v := ?v69) rfl (by kernel_rfl) (fun _ _ _ h => h) hS (Or.inl ⟨by rfl, ?hy69⟩) ?hr69
        case hy69 => (intro wS hSw; (try dsimp only at hSw); go_simp; (try with_reducible rfl))
        try simp only [Act.put, List.setIfInBounds_toArray, List.set_cons_zero, List.set_cons_succ, List.getElem_toArray, List.getElem_cons_zero, List.getElem_cons_succ]
        refine wpN_take (i := 23) (v := ?v70) rfl (by kernel_rfl) (fun _ _ _ h => h) hS (Or.inl ⟨by rfl, ?hy70⟩) ?hr70
        case hy70 => (intro wS hSw; (try dsimp only at hSw); go_simp; (try with_reducible rfl))
        try simp only [Act.put, List.setIfInBounds_toArray, List.set_cons_zero, List.set_cons_succ, List.getElem_toArray, List.getElem_cons_zero, List.getElem_cons_succ]
        refine wpN_take (i := 24) (v := ?v71) rfl (by kernel_rfl) (fun _ _ _ h => h) hS (Or.inl ⟨by rfl, ?hy71⟩) ?hr71
        case hy71 => (intro wS hSw; (try dsimp only at hSw); go_simp; (try with_reducible rfl))
        try simp only [Act.put, List.setIfInBounds_toArray, List.set_cons_zero, List.set_cons_succ, List.getElem_toArray, List.getElem_cons_zero, List.getElem_cons_succ]
        refine wpN_take (i := 26) (v := ?v72) rfl (by kernel_rfl) (fun _ _ _ h => h) hS (Or.inl ⟨by rfl, ?hy72⟩) ?hr72
        case hy72 => (intro wS hSw; (try dsimp only at hSw); go_simp; (try with_reducible rfl))
        try simp only [Act.put, List.setIfInBounds_toArray, List.set_cons_zero, List.set_cons_succ, List.getElem_toArray, List.getElem_cons_zero, List.getElem_cons_succ]
        refine wpN_step (i := 25) (by kernel_rfl) rfl (fun K hK => ?_)
        go_simp
        refine (of_any T10_v6.out v6 Hs10.out (Keep.refl _ _)).mono ?_
        intro e v7 h
        obtain ⟨_, _, rfl, hT, hbx⟩ := h
        obtain ⟨q10, qc10, rfl, rfl⟩ := hT.shape
        simp only [args_mk, base_mk, List.length_append, Hk.out.1, Hl2.out, Hb2.out] at hT ⊢
        have O10_v7 := Lib.hid (hT.weaken (F' := fun _ => True) fun _ _ _ => trivial)
        clear hT
        have X_v7 := X_v6.below hbx
        have P8_v7 := P8_v6.below hbx
        have P9_v7 := P9_v6.below hbx
        have P12_v7 := P12_v6.below hbx
        have T34_v7 := Lib.hid (T34_v6.out.bel hbx)
        have T38_v7 := Lib.hid (T38_v6.out.bel hbx)
        have T10_v7 := Lib.hid (T10_v6.out.bel hbx)
        have H_v7 := Lib.hid (H_v6.out.bel hbx)
        have N_v7 := Lib.hid (N_v6.out.keep ((Keep.refl _ _).below hbx))
        have B_v7 := B_v6.trans (hbx.mono B_v6.size)
        clear X_v6 P8_v6 P9_v6 P12_v6 T34_v6 T38_v6 T10_v6 H_v6 N_v6 B_v6
        clear hbx
        have hS : (v7).cell? ⟨w.heap.size, 0, none⟩ = some (.slice a l2 c) ∧ (v7).cell? ⟨w.heap.size, 1, none⟩ = some (.int .i64 b2) ∧ (v7).cell? ⟨p8, 0, none⟩ = some (.slice a34 k c34) ∧ (v7).cell? ⟨p8, 1, none⟩ = some (.int .i64 b2) ∧ (v7).cell? ⟨p9, 0, none⟩ = some (.slice a38 (k + l2) c38) ∧ (v7).cell? ⟨p9, 1, none⟩ = some (.int .i64 b2) ∧ (v7).cell? ⟨p12, 0, none⟩ = some (.slice a10 l2 c10) ∧ (v7).cell? ⟨p12, 1, none⟩ = some (.int .i64 b2) := ⟨X_v7.cell rfl, X_v7.cell rfl, P8_v7.cell rfl, P8_v7.cell rfl, P9_v7.cell rfl, P9_v7.cell rfl, P12_v7.cell rfl, P12_v7.cell rfl⟩
        refine hK.out _ _ (fun _ => hS) ?_
        clear hK K
        try simp only [Act.put, List.setIfInBounds_toArray, List.set_cons_zero, List.set_cons_succ, List.getElem_toArray, List.getElem_cons_zero, List.getElem_cons_succ]
        refine wpN_step (i := 27) (by kernel_rfl) rfl (fun K hK => ?_)
        go_simp
        refine (same_r O10_v7.out H_v7.out v7 (Keep.refl _ _) (Keep.refl _ _)).mono ?_
        intro e v8 h
        obtain ⟨r, Hq, rfl, hbx⟩ := of_retB h
        clear h
        obtain rfl : r = true := Hq.out.2 rfl
        clear Hq
        have X_v8 := X_v7.below hbx
        have P8_v8 := P8_v7.below hbx
        have P9_v8 := P9_v7.below hbx
        have P12_v8 := P12_v7.below hbx
        have T34_v8 := Lib.hid (T34_v7.out.bel hbx)
        have T38_v8 := Lib.hid (T38_v7.out.bel hbx)
        have T10_v8 := Lib.hid (T10_v7.out.bel hbx)
        have H_v8 := Lib.hid (H_v7.out.bel hbx)
        have N_v8 := Lib.hid (N_v7.out.keep ((Keep.refl _ _).below hbx))
        have B_v8 := B_v7.trans (hbx.mono B_v7.size)
        clear X_v7 P8_v7 P9_v7 P12_v7 T34_v7 T38_v7 T10_v7 H_v7 N_v7 B_v7
        clear hbx
        have hS : (v8).cell? ⟨w.heap.size, 0, none⟩ = some (.slice a l2 c) ∧ (v8).cell? ⟨w.heap.size, 1, none⟩ = some (.int .i64 b2) ∧ (v8).cell? ⟨p8, 0, none⟩ = some (.slice a34 k c34) ∧ (v8).cell? ⟨p8, 1, none⟩ = some (.int .i64 b2) ∧ (v8).cell? ⟨p9, 0, none⟩ = some (.slice a38 (k + l2) c38) ∧ (v8).cell? ⟨p9, 1, none⟩ = some (.int .i64 b2) ∧ (v8).cell? ⟨p12, 0, none⟩ = some (.slice a10 l2 c10) ∧ (v8).cell? ⟨p12, 1, none⟩ = some (.int .i64 b2) := ⟨X_v8.cell rfl, X_v8.cell rfl, P8_v8.cell rfl, P8_v8.cell rfl, P9_v8.cell rfl, P9_v8.cell rfl, P12_v8.cell rfl, P12_v8.cell rfl⟩
        refine hK.out _ _ (fun _ => hS) ?_
        clear hK K
        try simp only [Act.put, List.setIfInBounds_toArray, List.set_cons_zero, List.set_cons_succ, List.getElem_toArray, List.getElem_cons_zero, List.getElem_cons_succ]
        refine wpN_take (i := 28) (v := ?v73) rfl (by kernel_rfl) (fun _ _ _ h => h) hS (Or.inl ⟨by rfl, ?hy73⟩) ?hr73
        case hy73 => (intro wS hSw; (try dsimp only at hSw); go_simp; (try with_reducible rfl))
        try simp only [Act.put, List.setIfInBounds_toArray, List.set_cons_zero, List.set_cons_succ, List.getElem_toArray, List.getElem_cons_zero, List.getElem_cons_succ]
        refine wpN_step (i := 29) (by kernel_rfl) rfl (fun K hK => ?_)
        go_simp
        refine hK.out _ _ (fun h => absurd h (by decide)) ?_
        clear hK K
        try simp only [Act.put, List.setIfInBounds_toArray, List.set_cons_zero, List.set_cons_succ, List.getElem_toArray, List.getElem_cons_zero, List.getElem_cons_succ]
        refine wpN_done (by kernel_rfl) ?_
        refine NoPanic.normal ?_
        go_wp2_with fail
        go_ret
        exact ⟨rfl, B_v8⟩
  have st3ft : Hid (∀ (a34 : Option Addr) (c34 : Nat) (a36 : Option Addr) (c36 : Nat) (a38 : Option Addr) (c38 : Nat) (p9 : Nat) (w' : World), Below w5.heap.size w5 w' → Blk w' w.heap.size #[.slice a l2 c, .int .i64 b2] 26 → IsTy (fun q => q ≠ p9) w' (.slice a34 k c34) (.int .i64 b2) (.mk m b2) → IsTy (fun q => q ≠ p9) w' (.slice a36 l2 c36) (.int .i64 b2) t → IsTy (fun q => q ≠ p9) w' (.slice a38 (k + l2) c38) (.int .i64 b2) (.mk (m ++ t.args) b2) → w5.heap.size ≤ p9 → Blk w' p9 #[.slice none 0 0, .int .i64 0] 40 → wpN Try.prog .any ops5 Q5 S5 3 #[true, true, true, true, true, true, true, true, false, true, false, false] ((((a5.put (some 34) (.agg #[.slice a34 k c34, .int .i64 b2])).put (some 36) (.agg #[.slice a36 l2 c36, .int .i64 b2])).put (some 38) (.agg #[.slice a38 (k + l2) c38, .int .i64 b2])).put (some 9) (.pointer (some ⟨p9, 0, none⟩))) w') := by
    intro a34 c34 a36 c36 a38 c38 p9 w' B X T34 T36 T38 L9 Z9
    refine wpN_pick [8] (by rw [Hops.out]; kernel_rfl) (by simp) (pick_one ?_)
    · refine wpOp_step (by rw [Hops.out]; rfl) (fun K hK => ?_)
      have hK := Lib.hid hK
      simp only [hact, Act.put, List.setIfInBounds_toArray, List.set_cons_zero, List.set_cons_succ]
      go_simp
      refine hK.out _ _ ⟨fun _ => ?_, ?_⟩
      · rw [hS5]; exact ⟨(X.alloc _).cell rfl, (X.alloc _).cell rfl⟩
      · have h := st3tt.out _ _ _ _ _ _ _ _ _ (B.alloc B.size _) (X.alloc _) ((T34.weaken (fun q hq hf => ⟨Nat.ne_of_lt hq, hf⟩)).bel ((Below.refl _ _).alloc (Nat.le_refl _) _)) ((T36.weaken (fun q hq hf => ⟨Nat.ne_of_lt hq, hf⟩)).bel ((Below.refl _ _).alloc (Nat.le_refl _) _)) ((T38.weaken (fun q hq hf => ⟨Nat.ne_of_lt hq, hf⟩)).bel ((Below.refl _ _).alloc (Nat.le_refl _) _)) B.size (Blk.new _ _ _ rfl) L9 (Z9.alloc _) (Nat.ne_of_gt Z9.lt)
        simpa only [hact, Act.put, List.setIfInBounds_toArray, List.set_cons_zero, List.set_cons_succ] using h
  have st3tf : Hid (∀ (a34 : Option Addr) (c34 : Nat) (a36 : Option Addr) (c36 : Nat) (a38 : Option Addr) (c38 : Nat) (p8 : Nat) (w' : World), Below w5.heap.size w5 w' → Blk w' w.heap.size #[.slice a l2 c, .int .i64 b2] 26 → IsTy (fun q => q ≠ p8) w' (.slice a34 k c34) (.int .i64 b2) (.mk m b2) → IsTy (fun q => q ≠ p8) w' (.slice a36 l2 c36) (.int .i64 b2) t → IsTy (fun q => q ≠ p8) w' (.slice a38 (k + l2) c38) (.int .i64 b2) (.mk (m ++ t.args) b2) → w5.heap.size ≤ p8 → Blk w' p8 #[.slice none 0 0, .int .i64 0] 40 → wpN Try.prog .any ops5 Q5 S5 3 #[true, true, true, true, true, true, true, true, true, false, false, false] ((((a5.put (some 34) (.agg #[.slice a34 k c34, .int .i64 b2])).put (some 36) (.agg #[.slice a36 l2 c36, .int .i64 b2])).put (some 38) (.agg #[.slice a38 (k + l2) c38, .int .i64 b2])).put (some 8) (.pointer (some ⟨p8, 0, none⟩))) w') := by
    intro a34 c34 a36 c36 a38 c38 p8 w' B X T34 T36 T38 L8 Z8
    refine wpN_pick [9] (by rw [Hops.out]; kernel_rfl) (by simp) (pick_one ?_)
    · refine wpOp_step (by rw [Hops.out]; rfl) (fun K hK => ?_)
      have hK := Lib.hid hK
      simp only [hact, Act.put, List.setIfInBounds_toArray, List.set_cons_zero, List.set_cons_succ]
      go_simp
      refine hK.out _ _ ⟨fun _ => ?_, ?_⟩
      · rw [hS5]; exact ⟨(X.alloc _).cell rfl, (X.alloc _).cell rfl⟩
      · have h := st3tt.out _ _ _ _ _ _ _ _ _ (B.alloc B.size _) (X.alloc _) ((T34.weaken (fun q hq hf => ⟨hf, Nat.ne_of_lt hq⟩)).bel ((Below.refl _ _).alloc (Nat.le_refl _) _)) ((T36.weaken (fun q hq hf => ⟨hf, Nat.ne_of_lt hq⟩)).bel ((Below.refl _ _).alloc (Nat.le_refl _) _)) ((T38.weaken (fun q hq hf => ⟨hf, Nat.ne_of_lt hq⟩)).bel ((Below.refl _ _).alloc (Nat.le_refl _) _)) L8 (Z8.alloc _) B.size (Blk.new _ _ _ rfl) (Nat.ne_of_lt Z8.lt)
        simpa only [hact, Act.put, List.setIfInBounds_toArray, List.set_cons_zero, List.set_cons_succ] using h
  have st3ff : Hid (∀ (a34 : Option Addr) (c34 : Nat) (a36 : Option Addr) (c36 : Nat) (a38 : Option Addr) (c38 : Nat) (w' : World), Below w5.heap.size w5 w' → Blk w' w.heap.size #[.slice a l2 c, .int .i64 b2] 26 → IsTy (fun _ => True) w' (.slice a34 k c34) (.int .i64 b2) (.mk m b2) → IsTy (fun _ => True) w' (.slice a36 l2 c36) (.int .i64 b2) t → IsTy (fun _ => True) w' (.slice a38 (k + l2) c38) (.int .i64 b2) (.mk (m ++ t.args) b2) → wpN Try.prog .any ops5 Q5 S5 4 #[true, true, true, true, true, true, true, true, false, false, false, false] (((a5.put (some 34) (.agg #[.slice a34 k c34, .int .i64 b2])).put (some 36) (.agg #[.slice a36 l2 c36, .int .i64 b2])).put (some 38) (.agg #[.slice a38 (k + l2) c38, .int .i64 b2])) w') := by
    intro a34 c34 a36 c36 a38 c38 w' B X T34 T36 T38
    refine wpN_pick [8, 9] (by rw [Hops.out]; kernel_rfl) (by simp) (pick_two ?_ ?_)
    · refine wpOp_step (by rw [Hops.out]; rfl) (fun K hK => ?_)
      have hK := Lib.hid hK
      simp only [hact, Act.put, List.setIfInBounds_toArray, List.set_cons_zero, List.set_cons_succ]
      go_simp
      refine hK.out _ _ ⟨fun _ => ?_, ?_⟩
      · rw [hS5]; exact ⟨(X.alloc _).cell rfl, (X.alloc _).cell rfl⟩
      · have h := st3tf.out _ _ _ _ _ _ _ _ (B.alloc B.size _) (X.alloc _) ((T34.weaken (fun q hq _ => Nat.ne_of_lt hq)).bel ((Below.refl _ _).alloc (Nat.le_refl _) _)) ((T36.weaken (fun q hq _ => Nat.ne_of_lt hq)).bel ((Below.refl _ _).alloc (Nat.le_refl _) _)) ((T38.weaken (fun q hq _ => Nat.ne_of_lt hq)).bel ((Below.refl _ _).alloc (Nat.le_refl _) _)) B.size (Blk.new _ _ _ rfl)
        simpa only [hact, Act.put, List.setIfInBounds_toArray, List.set_cons_zero, List.set_cons_succ] using h
    · refine wpOp_step (by rw [Hops.out]; rfl) (fun K hK => ?_)
      have hK := Lib.hid hK
      simp only [hact, Act.put, List.setIfInBounds_toArray, List.set_cons_zero, List.set_cons_succ]
      go_simp
      refine hK.out _ _ ⟨fun _ => ?_, ?_⟩
      · rw [hS5]; exact ⟨(X.alloc _).cell rfl, (X.alloc _).cell rfl⟩
      · have h := st3ft.out _ _ _ _ _ _ _ _ (B.alloc B.size _) (X.alloc _) ((T34.weaken (fun q hq _ => Nat.ne_of_lt hq)).bel ((Below.refl _ _).alloc (Nat.le_refl _) _)) ((T36.weaken (fun q hq _ => Nat.ne_of_lt hq)).bel ((Below.refl _ _).alloc (Nat.le_refl _) _)) ((T38.weaken (fun q hq _ => Nat.ne_of_lt hq)).bel ((Below.refl _ _).alloc (Nat.le_refl _) _)) B.size (Blk.new _ _ _ rfl)
        simpa only [hact, Act.put, List.setIfInBounds_toArray, List.set_cons_zero, List.set_cons_succ] using h
  have st2tt : Hid (∀ (a34 : Option Addr) (c34 : Nat) (a36 : Option Addr) (c36 : Nat) (p8 : Nat) (p9 : Nat) (w' : World), Below w5.heap.size w5 w' → Blk w' w.heap.size #[.slice a l2 c, .int .i64 b2] 26 → IsTy (fun q => q ≠ p8 ∧ q ≠ p9) w' (.slice a34 k c34) (.int .i64 b2) (.mk m b2) → IsTy (fun q => q ≠ p8 ∧ q ≠ p9) w' (.slice a36 l2 c36) (.int .i64 b2) t → w5.heap.size ≤ p8 → Blk w' p8 #[.slice none 0 0, .int .i64 0] 40 → w5.heap.size ≤ p9 → Blk w' p9 #[.slice none 0 0, .int .i64 0] 40 → p8 ≠ p9 → wpN Try.prog .any ops5 Q5 S5 3 #[true, true, true, true, true, true, true, false, true, true, false, false] ((((a5.put (some 34) (.agg #[.slice a34 k c34, .int .i64 b2])).put (some 36) (.agg #[.slice a36 l2 c36, .int .i64 b2])).put (some 8) (.pointer (some ⟨p8, 0, none⟩))).put (some 9) (.pointer (some ⟨p9, 0, none⟩))) w') := by
    intro a34 c34 a36 c36 p8 p9 w' B X T34 T36 L8 Z8 L9 Z9 D
    refine wpN_pick [7] (by rw [Hops.out]; kernel_rfl) (by simp) (pick_one ?_)
    · refine wpOp_step (by rw [Hops.out]; rfl) (fun K hK => ?_)
      have hK := Lib.hid hK
      simp only [hact, Act.put, List.setIfInBounds_toArray, List.set_cons_zero, List.set_cons_succ]
      go_simp
      refine (arrow_k (T36.weaken (F' := fun _ => True) fun _ _ _ => trivial) (M5.out.keep ((Keep.refl _ _).below B)) Hms2.out).mono ?_
      intro e w1 h
      obtain ⟨_, _, rfl, T1, hb1⟩ := h
      obtain ⟨a38, c38, rfl, rfl⟩ := T1.shape
      simp only [args_mk, base_mk, List.length_append, Hk.out.1, Hl2.out, Hb2.out] at T1 ⊢
      refine hK.out _ _ ⟨fun _ => ?_, ?_⟩
      · rw [hS5]; exact ⟨(X.below hb1).cell rfl, (X.below hb1).cell rfl⟩
      · have h := st3tt.out _ _ _ _ _ _ _ _ _ (B.trans (hb1.mono B.size)) (X.below hb1) (T34.bel hb1) (T36.bel hb1) (T1.weaken (fun q _ hq => ⟨Nat.ne_of_gt (Nat.lt_of_lt_of_le Z8.lt hq), Nat.ne_of_gt (Nat.lt_of_lt_of_le Z9.lt hq)⟩)) L8 (Z8.below hb1) L9 (Z9.below hb1) D
        simpa only [hact, Act.put, List.setIfInBounds_toArray, List.set_cons_zero, List.set_cons_succ] using h
  have st2ft : Hid (∀ (a34 : Option Addr) (c34 : Nat) (a36 : Option Addr) (c36 : Nat) (p9 : Nat) (w' : World), Below w5.heap.size w5 w' → Blk w' w.heap.size #[.slice a l2 c, .int .i64 b2] 26 → IsTy (fun q => q ≠ p9) w' (.slice a34 k c34) (.int .i64 b2) (.mk m b2) → IsTy (fun q => q ≠ p9) w' (.slice a36 l2 c36) (.int .i64 b2) t → w5.heap.size ≤ p9 → Blk w' p9 #[.slice none 0 0, .int .i64 0] 40 → wpN Try.prog .any ops5 Q5 S5 4 #[true, true, true, true, true, true, true, false, false, true, false, false] (((a5.put (some 34) (.agg #[.slice a34 k c34, .int .i64 b2])).put (some 36) (.agg #[.slice a36 l2 c36, .int .i64 b2])).put (some 9) (.pointer (some ⟨p9, 0, none⟩))) w') := by
    intro a34 c34 a36 c36 p9 w' B X T34 T36 L9 Z9
    refine wpN_pick [7, 8] (by rw [Hops.out]; kernel_rfl) (by simp) (pick_two ?_ ?_)
    · refine wpOp_step (by rw [Hops.out]; rfl) (fun K hK => ?_)
      have hK := Lib.hid hK
      simp only [hact, Act.put, List.setIfInBounds_toArray, List.set_cons_zero, List.set_cons_succ]
      go_simp
      refine (arrow_k (T36.weaken (F' := fun _ => True) fun _ _ _ => trivial) (M5.out.keep ((Keep.refl _ _).below B)) Hms2.out).mono ?_
      intro e w1 h
      obtain ⟨_, _, rfl, T1, hb1⟩ := h
      obtain ⟨a38, c38, rfl, rfl⟩ := T1.shape
      simp only [args_mk, base_mk, List.length_append, Hk.out.1, Hl2.out, Hb2.out] at T1 ⊢
      refine hK.out _ _ ⟨fun _ => ?_, ?_⟩
      · rw [hS5]; exact ⟨(X.below hb1).cell rfl, (X.below hb1).cell rfl⟩
      · have h := st3ft.out _ _ _ _ _ _ _ _ (B.trans (hb1.mono B.size)) (X.below hb1) (T34.bel hb1) (T36.bel hb1) (T1.weaken (fun q _ hq => Nat.ne_of_gt (Nat.lt_of_lt_of_le Z9.lt hq))) L9 (Z9.below hb1)
        simpa only [hact, Act.put, List.setIfInBounds_toArray, List.set_cons_zero, List.set_cons_succ] using h
    · refine wpOp_step (by rw [Hops.out]; rfl) (fun K hK => ?_)
      have hK := Lib.hid hK
      simp only [hact, Act.put, List.setIfInBounds_toArray, List.set_cons_zero, List.set_cons_succ]
      go_simp
      refine hK.out _ _ ⟨fun _ => ?_, ?_⟩
      · rw [hS5]; exact ⟨(X.alloc _).cell rfl, (X.alloc _).cell rfl⟩
      · have h := st2tt.out _ _ _ _ _ _ _ (B.alloc B.size _) (X.alloc _) ((T34.weaken (fun q hq hf => ⟨Nat.ne_of_lt hq, hf⟩)).bel ((Below.refl _ _).alloc (Nat.le_refl _) _)) ((T36.weaken (fun q hq hf => ⟨Nat.ne_of_lt hq, hf⟩)).bel ((Below.refl _ _).alloc (Nat.le_refl _) _)) B.size (Blk.new _ _ _ rfl) L9 (Z9.alloc _) (Nat.ne_of_gt Z9.lt)
        simpa only [hact, Act.put, List.setIfInBounds_toArray, List.set_cons_zero, List.set_cons_succ] using h
  have st2tf : Hid (∀ (a34 : Option Addr) (c34 : Nat) (a36 : Option Addr) (c36 : Nat) (p8 : Nat) (w' : World), Below w5.heap.size w5 w' → Blk w' w.heap.size #[.slice a l2 c, .int .i64 b2] 26 → IsTy (fun q => q ≠ p8) w' (.slice a34 k c34) (.int .i64 b2) (.mk m b2) → IsTy (fun q => q ≠ p8) w' (.slice a36 l2 c36) (.int .i64 b2) t → w5.heap.size ≤ p8 → Blk w' p8 #[.slice none 0 0, .int .i64 0] 40 → wpN Try.prog .any ops5 Q5 S5 4 #[true, true, true, true, true, true, true, false, true, false, false, false] (((a5.put (some 34) (.agg #[.slice a34 k c34, .int .i64 b2])).put (some 36) (.agg #[.slice a36 l2 c36, .int .i64 b2])).put (some 8) (.pointer (some ⟨p8, 0, none⟩))) w') := by
    intro a34 c34 a36 c36 p8 w' B X T34 T36 L8 Z8
    refine wpN_pick [7, 9] (by rw [Hops.out]; kernel_rfl) (by simp) (pick_two ?_ ?_)
    · refine wpOp_step (by rw [Hops.out]; rfl) (fun K hK => ?_)
      have hK := Lib.hid hK
      simp only [hact, Act.put, List.setIfInBounds_toArray, List.set_cons_zero, List.set_cons_succ]
      go_simp
      refine (arrow_k (T36.weaken (F' := fun _ => True) fun _ _ _ => trivial) (M5.out.keep ((Keep.refl _ _).below B)) Hms2.out).mono ?_
      intro e w1 h
      obtain ⟨_, _, rfl, T1, hb1⟩ := h
      obtain ⟨a38, c38, rfl, rfl⟩ := T1.shape
      simp only [args_mk, base_mk, List.length_append, Hk.out.1, Hl2.out, Hb2.out] at T1 ⊢
      refine hK.out _ _ ⟨fun _ => ?_, ?_⟩
      · rw [hS5]; exact ⟨(X.below hb1).cell rfl, (X.below hb1).cell rfl⟩
      · have h := st3tf.out _ _ _ _ _ _ _ _ (B.trans (hb1.mono B.size)) (X.below hb1) (T34.bel hb1) (T36.bel hb1) (T1.weaken (fun q _ hq => Nat.ne_of_gt (Nat.lt_of_lt_of_le Z8.lt hq))) L8 (Z8.below hb1)
        simpa only [hact, Act.put, List.setIfInBounds_toArray, List.set_cons_zero, List.set_cons_succ] using h
    · refine wpOp_step (by rw [Hops.out]; rfl) (fun K hK => ?_)
      have hK := Lib.hid hK
      simp only [hact, Act.put, List.setIfInBounds_toArray, List.set_cons_zero, List.set_cons_succ]
      go_simp
      refine hK.out _ _ ⟨fun _ => ?_, ?_⟩
      · rw [hS5]; exact ⟨(X.alloc _).cell rfl, (X.alloc _).cell rfl⟩
      · have h := st2tt.out _ _ _ _ _ _ _ (B.alloc B.size _) (X.alloc _) ((T34.weaken (fun q hq hf => ⟨hf, Nat.ne_of_lt hq⟩)).bel ((Below.refl _ _).alloc (Nat.le_refl _) _)) ((T36.weaken (fun q hq hf => ⟨hf, Nat.ne_of_lt hq⟩)).bel ((Below.refl _ _).alloc (Nat.le_refl _) _)) L8 (Z8.alloc _) B.size (Blk.new _ _ _ rfl) (Nat.ne_of_lt Z8.lt)
        simpa only [hact, Act.put, List.setIfInBounds_toArray, List.set_cons_zero, List.set_cons_succ] using h
  have st2ff : Hid (∀ (a34 : Option Addr) (c34 : Nat) (a36 : Option Addr) (c36 : Nat) (w' : World), Below w5.heap.size w5 w' → Blk w' w.heap.size #[.slice a l2 c, .int .i64 b2] 26 → IsTy (fun _ => True) w' (.slice a34 k c34) (.int .i64 b2) (.mk m b2) → IsTy (fun _ => True) w' (.slice a36 l2 c36) (.int .i64 b2) t → wpN Try.prog .any ops5 Q5 S5 5 #[true, true, true, true, true, true, true, false, false, false, false, false] ((a5.put (some 34) (.agg #[.slice a34 k c34, .int .i64 b2])).put (some 36) (.agg #[.slice a36 l2 c36, .int .i64 b2])) w') := by
    intro a34 c34 a36 c36 w' B X T34 T36
    refine wpN_pick [7, 8, 9] (by rw [Hops.out]; kernel_rfl) (by simp) (pick_three ?_ ?_ ?_)
    · refine wpOp_step (by rw [Hops.out]; rfl) (fun K hK => ?_)
      have hK := Lib.hid hK
      simp only [hact, Act.put, List.setIfInBounds_toArray, List.set_cons_zero, List.set_cons_succ]
      go_simp
      refine (arrow_k (T36.weaken (F' := fun _ => True) fun _ _ _ => trivial) (M5.out.keep ((Keep.refl _ _).below B)) Hms2.out).mono ?_
      intro e w1 h
      obtain ⟨_, _, rfl, T1, hb1⟩ := h
      obtain ⟨a38, c38, rfl, rfl⟩ := T1.shape
      simp only [args_mk, base_mk, List.length_append, Hk.out.1, Hl2.out, Hb2.out] at T1 ⊢
      refine hK.out _ _ ⟨fun _ => ?_, ?_⟩
      · rw [hS5]; exact ⟨(X.below hb1).cell rfl, (X.below hb1).cell rfl⟩
      · have h := st3ff.out _ _ _ _ _ _ _ (B.trans (hb1.mono B.size)) (X.below hb1) (T34.bel hb1) (T36.bel hb1) (T1.weaken (fun _ _ _ => trivial))
        simpa only [hact, Act.put, List.setIfInBounds_toArray, List.set_cons_zero, List.set_cons_succ] using h
    · refine wpOp_step (by rw [Hops.out]; rfl) (fun K hK => ?_)
      have hK := Lib.hid hK
      simp only [hact, Act.put, List.setIfInBounds_toArray, List.set_cons_zero, List.set_cons_succ]
      go_simp
      refine hK.out _ _ ⟨fun _ => ?_, ?_⟩
      · rw [hS5]; exact ⟨(X.alloc _).cell rfl, (X.alloc _).cell rfl⟩
      · have h := st2tf.out _ _ _ _ _ _ (B.alloc B.size _) (X.alloc _) ((T34.weaken (fun q hq _ => Nat.ne_of_lt hq)).bel ((Below.refl _ _).alloc (Nat.le_refl _) _)) ((T36.weaken (fun q hq _ => Nat.ne_of_lt hq)).bel ((Below.refl _ _).alloc (Nat.le_refl _) _)) B.size (Blk.new _ _ _ rfl)
        simpa only [hact, Act.put, List.setIfInBounds_toArray, List.set_cons_zero, List.set_cons_succ] using h
    · refine wpOp_step (by rw [Hops.out]; rfl) (fun K hK => ?_)
      have hK := Lib.hid hK
      simp only [hact, Act.put, List.setIfInBounds_toArray, List.set_cons_zero, List.set_cons_succ]
      go_simp
      refine hK.out _ _ ⟨fun _ => ?_, ?_⟩
      · rw [hS5]; exact ⟨(X.alloc _).cell rfl, (X.alloc _).cell rfl⟩
      · have h := st2ft.out _ _ _ _ _ _ (B.alloc B.size _) (X.alloc _) ((T34.weaken (fun q hq _ => Nat.ne_of_lt hq)).bel ((Below.refl _ _).alloc (Nat.le_refl _) _)) ((T36.weaken (fun q hq _ => Nat.ne_of_lt hq)).bel ((Below.refl _ _).alloc (Nat.le_refl _) _)) B.size (Blk.new _ _ _ rfl)
        simpa only [hact, Act.put, List.setIfInBounds_toArray, List.set_cons_zero, List.set_cons_succ] using h
  have st1tt : Hid (∀ (a34 : Option Addr) (c34 : Nat) (p8 : Nat) (p9 : Nat) (w' : World), Below w5.heap.size w5 w' → Blk w' w.heap.size #[.slice a l2 c, .int .i64 b2] 26 → IsTy (fun q => q ≠ p8 ∧ q ≠ p9) w' (.slice a34 k c34) (.int .i64 b2) (.mk m b2) → w5.heap.size ≤ p8 → Blk w' p8 #[.slice none 0 0, .int .i64 0] 40 → w5.heap.size ≤ p9 → Blk w' p9 #[.slice none 0 0, .int .i64 0] 40 → p8 ≠ p9 → wpN Try.prog .any ops5 Q5 S5 4 #[true, true, true, true, true, false, true, false, true, true, false, false] (((a5.put (some 34) (.agg #[.slice a34 k c34, .int .i64 b2])).put (some 8) (.pointer (some ⟨p8, 0, none⟩))).put (some 9) (.pointer (some ⟨p9, 0, none⟩))) w') := by
    intro a34 c34 p8 p9 w' B X T34 L8 Z8 L9 Z9 D
    refine wpN_pick [5] (by rw [Hops.out]; kernel_rfl) (by simp) (pick_one ?_)
    · refine wpOp_step (by rw [Hops.out]; rfl) (fun K hK => ?_)
      have hK := Lib.hid hK
      simp only [hact, Act.put, List.setIfInBounds_toArray, List.set_cons_zero, List.set_cons_succ]
      go_simp
      refine (to_any (H5.out.bel B) w' (by have := Hr.out; omega) (Keep.refl _ _)).mono ?_
      intro e w1 h
      obtain ⟨_, _, rfl, T1, hb1⟩ := h
      obtain ⟨a36, c36, rfl, rfl⟩ := T1.shape
      rw [Hl2.out, Hb2.out] at T1 ⊢
      refine hK.out _ _ ⟨fun _ => ?_, ?_⟩
      · rw [hS5]; exact ⟨(X.below hb1).cell rfl, (X.below hb1).cell rfl⟩
      · have h := st2tt.out _ _ _ _ _ _ _ (B.trans (hb1.mono B.size)) (X.below hb1) (T34.bel hb1) (T1.weaken (fun q _ hq => ⟨Nat.ne_of_gt (Nat.lt_of_lt_of_le Z8.lt hq), Nat.ne_of_gt (Nat.lt_of_lt_of_le Z9.lt hq)⟩)) L8 (Z8.below hb1) L9 (Z9.below hb1) D
        simpa only [hact, Act.put, List.setIfInBounds_toArray, List.set_cons_zero, List.set_cons_succ] using h
  have st1ft : Hid (∀ (a34 : Option Addr) (c34 : Nat) (p9 : Nat) (w' : World), Below w5.heap.size w5 w' → Blk w' w.heap.size #[.slice a l2 c, .int .i64 b2] 26 → IsTy (fun q => q ≠ p9) w' (.slice a34 k c34) (.int .i64 b2) (.mk m b2) → w5.heap.size ≤ p9 → Blk w' p9 #[.slice none 0 0, .int .i64 0] 40 → wpN Try.prog .any ops5 Q5 S5 5 #[true, true, true, true, true, false, true, false, false, true, false, false] ((a5.put (some 34) (.agg #[.slice a34 k c34, .int .i64 b2])).put (some 9) (.pointer (some ⟨p9, 0, none⟩))) w') := by
    intro a34 c34 p9 w' B X T34 L9 Z9
    refine wpN_pick [5, 8] (by rw [Hops.out]; kernel_rfl) (by simp) (pick_two ?_ ?_)
    · refine wpOp_step (by rw [Hops.out]; rfl) (fun K hK => ?_)
      have hK := Lib.hid hK
      simp only [hact, Act.put, List.setIfInBounds_toArray, List.set_cons_zero, List.set_cons_succ]
      go_simp
      refine (to_any (H5.out.bel B) w' (by have := Hr.out; omega) (Keep.refl _ _)).mono ?_
      intro e w1 h
      obtain ⟨_, _, rfl, T1, hb1⟩ := h
      obtain ⟨a36, c36, rfl, rfl⟩ := T1.shape
      rw [Hl2.out, Hb2.out] at T1 ⊢
      refine hK.out _ _ ⟨fun _ => ?_, ?_⟩
      · rw [hS5]; exact ⟨(X.below hb1).cell rfl, (X.below hb1).cell rfl⟩
      · have h := st2ft.out _ _ _ _ _ _ (B.trans (hb1.mono B.size)) (X.below hb1) (T34.bel hb1) (T1.weaken (fun q _ hq => Nat.ne_of_gt (Nat.lt_of_lt_of_le Z9.lt hq))) L9 (Z9.below hb1)
        simpa only [hact, Act.put, List.setIfInBounds_toArray, List.set_cons_zero, List.set_cons_succ] using h
    · refine wpOp_step (by rw [Hops.out]; rfl) (fun K hK => ?_)
      have hK := Lib.hid hK
      simp only [hact, Act.put, List.setIfInBounds_toArray, List.set_cons_zero, List.set_cons_succ]
      go_simp
      refine hK.out _ _ ⟨fun _ => ?_, ?_⟩
      · rw [hS5]; exact ⟨(X.alloc _).cell rfl, (X.alloc _).cell rfl⟩
      · have h := st1tt.out _ _ _ _ _ (B.alloc B.size _) (X.alloc _) ((T34.weaken (fun q hq hf => ⟨Nat.ne_of_lt hq, hf⟩)).bel ((Below.refl _ _).alloc (Nat.le_refl _) _)) B.size (Blk.new _ _ _ rfl) L9 (Z9.alloc _) (Nat.ne_of_gt Z9.lt)
        simpa only [hact, Act.put, List.setIfInBounds_toArray, List.set_cons_zero, List.set_cons_succ] using h
  have st1tf : Hid (∀ (a34 : Option Addr) (c34 : Nat) (p8 : Nat) (w' : World), Below w5.heap.size w5 w' → Blk w' w.heap.size #[.slice a l2 c, .int .i64 b2] 26 → IsTy (fun q => q ≠ p8) w' (.slice a34 k c34) (.int .i64 b2) (.mk m b2) → w5.heap.size ≤ p8 → Blk w' p8 #[.slice none 0 0, .int .i64 0] 40 → wpN Try.prog .any ops5 Q5 S5 5 #[true, true, true, true, true, false, true, false, true, false, false, false] ((a5.put (some 34) (.agg #[.slice a34 k c34, .int .i64 b2])).put (some 8) (.pointer (some ⟨p8, 0, none⟩))) w') := by
    intro a34 c34 p8 w' B X T34 L8 Z8
    refine wpN_pick [5, 9] (by rw [Hops.out]; kernel_rfl) (by simp) (pick_two ?_ ?_)
    · refine wpOp_step (by rw [Hops.out]; rfl) (fun K hK => ?_)
      have hK := Lib.hid hK
      simp only [hact, Act.put, List.setIfInBounds_toArray, List.set_cons_zero, List.set_cons_succ]
      go_simp
      refine (to_any (H5.out.bel B) w' (by have := Hr.out; omega) (Keep.refl _ _)).mono ?_
      intro e w1 h
      obtain ⟨_, _, rfl, T1, hb1⟩ := h
      obtain ⟨a36, c36, rfl, rfl⟩ := T1.shape
      rw [Hl2.out, Hb2.out] at T1 ⊢
      refine hK.out _ _ ⟨fun _ => ?_, ?_⟩
      · rw [hS5]; exact ⟨(X.below hb1).cell rfl, (X.below hb1).cell rfl⟩
      · have h := st2tf.out _ _ _ _ _ _ (B.trans (hb1.mono B.size)) (X.below hb1) (T34.bel hb1) (T1.weaken (fun q _ hq => Nat.ne_of_gt (Nat.lt_of_lt_of_le Z8.lt hq))) L8 (Z8.below hb1)
        simpa only [hact, Act.put, List.setIfInBounds_toArray, List.set_cons_zero, List.set_cons_succ] using h
    · refine wpOp_step (by rw [Hops.out]; rfl) (fun K hK => ?_)
      have hK := Lib.hid hK
      simp only [hact, Act.put, List.setIfInBounds_toArray, List.set_cons_zero, List.set_cons_succ]
      go_simp
      refine hK.out _ _ ⟨fun _ => ?_, ?_⟩
      · rw [hS5]; exact ⟨(X.alloc _).cell rfl, (X.alloc _).cell rfl⟩
      · have h := st1tt.out _ _ _ _ _ (B.alloc B.size _) (X.alloc _) ((T34.weaken (fun q hq hf => ⟨hf, Nat.ne_of_lt hq⟩)).bel ((Below.refl _ _).alloc (Nat.le_refl _) _)) L8 (Z8.alloc _) B.size (Blk.new _ _ _ rfl) (Nat.ne_of_lt Z8.lt)
        simpa only [hact, Act.put, List.setIfInBounds_toArray, List.set_cons_zero, List.set_cons_succ] using h
  have st1ff : Hid (∀ (a34 : Option Addr) (c34 : Nat) (w' : World), Below w5.heap.size w5 w' → Blk w' w.heap.size #[.slice a l2 c, .int .i64 b2] 26 → IsTy (fun _ => True) w' (.slice a34 k c34) (.int .i64 b2) (.mk m b2) → wpN Try.prog .any ops5 Q5 S5 6 #[true, true, true, true, true, false, true, false, false, false, false, false] (a5.put (some 34) (.agg #[.slice a34 k c34, .int .i64 b2])) w') := by
    intro a34 c34 w' B X T34
    refine wpN_pick [5, 8, 9] (by rw [Hops.out]; kernel_rfl) (by simp) (pick_three ?_ ?_ ?_)
    · refine wpOp_step (by rw [Hops.out]; rfl) (fun K hK => ?_)
      have hK := Lib.hid hK
      simp only [hact, Act.put, List.setIfInBounds_toArray, List.set_cons_zero, List.set_cons_succ]
      go_simp
      refine (to_any (H5.out.bel B) w' (by have := Hr.out; omega) (Keep.refl _ _)).mono ?_
      intro e w1 h
      obtain ⟨_, _, rfl, T1, hb1⟩ := h
      obtain ⟨a36, c36, rfl, rfl⟩ := T1.shape
      rw [Hl2.out, Hb2.out] at T1 ⊢
      refine hK.out _ _ ⟨fun _ => ?_, ?_⟩
      · rw [hS5]; exact ⟨(X.below hb1).cell rfl, (X.below hb1).cell rfl⟩
      · have h := st2ff.out _ _ _ _ _ (B.trans (hb1.mono B.size)) (X.below hb1) (T34.bel hb1) (T1.weaken (fun _ _ _ => trivial))
        simpa only [hact, Act.put, List.setIfInBounds_toArray, List.set_cons_zero, List.set_cons_succ] using h
    · refine wpOp_step (by rw [Hops.out]; rfl) (fun K hK => ?_)
      have hK := Lib.hid hK
      simp only [hact, Act.put, List.setIfInBounds_toArray, List.set_cons_zero, List.set_cons_succ]
      go_simp
      refine hK.out _ _ ⟨fun _ => ?_, ?_⟩
      · rw [hS5]; exact ⟨(X.alloc _).cell rfl, (X.alloc _).cell rfl⟩
      · have h := st1tf.out _ _ _ _ (B.alloc B.size _) (X.alloc _) ((T34.weaken (fun q hq _ => Nat.ne_of_lt hq)).bel ((Below.refl _ _).alloc (Nat.le_refl _) _)) B.size (Blk.new _ _ _ rfl)
        simpa only [hact, Act.put, List.setIfInBounds_toArray, List.set_cons_zero, List.set_cons_succ] using h
    · refine wpOp_step (by rw [Hops.out]; rfl) (fun K hK => ?_)
      have hK := Lib.hid hK
      simp only [hact, Act.put, List.setIfInBounds_toArray, List.set_cons_zero, List.set_cons_succ]
      go_simp
      refine hK.out _ _ ⟨fun _ => ?_, ?_⟩
      · rw [hS5]; exact ⟨(X.alloc _).cell rfl, (X.alloc _).cell rfl⟩
      · have h := st1ft.out _ _ _ _ (B.alloc B.size _) (X.alloc _) ((T34.weaken (fun q hq _ => Nat.ne_of_lt hq)).bel ((Below.refl _ _).alloc (Nat.le_refl _) _)) B.size (Blk.new _ _ _ rfl)
        simpa only [hact, Act.put, List.setIfInBounds_toArray, List.set_cons_zero, List.set_cons_succ] using h
  have st0tt : Hid (∀ (p8 : Nat) (p9 : Nat) (w' : World), Below w5.heap.size w5 w' → Blk w' w.heap.size #[.slice a l2 c, .int .i64 b2] 26 → w5.heap.size ≤ p8 → Blk w' p8 #[.slice none 0 0, .int .i64 0] 40 → w5.heap.size ≤ p9 → Blk w' p9 #[.slice none 0 0, .int .i64 0] 40 → p8 ≠ p9 → wpN Try.prog .any ops5 Q5 S5 5 #[true, true, true, false, true, false, true, false, true, true, false, false] ((a5.put (some 8) (.pointer (some ⟨p8, 0, none⟩))).put (some 9) (.pointer (some ⟨p9, 0, none⟩))) w') := by
    intro p8 p9 w' B X L8 Z8 L9 Z9 D
    refine wpN_pick [3] (by rw [Hops.out]; kernel_rfl) (by simp) (pick_one ?_)
    · refine wpOp_step (by rw [Hops.out]; rfl) (fun K hK => ?_)
      have hK := Lib.hid hK
      simp only [hact, Act.put, List.setIfInBounds_toArray, List.set_cons_zero, List.set_cons_succ]
      go_simp
      refine (of_k b2 (M5.out.keep ((Keep.refl _ _).below B)) Hms.out).mono ?_
      intro e w1 h
      obtain ⟨_, _, rfl, T1, hb1⟩ := h
      obtain ⟨a34, c34, rfl, rfl⟩ := T1.shape
      simp only [args_mk, base_mk, Hk.out.1] at T1 ⊢
      refine hK.out _ _ ⟨fun _ => ?_, ?_⟩
      · rw [hS5]; exact ⟨(X.below hb1).cell rfl, (X.below hb1).cell rfl⟩
      · have h := st1tt.out _ _ _ _ _ (B.trans (hb1.mono B.size)) (X.below hb1) (T1.weaken (fun q _ hq => ⟨Nat.ne_of_gt (Nat.lt_of_lt_of_le Z8.lt hq), Nat.ne_of_gt (Nat.lt_of_lt_of_le Z9.lt hq)⟩)) L8 (Z8.below hb1) L9 (Z9.below hb1) D
        simpa only [hact, Act.put, List.setIfInBounds_toArray, List.set_cons_zero, List.set_cons_succ] using h
  have st0ft : Hid (∀ (p9 : Nat) (w' : World), Below w5.heap.size w5 w' → Blk w' w.heap.size #[.slice a l2 c, .int .i64 b2] 26 → w5.heap.size ≤ p9 → Blk w' p9 #[.slice none 0 0, .int .i64 0] 40 → wpN Try.prog .any ops5 Q5 S5 6 #[true, true, true, false, true, false, true, false, false, true, false, false] (a5.put (some 9) (.pointer (some ⟨p9, 0, none⟩))) w') := by
    intro p9 w' B X L9 Z9
    refine wpN_pick [3, 8] (by rw [Hops.out]; kernel_rfl) (by simp) (pick_two ?_ ?_)
    · refine wpOp_step (by rw [Hops.out]; rfl) (fun K hK => ?_)
      have hK := Lib.hid hK
      simp only [hact, Act.put, List.setIfInBounds_toArray, List.set_cons_zero, List.set_cons_succ]
      go_simp
      refine (of_k b2 (M5.out.keep ((Keep.refl _ _).below B)) Hms.out).mono ?_
      intro e w1 h
      obtain ⟨_, _, rfl, T1, hb1⟩ := h
      obtain ⟨a34, c34, rfl, rfl⟩ := T1.shape
      simp only [args_mk, base_mk, Hk.out.1] at T1 ⊢
      refine hK.out _ _ ⟨fun _ => ?_, ?_⟩
      · rw [hS5]; exact ⟨(X.below hb1).cell rfl, (X.below hb1).cell rfl⟩
      · have h := st1ft.out _ _ _ _ (B.trans (hb1.mono B.size)) (X.below hb1) (T1.weaken (fun q _ hq => Nat.ne_of_gt (Nat.lt_of_lt_of_le Z9.lt hq))) L9 (Z9.below hb1)
        simpa only [hact, Act.put, List.setIfInBounds_toArray, List.set_cons_zero, List.set_cons_succ] using h
    · refine wpOp_step (by rw [Hops.out]; rfl) (fun K hK => ?_)
      have hK := Lib.hid hK
      simp only [hact, Act.put, List.setIfInBounds_toArray, List.set_cons_zero, List.set_cons_succ]
      go_simp
      refine hK.out _ _ ⟨fun _ => ?_, ?_⟩
      · rw [hS5]; exact ⟨(X.alloc _).cell rfl, (X.alloc _).cell rfl⟩
      · have h := st0tt.out _ _ _ (B.alloc B.size _) (X.alloc _) B.size (Blk.new _ _ _ rfl) L9 (Z9.alloc _) (Nat.ne_of_gt Z9.lt)
        simpa only [hact, Act.put, List.setIfInBounds_toArray, List.set_cons_zero, List.set_cons_succ] using h
  have st0tf : Hid (∀ (p8 : Nat) (w' : World), Below w5.heap.size w5 w' → Blk w' w.heap.size #[.slice a l2 c, .int .i64 b2] 26 → w5.heap.size ≤ p8 → Blk w' p8 #[.slice none 0 0, .int .i64 0] 40 → wpN Try.prog .any ops5 Q5 S5 6 #[true, true, true, false, true, false, true, false, true, false, false, false] (a5.put (some 8) (.pointer (some ⟨p8, 0, none⟩))) w') := by
    intro p8 w' B X L8 Z8
    refine wpN_pick [3, 9] (by rw [Hops.out]; kernel_rfl) (by simp) (pick_two ?_ ?_)
    · refine wpOp_step (by rw [Hops.out]; rfl) (fun K hK => ?_)
      have hK := Lib.hid hK
      simp only [hact, Act.put, List.setIfInBounds_toArray, List.set_cons_zero, List.set_cons_succ]
      go_simp
      refine (of_k b2 (M5.out.keep ((Keep.refl _ _).below B)) Hms.out).mono ?_
      intro e w1 h
      obtain ⟨_, _, rfl, T1, hb1⟩ := h
      obtain ⟨a34, c34, rfl, rfl⟩ := T1.shape
      simp only [args_mk, base_mk, Hk.out.1] at T1 ⊢
      refine hK.out _ _ ⟨fun _ => ?_, ?_⟩
      · rw [hS5]; exact ⟨(X.below hb1).cell rfl, (X.below hb1).cell rfl⟩
      · have h := st1tf.out _ _ _ _ (B.trans (hb1.mono B.size)) (X.below hb1) (T1.weaken (fun q _ hq => Nat.ne_of_gt (Nat.lt_of_lt_of_le Z8.lt hq))) L8 (Z8.below hb1)
        simpa only [hact, Act.put, List.setIfInBounds_toArray, List.set_cons_zero, List.set_cons_succ] using h
    · refine wpOp_step (by rw [Hops.out]; rfl) (fun K hK => ?_)
      have hK := Lib.hid hK
      simp only [hact, Act.put, List.setIfInBounds_toArray, List.set_cons_zero, List.set_cons_succ]
      go_simp
      refine hK.out _ _ ⟨fun _ => ?_, ?_⟩
      · rw [hS5]; exact ⟨(X.alloc _).cell rfl, (X.alloc _).cell rfl⟩
      · have h := st0tt.out _ _ _ (B.alloc B.size _) (X.alloc _) L8 (Z8.alloc _) B.size (Blk.new _ _ _ rfl) (Nat.ne_of_lt Z8.lt)
        simpa only [hact, Act.put, List.setIfInBounds_toArray, List.set_cons_zero, List.set_cons_succ] using h
  have st0ff : Hid (∀ (w' : World), Below w5.heap.size w5 w' → Blk w' w.heap.size #[.slice a l2 c, .int .i64 b2] 26 → wpN Try.prog .any ops5 Q5 S5 7 #[true, true, true, false, true, false, true, false, false, false, false, false] a5 w') := by
    intro w' B X
    refine wpN_pick [3, 8, 9] (by rw [Hops.out]; kernel_rfl) (by simp) (pick_three ?_ ?_ ?_)
    · refine wpOp_step (by rw [Hops.out]; rfl) (fun K hK => ?_)
      have hK := Lib.hid hK
      simp only [hact, Act.put, List.setIfInBounds_toArray, List.set_cons_zero, List.set_cons_succ]
      go_simp
      refine (of_k b2 (M5.out.keep ((Keep.refl _ _).below B)) Hms.out).mono ?_
      intro e w1 h
      obtain ⟨_, _, rfl, T1, hb1⟩ := h
      obtain ⟨a34, c34, rfl, rfl⟩ := T1.shape
      simp only [args_mk, base_mk, Hk.out.1] at T1 ⊢
      refine hK.out _ _ ⟨fun _ => ?_, ?_⟩
      · rw [hS5]; exact ⟨(X.below hb1).cell rfl, (X.below hb1).cell rfl⟩
      · have h := st1ff.out _ _ _ (B.trans (hb1.mono B.size)) (X.below hb1) (T1.weaken (fun _ _ _ => trivial))
        simpa only [hact, Act.put, List.setIfInBounds_toArray, List.set_cons_zero, List.set_cons_succ] using h
    · refine wpOp_step (by rw [Hops.out]; rfl) (fun K hK => ?_)
      have hK := Lib.hid hK
      simp only [hact, Act.put, List.setIfInBounds_toArray, List.set_cons_zero, List.set_cons_succ]
      go_simp
      refine hK.out _ _ ⟨fun _ => ?_, ?_⟩
      · rw [hS5]; exact ⟨(X.alloc _).cell rfl, (X.alloc _).cell rfl⟩
      · have h := st0tf.out _ _ (B.alloc B.size _) (X.alloc _) B.size (Blk.new _ _ _ rfl)
        simpa only [hact, Act.put, List.setIfInBounds_toArray, List.set_cons_zero, List.set_cons_succ] using h
    · refine wpOp_step (by rw [Hops.out]; rfl) (fun K hK => ?_)
      have hK := Lib.hid hK
      simp only [hact, Act.put, List.setIfInBounds_toArray, List.set_cons_zero, List.set_cons_succ]
      go_simp
      refine hK.out _ _ ⟨fun _ => ?_, ?_⟩
      · rw [hS5]; exact ⟨(X.alloc _).cell rfl, (X.alloc _).cell rfl⟩
      · have h := st0ft.out _ _ (B.alloc B.size _) (X.alloc _) B.size (Blk.new _ _ _ rfl)
        simpa only [hact, Act.put, List.setIfInBounds_toArray, List.set_cons_zero, List.set_cons_succ] using h
  exact st0ff.out _ (Below.refl _ _).drew x5.drew
end Go.Proofs.Ytejpgifofkiofaa
