/-
  kind.Right: whether a type may be, by a loop that is left early.
-/
import Derived.Test.YtejpgifofkiofaaEachUse
namespace Go.Proofs.Ytejpgifofkiofaa
open Go.RowKit Go.Shelf
attribute [local go_sem] Oper.semAt_some

/-- what each type within has to meet -/
def OkHit (bases : Int) (p : Nat × Ty) : Prop := p.1 ≤ 60 ∧ 0 ≤ p.2.base ∧ p.2.base < bases

theorem right_iff (t : Ty) (bases : Int) : (t.size ≤ 1000 ∧ ∀ p ∈ t.pre 1, OkHit bases p) ↔ (t.size ≤ 1000 ∧ t.depth ≤ 60 ∧ Ty.Low bases t) := by
  have hd := maxd_pre t 1
  constructor
  · rintro ⟨h1, h2⟩
    have := maxd_le (l := t.pre 1) (m := 60) fun p hp => (h2 p hp).1
    exact ⟨h1, by omega, low_of_pre t 1 fun p hp => (h2 p hp).2⟩
  · rintro ⟨h1, h2, h3⟩
    exact ⟨h1, fun p hp => ⟨by have := le_maxd hp; omega, mem_pre t 1 p hp h3⟩⟩

set_option maxRecDepth 100000 in
set_option maxHeartbeats 4000000 in
theorem right_k {F : Nat → Prop} {w : World} {s b : Value} {t : Ty} (ht : IsTy F w s b t) (bases : Int) (hsz : t.size ≤ 500000) :
    Calls Try.prog 32 #[.agg #[s, b], .int .i64 bases] w (RetB (t.size ≤ 1000 ∧ t.depth ≤ 60 ∧ Ty.Low bases t) w) := by
  refine (callsIn_wide (n := 9)).1 ?_
  obtain ⟨a, c, hs, hb⟩ := ht.shape
  have Ht := Lib.hid (ht.weaken (F' := fun _ => True) fun _ _ _ => trivial)
  have hshape : (∃ a m c, s = .slice a m c) ∧ ∃ i, b = .int .i64 i := ⟨⟨_, _, _, hs⟩, _, hb⟩
  subst hs hb
  clear ht
  obtain ⟨l2, hl2⟩ : ∃ l2, t.args.length = l2 := ⟨_, rfl⟩
  obtain ⟨b2, hb2⟩ : ∃ b2, t.base = b2 := ⟨_, rfl⟩
  rw [hl2, hb2] at Ht hshape ⊢
  clear hl2 hb2
  refine callsIn_of_wp_marks Try.func32 rfl trivial ?_ rfl
  simp only [Try.ntmps32, List.size_toArray, List.length_cons, List.length_nil, Nat.reduceAdd, Nat.reduceSub, Array.replicate_succ, Array.replicate_zero, List.push_toArray, List.append_toArray, List.nil_append, List.cons_append]
  gi_wp2_with fail
  refine ⟨trivial, (each_k _ _ _ _ hshape.1 hshape.2).mono ?_⟩
  rintro e w' ⟨rfl, rfl⟩
  gi_wp2_with fail
  obtain ⟨w5, hw5⟩ : ∃ w5, ((((w.alloc (.cells #[.slice a l2 c, .int .i64 b2] 40)).alloc (.cells #[.int .i64 bases] 3)).alloc (.cells #[.bool false] 4)).alloc (.cells #[.int .i64 0] 3)).alloc (.cells #[.slice a l2 c, .int .i64 b2] 40) = w5 := ⟨_, rfl⟩
  have hB0 : Below w.heap.size w w5 := by rw [← hw5]; exact (((((Below.refl _ w).alloc (Nat.le_refl _) _).alloc (by simp) _).alloc (by simp; omega) _).alloc (by simp; omega) _).alloc (by simp; omega) _
  have hz : w5.heap.size = w.heap.size + 5 := by rw [← hw5]; simp
  have x1 : Blk w5 (w.heap.size + 1) #[.int .i64 bases] 3 := by rw [← hw5]; exact (((Blk.new _ _ _ (by simp)).alloc _).alloc _).alloc _
  have x2 : Blk w5 (w.heap.size + 2) #[.bool false] 4 := by rw [← hw5]; exact ((Blk.new _ _ _ (by simp)).alloc _).alloc _
  have x3 : Blk w5 (w.heap.size + 3) #[.int .i64 0] 3 := by rw [← hw5]; exact (Blk.new _ _ _ (by simp)).alloc _
  have x4 : Blk w5 (w.heap.size + 4) #[.slice a l2 c, .int .i64 b2] 40 := by rw [← hw5]; exact Blk.new _ _ _ (by simp)
  rw [hw5]
  clear hw5
  have Hz := Lib.hid hz; clear hz
  have hge : w.heap.size + 5 ≤ w5.heap.size := by have := Hz.out; omega
  refine wpIn_rangeFunc_ownH rfl (by omega) (gf := 113) (lb := #[.pointer (some ⟨w.heap.size + 1 + 1 + 1 + 1, 0, none⟩)]) rfl trivial (enters_of Try.func113 (by kernel_rfl) rfl)
    (each_stops (But w.heap.size (w.heap.size + 4)) (fun k _ hk => .inl hk) Ht.out hsz (9 - 1) w5 (fun k hk => .inr (by omega)) ((Keep.refl _ _).below hB0) (w.heap.size + 1 + 1 + 1 + 1) x4)
    (fun h h' => h.trans h') (fun W l o o' _ hl ho _ => KeepC.putObj _ W l o o' hl ho) (Below.refl _ _) (fun _ => rfl)
    (fun pre W => (((Blk W (w.heap.size + 1) #[.int .i64 bases] 3 ∧ Blk W (w.heap.size + 2) #[.bool false] 4) ∧ Blk W (w.heap.size + 3) #[.int .i64 (pre.length : Int)] 3) ∧ Hid (pre.length ≤ 1000 ∧ ∀ x ∈ pre, OkHit bases x.key)) ∧ Below w.heap.size w5 W)
    (fun c pre W => ((c = .ret ∧ Hid (1000 < pre.length ∨ ∃ x ∈ pre, ¬ OkHit bases x.key)) ∧ Blk W (w.heap.size + 2) #[.bool false] 4) ∧ Below w.heap.size w5 W)
    (OwnFrom.and (Own.from (I := fun (pre : List (Hit (fun _ => True) w)) W => ((Blk W (w.heap.size + 1) #[.int .i64 bases] 3 ∧ Blk W (w.heap.size + 2) #[.bool false] 4) ∧ Blk W (w.heap.size + 3) #[.int .i64 (pre.length : Int)] 3) ∧ Hid (pre.length ≤ 1000 ∧ ∀ x ∈ pre, OkHit bases x.key)) (fun pre A B row hs hg hr => ⟨⟨⟨blk_kept hs.1.1.1 hg hr, blk_kept hs.1.1.2 hg hr⟩, blk_kept hs.1.2 hg hr⟩, hs.2⟩) _) (ownFrom_below hB0.size (by omega)))
    (fun c => OwnFrom.and (Own.from (I := fun (pre : List (Hit (fun _ => True) w)) W => (c = .ret ∧ Hid (1000 < pre.length ∨ ∃ x ∈ pre, ¬ OkHit bases x.key)) ∧ Blk W (w.heap.size + 2) #[.bool false] 4) (fun pre A B row hs hg hr => ⟨hs.1, blk_kept hs.2 hg hr⟩) _) (ownFrom_below hB0.size (by omega)))
    ⟨⟨⟨⟨x1, x2⟩, x3⟩, ⟨by simp, by simp⟩⟩, Below.refl _ _⟩
    (fun x a' W => ∃ Bx, w5.heap.size ≤ Bx ∧ Blk W Bx #[.slice x.a x.n x.c, .int .i64 x.b] 40 ∧ a' = { tmps := #[.agg #[.slice a l2 c, .int .i64 b2], .int .i64 bases, .pointer (some ⟨w.heap.size, 0, none⟩), .pointer (some ⟨w.heap.size + 1, 0, none⟩), .pointer (some ⟨w.heap.size + 1 + 1, 0, none⟩), .pointer (some ⟨w.heap.size + 1 + 1 + 1, 0, none⟩), .int .i64 x.d, .pointer (some ⟨Bx, 0, none⟩), .agg #[.slice a l2 c, .int .i64 b2], .func (.func 113) #[] #[.pointer (some ⟨w.heap.size + 1 + 1 + 1 + 1, 0, none⟩)], .int .i64 x.d, .agg #[.slice x.a x.n x.c, .int .i64 x.b], undef, undef, undef, undef, undef, undef, undef, undef, undef, undef, undef, undef, undef, undef, undef, undef, undef, undef, undef], defers := [] })
    (fun x a' => by
      rintro u A B row ⟨Bx, h1, h2, h3⟩ hg hr
      exact ⟨Bx, h1, blk_kept h2 hg (fun r e => (hr r e).2), h3⟩) ?assign ?body ?done ?stop
  case assign =>
    rintro l pre x W K ⟨⟨⟨⟨y1, y2⟩, y3⟩, hp⟩, hB⟩ hK
    have HK := Lib.hid hK; clear hK
    have Hp := hp
    simp only [Hit.enc] at *
    gi_wp2
    have ha := Below.alloc (Below.refl W.heap.size W) (Nat.le_refl _) (.cells #[.slice x.a x.n x.c, .int .i64 x.b] 40)
    exact HK.out _ _ ((KeepsOthers.alloc _ _).from _) ((KeepC.refl _ W).alloc _) ⟨⟨⟨⟨y1.alloc _, y2.alloc _⟩, y3.alloc _⟩, hp⟩, hB.alloc (Nat.le_trans hB0.size hB.size) _⟩ ⟨W.heap.size, hB.size, Blk.new _ _ _ rfl, rfl⟩
  case body =>
    rintro l pre x a' W hl ⟨r, hr⟩ ⟨⟨⟨⟨y1, y2⟩, y3⟩, hp⟩, hB⟩ ⟨Bx, hBx, bX, rfl⟩ hlt
    have c1 : W.cell? ⟨w.heap.size + 1, 0, none⟩ = some (.int .i64 bases) := y1.cell rfl
    have c2 : W.cell? ⟨w.heap.size + 2, 0, none⟩ = some (.bool false) := y2.cell rfl
    have f2 := y2.free 0
    have c3 : W.cell? ⟨w.heap.size + 3, 0, none⟩ = some (.int .i64 (pre.length : Int)) := y3.cell rfl
    have f3 := y3.free 0
    have cx : W.cell? ⟨Bx, 1, none⟩ = some (.int .i64 x.b) := bX.cell rfl
    have hxb : Hid (x.b = x.t.base) := by have h := x.ok.inv.1; exact (Value.int.inj h).2
    have hlt2 : (pre.length : Int) ≤ 1000000 := by omega
    have hBn : ¬ (Bx = w.heap.size + 3) := by omega
    have hNok : Hid ((¬ OkHit bases x.key) → (1000 < (pre ++ [x]).length ∨ ∃ y ∈ pre ++ [x], ¬ OkHit bases y.key)) := fun h => .inr ⟨x, by simp, h⟩
    have hbd : Hid (Below w.heap.size w5 ((W.setCell ⟨w.heap.size + 3, 0, none⟩ (.int .i64 ((pre.length : Int) + 1))).setCell ⟨w.heap.size + 2, 0, none⟩ (.bool false))) := (hB.setCell (by simp) _).setCell (by simp) _
    by_cases h1 : 60 < x.d
    · have h1' : (60 : Int) < (x.d : Int) := by omega
      gi_wp2
      exact ⟨((KeepsOthers.setCell W _ _).trans (KeepsOthers.setCell _ _ _)).from _, ⟨⟨rfl, hNok.out (fun h => by have := h.1; simp [Hit.key] at this; omega)⟩, (y2.far ⟨w.heap.size + 3, 0, none⟩ _ (by simp)).set 0 _⟩, hbd.out⟩
    by_cases h2 : (1000 : Int) < (pre.length : Int) + 1
    · gi_wp2
      exact ⟨((KeepsOthers.setCell W _ _).trans (KeepsOthers.setCell _ _ _)).from _, ⟨⟨rfl, .inl (by simp; omega)⟩, (y2.far ⟨w.heap.size + 3, 0, none⟩ _ (by simp)).set 0 _⟩, hbd.out⟩
    by_cases h3 : x.b < 0
    · gi_wp2
      exact ⟨((KeepsOthers.setCell W _ _).trans (KeepsOthers.setCell _ _ _)).from _, ⟨⟨rfl, hNok.out (fun h => by have := h.2.1; rw [Hit.key, ← hxb.out] at this; omega)⟩, (y2.far ⟨w.heap.size + 3, 0, none⟩ _ (by simp)).set 0 _⟩, hbd.out⟩
    by_cases h4 : bases ≤ x.b
    · gi_wp2
      exact ⟨((KeepsOthers.setCell W _ _).trans (KeepsOthers.setCell _ _ _)).from _, ⟨⟨rfl, hNok.out (fun h => by have := h.2.2; rw [Hit.key, ← hxb.out] at this; omega)⟩, (y2.far ⟨w.heap.size + 3, 0, none⟩ _ (by simp)).set 0 _⟩, hbd.out⟩
    gi_wp2
    refine ⟨(KeepsOthers.setCell W _ _).from _, (KeepC.refl _ W).setCell _ _ (by simp [But]; omega), ⟨⟨⟨y1.far _ _ (by simp), y2.far _ _ (by simp)⟩, ?_⟩, ⟨by simp; omega, fun y hy => ?_⟩⟩, hB.setCell (by simp; omega) _⟩
    · simpa using y3.set 0 (.int .i64 ((pre.length : Int) + 1))
    · rcases List.mem_append.1 hy with hy | hy
      · exact hp.out.2 y hy
      · simp at hy; subst hy
        exact ⟨by simp [Hit.key]; omega, by simp only [Hit.key]; rw [← hxb.out]; omega, by simp only [Hit.key]; rw [← hxb.out]; omega⟩
  case done =>
    rintro D ys W hD hys ⟨⟨⟨⟨y1, y2⟩, y3⟩, hp⟩, hB⟩ hK
    have c2 : W.cell? ⟨w.heap.size + 2, 0, none⟩ = some (.bool false) := y2.cell rfl
    have f2 := y2.free 0
    have Hys := Lib.hid hys; clear hys
    gi_wp2
    have hK' := (KeepsOthers.setCell W ⟨w.heap.size + 2, 0, none⟩ (.bool true)).same D _ hK rfl
    refine ⟨by simp, .inl ⟨_, _, rfl, run_takeDeferred hK', ?_⟩⟩
    have hc5 := cell_kept ((y2.set 0 (.bool true)).cell (i := 0) (v := .bool true) rfl) (grownBy_putObj' _ D (.deferred none)) (fun r e => by cases e; exact ⟨_, hK', rfl⟩)
    refine ⟨.bool true, ?_, ⟨true, ?_, rfl, ?_⟩⟩
    · simp [results, Try.f32, go_sem, hc5]
    · rw [← right_iff]
      simp
      have hl : ys.length = t.size := by rw [← Ty.pre_length t 1, ← Hys.out, List.length_map]
      refine ⟨by have := hp.out.1; omega, fun p1 p2 hp' => ?_⟩
      rw [← Hys.out] at hp'
      obtain ⟨y, hy, he⟩ := List.mem_map.1 hp'
      rw [← he]; exact hp.out.2 y hy
    · exact ((hB0.trans hB).setCell (p := ⟨w.heap.size + 2, 0, none⟩) (by simp) _).trans (belowK_b (w := w) (Nat.le_refl _) _ D _ _ (by omega) hK' rfl rfl)
  case stop =>
    rintro D c pre W hD hpre ⟨⟨⟨rfl, hbad⟩, y2⟩, hB⟩ hK
    gi_wp2
    refine ⟨by simp, .inl ⟨_, _, rfl, run_takeDeferred hK, ?_⟩⟩
    have hc5 := cell_kept (y2.cell (i := 0) (v := .bool false) rfl) (grownBy_putObj' _ D (.deferred none)) (fun r e => by cases e; exact ⟨_, hK, rfl⟩)
    refine ⟨.bool false, ?_, ⟨false, ?_, rfl, ?_⟩⟩
    · simp [results, Try.f32, go_sem, hc5]
    · rw [← right_iff]
      simp only [Bool.false_eq_true, false_iff, not_and]
      intro h1 h2
      rcases hbad.out with h | ⟨y, hy, h⟩
      · have := hpre.length_le
        rw [List.length_map, Ty.pre_length] at this; omega
      · exact h (h2 y.key (hpre.subset (List.mem_map.2 ⟨y, hy, rfl⟩)))
    · exact (hB0.trans hB).trans (belowK_b (w := w) (Nat.le_refl _) W D _ _ (by omega) hK rfl rfl)
end Go.Proofs.Ytejpgifofkiofaa
