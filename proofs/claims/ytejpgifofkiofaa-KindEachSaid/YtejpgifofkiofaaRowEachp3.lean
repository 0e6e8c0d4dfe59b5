/-
  kind.Size, kind.Depth, kind.Right: what the loops over all types within hand back. kind.Right: whether a type may be, by a loop that is left early. Loops over an iterator that writes cells of its own between two rounds.
-/
import Derived.Test.YtejpgifofkiofaaRowEachp2
import Derived.RangeFuncWrites
set_option linter.unusedVariables false
set_option linter.unusedSimpArgs false
namespace Go.Proofs.Ytejpgifofkiofaa
open Go.RowKit Go.Shelf
attribute [local go_sem] Oper.semAt_some

def But (a b : Nat) (k : Nat) (_ : TypeId) : Prop := k < a ∨ b ≤ k

theorem blk_kept {W W' : World} {row : Option Nat} {n : Nat} {cs : Array Value} {t : TypeId} (h : Blk W n cs t) (hg : W.grownBy W' row) (hrow : ∀ r, row = some r → ∃ o : Obj, W.heap[r]? = some o ∧ o.isCells = false) : Blk W' n cs t :=
  h.grown hg fun e => by
    obtain ⟨o, ho, hc⟩ := hrow _ e
    have h' : W.heap[n]? = _ := h
    rw [h'] at ho; cases ho; simp [Obj.isCells] at hc

set_option maxRecDepth 100000 in
set_option maxHeartbeats 2000000 in
theorem size_k {F : Nat → Prop} {w : World} {s b : Value} {t : Ty} (ht : IsTy F w s b t) (hsz : t.size ≤ 500000) : Calls Try.prog 34 #[.agg #[s, b]] w (RetI t.size w) := by
  refine (callsIn_wide (n := 9)).1 ?_
  obtain ⟨a, c, hs, hb⟩ := ht.shape
  have Ht := Lib.hid (ht.weaken (F' := fun _ => True) fun _ _ _ => trivial)
  have hshape : (∃ a m c, s = .slice a m c) ∧ ∃ i, b = .int .i64 i := ⟨⟨_, _, _, hs⟩, _, hb⟩
  subst hs hb
  clear ht
  obtain ⟨l2, hl2⟩ : ∃ l2, t.args.length = l2 := ⟨_, rfl⟩
  obtain ⟨b2, hb2⟩ : ∃ b2, t.base = b2 := ⟨_, rfl⟩
  rw [hl2, hb2] at Ht hshape ⊢
  clear hl2 hb2
  refine callsIn_of_wp_marks Try.func34 rfl trivial ?_ rfl
  simp only [Try.ntmps34, List.size_toArray, List.length_cons, List.length_nil, Nat.reduceAdd, Nat.reduceSub, Array.replicate_succ, Array.replicate_zero, List.push_toArray, List.append_toArray, List.nil_append, List.cons_append]
  gi_wp2_with fail
  refine ⟨trivial, (each_k _ _ _ _ hshape.1 hshape.2).mono ?_⟩
  rintro e w' ⟨rfl, rfl⟩
  gi_wp2_with fail
  have hsz' := Lib.hid hsz
  have hB0 : Below w.heap.size w (((w.alloc (.cells #[.slice a l2 c, .int .i64 b2] 40)).alloc (.cells #[.int .i64 0] 3)).alloc (.cells #[.slice a l2 c, .int .i64 b2] 40)) := (((Below.refl _ w).alloc (Nat.le_refl _) _).alloc (by simp) _).alloc (by simp; omega) _
  refine wpIn_rangeFunc_ownF rfl (by omega) (gf := 113) (lb := #[.pointer (some ⟨w.heap.size + 1 + 1, 0, none⟩)]) rfl trivial (enters_of Try.func113 (by kernel_rfl) rfl)
    (each_stops (But w.heap.size (w.heap.size + 2)) (fun k _ _ hk => .inl hk) Ht.out hsz (9 - 1) _ (fun k _ hk _ => .inr (by simp at hk; omega)) ((Keep.refl _ _).below hB0) (w.heap.size + 1 + 1) (Blk.new _ _ _ (by simp)))
    (fun h h' => h.trans h') (fun W l o o' _ hl ho _ => KeepC.putObj _ W l o o' hl ho) (Below.refl _ _) (fun _ => rfl)
    (fun pre W => Blk W (w.heap.size + 1) #[.int .i64 (pre.length : Int)] 3 ∧ Below w.heap.size w W)
    (fun _ _ _ => False)
    (OwnFrom.and (Own.from (I := fun (pre : List (Hit (fun _ => True) w)) W => Blk W (w.heap.size + 1) #[.int .i64 (pre.length : Int)] 3) (fun pre A B row hs hg hr => blk_kept hs hg hr) _) (ownFrom_below (Nat.le_refl _) (by simp; omega)))
    (fun _ _ _ _ _ hs _ _ => hs)
    ⟨(Blk.new _ _ _ (by simp)).alloc _, hB0⟩
    (fun x => { tmps := #[.agg #[.slice a l2 c, .int .i64 b2], .pointer (some ⟨w.heap.size, 0, none⟩), .int .i64 0, .pointer (some ⟨w.heap.size + 1, 0, none⟩), .agg #[.slice a l2 c, .int .i64 b2], .func (.func 113) #[] #[.pointer (some ⟨w.heap.size + 1 + 1, 0, none⟩)], .int .i64 x.d, .agg #[.slice x.a x.n x.c, .int .i64 x.b], undef, undef, undef], defers := [] }) ?assign ?body ?done ?stop
  case assign =>
    intro l x W K hK
    simp only [Hit.enc]
    gi_wp2
    first | exact hK | simpa using hK
  case body =>
    rintro l pre x W ⟨hn, hB⟩ hlt
    have c0 : W.cell? ⟨w.heap.size + 1, 0, none⟩ = some (.int .i64 (pre.length : Int)) := hn.cell rfl
    have f0 := hn.free 0
    have hlt2 : (pre.length : Int) ≤ 1000000 := by omega
    gi_wp2
    refine ⟨KeepsOthers.setCell _ _ _, (KeepC.refl _ W).setCell _ _ (by simp [But]), ?_, hB.setCell (p := ⟨w.heap.size + 1, 0, none⟩) (by simp) _⟩
    have := hn.set 0 (.int .i64 ((pre.length : Int) + 1))
    simpa using this
  case done =>
    rintro D ys W hD hys ⟨hn, hB⟩ hK
    have c0 : W.cell? ⟨w.heap.size + 1, 0, none⟩ = some (.int .i64 (ys.length : Int)) := hn.cell rfl
    have hl : ys.length = t.size := by rw [← Ty.pre_length t 1, ← hys, List.length_map]
    have Hl := Lib.hid hl
    clear hys hl
    gi_wp2
    refine ⟨by simp, .inl ⟨_, _, rfl, run_takeDeferred hK, ?_⟩⟩
    exact ⟨_, results_tmp rfl _ _ _, by rw [Hl.out]; rfl, hB.trans (belowK_b (w := w) (Nat.le_refl _) W D _ _ (by simp at hD; omega) hK rfl rfl)⟩
  case stop =>
    rintro D c pre W _ _ h _
    exact h.elim

def maxd : List (Nat × Ty) → Nat := List.foldl (fun n x => max n x.1) 0
theorem maxd_snoc (l : List (Nat × Ty)) (x : Nat × Ty) : maxd (l ++ [x]) = max (maxd l) x.1 := by simp [maxd]
theorem foldl_max (l : List (Nat × Ty)) (n : Nat) : l.foldl (fun n x => max n x.1) n = max n (maxd l) := by
  induction l generalizing n with
  | nil => simp [maxd]
  | cons x l ih => simp only [maxd, List.foldl_cons]; rw [ih, ih]; omega
theorem maxd_append (l r : List (Nat × Ty)) : maxd (l ++ r) = max (maxd l) (maxd r) := by
  simp only [maxd, List.foldl_append]; rw [foldl_max]; rfl
theorem maxd_cons (x : Nat × Ty) (l : List (Nat × Ty)) : maxd (x :: l) = max x.1 (maxd l) := by
  have := maxd_append [x] l; simpa [maxd] using this
theorem maxd_pre (t : Ty) : ∀ d, maxd (t.pre d) + 1 = d + t.depth := by
  induction t using Ty.ind with
  | h args base ih =>
    intro d
    have : ∀ l : List Ty, (∀ t ∈ l, ∀ d, maxd (t.pre d) + 1 = d + t.depth) → ∀ d, max (maxd (Ty.pres l (d + 1)) + 1) (d + 1) = d + 1 + Ty.depths l := by
      intro l
      induction l with
      | nil => intro _ d; simp [Ty.pres, maxd, Ty.depths]
      | cons t l ih2 =>
        intro h d
        have h1 := h t (by simp) (d + 1)
        have h2 := ih2 (fun t ht => h t (by simp [ht])) d
        simp only [Ty.pres, maxd_append, Ty.depths]; omega
    have h1 := this args ih d
    simp only [Ty.pre, maxd_cons, Ty.depth]; omega

theorem maxd_le {l : List (Nat × Ty)} {m : Nat} (h : ∀ p ∈ l, p.1 ≤ m) : maxd l ≤ m := by
  induction l with
  | nil => simp [maxd]
  | cons x l ih => rw [maxd_cons]; have := h x (by simp); have := ih (fun p hp => h p (by simp [hp])); omega
theorem le_maxd {l : List (Nat × Ty)} {p : Nat × Ty} (h : p ∈ l) : p.1 ≤ maxd l := by
  induction l with
  | nil => cases h
  | cons x l ih =>
    rw [maxd_cons]
    rcases List.mem_cons.1 h with rfl | h
    · omega
    · have := ih h; omega
theorem mem_pre (t : Ty) : ∀ d p, p ∈ t.pre d → ∀ {bases : Int}, Ty.Low bases t → 0 ≤ p.2.base ∧ p.2.base < bases := by
  induction t using Ty.ind with
  | h args base ih =>
    intro d p hp bases hl
    rw [Ty.low_iff] at hl
    simp only [Ty.pre] at hp
    rcases List.mem_cons.1 hp with rfl | hp
    · exact ⟨hl.1, hl.2.1⟩
    · have : ∀ l : List Ty, (∀ t ∈ l, t ∈ args) → p ∈ Ty.pres l (d + 1) → 0 ≤ p.2.base ∧ p.2.base < bases := by
        intro l
        induction l with
        | nil => intro _ h; simp [Ty.pres] at h
        | cons t l ih2 =>
          intro hs h
          simp only [Ty.pres] at h
          rcases List.mem_append.1 h with h | h
          · exact ih t (hs t (by simp)) _ _ h (hl.2.2 t (hs t (by simp)))
          · exact ih2 (fun t ht => hs t (by simp [ht])) h
      exact this args (fun _ h => h) hp
theorem low_of_pre (t : Ty) {bases : Int} : ∀ d, (∀ p ∈ t.pre d, 0 ≤ p.2.base ∧ p.2.base < bases) → Ty.Low bases t := by
  induction t using Ty.ind with
  | h args base ih =>
    intro d h
    have h0 := h (d, .mk args base) (by simp [Ty.pre])
    refine .mk _ _ h0.1 h0.2 fun t ht => ih t ht (d + 1) fun p hp => h p ?_
    have : ∀ l : List Ty, t ∈ l → p ∈ Ty.pres l (d + 1) := by
      intro l
      induction l with
      | nil => intro h; cases h
      | cons u l ih2 =>
        intro h
        simp only [Ty.pres]
        rcases List.mem_cons.1 h with rfl | h
        · exact List.mem_append_left _ hp
        · exact List.mem_append_right _ (ih2 h)
    simp only [Ty.pre]
    exact List.mem_cons_of_mem _ (this args ht)

set_option maxRecDepth 100000 in
set_option maxHeartbeats 2000000 in
theorem depth_k {F : Nat → Prop} {w : World} {s b : Value} {t : Ty} (ht : IsTy F w s b t) (hsz : t.size ≤ 500000) : Calls Try.prog 38 #[.agg #[s, b]] w (RetI t.depth w) := by
  refine (callsIn_wide (n := 9)).1 ?_
  obtain ⟨a, c, hs, hb⟩ := ht.shape
  have Ht := Lib.hid (ht.weaken (F' := fun _ => True) fun _ _ _ => trivial)
  have hshape : (∃ a m c, s = .slice a m c) ∧ ∃ i, b = .int .i64 i := ⟨⟨_, _, _, hs⟩, _, hb⟩
  subst hs hb
  clear ht
  obtain ⟨l2, hl2⟩ : ∃ l2, t.args.length = l2 := ⟨_, rfl⟩
  obtain ⟨b2, hb2⟩ : ∃ b2, t.base = b2 := ⟨_, rfl⟩
  rw [hl2, hb2] at Ht hshape ⊢
  clear hl2 hb2
  refine callsIn_of_wp_marks Try.func38 rfl trivial ?_ rfl
  simp only [Try.ntmps38, List.size_toArray, List.length_cons, List.length_nil, Nat.reduceAdd, Nat.reduceSub, Array.replicate_succ, Array.replicate_zero, List.push_toArray, List.append_toArray, List.nil_append, List.cons_append]
  gi_wp2_with fail
  refine ⟨trivial, (each_k _ _ _ _ hshape.1 hshape.2).mono ?_⟩
  rintro e w' ⟨rfl, rfl⟩
  gi_wp2_with fail
  have hB0 : Below w.heap.size w (((w.alloc (.cells #[.slice a l2 c, .int .i64 b2] 40)).alloc (.cells #[.int .i64 0] 3)).alloc (.cells #[.slice a l2 c, .int .i64 b2] 40)) := (((Below.refl _ w).alloc (Nat.le_refl _) _).alloc (by simp) _).alloc (by simp; omega) _
  refine wpIn_rangeFunc_ownF rfl (by omega) (gf := 113) (lb := #[.pointer (some ⟨w.heap.size + 1 + 1, 0, none⟩)]) rfl trivial (enters_of Try.func113 (by kernel_rfl) rfl)
    (each_stops (But w.heap.size (w.heap.size + 2)) (fun k _ _ hk => .inl hk) Ht.out hsz (9 - 1) _ (fun k _ hk _ => .inr (by simp at hk; omega)) ((Keep.refl _ _).below hB0) (w.heap.size + 1 + 1) (Blk.new _ _ _ (by simp)))
    (fun h h' => h.trans h') (fun W l o o' _ hl ho _ => KeepC.putObj _ W l o o' hl ho) (Below.refl _ _) (fun _ => rfl)
    (fun pre W => Blk W (w.heap.size + 1) #[.int .i64 (maxd (pre.map Hit.key) : Int)] 3 ∧ Below w.heap.size w W)
    (fun _ _ _ => False)
    (OwnFrom.and (Own.from (I := fun (pre : List (Hit (fun _ => True) w)) W => Blk W (w.heap.size + 1) #[.int .i64 (maxd (pre.map Hit.key) : Int)] 3) (fun pre A B row hs hg hr => blk_kept hs hg hr) _) (ownFrom_below (Nat.le_refl _) (by simp; omega)))
    (fun _ _ _ _ _ hs _ _ => hs)
    ⟨(Blk.new _ _ _ (by simp)).alloc _, hB0⟩
    (fun x => { tmps := #[.agg #[.slice a l2 c, .int .i64 b2], .pointer (some ⟨w.heap.size, 0, none⟩), .int .i64 0, .pointer (some ⟨w.heap.size + 1, 0, none⟩), .int .i64 x.d, .agg #[.slice a l2 c, .int .i64 b2], .func (.func 113) #[] #[.pointer (some ⟨w.heap.size + 1 + 1, 0, none⟩)], .int .i64 x.d, .agg #[.slice x.a x.n x.c, .int .i64 x.b], undef, undef, undef, undef], defers := [] }) ?assign ?body ?done ?stop
  case assign =>
    intro l x W K hK
    simp only [Hit.enc]
    gi_wp2
    first | exact hK | simpa using hK
  case body =>
    rintro l pre x W ⟨hn, hB⟩ hlt
    have c0 : W.cell? ⟨w.heap.size + 1, 0, none⟩ = some (.int .i64 (maxd (pre.map Hit.key) : Int)) := hn.cell rfl
    have f0 := hn.free 0
    have e : Hid (maxd ((pre ++ [x]).map Hit.key) = max (maxd (pre.map Hit.key)) x.d) := by show _ = _; simp [maxd_snoc, Hit.key]
    gi_wp2
    all_goals
      refine ⟨KeepsOthers.setCell _ _ _, (KeepC.refl _ W).setCell _ _ (by simp [But]), ?_, hB.setCell (p := ⟨w.heap.size + 1, 0, none⟩) (by simp) _⟩
      first
      | (rw [e.out, show max (maxd (pre.map Hit.key)) x.d = x.d from by omega]; simpa using hn.set 0 (.int .i64 x.d))
      | (rw [e.out, show max (maxd (pre.map Hit.key)) x.d = maxd (pre.map Hit.key) from by omega]; simpa using hn.set 0 (.int .i64 (maxd (pre.map Hit.key))))
  case done =>
    rintro D ys W hD hys ⟨hn, hB⟩ hK
    have c0 : W.cell? ⟨w.heap.size + 1, 0, none⟩ = some (.int .i64 (maxd (ys.map Hit.key) : Int)) := hn.cell rfl
    have hl : maxd (ys.map Hit.key) = t.depth := by rw [hys]; have := maxd_pre t 1; omega
    have Hl := Lib.hid hl
    clear hys hl
    gi_wp2
    refine ⟨by simp, .inl ⟨_, _, rfl, run_takeDeferred hK, ?_⟩⟩
    exact ⟨_, results_tmp rfl _ _ _, by rw [Hl.out]; rfl, hB.trans (belowK_b (w := w) (Nat.le_refl _) W D _ _ (by simp at hD; omega) hK rfl rfl)⟩
  case stop =>
    rintro D c pre W _ _ h _
    exact h.elim
end Go.Proofs.Ytejpgifofkiofaa

namespace Go.Proofs.Ytejpgifofkiofaa
open Go.RowKit Go.Shelf
attribute [local go_sem] Oper.semAt_some

def OkHit (bases : Int) (p : Nat × Ty) : Prop := p.1 ≤ 60 ∧ 0 ≤ p.2.base ∧ p.2.base < bases

theorem right_iff (t : Ty) (bases : Int) : (t.size ≤ 1000 ∧ ∀ p ∈ t.pre 1, OkHit bases p) ↔ (t.size ≤ 1000 ∧ t.depth ≤ 60 ∧ Ty.Low bases t) := by
  have hd := maxd_pre t 1
  constructor
  · rintro ⟨h1, h2⟩
    have := maxd_le (l := t.pre 1) (m := 60) fun p hp => (h2 p hp).1
    exact ⟨h1, by omega, low_of_pre t 1 fun p hp => (h2 p hp).2⟩
  · rintro ⟨h1, h2, h3⟩
    exact ⟨h1, fun p hp => ⟨by have := le_maxd hp; omega, mem_pre t 1 p hp h3⟩⟩

set_option maxRecDepth 100000 in
set_option maxHeartbeats 4000000 in
theorem right_k {F : Nat → Prop} {w : World} {s b : Value} {t : Ty} (ht : IsTy F w s b t) (bases : Int) (hsz : t.size ≤ 500000) :
    Calls Try.prog 32 #[.agg #[s, b], .int .i64 bases] w (RetB (t.size ≤ 1000 ∧ t.depth ≤ 60 ∧ Ty.Low bases t) w) := by
  refine (callsIn_wide (n := 9)).1 ?_
  obtain ⟨a, c, hs, hb⟩ := ht.shape
  have Ht := Lib.hid (ht.weaken (F' := fun _ => True) fun _ _ _ => trivial)
  have hshape : (∃ a m c, s = .slice a m c) ∧ ∃ i, b = .int .i64 i := ⟨⟨_, _, _, hs⟩, _, hb⟩
  subst hs hb
  clear ht
  obtain ⟨l2, hl2⟩ : ∃ l2, t.args.length = l2 := ⟨_, rfl⟩
  obtain ⟨b2, hb2⟩ : ∃ b2, t.base = b2 := ⟨_, rfl⟩
  rw [hl2, hb2] at Ht hshape ⊢
  clear hl2 hb2
  refine callsIn_of_wp_marks Try.func32 rfl trivial ?_ rfl
  simp only [Try.ntmps32, List.size_toArray, List.length_cons, List.length_nil, Nat.reduceAdd, Nat.reduceSub, Array.replicate_succ, Array.replicate_zero, List.push_toArray, List.append_toArray, List.nil_append, List.cons_append]
  gi_wp2_with fail
  refine ⟨trivial, (each_k _ _ _ _ hshape.1 hshape.2).mono ?_⟩
  rintro e w' ⟨rfl, rfl⟩
  gi_wp2_with fail
  obtain ⟨w5, hw5⟩ : ∃ w5, ((((w.alloc (.cells #[.slice a l2 c, .int .i64 b2] 40)).alloc (.cells #[.int .i64 bases] 3)).alloc (.cells #[.bool false] 4)).alloc (.cells #[.int .i64 0] 3)).alloc (.cells #[.slice a l2 c, .int .i64 b2] 40) = w5 := ⟨_, rfl⟩
  have hB0 : Below w.heap.size w w5 := by rw [← hw5]; exact (((((Below.refl _ w).alloc (Nat.le_refl _) _).alloc (by simp) _).alloc (by simp; omega) _).alloc (by simp; omega) _).alloc (by simp; omega) _
  have hz : w5.heap.size = w.heap.size + 5 := by rw [← hw5]; simp
  have x1 : Blk w5 (w.heap.size + 1) #[.int .i64 bases] 3 := by rw [← hw5]; exact (((Blk.new _ _ _ (by simp)).alloc _).alloc _).alloc _
  have x2 : Blk w5 (w.heap.size + 2) #[.bool false] 4 := by rw [← hw5]; exact ((Blk.new _ _ _ (by simp)).alloc _).alloc _
  have x3 : Blk w5 (w.heap.size + 3) #[.int .i64 0] 3 := by rw [← hw5]; exact (Blk.new _ _ _ (by simp)).alloc _
  have x4 : Blk w5 (w.heap.size + 4) #[.slice a l2 c, .int .i64 b2] 40 := by rw [← hw5]; exact Blk.new _ _ _ (by simp)
  rw [hw5]
  clear hw5
  have Hz := Lib.hid hz; clear hz
  have hge : w.heap.size + 5 ≤ w5.heap.size := by have := Hz.out; omega
  refine wpIn_rangeFunc_ownH rfl (by omega) (gf := 113) (lb := #[.pointer (some ⟨w.heap.size + 1 + 1 + 1 + 1, 0, none⟩)]) rfl trivial (enters_of Try.func113 (by kernel_rfl) rfl)
    (each_stops (But w.heap.size (w.heap.size + 4)) (fun k _ _ hk => .inl hk) Ht.out hsz (9 - 1) w5 (fun k _ hk _ => .inr (by omega)) ((Keep.refl _ _).below hB0) (w.heap.size + 1 + 1 + 1 + 1) x4)
    (fun h h' => h.trans h') (fun W l o o' _ hl ho _ => KeepC.putObj _ W l o o' hl ho) (Below.refl _ _) (fun _ => rfl)
    (fun pre W => (((Blk W (w.heap.size + 1) #[.int .i64 bases] 3 ∧ Blk W (w.heap.size + 2) #[.bool false] 4) ∧ Blk W (w.heap.size + 3) #[.int .i64 (pre.length : Int)] 3) ∧ Hid (pre.length ≤ 1000 ∧ ∀ x ∈ pre, OkHit bases x.key)) ∧ Below w.heap.size w5 W)
    (fun c pre W => ((c = .ret ∧ Hid (1000 < pre.length ∨ ∃ x ∈ pre, ¬ OkHit bases x.key)) ∧ Blk W (w.heap.size + 2) #[.bool false] 4) ∧ Below w.heap.size w5 W)
    (OwnFrom.and (Own.from (I := fun (pre : List (Hit (fun _ => True) w)) W => ((Blk W (w.heap.size + 1) #[.int .i64 bases] 3 ∧ Blk W (w.heap.size + 2) #[.bool false] 4) ∧ Blk W (w.heap.size + 3) #[.int .i64 (pre.length : Int)] 3) ∧ Hid (pre.length ≤ 1000 ∧ ∀ x ∈ pre, OkHit bases x.key)) (fun pre A B row hs hg hr => ⟨⟨⟨blk_kept hs.1.1.1 hg hr, blk_kept hs.1.1.2 hg hr⟩, blk_kept hs.1.2 hg hr⟩, hs.2⟩) _) (ownFrom_below hB0.size (by omega)))
    (fun c => OwnFrom.and (Own.from (I := fun (pre : List (Hit (fun _ => True) w)) W => (c = .ret ∧ Hid (1000 < pre.length ∨ ∃ x ∈ pre, ¬ OkHit bases x.key)) ∧ Blk W (w.heap.size + 2) #[.bool false] 4) (fun pre A B row hs hg hr => ⟨hs.1, blk_kept hs.2 hg hr⟩) _) (ownFrom_below hB0.size (by omega)))
    ⟨⟨⟨⟨x1, x2⟩, x3⟩, ⟨by simp, by simp⟩⟩, Below.refl _ _⟩
    (fun x a' W => ∃ Bx, w5.heap.size ≤ Bx ∧ Blk W Bx #[.slice x.a x.n x.c, .int .i64 x.b] 40 ∧ a' = { tmps := #[.agg #[.slice a l2 c, .int .i64 b2], .int .i64 bases, .pointer (some ⟨w.heap.size, 0, none⟩), .pointer (some ⟨w.heap.size + 1, 0, none⟩), .pointer (some ⟨w.heap.size + 1 + 1, 0, none⟩), .pointer (some ⟨w.heap.size + 1 + 1 + 1, 0, none⟩), .int .i64 x.d, .pointer (some ⟨Bx, 0, none⟩), .agg #[.slice a l2 c, .int .i64 b2], .func (.func 113) #[] #[.pointer (some ⟨w.heap.size + 1 + 1 + 1 + 1, 0, none⟩)], .int .i64 x.d, .agg #[.slice x.a x.n x.c, .int .i64 x.b], undef, undef, undef, undef, undef, undef, undef, undef, undef, undef, undef, undef, undef, undef, undef, undef, undef, undef, undef], defers := [] })
    (fun x a' => by
      rintro u A B row ⟨Bx, h1, h2, h3⟩ hg hr
      exact ⟨Bx, h1, blk_kept h2 hg (fun r e => (hr r e).2), h3⟩) ?assign ?body ?done ?stop
  case assign =>
    rintro l pre x W K ⟨⟨⟨⟨y1, y2⟩, y3⟩, hp⟩, hB⟩ hK
    have HK := Lib.hid hK; clear hK
    have Hp := hp
    simp only [Hit.enc] at *
    gi_wp2
    have ha := Below.alloc (Below.refl W.heap.size W) (Nat.le_refl _) (.cells #[.slice x.a x.n x.c, .int .i64 x.b] 40)
    exact HK.out _ _ ((KeepsOthers.alloc _ _).from _) ((KeepC.refl _ W).alloc _) ⟨⟨⟨⟨y1.alloc _, y2.alloc _⟩, y3.alloc _⟩, hp⟩, hB.alloc (Nat.le_trans hB0.size hB.size) _⟩ ⟨W.heap.size, hB.size, Blk.new _ _ _ rfl, rfl⟩
  case body =>
    rintro l pre x a' W hl ⟨r, hr⟩ ⟨⟨⟨⟨y1, y2⟩, y3⟩, hp⟩, hB⟩ ⟨Bx, hBx, bX, rfl⟩ hlt
    have c1 : W.cell? ⟨w.heap.size + 1, 0, none⟩ = some (.int .i64 bases) := y1.cell rfl
    have c2 : W.cell? ⟨w.heap.size + 2, 0, none⟩ = some (.bool false) := y2.cell rfl
    have f2 := y2.free 0
    have c3 : W.cell? ⟨w.heap.size + 3, 0, none⟩ = some (.int .i64 (pre.length : Int)) := y3.cell rfl
    have f3 := y3.free 0
    have cx : W.cell? ⟨Bx, 1, none⟩ = some (.int .i64 x.b) := bX.cell rfl
    have hxb : Hid (x.b = x.t.base) := by have h := x.ok.inv.1; exact (Value.int.inj h).2
    have hlt2 : (pre.length : Int) ≤ 1000000 := by omega
    have hBn : ¬ (Bx = w.heap.size + 3) := by omega
    have hNok : Hid ((¬ OkHit bases x.key) → (1000 < (pre ++ [x]).length ∨ ∃ y ∈ pre ++ [x], ¬ OkHit bases y.key)) := fun h => .inr ⟨x, by simp, h⟩
    have hbd : Hid (Below w.heap.size w5 ((W.setCell ⟨w.heap.size + 3, 0, none⟩ (.int .i64 ((pre.length : Int) + 1))).setCell ⟨w.heap.size + 2, 0, none⟩ (.bool false))) := (hB.setCell (by simp) _).setCell (by simp) _
    by_cases h1 : 60 < x.d
    · have h1' : (60 : Int) < (x.d : Int) := by omega
      gi_wp2
      exact ⟨((KeepsOthers.setCell W _ _).trans (KeepsOthers.setCell _ _ _)).from _, ⟨⟨rfl, hNok.out (fun h => by have := h.1; simp [Hit.key] at this; omega)⟩, (y2.far ⟨w.heap.size + 3, 0, none⟩ _ (by simp)).set 0 _⟩, hbd.out⟩
    by_cases h2 : (1000 : Int) < (pre.length : Int) + 1
    · gi_wp2
      exact ⟨((KeepsOthers.setCell W _ _).trans (KeepsOthers.setCell _ _ _)).from _, ⟨⟨rfl, .inl (by simp; omega)⟩, (y2.far ⟨w.heap.size + 3, 0, none⟩ _ (by simp)).set 0 _⟩, hbd.out⟩
    by_cases h3 : x.b < 0
    · gi_wp2
      exact ⟨((KeepsOthers.setCell W _ _).trans (KeepsOthers.setCell _ _ _)).from _, ⟨⟨rfl, hNok.out (fun h => by have := h.2.1; rw [Hit.key, ← hxb.out] at this; omega)⟩, (y2.far ⟨w.heap.size + 3, 0, none⟩ _ (by simp)).set 0 _⟩, hbd.out⟩
    by_cases h4 : bases ≤ x.b
    · gi_wp2
      exact ⟨((KeepsOthers.setCell W _ _).trans (KeepsOthers.setCell _ _ _)).from _, ⟨⟨rfl, hNok.out (fun h => by have := h.2.2; rw [Hit.key, ← hxb.out] at this; omega)⟩, (y2.far ⟨w.heap.size + 3, 0, none⟩ _ (by simp)).set 0 _⟩, hbd.out⟩
    gi_wp2
    refine ⟨(KeepsOthers.setCell W _ _).from _, (KeepC.refl _ W).setCell _ _ (by simp [But]; omega), ⟨⟨⟨y1.far _ _ (by simp), y2.far _ _ (by simp)⟩, ?_⟩, ⟨by simp; omega, fun y hy => ?_⟩⟩, hB.setCell (by simp; omega) _⟩
    · simpa using y3.set 0 (.int .i64 ((pre.length : Int) + 1))
    · rcases List.mem_append.1 hy with hy | hy
      · exact hp.out.2 y hy
      · simp at hy; subst hy
        exact ⟨by simp [Hit.key]; omega, by simp only [Hit.key]; rw [← hxb.out]; omega, by simp only [Hit.key]; rw [← hxb.out]; omega⟩
  case done =>
    rintro D ys W hD hys ⟨⟨⟨⟨y1, y2⟩, y3⟩, hp⟩, hB⟩ hK
    have c2 : W.cell? ⟨w.heap.size + 2, 0, none⟩ = some (.bool false) := y2.cell rfl
    have f2 := y2.free 0
    have Hys := Lib.hid hys; clear hys
    gi_wp2
    have hK' := (KeepsOthers.setCell W ⟨w.heap.size + 2, 0, none⟩ (.bool true)).same D _ hK rfl
    refine ⟨by simp, .inl ⟨_, _, rfl, run_takeDeferred hK', ?_⟩⟩
    have hc5 := cell_kept ((y2.set 0 (.bool true)).cell (i := 0) (v := .bool true) rfl) (grownBy_putObj' _ D (.deferred none)) (fun r e => by cases e; exact ⟨_, hK', rfl⟩)
    refine ⟨.bool true, ?_, ⟨true, ?_, rfl, ?_⟩⟩
    · simp [results, Try.f32, go_sem, hc5]
    · rw [← right_iff]
      simp
      have hl : ys.length = t.size := by rw [← Ty.pre_length t 1, ← Hys.out, List.length_map]
      refine ⟨by have := hp.out.1; omega, fun p1 p2 hp' => ?_⟩
      rw [← Hys.out] at hp'
      obtain ⟨y, hy, he⟩ := List.mem_map.1 hp'
      rw [← he]; exact hp.out.2 y hy
    · exact ((hB0.trans hB).setCell (p := ⟨w.heap.size + 2, 0, none⟩) (by simp) _).trans (belowK_b (w := w) (Nat.le_refl _) _ D _ _ (by omega) hK' rfl rfl)
  case stop =>
    rintro D c pre W hD hpre ⟨⟨⟨rfl, hbad⟩, y2⟩, hB⟩ hK
    gi_wp2
    refine ⟨by simp, .inl ⟨_, _, rfl, run_takeDeferred hK, ?_⟩⟩
    have hc5 := cell_kept (y2.cell (i := 0) (v := .bool false) rfl) (grownBy_putObj' _ D (.deferred none)) (fun r e => by cases e; exact ⟨_, hK, rfl⟩)
    refine ⟨.bool false, ?_, ⟨false, ?_, rfl, ?_⟩⟩
    · simp [results, Try.f32, go_sem, hc5]
    · rw [← right_iff]
      simp only [Bool.false_eq_true, false_iff, not_and]
      intro h1 h2
      rcases hbad.out with h | ⟨y, hy, h⟩
      · have := hpre.length_le
        rw [List.length_map, Ty.pre_length] at this; omega
      · exact h (h2 y.key (hpre.subset (List.mem_map.2 ⟨y, hy, rfl⟩)))
    · exact (hB0.trans hB).trans (belowK_b (w := w) (Nat.le_refl _) W D _ _ (by omega) hK rfl rfl)
end Go.Proofs.Ytejpgifofkiofaa

namespace Go.Proofs.Ytejpgifofkiofaa
open Go.RowKit

def Mild {β : Type} (Ok : Obj → Prop) (B : Nat) (J : β → World → Prop) : Prop :=
  ∀ s W W' row, J s W → W.grownBy W' row → (∀ r, row = some r → B ≤ r ∧ ∃ o : Obj, W.heap[r]? = some o ∧ Ok o) → J s W'
section
variable {β : Type} {Ok : Obj → Prop} {B : Nat} {I I' : β → World → Prop}
theorem Mild.and (h : Mild Ok B I) (h' : Mild Ok B I') : Mild Ok B (fun s W => I s W ∧ I' s W) := fun s W W' row hs hg hr => ⟨h s W W' row hs.1 hg hr, h' s W W' row hs.2 hg hr⟩
theorem Mild.alloc (h : Mild Ok B I) {s : β} {W : World} (hs : I s W) (o : Obj) : I s (W.alloc o) := h s W _ none hs (World.grownBy_alloc W o none) (fun r e => by cases e)
theorem Mild.put (h : Mild Ok B I) (hOk : ∀ o : Obj, o.isCells = false → Ok o) {s : β} {W : World} (hs : I s W) {l : Nat} {o : Obj} (o' : Obj) (hl : W.heap[l]? = some o) (ho : o.isCells = false) (hB : B ≤ l) : I s (W.putObj l o') :=
  h s W _ _ hs (grownBy_putObj' W l o') (fun r e => by cases e; exact ⟨hB, o, hl, hOk o ho⟩)
theorem Mild.up {B' : Nat} (h : Mild Ok B I) (hB : B ≤ B') : Mild Ok B' I := fun s W W' row hs hg hr => h s W W' row hs hg fun r e => ⟨Nat.le_trans hB (hr r e).1, (hr r e).2⟩
theorem mild_block {k : Nat} {o : Obj} (hk : k < B) : Mild Ok B (fun (_ : β) W => W.heap[k]? = some o) := fun _ W _ row hs hg hr => (hg.block k (Array.getElem?_eq_some_iff.1 hs).1 (fun e => by have := (hr k e.symm).1; omega)).trans hs
theorem mild_below {n0 : Nat} {w0 : World} (hn : n0 ≤ w0.heap.size) (hB : n0 ≤ B) : Mild Ok B (fun (_ : β) W => Below n0 w0 W) := fun _ _ _ _ hs hg hr => hs.grown hg (Nat.le_trans hn hs.size) (fun k e => Nat.le_trans hB (hr k e).1)
end

def SeqSoft {α : Type} (Ok : Obj → Prop) (F : Fence) (n : Nat) (P : Program) (g : Nat) (lb : Array Value) (encs : α → Array Value) (Kp : World → World → Prop) (S Sp : List α → Prop) (N : Nat) (w : World) : Prop :=
  ∀ (l : Nat) (J Jx : List α → World → Prop) (W : World), Below w.heap.size w W → Mild Ok W.heap.size J → Mild Ok W.heap.size Jx →
    (∀ pre x V, J pre V → pre.length < N → YieldAt F (n - 1) P l (encs x) V fun e V' => (e = .returned (.bool true) ∧ J (pre ++ [x]) V' ∧ Kp V V') ∨ (e = .returned (.bool false) ∧ Jx (pre ++ [x]) V')) →
    J [] W → CallsIn F n P g (#[.func (.yield l) #[] #[]] ++ lb) W fun e W' => (∃ v, e = .returned v) ∧ ((∃ xs, S xs ∧ J xs W') ∨ (∃ pre, Sp pre ∧ Jx pre W'))

theorem range_soft {Ok : Obj → Prop} (hOk : ∀ o : Obj, o.isCells = false → Ok o) {F : Fence} {n : Nat} {P : Program} {α : Type} {g : Operand} {ps : Array Tmp} {assign body : Code} {Q : Exit → Act → World → Prop} {a : Act} {w : World}
    (hro : F.round = none) (hn : 1 ≤ n) {gf : Nat} {lb : Array Value} (hg : a.eval g = .func (.func gf) #[] lb) (hF : F.fn gf) (eg : ∀ args w, (callFunc gf args).run P w = .ok (.enter gf args) w)
    {encs : α → Array Value} {Kp : World → World → Prop} {S Sp : List α → Prop} {N : Nat} {w0 : World} (hseq : SeqSoft Ok F (n - 1) P gf lb encs Kp S Sp N w0)
    (hKt : ∀ {X Y Z : World}, Kp X Y → Kp Y Z → Kp X Z) (hKb : ∀ (W : World) (l : Nat) (o o' : Obj), w.heap.size ≤ l → W.heap[l]? = some o → o.isCells = false → o.isWalk = false → Kp W (W.putObj l o')) (hw0 : Below w0.heap.size w0 w) (hps : ∀ x, (encs x).size = ps.size)
    (I : List α → World → Prop) (Ix : Code → List α → World → Prop) (hI : Mild Ok w.heap.size I) (hIx : ∀ c, Mild Ok w.heap.size (Ix c)) (h0 : I [] w) (act : α → Act)
    (hassign : ∀ (l : Nat) (x : α) (W : World) (K : Act → World → Prop), K (act x) W →
      assign.wpIn (F.inRound l) (n - 1 - 1) P (Exit.then K (fun _ _ _ => False)) { tmps := (ps.zip (encs x)).foldl (fun t (p, v) => t.setIfInBounds p v) a.tmps, defers := [] } W)
    (hbody : ∀ (l : Nat) (pre : List α) (x : α) (W : World), I pre W → pre.length < N → body.wpIn (F.inRound l) (n - 1 - 1) P (ownPostG w.heap.size Kp I Ix (pre ++ [x]) W) (act x) W)
    (hdone : ∀ (D : Nat) (xs : List α) (W : World), w.heap.size ≤ D → S xs → I xs W → W.heap[D]? = some (.deferred (some [])) → Q .normal { a with defers := { target := .collected D, args := #[] } :: a.defers } W)
    (hstop : ∀ (D : Nat) (c : Code) (pre : List α) (W : World), w.heap.size ≤ D → Sp pre → Ix c pre W → W.heap[D]? = some (.deferred (some [])) → c.wpIn F n P Q { a with defers := { target := .collected D, args := #[] } :: a.defers } W) :
    (Code.rangeFunc g ps assign body).wpIn F n P Q a w := by
  refine wpIn_rangeFunc fun fn hfn => ?_
  rw [hro]
  let L : LoopState → Option Code → Obj := fun st pe => .loop { state := st, pending := pe, fn, tmps := a.tmps, params := ps, assign, body, defers := w.heap.size }
  let D : Obj := .deferred (some [])
  obtain ⟨W1, hW1⟩ : ∃ W1, (w.alloc D).alloc (L .ready none) = W1 := ⟨_, rfl⟩
  have hz : W1.heap.size = w.heap.size + 2 := by rw [← hW1]; simp
  have hL : W1.heap[w.heap.size + 1]? = some (L .ready none) := by rw [← hW1]; have h := World.alloc_heap_new (w.alloc D) (L .ready none); rwa [World.size_alloc] at h
  have hD : W1.heap[w.heap.size]? = some D := by rw [← hW1]; exact (Below.heap_alloc _ _ _ (by simp)).trans (World.alloc_heap_new w D)
  refine ⟨w.heap.size + 1, [{ target := .collected w.heap.size, args := #[] }], W1, { target := .fn (.func gf) lb, args := #[.func (.yield (w.heap.size + 1)) #[] #[]] }, W1, gf,
    #[.func (.yield (w.heap.size + 1)) #[] #[]] ++ lb, W1, by rw [← hW1]; exact run_enterLoop_outer _ _ _ _ _, by simp only [resolve, hg]; simp [go_sem], ?_, by simp [invoke, go_sem, eg], fun _ => hn, ?_⟩
  · intro f' hf'; simp [Target.leads] at hf'; subst hf'; exact hF
  have up : ∀ {β : Type} {J : β → World → Prop}, Mild Ok w.heap.size J → Mild Ok W1.heap.size J := fun h => h.up (by omega)
  have m1 : ∀ (o : Obj), Mild Ok W1.heap.size (fun (_ : List α) W => W.heap[w.heap.size + 1]? = some o) := fun o => mild_block (by omega)
  have m0 : Mild Ok W1.heap.size (fun (_ : List α) W => W.heap[w.heap.size]? = some D) := mild_block (by omega)
  refine (hseq (w.heap.size + 1)
    (fun pre W => I pre W ∧ W.heap[w.heap.size + 1]? = some (L .ready none) ∧ W.heap[w.heap.size]? = some D)
    (fun pre W => ∃ c, Ix c pre W ∧ W.heap[w.heap.size + 1]? = some (L .done (some c)) ∧ W.heap[w.heap.size]? = some D) W1
    (by rw [← hW1]; exact hw0.trans ((((Below.refl _ w).alloc (Nat.le_refl _) _).alloc (by simp) _).mono hw0.size))
    ((up hI).and ((m1 _).and m0)) (fun s A B row ⟨c, h1, h2, h3⟩ hgr hr => ⟨c, up (hIx c) s A B row h1 hgr hr, m1 _ s A B row h2 hgr hr, m0 s A B row h3 hgr hr⟩)
    ?_ ⟨by rw [← hW1]; exact hI.alloc (hI.alloc h0 _) _, hL, hD⟩).mono ?_
  · -- a round
    rintro pre x V ⟨hi, hl, hd⟩ hlen
    have hlt : w.heap.size + 1 < V.heap.size := (Array.getElem?_eq_some_iff.1 hl).1
    refine ⟨fn, _, assign, body, run_yield (P := P) (args := encs x) hl (hps x), roundIn_of_wpIn hfn (hassign _ x V _ ⟨_, run_beginRound hl rfl, ?_⟩)⟩
    obtain ⟨V2, hV2⟩ : ∃ V2, V.putObj (w.heap.size + 1) (L .busy none) = V2 := ⟨_, rfl⟩
    have hl2 : V2.heap[w.heap.size + 1]? = some (L .busy none) := by rw [← hV2]; exact World.putObj_heap_same hlt
    have hd2 : V2.heap[w.heap.size]? = some D := by rw [← hV2]; exact (World.putObj_heap_other (by omega)).trans hd
    have hk2 : Kp V V2 := by rw [← hV2]; exact hKb _ _ _ _ (by omega) hl rfl rfl
    have hi2 : I pre V2 := by rw [← hV2]; exact hI.put hOk hi _ hl rfl (by omega)
    show Code.wpIn _ _ _ _ _ _ (V.putObj (w.heap.size + 1) (L .busy none))
    rw [hV2]
    clear hV2 hl hd hi hlt
    refine wpIn_mono (hbody _ pre x V2 hi2 hlen) ?_
    have fin : ∀ (jump : Option Code) (V3 : World), KeepsFrom w.heap.size V2 V3 → V3.heap[w.heap.size + 1]? = some (L .busy none) ∧ ∃ V4, V4 = V3.putObj (w.heap.size + 1) (L (if jump.isNone then .ready else .done) jump) ∧
        (Instr.endRound (w.heap.size + 1) jump).run P V3 = .ok (.bool jump.isNone) V4 ∧ V4.heap[w.heap.size + 1]? = some (L (if jump.isNone then .ready else .done) jump) ∧ V4.heap[w.heap.size]? = some D := fun jump V3 hk => by
      have h1 := hk.same _ _ (by omega) hl2 rfl
      exact ⟨h1, _, rfl, run_endRound (P := P) jump h1, World.putObj_heap_same (Array.getElem?_eq_some_iff.1 h1).1, (World.putObj_heap_other (by omega)).trans (hk.same _ _ (Nat.le_refl _) hd2 rfl)⟩
    have out : ∀ (c : Code) (V3 : World), KeepsFrom w.heap.size V2 V3 → Ix c (pre ++ [x]) V3 → ∃ r V4, (Instr.endRound (w.heap.size + 1) (some c)).run P V3 = .ok r V4 ∧ (Ending.returned r = .returned (.bool false) ∧ ∃ c, Ix c (pre ++ [x]) V4 ∧ V4.heap[w.heap.size + 1]? = some (L .done (some c)) ∧ V4.heap[w.heap.size]? = some D) := fun c V3 hk hi => by
      obtain ⟨h3, V4, rfl, hr, h4, h5⟩ := fin (some c) V3 hk
      exact ⟨_, _, hr, rfl, c, (hIx c).put hOk hi _ h3 rfl (by omega), h4, h5⟩
    rintro e a3 V3 hp
    cases e with
    | normal =>
      obtain ⟨hk, hkp, hi⟩ := hp
      obtain ⟨h3, V4, rfl, hr, h4, h5⟩ := fin none V3 hk
      exact ⟨_, _, hr, .inl ⟨rfl, ⟨hI.put hOk hi _ h3 rfl (by omega), h4, h5⟩, hKt (hKt hk2 hkp) (hKb _ _ _ _ (by omega) h3 rfl rfl)⟩⟩
    | ret => obtain ⟨r, V4, hr, h⟩ := out .ret V3 hp.1 hp.2; exact ⟨r, V4, hr, .inr h⟩
    | exit id => obtain ⟨r, V4, hr, h⟩ := out (.exit id) V3 hp.1 hp.2; exact ⟨r, V4, hr, .inr h⟩
    | goto t => obtain ⟨r, V4, hr, h⟩ := out (.goto t) V3 hp.1 hp.2; exact ⟨r, V4, hr, .inr h⟩
    | panic ch => exact hp.elim
    | outgrown => exact hp.elim
  · -- behind the iterator
    rintro e W2 ⟨⟨v, rfl⟩, ⟨xs, hS, hi, hl, hd⟩ | ⟨pre, hSp, c, hi, hl, hd⟩⟩
    · exact ⟨none, _, run_endLoop (P := P) hl (by simp), hdone _ xs _ (Nat.le_refl _) hS (hI.put hOk hi _ hl rfl (by omega)) ((World.putObj_heap_other (by omega)).trans hd)⟩
    · exact ⟨some c, _, run_endLoop (P := P) hl (by simp), hstop _ c pre _ (Nat.le_refl _) hSp ((hIx c).put hOk hi _ hl rfl (by omega)) ((World.putObj_heap_other (by omega)).trans hd)⟩
theorem range_softA {Ok : Obj → Prop} (hOk : ∀ o : Obj, o.isCells = false → Ok o) {F : Fence} {n : Nat} {P : Program} {α : Type} {g : Operand} {ps : Array Tmp} {assign body : Code} {Q : Exit → Act → World → Prop} {a : Act} {w : World}
    (hro : F.round = none) (hn : 1 ≤ n) {gf : Nat} {lb : Array Value} (hg : a.eval g = .func (.func gf) #[] lb) (hF : F.fn gf) (eg : ∀ args w, (callFunc gf args).run P w = .ok (.enter gf args) w)
    {encs : α → Array Value} {Kp : World → World → Prop} {S Sp : List α → Prop} {N : Nat} {w0 : World} (hseq : SeqSoft Ok F (n - 1) P gf lb encs Kp S Sp N w0)
    (hKt : ∀ {X Y Z : World}, Kp X Y → Kp Y Z → Kp X Z) (hKb : ∀ (W : World) (l : Nat) (o o' : Obj), w.heap.size ≤ l → W.heap[l]? = some o → o.isCells = false → o.isWalk = false → Kp W (W.putObj l o')) (hw0 : Below w0.heap.size w0 w) (hps : ∀ x, (encs x).size = ps.size)
    (I : List α → World → Prop) (Ix : Code → List α → World → Prop) (hI : Mild Ok w.heap.size I) (hIx : ∀ c, Mild Ok w.heap.size (Ix c)) (h0 : I [] w) (Ra : α → Act → World → Prop) (hRa : ∀ x a' W l (o o' : Obj), w.heap.size ≤ l → W.heap[l]? = some o → o.isCells = false → Ra x a' W → Ra x a' (W.putObj l o'))
    (hassign : ∀ (l : Nat) (pre : List α) (x : α) (W : World) (K : Act → World → Prop), I pre W → (∀ a' W', KeepsFrom w.heap.size W W' → Kp W W' → I pre W' → Ra x a' W' → K a' W') →
      assign.wpIn (F.inRound l) (n - 1 - 1) P (Exit.then K (fun _ _ _ => False)) { tmps := (ps.zip (encs x)).foldl (fun t (p, v) => t.setIfInBounds p v) a.tmps, defers := [] } W)
    (hbody : ∀ (l : Nat) (pre : List α) (x : α) (a' : Act) (W : World), I pre W → pre.length < N → Ra x a' W → body.wpIn (F.inRound l) (n - 1 - 1) P (ownPostG w.heap.size Kp I Ix (pre ++ [x]) W) a' W)
    (hdone : ∀ (D : Nat) (xs : List α) (W : World), w.heap.size ≤ D → S xs → I xs W → W.heap[D]? = some (.deferred (some [])) → Q .normal { a with defers := { target := .collected D, args := #[] } :: a.defers } W)
    (hstop : ∀ (D : Nat) (c : Code) (pre : List α) (W : World), w.heap.size ≤ D → Sp pre → Ix c pre W → W.heap[D]? = some (.deferred (some [])) → c.wpIn F n P Q { a with defers := { target := .collected D, args := #[] } :: a.defers } W) :
    (Code.rangeFunc g ps assign body).wpIn F n P Q a w := by
  refine wpIn_rangeFunc fun fn hfn => ?_
  rw [hro]
  let L : LoopState → Option Code → Obj := fun st pe => .loop { state := st, pending := pe, fn, tmps := a.tmps, params := ps, assign, body, defers := w.heap.size }
  let D : Obj := .deferred (some [])
  obtain ⟨W1, hW1⟩ : ∃ W1, (w.alloc D).alloc (L .ready none) = W1 := ⟨_, rfl⟩
  have hz : W1.heap.size = w.heap.size + 2 := by rw [← hW1]; simp
  have hL : W1.heap[w.heap.size + 1]? = some (L .ready none) := by rw [← hW1]; have h := World.alloc_heap_new (w.alloc D) (L .ready none); rwa [World.size_alloc] at h
  have hD : W1.heap[w.heap.size]? = some D := by rw [← hW1]; exact (Below.heap_alloc _ _ _ (by simp)).trans (World.alloc_heap_new w D)
  refine ⟨w.heap.size + 1, [{ target := .collected w.heap.size, args := #[] }], W1, { target := .fn (.func gf) lb, args := #[.func (.yield (w.heap.size + 1)) #[] #[]] }, W1, gf,
    #[.func (.yield (w.heap.size + 1)) #[] #[]] ++ lb, W1, by rw [← hW1]; exact run_enterLoop_outer _ _ _ _ _, by simp only [resolve, hg]; simp [go_sem], ?_, by simp [invoke, go_sem, eg], fun _ => hn, ?_⟩
  · intro f' hf'; simp [Target.leads] at hf'; subst hf'; exact hF
  have up : ∀ {β : Type} {J : β → World → Prop}, Mild Ok w.heap.size J → Mild Ok W1.heap.size J := fun h => h.up (by omega)
  have m1 : ∀ (o : Obj), Mild Ok W1.heap.size (fun (_ : List α) W => W.heap[w.heap.size + 1]? = some o) := fun o => mild_block (by omega)
  have m0 : Mild Ok W1.heap.size (fun (_ : List α) W => W.heap[w.heap.size]? = some D) := mild_block (by omega)
  refine (hseq (w.heap.size + 1)
    (fun pre W => I pre W ∧ W.heap[w.heap.size + 1]? = some (L .ready none) ∧ W.heap[w.heap.size]? = some D)
    (fun pre W => ∃ c, Ix c pre W ∧ W.heap[w.heap.size + 1]? = some (L .done (some c)) ∧ W.heap[w.heap.size]? = some D) W1
    (by rw [← hW1]; exact hw0.trans ((((Below.refl _ w).alloc (Nat.le_refl _) _).alloc (by simp) _).mono hw0.size))
    ((up hI).and ((m1 _).and m0)) (fun s A B row ⟨c, h1, h2, h3⟩ hgr hr => ⟨c, up (hIx c) s A B row h1 hgr hr, m1 _ s A B row h2 hgr hr, m0 s A B row h3 hgr hr⟩)
    ?_ ⟨by rw [← hW1]; exact hI.alloc (hI.alloc h0 _) _, hL, hD⟩).mono ?_
  · -- a round
    rintro pre x V0 ⟨hi0, hl0, hd0⟩ hlen
    refine ⟨fn, _, assign, body, run_yield (P := P) (args := encs x) hl0 (hps x), roundIn_of_wpIn hfn (hassign _ pre x V0 _ hi0 fun a' V hkf hkp0 hi hra => ?_)⟩
    have hl := hkf.same _ _ (by omega) hl0 rfl
    have hd := hkf.same _ _ (Nat.le_refl _) hd0 rfl
    have hlt : w.heap.size + 1 < V.heap.size := (Array.getElem?_eq_some_iff.1 hl).1
    refine ⟨_, run_beginRound hl rfl, ?_⟩
    obtain ⟨V2, hV2⟩ : ∃ V2, V.putObj (w.heap.size + 1) (L .busy none) = V2 := ⟨_, rfl⟩
    have hl2 : V2.heap[w.heap.size + 1]? = some (L .busy none) := by rw [← hV2]; exact World.putObj_heap_same hlt
    have hd2 : V2.heap[w.heap.size]? = some D := by rw [← hV2]; exact (World.putObj_heap_other (by omega)).trans hd
    have hk2 : Kp V0 V2 := by rw [← hV2]; exact hKt hkp0 (hKb _ _ _ _ (by omega) hl rfl rfl)
    have hi2 : I pre V2 := by rw [← hV2]; exact hI.put hOk hi _ hl rfl (by omega)
    have hra2 : Ra x a' V2 := by rw [← hV2]; exact hRa _ _ _ _ _ _ (by omega) hl rfl hra
    show Code.wpIn _ _ _ _ _ _ (V.putObj (w.heap.size + 1) (L .busy none))
    rw [hV2]
    clear hV2 hl hd hi hlt
    refine wpIn_mono (hbody _ pre x a' V2 hi2 hlen hra2) ?_
    have fin : ∀ (jump : Option Code) (V3 : World), KeepsFrom w.heap.size V2 V3 → V3.heap[w.heap.size + 1]? = some (L .busy none) ∧ ∃ V4, V4 = V3.putObj (w.heap.size + 1) (L (if jump.isNone then .ready else .done) jump) ∧
        (Instr.endRound (w.heap.size + 1) jump).run P V3 = .ok (.bool jump.isNone) V4 ∧ V4.heap[w.heap.size + 1]? = some (L (if jump.isNone then .ready else .done) jump) ∧ V4.heap[w.heap.size]? = some D := fun jump V3 hk => by
      have h1 := hk.same _ _ (by omega) hl2 rfl
      exact ⟨h1, _, rfl, run_endRound (P := P) jump h1, World.putObj_heap_same (Array.getElem?_eq_some_iff.1 h1).1, (World.putObj_heap_other (by omega)).trans (hk.same _ _ (Nat.le_refl _) hd2 rfl)⟩
    have out : ∀ (c : Code) (V3 : World), KeepsFrom w.heap.size V2 V3 → Ix c (pre ++ [x]) V3 → ∃ r V4, (Instr.endRound (w.heap.size + 1) (some c)).run P V3 = .ok r V4 ∧ (Ending.returned r = .returned (.bool false) ∧ ∃ c, Ix c (pre ++ [x]) V4 ∧ V4.heap[w.heap.size + 1]? = some (L .done (some c)) ∧ V4.heap[w.heap.size]? = some D) := fun c V3 hk hi => by
      obtain ⟨h3, V4, rfl, hr, h4, h5⟩ := fin (some c) V3 hk
      exact ⟨_, _, hr, rfl, c, (hIx c).put hOk hi _ h3 rfl (by omega), h4, h5⟩
    rintro e a3 V3 hp
    cases e with
    | normal =>
      obtain ⟨hk, hkp, hi⟩ := hp
      obtain ⟨h3, V4, rfl, hr, h4, h5⟩ := fin none V3 hk
      exact ⟨_, _, hr, .inl ⟨rfl, ⟨hI.put hOk hi _ h3 rfl (by omega), h4, h5⟩, hKt (hKt hk2 hkp) (hKb _ _ _ _ (by omega) h3 rfl rfl)⟩⟩
    | ret => obtain ⟨r, V4, hr, h⟩ := out .ret V3 hp.1 hp.2; exact ⟨r, V4, hr, .inr h⟩
    | exit id => obtain ⟨r, V4, hr, h⟩ := out (.exit id) V3 hp.1 hp.2; exact ⟨r, V4, hr, .inr h⟩
    | goto t => obtain ⟨r, V4, hr, h⟩ := out (.goto t) V3 hp.1 hp.2; exact ⟨r, V4, hr, .inr h⟩
    | panic ch => exact hp.elim
    | outgrown => exact hp.elim
  · -- behind the iterator
    rintro e W2 ⟨⟨v, rfl⟩, ⟨xs, hS, hi, hl, hd⟩ | ⟨pre, hSp, c, hi, hl, hd⟩⟩
    · exact ⟨none, _, run_endLoop (P := P) hl (by simp), hdone _ xs _ (Nat.le_refl _) hS (hI.put hOk hi _ hl rfl (by omega)) ((World.putObj_heap_other (by omega)).trans hd)⟩
    · exact ⟨some c, _, run_endLoop (P := P) hl (by simp), hstop _ c pre _ (Nat.le_refl _) hSp ((hIx c).put hOk hi _ hl rfl (by omega)) ((World.putObj_heap_other (by omega)).trans hd)⟩
end Go.Proofs.Ytejpgifofkiofaa

