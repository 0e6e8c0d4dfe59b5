/-
  kind.Size, kind.Depth, kind.Right: what the loops over all types within hand back. kind.Right: whether a type may be, by a loop that is left early. A type's order, its copy, the type of a base and arguments: what the program's functions hand back.
-/
import Derived.Test.YtejpgifofkiofaaRowParts6p5
import Derived.Test.YtejpgifofkiofaaRowParts6p3
set_option linter.unusedVariables false
set_option linter.unusedSimpArgs false
namespace Go.Proofs.Ytejpgifofkiofaa
open Go.RowKit Go.Shelf
attribute [local go_sem] Oper.semAt_some

def But (a b : Nat) (k : Nat) (_ : TypeId) : Prop := k < a ∨ b ≤ k

theorem blk_kept {W W' : World} {row : Option Nat} {n : Nat} {cs : Array Value} {t : TypeId} (h : Blk W n cs t) (hg : W.grownBy W' row) (hrow : ∀ r, row = some r → ∃ o : Obj, W.heap[r]? = some o ∧ o.isCells = false) : Blk W' n cs t :=
  h.grown hg fun e => by
    obtain ⟨o, ho, hc⟩ := hrow _ e
    have h' : W.heap[n]? = _ := h
    rw [h'] at ho; cases ho; simp [Obj.isCells] at hc

set_option maxRecDepth 100000 in
set_option maxHeartbeats 2000000 in
theorem size_k {F : Nat → Prop} {w : World} {s b : Value} {t : Ty} (ht : IsTy F w s b t) (hsz : t.size ≤ 500000) : Calls Try.prog 34 #[.agg #[s, b]] w (RetI t.size w) := by
  refine (callsIn_wide (n := 9)).1 ?_
  obtain ⟨a, c, hs, hb⟩ := ht.shape
  have Ht := Lib.hid (ht.weaken (F' := fun _ => True) fun _ _ _ => trivial)
  have hshape : (∃ a m c, s = .slice a m c) ∧ ∃ i, b = .int .i64 i := ⟨⟨_, _, _, hs⟩, _, hb⟩
  subst hs hb
  clear ht
  obtain ⟨l2, hl2⟩ : ∃ l2, t.args.length = l2 := ⟨_, rfl⟩
  obtain ⟨b2, hb2⟩ : ∃ b2, t.base = b2 := ⟨_, rfl⟩
  rw [hl2, hb2] at Ht hshape ⊢
  clear hl2 hb2
  refine callsIn_of_wp_marks Try.func34 rfl trivial ?_ rfl
  simp only [Try.ntmps34, List.size_toArray, List.length_cons, List.length_nil, Nat.reduceAdd, Nat.reduceSub, Array.replicate_succ, Array.replicate_zero, List.push_toArray, List.append_toArray, List.nil_append, List.cons_append]
  gi_wp2_with fail
  refine ⟨trivial, (each_k _ _ _ _ hshape.1 hshape.2).mono ?_⟩
  rintro e w' ⟨rfl, rfl⟩
  gi_wp2_with fail
  have hsz' := Lib.hid hsz
  have hB0 : Below w.heap.size w (((w.alloc (.cells #[.slice a l2 c, .int .i64 b2] 40)).alloc (.cells #[.int .i64 0] 3)).alloc (.cells #[.slice a l2 c, .int .i64 b2] 40)) := (((Below.refl _ w).alloc (Nat.le_refl _) _).alloc (by simp) _).alloc (by simp; omega) _
  refine wpIn_rangeFunc_ownF rfl (by omega) (gf := 113) (lb := #[.pointer (some ⟨w.heap.size + 1 + 1, 0, none⟩)]) rfl trivial (enters_of Try.func113 (by kernel_rfl) rfl)
    (each_stops (But w.heap.size (w.heap.size + 2)) (fun k _ _ hk => .inl hk) Ht.out hsz (9 - 1) _ (fun k _ hk _ => .inr (by simp at hk; omega)) ((Keep.refl _ _).below hB0) (w.heap.size + 1 + 1) (Blk.new _ _ _ (by simp)))
    (fun h h' => h.trans h') (fun W l o o' _ hl ho _ => KeepC.putObj _ W l o o' hl ho) (Below.refl _ _) (fun _ => rfl)
    (fun pre W => Blk W (w.heap.size + 1) #[.int .i64 (pre.length : Int)] 3 ∧ Below w.heap.size w W)
    (fun _ _ _ => False)
    (OwnFrom.and (Own.from (I := fun (pre : List (Hit (fun _ => True) w)) W => Blk W (w.heap.size + 1) #[.int .i64 (pre.length : Int)] 3) (fun pre A B row hs hg hr => blk_kept hs hg hr) _) (ownFrom_below (Nat.le_refl _) (by simp; omega)))
    (fun _ _ _ _ _ hs _ _ => hs)
    ⟨(Blk.new _ _ _ (by simp)).alloc _, hB0⟩
    (fun x => { tmps := #[.agg #[.slice a l2 c, .int .i64 b2], .pointer (some ⟨w.heap.size, 0, none⟩), .int .i64 0, .pointer (some ⟨w.heap.size + 1, 0, none⟩), .agg #[.slice a l2 c, .int .i64 b2], .func (.func 113) #[] #[.pointer (some ⟨w.heap.size + 1 + 1, 0, none⟩)], .int .i64 x.d, .agg #[.slice x.a x.n x.c, .int .i64 x.b], undef, undef, undef], defers := [] }) ?assign ?body ?done ?stop
  case assign =>
    intro l x W K hK
    simp only [Hit.enc]
    gi_wp2
    first | exact hK | simpa using hK
  case body =>
    rintro l pre x W ⟨hn, hB⟩ hlt
    have c0 : W.cell? ⟨w.heap.size + 1, 0, none⟩ = some (.int .i64 (pre.length : Int)) := hn.cell rfl
    have f0 := hn.free 0
    have hlt2 : (pre.length : Int) ≤ 1000000 := by omega
    gi_wp2
    refine ⟨KeepsOthers.setCell _ _ _, (KeepC.refl _ W).setCell _ _ (by simp [But]), ?_, hB.setCell (p := ⟨w.heap.size + 1, 0, none⟩) (by simp) _⟩
    have := hn.set 0 (.int .i64 ((pre.length : Int) + 1))
    simpa using this
  case done =>
    rintro D ys W hD hys ⟨hn, hB⟩ hK
    have c0 : W.cell? ⟨w.heap.size + 1, 0, none⟩ = some (.int .i64 (ys.length : Int)) := hn.cell rfl
    have hl : ys.length = t.size := by rw [← Ty.pre_length t 1, ← hys, List.length_map]
    have Hl := Lib.hid hl
    clear hys hl
    gi_wp2
    refine ⟨by simp, .inl ⟨_, _, rfl, run_takeDeferred hK, ?_⟩⟩
    exact ⟨_, results_tmp rfl _ _ _, by rw [Hl.out]; rfl, hB.trans (belowK_b (w := w) (Nat.le_refl _) W D _ _ (by simp at hD; omega) hK rfl rfl)⟩
  case stop =>
    rintro D c pre W _ _ h _
    exact h.elim

def maxd : List (Nat × Ty) → Nat := List.foldl (fun n x => max n x.1) 0
theorem maxd_snoc (l : List (Nat × Ty)) (x : Nat × Ty) : maxd (l ++ [x]) = max (maxd l) x.1 := by simp [maxd]
theorem foldl_max (l : List (Nat × Ty)) (n : Nat) : l.foldl (fun n x => max n x.1) n = max n (maxd l) := by
  induction l generalizing n with
  | nil => simp [maxd]
  | cons x l ih => simp only [maxd, List.foldl_cons]; rw [ih, ih]; omega
theorem maxd_append (l r : List (Nat × Ty)) : maxd (l ++ r) = max (maxd l) (maxd r) := by
  simp only [maxd, List.foldl_append]; rw [foldl_max]; rfl
theorem maxd_cons (x : Nat × Ty) (l : List (Nat × Ty)) : maxd (x :: l) = max x.1 (maxd l) := by
  have := maxd_append [x] l; simpa [maxd] using this
theorem maxd_pre (t : Ty) : ∀ d, maxd (t.pre d) + 1 = d + t.depth := by
  induction t using Ty.ind with
  | h args base ih =>
    intro d
    have : ∀ l : List Ty, (∀ t ∈ l, ∀ d, maxd (t.pre d) + 1 = d + t.depth) → ∀ d, max (maxd (Ty.pres l (d + 1)) + 1) (d + 1) = d + 1 + Ty.depths l := by
      intro l
      induction l with
      | nil => intro _ d; simp [Ty.pres, maxd, Ty.depths]
      | cons t l ih2 =>
        intro h d
        have h1 := h t (by simp) (d + 1)
        have h2 := ih2 (fun t ht => h t (by simp [ht])) d
        simp only [Ty.pres, maxd_append, Ty.depths]; omega
    have h1 := this args ih d
    simp only [Ty.pre, maxd_cons, Ty.depth]; omega

theorem maxd_le {l : List (Nat × Ty)} {m : Nat} (h : ∀ p ∈ l, p.1 ≤ m) : maxd l ≤ m := by
  induction l with
  | nil => simp [maxd]
  | cons x l ih => rw [maxd_cons]; have := h x (by simp); have := ih (fun p hp => h p (by simp [hp])); omega
theorem le_maxd {l : List (Nat × Ty)} {p : Nat × Ty} (h : p ∈ l) : p.1 ≤ maxd l := by
  induction l with
  | nil => cases h
  | cons x l ih =>
    rw [maxd_cons]
    rcases List.mem_cons.1 h with rfl | h
    · omega
    · have := ih h; omega
theorem mem_pre (t : Ty) : ∀ d p, p ∈ t.pre d → ∀ {bases : Int}, Ty.Low bases t → 0 ≤ p.2.base ∧ p.2.base < bases := by
  induction t using Ty.ind with
  | h args base ih =>
    intro d p hp bases hl
    rw [Ty.low_iff] at hl
    simp only [Ty.pre] at hp
    rcases List.mem_cons.1 hp with rfl | hp
    · exact ⟨hl.1, hl.2.1⟩
    · have : ∀ l : List Ty, (∀ t ∈ l, t ∈ args) → p ∈ Ty.pres l (d + 1) → 0 ≤ p.2.base ∧ p.2.base < bases := by
        intro l
        induction l with
        | nil => intro _ h; simp [Ty.pres] at h
        | cons t l ih2 =>
          intro hs h
          simp only [Ty.pres] at h
          rcases List.mem_append.1 h with h | h
          · exact ih t (hs t (by simp)) _ _ h (hl.2.2 t (hs t (by simp)))
          · exact ih2 (fun t ht => hs t (by simp [ht])) h
      exact this args (fun _ h => h) hp
theorem low_of_pre (t : Ty) {bases : Int} : ∀ d, (∀ p ∈ t.pre d, 0 ≤ p.2.base ∧ p.2.base < bases) → Ty.Low bases t := by
  induction t using Ty.ind with
  | h args base ih =>
    intro d h
    have h0 := h (d, .mk args base) (by simp [Ty.pre])
    refine .mk _ _ h0.1 h0.2 fun t ht => ih t ht (d + 1) fun p hp => h p ?_
    have : ∀ l : List Ty, t ∈ l → p ∈ Ty.pres l (d + 1) := by
      intro l
      induction l with
      | nil => intro h; cases h
      | cons u l ih2 =>
        intro h
        simp only [Ty.pres]
        rcases List.mem_cons.1 h with rfl | h
        · exact List.mem_append_left _ hp
        · exact List.mem_append_right _ (ih2 h)
    simp only [Ty.pre]
    exact List.mem_cons_of_mem _ (this args ht)

set_option maxRecDepth 100000 in
set_option maxHeartbeats 2000000 in
theorem depth_k {F : Nat → Prop} {w : World} {s b : Value} {t : Ty} (ht : IsTy F w s b t) (hsz : t.size ≤ 500000) : Calls Try.prog 38 #[.agg #[s, b]] w (RetI t.depth w) := by
  refine (callsIn_wide (n := 9)).1 ?_
  obtain ⟨a, c, hs, hb⟩ := ht.shape
  have Ht := Lib.hid (ht.weaken (F' := fun _ => True) fun _ _ _ => trivial)
  have hshape : (∃ a m c, s = .slice a m c) ∧ ∃ i, b = .int .i64 i := ⟨⟨_, _, _, hs⟩, _, hb⟩
  subst hs hb
  clear ht
  obtain ⟨l2, hl2⟩ : ∃ l2, t.args.length = l2 := ⟨_, rfl⟩
  obtain ⟨b2, hb2⟩ : ∃ b2, t.base = b2 := ⟨_, rfl⟩
  rw [hl2, hb2] at Ht hshape ⊢
  clear hl2 hb2
  refine callsIn_of_wp_marks Try.func38 rfl trivial ?_ rfl
  simp only [Try.ntmps38, List.size_toArray, List.length_cons, List.length_nil, Nat.reduceAdd, Nat.reduceSub, Array.replicate_succ, Array.replicate_zero, List.push_toArray, List.append_toArray, List.nil_append, List.cons_append]
  gi_wp2_with fail
  refine ⟨trivial, (each_k _ _ _ _ hshape.1 hshape.2).mono ?_⟩
  rintro e w' ⟨rfl, rfl⟩
  gi_wp2_with fail
  have hB0 : Below w.heap.size w (((w.alloc (.cells #[.slice a l2 c, .int .i64 b2] 40)).alloc (.cells #[.int .i64 0] 3)).alloc (.cells #[.slice a l2 c, .int .i64 b2] 40)) := (((Below.refl _ w).alloc (Nat.le_refl _) _).alloc (by simp) _).alloc (by simp; omega) _
  refine wpIn_rangeFunc_ownF rfl (by omega) (gf := 113) (lb := #[.pointer (some ⟨w.heap.size + 1 + 1, 0, none⟩)]) rfl trivial (enters_of Try.func113 (by kernel_rfl) rfl)
    (each_stops (But w.heap.size (w.heap.size + 2)) (fun k _ _ hk => .inl hk) Ht.out hsz (9 - 1) _ (fun k _ hk _ => .inr (by simp at hk; omega)) ((Keep.refl _ _).below hB0) (w.heap.size + 1 + 1) (Blk.new _ _ _ (by simp)))
    (fun h h' => h.trans h') (fun W l o o' _ hl ho _ => KeepC.putObj _ W l o o' hl ho) (Below.refl _ _) (fun _ => rfl)
    (fun pre W => Blk W (w.heap.size + 1) #[.int .i64 (maxd (pre.map Hit.key) : Int)] 3 ∧ Below w.heap.size w W)
    (fun _ _ _ => False)
    (OwnFrom.and (Own.from (I := fun (pre : List (Hit (fun _ => True) w)) W => Blk W (w.heap.size + 1) #[.int .i64 (maxd (pre.map Hit.key) : Int)] 3) (fun pre A B row hs hg hr => blk_kept hs hg hr) _) (ownFrom_below (Nat.le_refl _) (by simp; omega)))
    (fun _ _ _ _ _ hs _ _ => hs)
    ⟨(Blk.new _ _ _ (by simp)).alloc _, hB0⟩
    (fun x => { tmps := #[.agg #[.slice a l2 c, .int .i64 b2], .pointer (some ⟨w.heap.size, 0, none⟩), .int .i64 0, .pointer (some ⟨w.heap.size + 1, 0, none⟩), .int .i64 x.d, .agg #[.slice a l2 c, .int .i64 b2], .func (.func 113) #[] #[.pointer (some ⟨w.heap.size + 1 + 1, 0, none⟩)], .int .i64 x.d, .agg #[.slice x.a x.n x.c, .int .i64 x.b], undef, undef, undef, undef], defers := [] }) ?assign ?body ?done ?stop
  case assign =>
    intro l x W K hK
    simp only [Hit.enc]
    gi_wp2
    first | exact hK | simpa using hK
  case body =>
    rintro l pre x W ⟨hn, hB⟩ hlt
    have c0 : W.cell? ⟨w.heap.size + 1, 0, none⟩ = some (.int .i64 (maxd (pre.map Hit.key) : Int)) := hn.cell rfl
    have f0 := hn.free 0
    have e : Hid (maxd ((pre ++ [x]).map Hit.key) = max (maxd (pre.map Hit.key)) x.d) := by show _ = _; simp [maxd_snoc, Hit.key]
    gi_wp2
    all_goals
      refine ⟨KeepsOthers.setCell _ _ _, (KeepC.refl _ W).setCell _ _ (by simp [But]), ?_, hB.setCell (p := ⟨w.heap.size + 1, 0, none⟩) (by simp) _⟩
      first
      | (rw [e.out, show max (maxd (pre.map Hit.key)) x.d = x.d from by omega]; simpa using hn.set 0 (.int .i64 x.d))
      | (rw [e.out, show max (maxd (pre.map Hit.key)) x.d = maxd (pre.map Hit.key) from by omega]; simpa using hn.set 0 (.int .i64 (maxd (pre.map Hit.key))))
  case done =>
    rintro D ys W hD hys ⟨hn, hB⟩ hK
    have c0 : W.cell? ⟨w.heap.size + 1, 0, none⟩ = some (.int .i64 (maxd (ys.map Hit.key) : Int)) := hn.cell rfl
    have hl : maxd (ys.map Hit.key) = t.depth := by rw [hys]; have := maxd_pre t 1; omega
    have Hl := Lib.hid hl
    clear hys hl
    gi_wp2
    refine ⟨by simp, .inl ⟨_, _, rfl, run_takeDeferred hK, ?_⟩⟩
    exact ⟨_, results_tmp rfl _ _ _, by rw [Hl.out]; rfl, hB.trans (belowK_b (w := w) (Nat.le_refl _) W D _ _ (by simp at hD; omega) hK rfl rfl)⟩
  case stop =>
    rintro D c pre W _ _ h _
    exact h.elim
end Go.Proofs.Ytejpgifofkiofaa

namespace Go.Proofs.Ytejpgifofkiofaa
open Go.RowKit Go.Shelf
attribute [local go_sem] Oper.semAt_some

def OkHit (bases : Int) (p : Nat × Ty) : Prop := p.1 ≤ 60 ∧ 0 ≤ p.2.base ∧ p.2.base < bases

theorem right_iff (t : Ty) (bases : Int) : (t.size ≤ 1000 ∧ ∀ p ∈ t.pre 1, OkHit bases p) ↔ (t.size ≤ 1000 ∧ t.depth ≤ 60 ∧ Ty.Low bases t) := by
  have hd := maxd_pre t 1
  constructor
  · rintro ⟨h1, h2⟩
    have := maxd_le (l := t.pre 1) (m := 60) fun p hp => (h2 p hp).1
    exact ⟨h1, by omega, low_of_pre t 1 fun p hp => (h2 p hp).2⟩
  · rintro ⟨h1, h2, h3⟩
    exact ⟨h1, fun p hp => ⟨by have := le_maxd hp; omega, mem_pre t 1 p hp h3⟩⟩

set_option maxRecDepth 100000 in
set_option maxHeartbeats 4000000 in
theorem right_k {F : Nat → Prop} {w : World} {s b : Value} {t : Ty} (ht : IsTy F w s b t) (bases : Int) (hsz : t.size ≤ 500000) :
    Calls Try.prog 32 #[.agg #[s, b], .int .i64 bases] w (RetB (t.size ≤ 1000 ∧ t.depth ≤ 60 ∧ Ty.Low bases t) w) := by
  refine (callsIn_wide (n := 9)).1 ?_
  obtain ⟨a, c, hs, hb⟩ := ht.shape
  have Ht := Lib.hid (ht.weaken (F' := fun _ => True) fun _ _ _ => trivial)
  have hshape : (∃ a m c, s = .slice a m c) ∧ ∃ i, b = .int .i64 i := ⟨⟨_, _, _, hs⟩, _, hb⟩
  subst hs hb
  clear ht
  obtain ⟨l2, hl2⟩ : ∃ l2, t.args.length = l2 := ⟨_, rfl⟩
  obtain ⟨b2, hb2⟩ : ∃ b2, t.base = b2 := ⟨_, rfl⟩
  rw [hl2, hb2] at Ht hshape ⊢
  clear hl2 hb2
  refine callsIn_of_wp_marks Try.func32 rfl trivial ?_ rfl
  simp only [Try.ntmps32, List.size_toArray, List.length_cons, List.length_nil, Nat.reduceAdd, Nat.reduceSub, Array.replicate_succ, Array.replicate_zero, List.push_toArray, List.append_toArray, List.nil_append, List.cons_append]
  gi_wp2_with fail
  refine ⟨trivial, (each_k _ _ _ _ hshape.1 hshape.2).mono ?_⟩
  rintro e w' ⟨rfl, rfl⟩
  gi_wp2_with fail
  obtain ⟨w5, hw5⟩ : ∃ w5, ((((w.alloc (.cells #[.slice a l2 c, .int .i64 b2] 40)).alloc (.cells #[.int .i64 bases] 3)).alloc (.cells #[.bool false] 4)).alloc (.cells #[.int .i64 0] 3)).alloc (.cells #[.slice a l2 c, .int .i64 b2] 40) = w5 := ⟨_, rfl⟩
  have hB0 : Below w.heap.size w w5 := by rw [← hw5]; exact (((((Below.refl _ w).alloc (Nat.le_refl _) _).alloc (by simp) _).alloc (by simp; omega) _).alloc (by simp; omega) _).alloc (by simp; omega) _
  have hz : w5.heap.size = w.heap.size + 5 := by rw [← hw5]; simp
  have x1 : Blk w5 (w.heap.size + 1) #[.int .i64 bases] 3 := by rw [← hw5]; exact (((Blk.new _ _ _ (by simp)).alloc _).alloc _).alloc _
  have x2 : Blk w5 (w.heap.size + 2) #[.bool false] 4 := by rw [← hw5]; exact ((Blk.new _ _ _ (by simp)).alloc _).alloc _
  have x3 : Blk w5 (w.heap.size + 3) #[.int .i64 0] 3 := by rw [← hw5]; exact (Blk.new _ _ _ (by simp)).alloc _
  have x4 : Blk w5 (w.heap.size + 4) #[.slice a l2 c, .int .i64 b2] 40 := by rw [← hw5]; exact Blk.new _ _ _ (by simp)
  rw [hw5]
  clear hw5
  have Hz := Lib.hid hz; clear hz
  have hge : w.heap.size + 5 ≤ w5.heap.size := by have := Hz.out; omega
  refine wpIn_rangeFunc_ownH rfl (by omega) (gf := 113) (lb := #[.pointer (some ⟨w.heap.size + 1 + 1 + 1 + 1, 0, none⟩)]) rfl trivial (enters_of Try.func113 (by kernel_rfl) rfl)
    (each_stops (But w.heap.size (w.heap.size + 4)) (fun k _ _ hk => .inl hk) Ht.out hsz (9 - 1) w5 (fun k _ hk _ => .inr (by omega)) ((Keep.refl _ _).below hB0) (w.heap.size + 1 + 1 + 1 + 1) x4)
    (fun h h' => h.trans h') (fun W l o o' _ hl ho _ => KeepC.putObj _ W l o o' hl ho) (Below.refl _ _) (fun _ => rfl)
    (fun pre W => (((Blk W (w.heap.size + 1) #[.int .i64 bases] 3 ∧ Blk W (w.heap.size + 2) #[.bool false] 4) ∧ Blk W (w.heap.size + 3) #[.int .i64 (pre.length : Int)] 3) ∧ Hid (pre.length ≤ 1000 ∧ ∀ x ∈ pre, OkHit bases x.key)) ∧ Below w.heap.size w5 W)
    (fun c pre W => ((c = .ret ∧ Hid (1000 < pre.length ∨ ∃ x ∈ pre, ¬ OkHit bases x.key)) ∧ Blk W (w.heap.size + 2) #[.bool false] 4) ∧ Below w.heap.size w5 W)
    (OwnFrom.and (Own.from (I := fun (pre : List (Hit (fun _ => True) w)) W => ((Blk W (w.heap.size + 1) #[.int .i64 bases] 3 ∧ Blk W (w.heap.size + 2) #[.bool false] 4) ∧ Blk W (w.heap.size + 3) #[.int .i64 (pre.length : Int)] 3) ∧ Hid (pre.length ≤ 1000 ∧ ∀ x ∈ pre, OkHit bases x.key)) (fun pre A B row hs hg hr => ⟨⟨⟨blk_kept hs.1.1.1 hg hr, blk_kept hs.1.1.2 hg hr⟩, blk_kept hs.1.2 hg hr⟩, hs.2⟩) _) (ownFrom_below hB0.size (by omega)))
    (fun c => OwnFrom.and (Own.from (I := fun (pre : List (Hit (fun _ => True) w)) W => (c = .ret ∧ Hid (1000 < pre.length ∨ ∃ x ∈ pre, ¬ OkHit bases x.key)) ∧ Blk W (w.heap.size + 2) #[.bool false] 4) (fun pre A B row hs hg hr => ⟨hs.1, blk_kept hs.2 hg hr⟩) _) (ownFrom_below hB0.size (by omega)))
    ⟨⟨⟨⟨x1, x2⟩, x3⟩, ⟨by simp, by simp⟩⟩, Below.refl _ _⟩
    (fun x a' W => ∃ Bx, w5.heap.size ≤ Bx ∧ Blk W Bx #[.slice x.a x.n x.c, .int .i64 x.b] 40 ∧ a' = { tmps := #[.agg #[.slice a l2 c, .int .i64 b2], .int .i64 bases, .pointer (some ⟨w.heap.size, 0, none⟩), .pointer (some ⟨w.heap.size + 1, 0, none⟩), .pointer (some ⟨w.heap.size + 1 + 1, 0, none⟩), .pointer (some ⟨w.heap.size + 1 + 1 + 1, 0, none⟩), .int .i64 x.d, .pointer (some ⟨Bx, 0, none⟩), .agg #[.slice a l2 c, .int .i64 b2], .func (.func 113) #[] #[.pointer (some ⟨w.heap.size + 1 + 1 + 1 + 1, 0, none⟩)], .int .i64 x.d, .agg #[.slice x.a x.n x.c, .int .i64 x.b], undef, undef, undef, undef, undef, undef, undef, undef, undef, undef, undef, undef, undef, undef, undef, undef, undef, undef, undef], defers := [] })
    (fun x a' => by
      rintro u A B row ⟨Bx, h1, h2, h3⟩ hg hr
      exact ⟨Bx, h1, blk_kept h2 hg (fun r e => (hr r e).2), h3⟩) ?assign ?body ?done ?stop
  case assign =>
    rintro l pre x W K ⟨⟨⟨⟨y1, y2⟩, y3⟩, hp⟩, hB⟩ hK
    have HK := Lib.hid hK; clear hK
    have Hp := hp
    simp only [Hit.enc] at *
    gi_wp2
    have ha := Below.alloc (Below.refl W.heap.size W) (Nat.le_refl _) (.cells #[.slice x.a x.n x.c, .int .i64 x.b] 40)
    exact HK.out _ _ ((KeepsOthers.alloc _ _).from _) ((KeepC.refl _ W).alloc _) ⟨⟨⟨⟨y1.alloc _, y2.alloc _⟩, y3.alloc _⟩, hp⟩, hB.alloc (Nat.le_trans hB0.size hB.size) _⟩ ⟨W.heap.size, hB.size, Blk.new _ _ _ rfl, rfl⟩
  case body =>
    rintro l pre x a' W hl ⟨r, hr⟩ ⟨⟨⟨⟨y1, y2⟩, y3⟩, hp⟩, hB⟩ ⟨Bx, hBx, bX, rfl⟩ hlt
    have c1 : W.cell? ⟨w.heap.size + 1, 0, none⟩ = some (.int .i64 bases) := y1.cell rfl
    have c2 : W.cell? ⟨w.heap.size + 2, 0, none⟩ = some (.bool false) := y2.cell rfl
    have f2 := y2.free 0
    have c3 : W.cell? ⟨w.heap.size + 3, 0, none⟩ = some (.int .i64 (pre.length : Int)) := y3.cell rfl
    have f3 := y3.free 0
    have cx : W.cell? ⟨Bx, 1, none⟩ = some (.int .i64 x.b) := bX.cell rfl
    have hxb : Hid (x.b = x.t.base) := by have h := x.ok.inv.1; exact (Value.int.inj h).2
    have hlt2 : (pre.length : Int) ≤ 1000000 := by omega
    have hBn : ¬ (Bx = w.heap.size + 3) := by omega
    have hNok : Hid ((¬ OkHit bases x.key) → (1000 < (pre ++ [x]).length ∨ ∃ y ∈ pre ++ [x], ¬ OkHit bases y.key)) := fun h => .inr ⟨x, by simp, h⟩
    have hbd : Hid (Below w.heap.size w5 ((W.setCell ⟨w.heap.size + 3, 0, none⟩ (.int .i64 ((pre.length : Int) + 1))).setCell ⟨w.heap.size + 2, 0, none⟩ (.bool false))) := (hB.setCell (by simp) _).setCell (by simp) _
    by_cases h1 : 60 < x.d
    · have h1' : (60 : Int) < (x.d : Int) := by omega
      gi_wp2
      exact ⟨((KeepsOthers.setCell W _ _).trans (KeepsOthers.setCell _ _ _)).from _, ⟨⟨rfl, hNok.out (fun h => by have := h.1; simp [Hit.key] at this; omega)⟩, (y2.far ⟨w.heap.size + 3, 0, none⟩ _ (by simp)).set 0 _⟩, hbd.out⟩
    by_cases h2 : (1000 : Int) < (pre.length : Int) + 1
    · gi_wp2
      exact ⟨((KeepsOthers.setCell W _ _).trans (KeepsOthers.setCell _ _ _)).from _, ⟨⟨rfl, .inl (by simp; omega)⟩, (y2.far ⟨w.heap.size + 3, 0, none⟩ _ (by simp)).set 0 _⟩, hbd.out⟩
    by_cases h3 : x.b < 0
    · gi_wp2
      exact ⟨((KeepsOthers.setCell W _ _).trans (KeepsOthers.setCell _ _ _)).from _, ⟨⟨rfl, hNok.out (fun h => by have := h.2.1; rw [Hit.key, ← hxb.out] at this; omega)⟩, (y2.far ⟨w.heap.size + 3, 0, none⟩ _ (by simp)).set 0 _⟩, hbd.out⟩
    by_cases h4 : bases ≤ x.b
    · gi_wp2
      exact ⟨((KeepsOthers.setCell W _ _).trans (KeepsOthers.setCell _ _ _)).from _, ⟨⟨rfl, hNok.out (fun h => by have := h.2.2; rw [Hit.key, ← hxb.out] at this; omega)⟩, (y2.far ⟨w.heap.size + 3, 0, none⟩ _ (by simp)).set 0 _⟩, hbd.out⟩
    gi_wp2
    refine ⟨(KeepsOthers.setCell W _ _).from _, (KeepC.refl _ W).setCell _ _ (by simp [But]; omega), ⟨⟨⟨y1.far _ _ (by simp), y2.far _ _ (by simp)⟩, ?_⟩, ⟨by simp; omega, fun y hy => ?_⟩⟩, hB.setCell (by simp; omega) _⟩
    · simpa using y3.set 0 (.int .i64 ((pre.length : Int) + 1))
    · rcases List.mem_append.1 hy with hy | hy
      · exact hp.out.2 y hy
      · simp at hy; subst hy
        exact ⟨by simp [Hit.key]; omega, by simp only [Hit.key]; rw [← hxb.out]; omega, by simp only [Hit.key]; rw [← hxb.out]; omega⟩
  case done =>
    rintro D ys W hD hys ⟨⟨⟨⟨y1, y2⟩, y3⟩, hp⟩, hB⟩ hK
    have c2 : W.cell? ⟨w.heap.size + 2, 0, none⟩ = some (.bool false) := y2.cell rfl
    have f2 := y2.free 0
    have Hys := Lib.hid hys; clear hys
    gi_wp2
    have hK' := (KeepsOthers.setCell W ⟨w.heap.size + 2, 0, none⟩ (.bool true)).same D _ hK rfl
    refine ⟨by simp, .inl ⟨_, _, rfl, run_takeDeferred hK', ?_⟩⟩
    have hc5 := cell_kept ((y2.set 0 (.bool true)).cell (i := 0) (v := .bool true) rfl) (grownBy_putObj' _ D (.deferred none)) (fun r e => by cases e; exact ⟨_, hK', rfl⟩)
    refine ⟨.bool true, ?_, ⟨true, ?_, rfl, ?_⟩⟩
    · simp [results, Try.f32, go_sem, hc5]
    · rw [← right_iff]
      simp
      have hl : ys.length = t.size := by rw [← Ty.pre_length t 1, ← Hys.out, List.length_map]
      refine ⟨by have := hp.out.1; omega, fun p1 p2 hp' => ?_⟩
      rw [← Hys.out] at hp'
      obtain ⟨y, hy, he⟩ := List.mem_map.1 hp'
      rw [← he]; exact hp.out.2 y hy
    · exact ((hB0.trans hB).setCell (p := ⟨w.heap.size + 2, 0, none⟩) (by simp) _).trans (belowK_b (w := w) (Nat.le_refl _) _ D _ _ (by omega) hK' rfl rfl)
  case stop =>
    rintro D c pre W hD hpre ⟨⟨⟨rfl, hbad⟩, y2⟩, hB⟩ hK
    gi_wp2
    refine ⟨by simp, .inl ⟨_, _, rfl, run_takeDeferred hK, ?_⟩⟩
    have hc5 := cell_kept (y2.cell (i := 0) (v := .bool false) rfl) (grownBy_putObj' _ D (.deferred none)) (fun r e => by cases e; exact ⟨_, hK, rfl⟩)
    refine ⟨.bool false, ?_, ⟨false, ?_, rfl, ?_⟩⟩
    · simp [results, Try.f32, go_sem, hc5]
    · rw [← right_iff]
      simp only [Bool.false_eq_true, false_iff, not_and]
      intro h1 h2
      rcases hbad.out with h | ⟨y, hy, h⟩
      · have := hpre.length_le
        rw [List.length_map, Ty.pre_length] at this; omega
      · exact h (h2 y.key (hpre.subset (List.mem_map.2 ⟨y, hy, rfl⟩)))
    · exact (hB0.trans hB).trans (belowK_b (w := w) (Nat.le_refl _) W D _ _ (by omega) hK rfl rfl)
end Go.Proofs.Ytejpgifofkiofaa

namespace Go.Proofs.Ytejpgifofkiofaa
open Go.RowKit
attribute [local go_sem ↓] Go.wp_at_zero Go.wp_at_succ

set_option maxHeartbeats 400000 in
theorem order_k {F : Nat → Prop} {w0 : World} {s b : Value} {t : Ty} (ht : IsTy F w0 s b t) : ∀ w : World, t.size ≤ 1000000 → Keep F w0 w →
    Calls Try.prog 36 #[.agg #[s, b]] w (RetI t.order w) := by
  induction ht with
  | mk a n c b args bl off A N C B hn hm ha h1 h2 h3 ih =>
  intro w hsz hw
  clear h3 hm
  subst hn
  have hlen : args.length ≤ 1000000 := by have := Ty.length_lt (l := args) (b := b); omega
  have Hsz : Hid (∀ i (h : i < args.length), args[i].size ≤ 1000000 ∧ args[i].order ≤ 1000000) := fun i h => by
    have := Ty.size_get (b := b) i h; have := Ty.depth_le_size args[i]; have := Ty.order_le_depth args[i]; omega
  have Hall : Hid (Ty.orders args ≤ 1000000) := by
    show _ ≤ _
    have := Ty.depth_le_size (.mk args b); have := Ty.order_le_depth (.mk args b); rw [Ty.order_eq] at *; omega
  have Hend : Hid ((Ty.mk args b).order = Ty.orders args) := Ty.order_eq _ _
  have Hih := Lib.hid ih; clear ih hsz
  go_enter Try.func36, Try.ntmps36
  go_wp2_with fail
  go_loopw [3, 5, 9] (fun x y i wr => ∃ k : Nat, i = .int .i64 k ∧ x = .int .i64 (Ty.orders (args.take k)) ∧ k ≤ args.length ∧ Below w.heap.size w wr) (fun _ _ i _ => args.length - (intOf i).toNat)
  case atStart => exact ⟨0, rfl, rfl, by omega, (Below.refl _ _).alloc (Nat.le_refl _) _⟩
  case round =>
    obtain ⟨k, rfl, rfl, hk, hb⟩ := hrel
    have hbs := hb.size
    have hs2 : Ty.orders (args.take k) ≤ 1000000 := by have := Hall.out; have := Ty.orders_take_le args k; omega
    by_cases hlt : k < args.length
    · obtain ⟨rfl, hF⟩ := ha (by omega)
      have e1 : wr.cell? ⟨bl, off + k * 2, none⟩ = some (.slice (A k) (N k) (C k)) := (hw.below hb) _ _ _ hF (h1 k hlt)
      have e2 : wr.cell? ⟨bl, off + k * 2 + 1, none⟩ = some (.int .i64 (B k)) := (hw.below hb) _ _ _ hF (h2 k hlt)
      have hs := (Hsz.out k hlt).2
      go_wp2_with fail
      refine (Hih.out k hlt _ (Hsz.out k hlt).1 ((hw.below hb).alloc _)).mono ?_
      rintro e w1 ⟨rfl, hb1⟩
      go_wp2_with fail
      go_roundw
      case rel => exact ⟨k + 1, by go_num, by rw [Ty.orders_take _ _ hlt]; simp; split <;> omega, by omega, (hb.alloc hbs _).trans (hb1.mono (by simp; omega))⟩
      case measure => simp [intOf]; omega
    · go_wp2_with fail
      go_ret
      refine ⟨?_, hb⟩
      rw [Hend.out, List.take_of_length_le (by omega)]; rfl

set_option maxRecDepth 100000 in
set_option maxHeartbeats 1600000 in
theorem copied_k {F : Nat → Prop} {w0 : World} {s b : Value} {t : Ty} (ht : IsTy F w0 s b t) : ∀ (w : World), t.size ≤ 100000 →
    Keep F w0 w →
    Calls Try.prog 97 #[.agg #[s, b]] w (FreshTy t w) := by
  induction ht with
  | mk a n c b args bl off A N C B hn hm ha h1 h2 h3 ih =>
  intro w hsize hw
  clear h3 hm
  subst hn
  have hlen : args.length ≤ 100000 := by have := Ty.length_lt (l := args) (b := b); omega
  have Hsz : Hid (∀ i (h : i < args.length), args[i].size ≤ 100000) := fun i h => by have := Ty.size_get (b := b) i h; omega
  have Hih := Lib.hid ih; clear ih hsize
  obtain ⟨i0, hi0, hz0, hz1, hz2⟩ := info_parts infoK
  go_enter Try.func97, Try.ntmps97
  go_wp2_with fail
  go_loopw [5, 12] (fun _ i wr => ∃ (k : Nat) (v : Value), i = .int .i64 k ∧ k ≤ args.length ∧ 
      Below w.heap.size w wr ∧ Blk wr (w.heap.size + 1) #[.slice none 0 0, .int .i64 0] 40 ∧ Blk wr (w.heap.size + 2) #[v, .int .i64 b] 40 ∧
      Acc rpTy 40 (w.heap.size + 3) (fun q => w.heap.size + 3 ≤ q) wr v (args.take k)) (fun _ i _ => args.length - (intOf i).toNat)
  case atStart => 
    exact ⟨0, _, rfl, by omega, (((Below.refl _ _).alloc (Nat.le_refl _) _).alloc (by simp) _).alloc (by simp; omega) _, (Blk.new _ _ _ (by simp)).alloc _, Blk.new _ _ _ (by simp), Acc.nil _ _ _ _ _⟩
  case round =>
    obtain ⟨k, v, rfl, hk, hb, hres, hout, hacc⟩ := hrel
    have d0 : wr.cell? ⟨w.heap.size + 2, 0, none⟩ = some v := hout.cell rfl
    have hsz := hout.lt
    have Hacc := Lib.hid hacc; clear hacc
    by_cases hlt : k < args.length
    · obtain ⟨rfl, hF⟩ := ha (by omega)
      clear ha
      have e1 : wr.cell? ⟨bl, off + k * 2, none⟩ = some (.slice (A k) (N k) (C k)) := (hw.below hb) _ _ _ hF (h1 k hlt)
      have e2 : wr.cell? ⟨bl, off + k * 2 + 1, none⟩ = some (.int .i64 (B k)) := (hw.below hb) _ _ _ hF (h2 k hlt)
      have hlt0 : (0 : Int) ≤ (k : Int) := Int.natCast_nonneg _
      have hlt1 : (k : Int) < (args.length : Int) := by omega
      have Hl : Hid ((args.take k).length = k) := by show _ = _; simp; omega
      have Hne : Hid (∀ q, q < w.heap.size + 3 → v.ownBlock ≠ some q) := fun q hq e => by have := (Hacc.out.base_le q e).1; omega
      have Ho : Hid (v.ownBlock ≠ some wr.heap.size) := fun e => by have := (Hacc.out.base_le _ e).2; omega
      go_wp2_with fail
      obtain ⟨wa, hwa⟩ : ∃ wa, wr.alloc (.cells #[.slice (A k) (N k) (C k), .int .i64 (B k)] 40) = wa := ⟨_, rfl⟩
      have Wa := Lib.hid hwa
      have ba : Below w.heap.size w wa := by rw [← hwa]; exact hb.alloc (by omega) _
      have sa : wr.heap.size + 1 = wa.heap.size := by rw [← hwa]; simp
      have Sa := Lib.hid sa
      have xa : Blk wa wr.heap.size #[.slice (A k) (N k) (C k), .int .i64 (B k)] 40 := by rw [← hwa]; exact Blk.new _ _ _ rfl
      have ra : Blk wa (w.heap.size + 1) #[.slice none 0 0, .int .i64 0] 40 := by rw [← hwa]; exact hres.alloc _
      have oa : Blk wa (w.heap.size + 2) #[v, .int .i64 b] 40 := by rw [← hwa]; exact hout.alloc _
      have Ka : Hid (Keep F w0 wa) := by rw [← hwa]; exact (hw.below hb).alloc _
      have Aa : Hid (Acc rpTy 40 (w.heap.size + 3) (fun q => w.heap.size + 3 ≤ q) wa v (args.take k)) := by rw [← hwa]; exact Hacc.out.alloc _
      rw [hwa]
      clear hwa sa
      refine wp_region_noPanic (wp_region_need (S := fun w' => w'.cell? ⟨w.heap.size + 2, 0, none⟩ = some v ∧ w'.cell? ⟨wr.heap.size, 0, none⟩ = some (.slice (A k) (N k) (C k)) ∧ w'.cell? ⟨wr.heap.size, 1, none⟩ = some (.int .i64 (B k))) (by kernel_rfl) ?_)
      have hS : (wa.drew).cell? ⟨w.heap.size + 2, 0, none⟩ = some v ∧ (wa.drew).cell? ⟨wr.heap.size, 0, none⟩ = some (.slice (A k) (N k) (C k)) ∧ (wa.drew).cell? ⟨wr.heap.size, 1, none⟩ = some (.int .i64 (B k)) := ⟨oa.drew.cell rfl, xa.drew.cell rfl, xa.drew.cell rfl⟩
      refine wpN_take (i := 0) (v := ?v1) rfl (by kernel_rfl) (fun _ _ _ h => h) hS (Or.inl ⟨by rfl, ?hy1⟩) ?hr1
      case hy1 => (intro wS hSw; (try dsimp only at hSw); go_simp; (try with_reducible rfl))
      try simp only [Act.put, List.setIfInBounds_toArray, List.set_cons_zero, List.set_cons_succ]
      refine wpN_take (i := 1) (v := ?v2) rfl (by kernel_rfl) (fun _ _ _ h => h) hS (Or.inl ⟨by rfl, ?hy2⟩) ?hr2
      case hy2 => (intro wS hSw; (try dsimp only at hSw); go_simp; (try with_reducible rfl))
      try simp only [Act.put, List.setIfInBounds_toArray, List.set_cons_zero, List.set_cons_succ]
      refine wpN_take (i := 2) (v := ?v3) rfl (by kernel_rfl) (fun _ _ _ h => h) hS (Or.inl ⟨by rfl, ?hy3⟩) ?hr3
      case hy3 => (intro wS hSw; (try dsimp only at hSw); go_simp; (try with_reducible rfl))
      try simp only [Act.put, List.setIfInBounds_toArray, List.set_cons_zero, List.set_cons_succ]
      refine wpN_step (i := 3) (by kernel_rfl) rfl (fun K hK => ?_)
      go_simp
      refine (Hih.out k hlt _ (Hsz.out k hlt) Ka.out.drew).mono ?_
      rintro e w1 ⟨s', b', rfl, hr1, hb1⟩
      have hKp : Keep (fun q => v.ownBlock ≠ some q) wa w1 := ((Keep.refl _ _).drew).below hb1
      have x1 := Blk.below (w := wa.drew) xa hb1
      have o1 := Blk.below (w := wa.drew) oa hb1
      have hS : (w1).cell? ⟨w.heap.size + 2, 0, none⟩ = some v ∧ (w1).cell? ⟨wr.heap.size, 0, none⟩ = some (.slice (A k) (N k) (C k)) ∧ (w1).cell? ⟨wr.heap.size, 1, none⟩ = some (.int .i64 (B k)) := ⟨o1.cell rfl, x1.cell rfl, x1.cell rfl⟩
      refine hK.out _ _ (fun _ => hS) ?_
      clear hK K
      try simp only [Act.put, List.setIfInBounds_toArray, List.set_cons_zero, List.set_cons_succ]
      refine wpN_step (i := 4) (by kernel_rfl) rfl (fun K hK => ?_)
      go_simp
      have hS : (w1.alloc (.cells #[s', b'] 40)).cell? ⟨w.heap.size + 2, 0, none⟩ = some v ∧ (w1.alloc (.cells #[s', b'] 40)).cell? ⟨wr.heap.size, 0, none⟩ = some (.slice (A k) (N k) (C k)) ∧ (w1.alloc (.cells #[s', b'] 40)).cell? ⟨wr.heap.size, 1, none⟩ = some (.int .i64 (B k)) := ⟨(o1.alloc _).cell rfl, (x1.alloc _).cell rfl, (x1.alloc _).cell rfl⟩
      refine hK.out _ _ (fun _ => hS) ?_
      clear hK K
      try simp only [Act.put, List.setIfInBounds_toArray, List.set_cons_zero, List.set_cons_succ]
      refine wpN_step (i := 5) (by kernel_rfl) rfl (fun K hK => ?_)
      refine step_push rpTy (by decide) (by rfl) _ _ _ (by rfl) (w.heap.size + 3) 40 i0 _ 32 Try.underlying33 hi0 hz0 hz1 hz2 rfl (by decide)
             (fun q => w.heap.size + 3 ≤ q) v (args.take k) (by rfl) (((Aa.out.drew).below hb1).alloc _) (by rw [Hl.out]; omega)
             w1.heap.size _ [s', b'] args[k] (by rfl) (heap_alloc_new _ _) ⟨_, _, rfl, (hr1.weaken (fun q _ hq => ⟨Nat.le_trans (show w.heap.size + 3 ≤ wa.drew.heap.size from oa.lt) hq, fun e => by have := (Aa.out.base_le q e).2; exact absurd this (Nat.not_lt.2 hq)⟩)).keep ((Keep.refl _ _).alloc _)⟩ (by have := hb1.size; have := oa.lt; simp at *; omega) ?_
      intro gg cap w2 hacc2 hgrow hat hlt2
      have o2 := oa.push hb1 hgrow (Hne.out _ (by omega))
      have r2 := ra.push hb1 hgrow (Hne.out _ (by omega))
      have x2 := xa.push hb1 hgrow Ho.out
      have hS : (w2).cell? ⟨w.heap.size + 2, 0, none⟩ = some v ∧ (w2).cell? ⟨wr.heap.size, 0, none⟩ = some (.slice (A k) (N k) (C k)) ∧ (w2).cell? ⟨wr.heap.size, 1, none⟩ = some (.int .i64 (B k)) := ⟨o2.cell rfl, x2.cell rfl, x2.cell rfl⟩
      have p2 := o2.free 0
      have Hacc2 := Lib.hid hacc2; clear hacc2
      refine hK.out _ _ (fun _ => hS) ?_
      clear hK K
      try simp only [Act.put, List.setIfInBounds_toArray, List.set_cons_zero, List.set_cons_succ]
      refine wpN_take (i := 6) (v := ?v4) rfl (by kernel_rfl) (fun _ _ _ h => h) hS (Or.inl ⟨by rfl, ?hy4⟩) ?hr4
      case hy4 => (intro wS hSw; (try dsimp only at hSw); go_simp; (try with_reducible rfl))
      try simp only [Act.put, List.setIfInBounds_toArray, List.set_cons_zero, List.set_cons_succ]
      refine wpN_step (i := 7) (by kernel_rfl) rfl (fun K hK => ?_)
      go_simp
      refine hK.out _ _ (fun h => absurd h (by decide)) ?_
      clear hK K
      try simp only [Act.put, List.setIfInBounds_toArray, List.set_cons_zero, List.set_cons_succ]
      refine wpN_done (by kernel_rfl) ?_
      refine NoPanic.normal ?_
      go_wp2_with fail
      refine ⟨⟨k + 1, _, by go_num, by omega, (below_push ba (by have := oa.lt; omega) hb1 hgrow (fun q hq => by have := (Hacc.out.base_le q hq).1; omega)).setCell (by simp; omega) _, r2.far _ _ (by simp), o2.set 0 _, ?_⟩, by simp [intOf]; omega⟩
      have h := Hacc2.out
      rw [Hl.out, ← List.take_succ_eq_append_getElem hlt] at h
      exact h.setCell _ _ (by simp) (by simp)
    · obtain ⟨va, vc, hv⟩ := Hacc.out.len_shape
      rw [List.length_take, Nat.min_eq_left hk] at hv
      subst hv
      have d1 : wr.cell? ⟨w.heap.size + 2, 1, none⟩ = some (.int .i64 b) := hout.cell rfl
      have r0 : wr.cell? ⟨w.heap.size + 1, 0, none⟩ = some (.slice none 0 0) := hres.cell rfl
      have r1 : wr.cell? ⟨w.heap.size + 1, 1, none⟩ = some (.int .i64 0) := hres.cell rfl
      have f0 := hres.free 0
      have f1 := hres.free 1
      go_wp2_with fail
      refine bodyPost_ret (v := .agg #[.slice va k vc, .int .i64 b]) (by simp [results, Try.results97, go_sem, r0, r1]) rfl ?_
      have hkn : k = args.length := by omega
      refine ⟨_, _, rfl, ?_, (hb.setCell (by simp) _).setCell (by simp) _⟩
      have h := (Hacc.out.setCell ⟨w.heap.size + 1, 0, none⟩ (.slice va k vc) (by simp) (by simp)).setCell ⟨w.heap.size + 1, 1, none⟩ (.int .i64 b) (by simp) (by simp)
      rw [List.take_of_length_le (by omega)] at h
      exact isTy_mk (h.sl (F' := fun q => w.heap.size ≤ q) (fun q _ hq => by omega) (fun q hq => by omega)) b
end Go.Proofs.Ytejpgifofkiofaa

