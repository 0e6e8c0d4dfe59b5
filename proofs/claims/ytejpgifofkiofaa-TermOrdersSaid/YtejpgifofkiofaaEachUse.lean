/-
  kind.Size, kind.Depth, kind.Right: what the loops over all types within hand back.
-/
import Derived.Test.YtejpgifofkiofaaEach
namespace Go.Proofs.Ytejpgifofkiofaa
open Go.RowKit Go.Shelf
attribute [local go_sem] Oper.semAt_some

/-- which blocks an iterator may count on: all but those between -/
def But (a b : Nat) (k : Nat) : Prop := k < a ∨ b ≤ k

theorem blk_kept {W W' : World} {row : Option Nat} {n : Nat} {cs : Array Value} {t : TypeId} (h : Blk W n cs t) (hg : W.grownBy W' row) (hrow : ∀ r, row = some r → ∃ o : Obj, W.heap[r]? = some o ∧ o.isCells = false) : Blk W' n cs t :=
  h.grown hg fun e => by
    obtain ⟨o, ho, hc⟩ := hrow _ e
    have h' : W.heap[n]? = _ := h
    rw [h'] at ho; cases ho; simp [Obj.isCells] at hc

set_option maxRecDepth 100000 in
set_option maxHeartbeats 2000000 in
theorem size_k {F : Nat → Prop} {w : World} {s b : Value} {t : Ty} (ht : IsTy F w s b t) (hsz : t.size ≤ 500000) : Calls Try.prog 34 #[.agg #[s, b]] w (RetI t.size w) := by
  refine (callsIn_wide (n := 9)).1 ?_
  obtain ⟨a, c, hs, hb⟩ := ht.shape
  have Ht := Lib.hid (ht.weaken (F' := fun _ => True) fun _ _ _ => trivial)
  have hshape : (∃ a m c, s = .slice a m c) ∧ ∃ i, b = .int .i64 i := ⟨⟨_, _, _, hs⟩, _, hb⟩
  subst hs hb
  clear ht
  obtain ⟨l2, hl2⟩ : ∃ l2, t.args.length = l2 := ⟨_, rfl⟩
  obtain ⟨b2, hb2⟩ : ∃ b2, t.base = b2 := ⟨_, rfl⟩
  rw [hl2, hb2] at Ht hshape ⊢
  clear hl2 hb2
  refine callsIn_of_wp_marks Try.func34 rfl trivial ?_ rfl
  simp only [Try.ntmps34, List.size_toArray, List.length_cons, List.length_nil, Nat.reduceAdd, Nat.reduceSub, Array.replicate_succ, Array.replicate_zero, List.push_toArray, List.append_toArray, List.nil_append, List.cons_append]
  gi_wp2_with fail
  refine ⟨trivial, (each_k _ _ _ _ hshape.1 hshape.2).mono ?_⟩
  rintro e w' ⟨rfl, rfl⟩
  gi_wp2_with fail
  have hsz' := Lib.hid hsz
  have hB0 : Below w.heap.size w (((w.alloc (.cells #[.slice a l2 c, .int .i64 b2] 40)).alloc (.cells #[.int .i64 0] 3)).alloc (.cells #[.slice a l2 c, .int .i64 b2] 40)) := (((Below.refl _ w).alloc (Nat.le_refl _) _).alloc (by simp) _).alloc (by simp; omega) _
  refine wpIn_rangeFunc_ownF rfl (by omega) (gf := 113) (lb := #[.pointer (some ⟨w.heap.size + 1 + 1, 0, none⟩)]) rfl trivial (enters_of Try.func113 (by kernel_rfl) rfl)
    (each_stops (But w.heap.size (w.heap.size + 2)) (fun k _ hk => .inl hk) Ht.out hsz (9 - 1) _ (fun k hk => .inr (by simp at hk; omega)) ((Keep.refl _ _).below hB0) (w.heap.size + 1 + 1) (Blk.new _ _ _ (by simp)))
    (fun h h' => h.trans h') (fun W l o o' _ hl ho _ => KeepC.putObj _ W l o o' hl ho) (Below.refl _ _) (fun _ => rfl)
    (fun pre W => Blk W (w.heap.size + 1) #[.int .i64 (pre.length : Int)] 3 ∧ Below w.heap.size w W)
    (fun _ _ _ => False)
    (OwnFrom.and (Own.from (I := fun (pre : List (Hit (fun _ => True) w)) W => Blk W (w.heap.size + 1) #[.int .i64 (pre.length : Int)] 3) (fun pre A B row hs hg hr => blk_kept hs hg hr) _) (ownFrom_below (Nat.le_refl _) (by simp; omega)))
    (fun _ _ _ _ _ hs _ _ => hs)
    ⟨(Blk.new _ _ _ (by simp)).alloc _, hB0⟩
    (fun x => { tmps := #[.agg #[.slice a l2 c, .int .i64 b2], .pointer (some ⟨w.heap.size, 0, none⟩), .int .i64 0, .pointer (some ⟨w.heap.size + 1, 0, none⟩), .agg #[.slice a l2 c, .int .i64 b2], .func (.func 113) #[] #[.pointer (some ⟨w.heap.size + 1 + 1, 0, none⟩)], .int .i64 x.d, .agg #[.slice x.a x.n x.c, .int .i64 x.b], undef, undef, undef], defers := [] }) ?assign ?body ?done ?stop
  case assign =>
    intro l x W K hK
    simp only [Hit.enc]
    gi_wp2
    first | exact hK | simpa using hK
  case body =>
    rintro l pre x W ⟨hn, hB⟩ hlt
    have c0 : W.cell? ⟨w.heap.size + 1, 0, none⟩ = some (.int .i64 (pre.length : Int)) := hn.cell rfl
    have f0 := hn.free 0
    have hlt2 : (pre.length : Int) ≤ 1000000 := by omega
    gi_wp2
    refine ⟨KeepsOthers.setCell _ _ _, (KeepC.refl _ W).setCell _ _ (by simp [But]), ?_, hB.setCell (p := ⟨w.heap.size + 1, 0, none⟩) (by simp) _⟩
    have := hn.set 0 (.int .i64 ((pre.length : Int) + 1))
    simpa using this
  case done =>
    rintro D ys W hD hys ⟨hn, hB⟩ hK
    have c0 : W.cell? ⟨w.heap.size + 1, 0, none⟩ = some (.int .i64 (ys.length : Int)) := hn.cell rfl
    have hl : ys.length = t.size := by rw [← Ty.pre_length t 1, ← hys, List.length_map]
    have Hl := Lib.hid hl
    clear hys hl
    gi_wp2
    refine ⟨by simp, .inl ⟨_, _, rfl, run_takeDeferred hK, ?_⟩⟩
    exact ⟨_, results_tmp rfl _ _ _, by rw [Hl.out]; rfl, hB.trans (belowK_b (w := w) (Nat.le_refl _) W D _ _ (by simp at hD; omega) hK rfl rfl)⟩
  case stop =>
    rintro D c pre W _ _ h _
    exact h.elim

/-- the greatest of some numbers -/
def maxd : List (Nat × Ty) → Nat := List.foldl (fun n x => max n x.1) 0
theorem maxd_snoc (l : List (Nat × Ty)) (x : Nat × Ty) : maxd (l ++ [x]) = max (maxd l) x.1 := by simp [maxd]
theorem foldl_max (l : List (Nat × Ty)) (n : Nat) : l.foldl (fun n x => max n x.1) n = max n (maxd l) := by
  induction l generalizing n with
  | nil => simp [maxd]
  | cons x l ih => simp only [maxd, List.foldl_cons]; rw [ih, ih]; omega
theorem maxd_append (l r : List (Nat × Ty)) : maxd (l ++ r) = max (maxd l) (maxd r) := by
  simp only [maxd, List.foldl_append]; rw [foldl_max]; rfl
theorem maxd_cons (x : Nat × Ty) (l : List (Nat × Ty)) : maxd (x :: l) = max x.1 (maxd l) := by
  have := maxd_append [x] l; simpa [maxd] using this
theorem maxd_pre (t : Ty) : ∀ d, maxd (t.pre d) + 1 = d + t.depth := by
  induction t using Ty.ind with
  | h args base ih =>
    intro d
    have : ∀ l : List Ty, (∀ t ∈ l, ∀ d, maxd (t.pre d) + 1 = d + t.depth) → ∀ d, max (maxd (Ty.pres l (d + 1)) + 1) (d + 1) = d + 1 + Ty.depths l := by
      intro l
      induction l with
      | nil => intro _ d; simp [Ty.pres, maxd, Ty.depths]
      | cons t l ih2 =>
        intro h d
        have h1 := h t (by simp) (d + 1)
        have h2 := ih2 (fun t ht => h t (by simp [ht])) d
        simp only [Ty.pres, maxd_append, Ty.depths]; omega
    have h1 := this args ih d
    simp only [Ty.pre, maxd_cons, Ty.depth]; omega

theorem maxd_le {l : List (Nat × Ty)} {m : Nat} (h : ∀ p ∈ l, p.1 ≤ m) : maxd l ≤ m := by
  induction l with
  | nil => simp [maxd]
  | cons x l ih => rw [maxd_cons]; have := h x (by simp); have := ih (fun p hp => h p (by simp [hp])); omega
theorem le_maxd {l : List (Nat × Ty)} {p : Nat × Ty} (h : p ∈ l) : p.1 ≤ maxd l := by
  induction l with
  | nil => cases h
  | cons x l ih =>
    rw [maxd_cons]
    rcases List.mem_cons.1 h with rfl | h
    · omega
    · have := ih h; omega
theorem mem_pre (t : Ty) : ∀ d p, p ∈ t.pre d → ∀ {bases : Int}, Ty.Low bases t → 0 ≤ p.2.base ∧ p.2.base < bases := by
  induction t using Ty.ind with
  | h args base ih =>
    intro d p hp bases hl
    rw [Ty.low_iff] at hl
    simp only [Ty.pre] at hp
    rcases List.mem_cons.1 hp with rfl | hp
    · exact ⟨hl.1, hl.2.1⟩
    · have : ∀ l : List Ty, (∀ t ∈ l, t ∈ args) → p ∈ Ty.pres l (d + 1) → 0 ≤ p.2.base ∧ p.2.base < bases := by
        intro l
        induction l with
        | nil => intro _ h; simp [Ty.pres] at h
        | cons t l ih2 =>
          intro hs h
          simp only [Ty.pres] at h
          rcases List.mem_append.1 h with h | h
          · exact ih t (hs t (by simp)) _ _ h (hl.2.2 t (hs t (by simp)))
          · exact ih2 (fun t ht => hs t (by simp [ht])) h
      exact this args (fun _ h => h) hp
theorem low_of_pre (t : Ty) {bases : Int} : ∀ d, (∀ p ∈ t.pre d, 0 ≤ p.2.base ∧ p.2.base < bases) → Ty.Low bases t := by
  induction t using Ty.ind with
  | h args base ih =>
    intro d h
    have h0 := h (d, .mk args base) (by simp [Ty.pre])
    refine .mk _ _ h0.1 h0.2 fun t ht => ih t ht (d + 1) fun p hp => h p ?_
    have : ∀ l : List Ty, t ∈ l → p ∈ Ty.pres l (d + 1) := by
      intro l
      induction l with
      | nil => intro h; cases h
      | cons u l ih2 =>
        intro h
        simp only [Ty.pres]
        rcases List.mem_cons.1 h with rfl | h
        · exact List.mem_append_left _ hp
        · exact List.mem_append_right _ (ih2 h)
    simp only [Ty.pre]
    exact List.mem_cons_of_mem _ (this args ht)

set_option maxRecDepth 100000 in
set_option maxHeartbeats 2000000 in
theorem depth_k {F : Nat → Prop} {w : World} {s b : Value} {t : Ty} (ht : IsTy F w s b t) (hsz : t.size ≤ 500000) : Calls Try.prog 38 #[.agg #[s, b]] w (RetI t.depth w) := by
  refine (callsIn_wide (n := 9)).1 ?_
  obtain ⟨a, c, hs, hb⟩ := ht.shape
  have Ht := Lib.hid (ht.weaken (F' := fun _ => True) fun _ _ _ => trivial)
  have hshape : (∃ a m c, s = .slice a m c) ∧ ∃ i, b = .int .i64 i := ⟨⟨_, _, _, hs⟩, _, hb⟩
  subst hs hb
  clear ht
  obtain ⟨l2, hl2⟩ : ∃ l2, t.args.length = l2 := ⟨_, rfl⟩
  obtain ⟨b2, hb2⟩ : ∃ b2, t.base = b2 := ⟨_, rfl⟩
  rw [hl2, hb2] at Ht hshape ⊢
  clear hl2 hb2
  refine callsIn_of_wp_marks Try.func38 rfl trivial ?_ rfl
  simp only [Try.ntmps38, List.size_toArray, List.length_cons, List.length_nil, Nat.reduceAdd, Nat.reduceSub, Array.replicate_succ, Array.replicate_zero, List.push_toArray, List.append_toArray, List.nil_append, List.cons_append]
  gi_wp2_with fail
  refine ⟨trivial, (each_k _ _ _ _ hshape.1 hshape.2).mono ?_⟩
  rintro e w' ⟨rfl, rfl⟩
  gi_wp2_with fail
  have hB0 : Below w.heap.size w (((w.alloc (.cells #[.slice a l2 c, .int .i64 b2] 40)).alloc (.cells #[.int .i64 0] 3)).alloc (.cells #[.slice a l2 c, .int .i64 b2] 40)) := (((Below.refl _ w).alloc (Nat.le_refl _) _).alloc (by simp) _).alloc (by simp; omega) _
  refine wpIn_rangeFunc_ownF rfl (by omega) (gf := 113) (lb := #[.pointer (some ⟨w.heap.size + 1 + 1, 0, none⟩)]) rfl trivial (enters_of Try.func113 (by kernel_rfl) rfl)
    (each_stops (But w.heap.size (w.heap.size + 2)) (fun k _ hk => .inl hk) Ht.out hsz (9 - 1) _ (fun k hk => .inr (by simp at hk; omega)) ((Keep.refl _ _).below hB0) (w.heap.size + 1 + 1) (Blk.new _ _ _ (by simp)))
    (fun h h' => h.trans h') (fun W l o o' _ hl ho _ => KeepC.putObj _ W l o o' hl ho) (Below.refl _ _) (fun _ => rfl)
    (fun pre W => Blk W (w.heap.size + 1) #[.int .i64 (maxd (pre.map Hit.key) : Int)] 3 ∧ Below w.heap.size w W)
    (fun _ _ _ => False)
    (OwnFrom.and (Own.from (I := fun (pre : List (Hit (fun _ => True) w)) W => Blk W (w.heap.size + 1) #[.int .i64 (maxd (pre.map Hit.key) : Int)] 3) (fun pre A B row hs hg hr => blk_kept hs hg hr) _) (ownFrom_below (Nat.le_refl _) (by simp; omega)))
    (fun _ _ _ _ _ hs _ _ => hs)
    ⟨(Blk.new _ _ _ (by simp)).alloc _, hB0⟩
    (fun x => { tmps := #[.agg #[.slice a l2 c, .int .i64 b2], .pointer (some ⟨w.heap.size, 0, none⟩), .int .i64 0, .pointer (some ⟨w.heap.size + 1, 0, none⟩), .int .i64 x.d, .agg #[.slice a l2 c, .int .i64 b2], .func (.func 113) #[] #[.pointer (some ⟨w.heap.size + 1 + 1, 0, none⟩)], .int .i64 x.d, .agg #[.slice x.a x.n x.c, .int .i64 x.b], undef, undef, undef, undef], defers := [] }) ?assign ?body ?done ?stop
  case assign =>
    intro l x W K hK
    simp only [Hit.enc]
    gi_wp2
    first | exact hK | simpa using hK
  case body =>
    rintro l pre x W ⟨hn, hB⟩ hlt
    have c0 : W.cell? ⟨w.heap.size + 1, 0, none⟩ = some (.int .i64 (maxd (pre.map Hit.key) : Int)) := hn.cell rfl
    have f0 := hn.free 0
    have e : Hid (maxd ((pre ++ [x]).map Hit.key) = max (maxd (pre.map Hit.key)) x.d) := by show _ = _; simp [maxd_snoc, Hit.key]
    gi_wp2
    all_goals
      refine ⟨KeepsOthers.setCell _ _ _, (KeepC.refl _ W).setCell _ _ (by simp [But]), ?_, hB.setCell (p := ⟨w.heap.size + 1, 0, none⟩) (by simp) _⟩
      first
      | (rw [e.out, show max (maxd (pre.map Hit.key)) x.d = x.d from by omega]; simpa using hn.set 0 (.int .i64 x.d))
      | (rw [e.out, show max (maxd (pre.map Hit.key)) x.d = maxd (pre.map Hit.key) from by omega]; simpa using hn.set 0 (.int .i64 (maxd (pre.map Hit.key))))
  case done =>
    rintro D ys W hD hys ⟨hn, hB⟩ hK
    have c0 : W.cell? ⟨w.heap.size + 1, 0, none⟩ = some (.int .i64 (maxd (ys.map Hit.key) : Int)) := hn.cell rfl
    have hl : maxd (ys.map Hit.key) = t.depth := by rw [hys]; have := maxd_pre t 1; omega
    have Hl := Lib.hid hl
    clear hys hl
    gi_wp2
    refine ⟨by simp, .inl ⟨_, _, rfl, run_takeDeferred hK, ?_⟩⟩
    exact ⟨_, results_tmp rfl _ _ _, by rw [Hl.out]; rfl, hB.trans (belowK_b (w := w) (Nat.le_refl _) W D _ _ (by simp at hD; omega) hK rfl rfl)⟩
  case stop =>
    rintro D c pre W _ _ h _
    exact h.elim
end Go.Proofs.Ytejpgifofkiofaa
