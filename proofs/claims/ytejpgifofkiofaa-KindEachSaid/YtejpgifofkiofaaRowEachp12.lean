/-
  term.turned: a term whose loose indexes a function turns.
-/
import Derived.Test.YtejpgifofkiofaaRowEachp9
import Derived.Test.YtejpgifofkiofaaRowEachp10
import Derived.Test.YtejpgifofkiofaaRowEachp11
set_option linter.unusedVariables false
set_option linter.unusedSimpArgs false
namespace Go.Proofs.Ytejpgifofkiofaa
open Go.RowKit

namespace Tm
mutual
def turn {σ : Type} (f : σ → Int → σ × Int) : Tm → σ → Int → σ × Tm
  | .mk b k i a, s, n =>
    ((turns f a (if k = 0 ∧ n + (b.length : Nat) ≤ i then (f s (i - (n + (b.length : Nat)))).1 else s) (n + (b.length : Nat))).1,
      .mk b k (if k = 0 ∧ n + (b.length : Nat) ≤ i then n + (b.length : Nat) + (f s (i - (n + (b.length : Nat)))).2 else i) (turns f a (if k = 0 ∧ n + (b.length : Nat) ≤ i then (f s (i - (n + (b.length : Nat)))).1 else s) (n + (b.length : Nat))).2)
def turns {σ : Type} (f : σ → Int → σ × Int) : List Tm → σ → Int → σ × List Tm
  | [], s, _ => (s, [])
  | t :: l, s, n => ((turns f l (turn f t s n).1 n).1, (turn f t s n).2 :: (turns f l (turn f t s n).1 n).2)
end
variable {σ : Type} (f : σ → Int → σ × Int)
theorem turn_hit (b : List Ty) (i : Int) (a : List Tm) (s : σ) (n m : Int) (hm : n + (b.length : Int) = m) (h : m ≤ i) :
    turn f (.mk b 0 i a) s n = ((turns f a (f s (i - m)).1 m).1, .mk b 0 (m + (f s (i - m)).2) (turns f a (f s (i - m)).1 m).2) := by
  subst hm; rw [turn]; simp only [true_and, if_pos h]
theorem turn_miss (b : List Ty) (k i : Int) (a : List Tm) (s : σ) (n m : Int) (hm : n + (b.length : Int) = m) (h : ¬ (k = 0 ∧ m ≤ i)) :
    turn f (.mk b k i a) s n = ((turns f a s m).1, .mk b k i (turns f a s m).2) := by
  subst hm; rw [turn]; simp only [if_neg h]
theorem turns_append (l l' : List Tm) (s : σ) (n : Int) : turns f (l ++ l') s n = ((turns f l' (turns f l s n).1 n).1, (turns f l s n).2 ++ (turns f l' (turns f l s n).1 n).2) := by
  induction l generalizing s with
  | nil => simp [turns]
  | cons t l ih => simp only [List.cons_append, turns, ih]
theorem turns_len (l : List Tm) (s : σ) (n : Int) : (turns f l s n).2.length = l.length := by
  induction l generalizing s with
  | nil => simp [turns]
  | cons t l ih => simp [turns, ih]
theorem turns_take (l : List Tm) (s : σ) (n : Int) (j : Nat) (h : j < l.length) :
    turns f (l.take (j + 1)) s n = ((turn f l[j] (turns f (l.take j) s n).1 n).1, (turns f (l.take j) s n).2 ++ [(turn f l[j] (turns f (l.take j) s n).1 n).2]) := by
  rw [List.take_succ_eq_append_getElem h, turns_append]; simp [turns]
end Tm

theorem gb_trans {a w w' : World} {row : Option Nat} (h : a.grownBy w row) (k : w.grownBy w' row) : a.grownBy w' row :=
  ⟨k.os.trans h.os, k.tape.trans h.tape, k.output.trans h.output, Nat.le_trans h.size k.size, fun i hi hne => (k.block i (Nat.lt_of_lt_of_le hi h.size) hne).trans (h.block i hi hne)⟩
theorem gb_below {w w' : World} (h : Below w.heap.size w w') (row : Option Nat) : w.grownBy w' row :=
  ⟨h.os, h.tape, h.output, h.size, fun i hi _ => h.block i hi⟩
theorem gb_setCell {a w : World} {row : Option Nat} (h : a.grownBy w row) {p : Addr} (hp : a.heap.size ≤ p.block) (v : Value) : a.grownBy (w.setCell p v) row :=
  ⟨h.os, h.tape, h.output, by simpa using h.size, fun i hi hne => (Below.heap_setCell _ _ _ _ (by omega)).trans (h.block i hi hne)⟩
theorem gb_grown {a w w' : World} {row r2 : Option Nat} (h : a.grownBy w row) (k : w.grownBy w' r2) (hr : ∀ k, r2 = some k → a.heap.size ≤ k) : a.grownBy w' row :=
  ⟨k.os.trans h.os, k.tape.trans h.tape, k.output.trans h.output, Nat.le_trans h.size k.size, fun i hi hne => (k.block i (Nat.lt_of_lt_of_le hi h.size) (fun e => by have := hr i e.symm; omega)).trans (h.block i hi hne)⟩
theorem Acc.other {α : Type} {r : Rp α} {E : TypeId} {base : Nat} {F : Nat → Prop} {w w' : World} {v : Value} {l : List α} {row : Option Nat} (h : Acc r E base F w v l) (hg : w.grownBy w' row) (hr : ∀ k, row = some k → ¬ F k ∧ k < base) : Acc r E base F w' v l := by
  obtain ⟨X, h1, h2, h3⟩ := h
  refine ⟨X, h1, h2.kept hg ?_, fun i hi => ?_⟩
  · cases hv : v.ownBlock with
    | none => exact .inl rfl
    | some k => exact .inr fun e => by have := (h2.lt k hv).1; have := (hr k e.symm).2; omega
  · obtain ⟨x, hx, hrr⟩ := h3 i hi
    exact ⟨x, hx, r.keep hrr ((Keep.refl _ _).grown hg fun k hk hf => (hr k hk).1 hf.1)⟩

def TurnPost {σ : Type} (row : Option Nat) (St : σ → World → Prop) (p : σ × Tm) (w : World) (e : Ending) (w' : World) : Prop :=
  ∃ b k i a, e = .returned (.agg #[b, k, i, a]) ∧ IsTm (fun q => w.heap.size ≤ q) w' b k i a p.2 ∧ St p.1 w' ∧ w.grownBy w' row

structure TurnerC  (row : Option Nat) (ro : Nat → Prop) {σ : Type} (St : σ → World → Prop) (f : σ → Int → σ × Int) : Prop where
  call : ∀ s x w, St s w → 0 ≤ x → x ≤ 9223372036854775807 → Calls Try.prog 90 #[.int .i64 x] w fun e w' => e = .returned (.int .i64 (f s x).2) ∧ St (f s x).1 w' ∧ w.grownBy w' row
  keep : ∀ s w w', St s w → (∀ k, ro k → w'.heap[k]? = w.heap[k]?) → St s w'
  sub : ∀ k, row = some k → ro k
  rng : ∀ s x, 0 ≤ x → 0 ≤ (f s x).2 ∧ ((f s x).2 ≤ x ∨ (f s x).2 ≤ 1000)

def TurnedKC  {σ : Type} (row : Option Nat) (ro : Nat → Prop) (St : σ → World → Prop) (f : σ → Int → σ × Int) (t : Tm) : Prop :=
  ∀ (F : Nat → Prop) (w0 : World) (b0 k0 i0 a0 : Value), IsTm F w0 b0 k0 i0 a0 t → (∀ k, row = some k → ¬ F k) → ∀ (s : σ) (n : Int) (w : World), Keep F w0 w → (∀ k, ro k → k < w.heap.size) → St s w → 0 ≤ n → n + t.full ≤ 90000 → t.Fit →
    Calls Try.prog 89 #[.agg #[b0, k0, i0, a0], .int .i64 n, .func (.func 90) #[] #[]] w (TurnPost row St (Tm.turn f t s n) w)

set_option maxRecDepth 100000 in
set_option maxHeartbeats 2000000 in
theorem turned_kC  {σ : Type} {row : Option Nat} {ro : Nat → Prop} {St : σ → World → Prop} {f : σ → Int → σ × Int} (hT : TurnerC  row ro St f) : ∀ t : Tm, TurnedKC  row ro St f t := Tm.ind fun binds k i args ih => by
  intro F w0 b0 k0 i0 a0 ht hrF s n w hw hrw hSt hn0 hn1 hfit
  obtain ⟨rfl, rfl, hb, hs⟩ := ht.inv
  obtain ⟨pa, pc, rfl⟩ := hb.shape
  obtain ⟨a, c, rfl⟩ := hs.shape
  simp only [Tm.binds, Tm.kind, Tm.index, Tm.args] at *
  obtain ⟨_, hm, bl, off, PA, A, PN, PC, N, C, Kd, Ix, ha, h1, h2, h3, h4, h5⟩ := sl_cells6 hs
  clear hs ht
  rw [Tm.full_eq] at hn1
  obtain ⟨hi0, hi1, hfa⟩ := Tm.fit_iff.1 hfit
  have hnl : binds.length ≤ 90000 := by have := Ty.le_sizes binds; omega
  have hal : args.length ≤ 90000 := by have := Tm.len_fulls args; omega
  obtain ⟨m, hmm⟩ : ∃ m : Int, n + (binds.length : Int) = m := ⟨_, rfl⟩
  have hm0 : 0 ≤ m := by omega
  have hm1 : m ≤ 90000 := by have := Ty.le_sizes binds; omega
  have hs1 : IntKind.i64.wrap m = m := IntWalk.i64_in _ (by omega)
  have Harr : Hid (∀ w' : World, Below w.heap.size w w' → Calls Try.prog 46 #[.agg #[.slice none 0 0, .int .i64 0], .slice pa binds.length pc] w' (FreshTy (.mk (binds ++ []) 0) w')) := fun w' hb' => by
    have h := arrow_k (isTy_mk (isSl_nil rpTy F w') 0) (hb.keep (hw.below hb')) (by simp [Ty.size, Ty.sizes]; have := Ty.le_sizes binds; omega)
    exact h
  have Hih : Hid (∀ j (h : j < args.length) (s : σ) (w' : World), Keep F w0 w' → (∀ k, ro k → k < w'.heap.size) → St s w' →
      Calls Try.prog 89 #[.agg #[.slice (PA j) (PN j) (PC j), .int .i64 (Kd j), .int .i64 (Ix j), .slice (A j) (N j) (C j)], .int .i64 m, .func (.func 90) #[] #[]] w' (TurnPost row St (Tm.turn f args[j] s m) w')) :=
    fun j h s w' hw hr hs => ih _ (List.getElem_mem h) _ _ _ _ _ _ (h5 j h) hrF s m w' hw hr hs hm0 (by have := Tm.full_mem (List.getElem_mem h); have := Ty.le_sizes binds; omega) (hfa _ (List.getElem_mem h))
  have HrF := Lib.hid hrF
  have HSt := Lib.hid hSt
  have Hrw := Lib.hid hrw
  have HT := Lib.hid hT
  clear ih h5 hb hfit hfa hrF hSt hrw hT
  obtain ⟨i2, hi2, hz0, hz1, hz2⟩ := info_parts infoT
  by_cases hk : k = 0
  · subst hk
    have hk0 : ((0 : Int) == 0) = true := rfl
    by_cases hge : i ≥ m
    · have HC : Hid (m ≤ i) := hge
      have hq1 : IntKind.i64.wrap (i - m) = i - m := IntWalk.i64_in _ (by omega)
      go_enter Try.func89, Try.ntmps89
      go_wp2_with fail
      try rw [hmm]
      try rw [hs1]
      obtain ⟨w3, hw3⟩ : ∃ w3, (w.alloc (.cells #[.slice pa binds.length pc, .int .i64 0, .int .i64 i, .slice a args.length c] 37)).alloc (.cells #[.slice none 0 0, .int .i64 0, .int .i64 0, .slice none 0 0] 37) = w3 := ⟨_, rfl⟩
      have B3 : Below w.heap.size w w3 := by rw [← hw3]; exact ((Below.refl _ _).alloc (Nat.le_refl _) _).alloc (by simp) _
      have x0 : Blk w3 w.heap.size #[.slice pa binds.length pc, .int .i64 0, .int .i64 i, .slice a args.length c] 37 := by rw [← hw3]; exact (Blk.new _ _ _ rfl).alloc _
      have x2 : Blk w3 (w.heap.size + 1) #[.slice none 0 0, .int .i64 0, .int .i64 0, .slice none 0 0] 37 := by rw [← hw3]; exact Blk.new _ _ _ (by simp)
      have hsz1 : w3.heap.size = w.heap.size + 2 := by rw [← hw3]; simp
      try rw [hw3]
      clear hw3
      refine wp_region_noPanic (wp_region_need (S := fun w' => w'.cell? ⟨w.heap.size, 0, none⟩ = some (.slice pa binds.length pc) ∧ w'.cell? ⟨w.heap.size, 1, none⟩ = some (.int .i64 0) ∧ w'.cell? ⟨w.heap.size, 2, none⟩ = some (.int .i64 i)) (by kernel_rfl) ?_)
      have hS : (w3.drew).cell? ⟨w.heap.size, 0, none⟩ = some (.slice pa binds.length pc) ∧ (w3.drew).cell? ⟨w.heap.size, 1, none⟩ = some (.int .i64 0) ∧ (w3.drew).cell? ⟨w.heap.size, 2, none⟩ = some (.int .i64 i) := ⟨x0.drew.cell rfl, x0.drew.cell rfl, x0.drew.cell rfl⟩
      refine wpN_take (i := 0) (v := ?v1) rfl (by kernel_rfl) (fun _ _ _ h => h) hS (Or.inl ⟨by rfl, ?hy1⟩) ?hr1
      case hy1 => (intro wS hSw; (try dsimp only at hSw); go_simp; (try with_reducible rfl))
      try simp only [Act.put, List.setIfInBounds_toArray, List.set_cons_zero, List.set_cons_succ, List.getElem_toArray, List.getElem_cons_zero, List.getElem_cons_succ]
      refine wpN_take (i := 1) (v := ?v2) rfl (by kernel_rfl) (fun _ _ _ h => h) hS (Or.inl ⟨by rfl, ?hy2⟩) ?hr2
      case hy2 => (intro wS hSw; (try dsimp only at hSw); go_simp; (try with_reducible rfl))
      try simp only [Act.put, List.setIfInBounds_toArray, List.set_cons_zero, List.set_cons_succ, List.getElem_toArray, List.getElem_cons_zero, List.getElem_cons_succ]
      refine wpN_take (i := 2) (v := ?v3) rfl (by kernel_rfl) (fun _ _ _ h => h) hS (Or.inl ⟨by rfl, ?hy3⟩) ?hr3
      case hy3 => (intro wS hSw; (try dsimp only at hSw); go_simp; (try with_reducible rfl))
      try simp only [Act.put, List.setIfInBounds_toArray, List.set_cons_zero, List.set_cons_succ, List.getElem_toArray, List.getElem_cons_zero, List.getElem_cons_succ]
      refine wpN_take (i := 5) (v := ?v4) rfl (by kernel_rfl) (fun _ _ _ h => h) hS (Or.inl ⟨by rfl, ?hy4⟩) ?hr4
      case hy4 => (intro wS hSw; (try dsimp only at hSw); go_simp; (try with_reducible rfl))
      try simp only [Act.put, List.setIfInBounds_toArray, List.set_cons_zero, List.set_cons_succ, List.getElem_toArray, List.getElem_cons_zero, List.getElem_cons_succ]
      refine wpN_take (i := 6) (v := ?v5) rfl (by kernel_rfl) (fun _ _ _ h => h) hS (Or.inl ⟨by rfl, ?hy5⟩) ?hr5
      case hy5 => (intro wS hSw; (try dsimp only at hSw); go_simp; (try with_reducible rfl))
      try simp only [Act.put, List.setIfInBounds_toArray, List.set_cons_zero, List.set_cons_succ, List.getElem_toArray, List.getElem_cons_zero, List.getElem_cons_succ]
      refine wpN_gathersP [(3, 18), (4, 19), (7, 22), (8, 7)] 1 (fun j v x y w' => match j with
        | 3 => ∃ qa qc, v = .agg #[.slice qa binds.length qc, .int .i64 0] ∧ IsSl rpTy (fun q => x ≤ q ∧ q < y) w' (.slice qa binds.length qc) binds
        | 4 => True
        | 7 => True
        | _ => v = .pointer (some ⟨x, 0, none⟩) ∧ x < y ∧ Blk w' x #[.slice none 0 0, .int .i64 0, .int .i64 0, .slice none 0 0] 37) (fun j u => match j with
        | 4 => ∃ qa qc, u 3 = .agg #[.slice qa binds.length qc, .int .i64 0] ∧ u 4 = .slice qa binds.length qc
        | 7 => ∃ qa qc, u 4 = .slice qa binds.length qc ∧ u 7 = .agg #[.slice qa binds.length qc, .int .i64 0, .int .i64 i, .slice none 0 0]
        | _ => True) rfl rfl (by kernel_rfl) ?gst ?gst' hS ?gop ?gend
      case gst =>
        intro j v x y wa wb h hb
        split at h
        · obtain ⟨a, c, e, ht⟩ := h
          exact ⟨a, c, e, ht.keep ((Keep.refl _ _).below hb)⟩
        · trivial
        · trivial
        · exact ⟨h.1, h.2.1, h.2.2.below hb⟩
      case gst' =>
        intro j hj u u' hu h
        simp only [List.map_cons, List.map_nil, List.mem_cons, List.not_mem_nil, or_false] at hj
        rcases hj with rfl | rfl | rfl | rfl
        · trivial
        · obtain ⟨qa, qc, e1, e2⟩ := h
          exact ⟨qa, qc, (hu 3 (.inr (by kernel_rfl))).trans e1, (hu 4 (.inl rfl)).trans e2⟩
        · obtain ⟨qa, qc, e1, e2⟩ := h
          exact ⟨qa, qc, (hu 4 (.inr (by kernel_rfl))).trans e1, (hu 7 (.inl rfl)).trans e2⟩
        · trivial
      case gop =>
        intro x hx u w' hdep hB' hS'
        obtain ⟨q1, q2, q3⟩ := hS'
        have hbw : Below w3.heap.size w3 w' := (Below.refl _ _).drew.trans hB'
        simp only [List.mem_cons, List.not_mem_nil, or_false] at hx
        rcases hx with rfl | rfl | rfl | rfl
        · refine wpOp_step (i := 3) rfl (fun K hK => ?_)
          have hK := Lib.hid hK
          simp only [fills, List.foldl, Act.put, List.setIfInBounds_toArray, List.set_cons_zero, List.set_cons_succ, List.getElem_toArray, List.getElem_cons_zero, List.getElem_cons_succ]
          go_simp
          refine (Harr.out w' (B3.trans (hbw.mono B3.size))).mono ?_
          rintro e w6 ⟨s', b', rfl, hT, hb6⟩
          obtain ⟨qa, qc, rfl, rfl⟩ := hT.shape
          have hSl := hT.inv.2
          simp only [List.append_nil, args_mk', base_mk'] at hSl ⊢
          have hKp : Keep (fun _ => True) w' w6 := (Keep.refl _ _).below hb6
          exact hK.out _ _ ⟨_, rfl, ⟨_, _, rfl, hSl.weaken (by decide) fun q h1 h2 => ⟨h2, h1⟩⟩, trivial, hb6, hKp _ _ _ trivial q1, hKp _ _ _ trivial q2, hKp _ _ _ trivial q3⟩
        · obtain ⟨_, _, _, qa, qc, e1, _⟩ := hdep 3 (by simp) (by kernel_rfl)
          refine wpOp_step (i := 4) rfl (fun K hK => ?_)
          have hK := Lib.hid hK
          simp only [fills, List.foldl, Act.put, List.setIfInBounds_toArray, List.set_cons_zero, List.set_cons_succ, List.getElem_toArray, List.getElem_cons_zero, List.getElem_cons_succ]
          rw [e1]
          go_simp
          exact hK.out _ _ ⟨.slice qa binds.length qc, by simp only [fills, List.foldl, Act.put, List.setIfInBounds_toArray, List.set_cons_zero, List.set_cons_succ, List.getElem_toArray, List.getElem_cons_zero, List.getElem_cons_succ]; simp [upd, e1], trivial, ⟨qa, qc, e1, rfl⟩, Below.refl _ _, q1, q2, q3⟩
        · obtain ⟨⟨qa, qc, e0, e1⟩, _⟩ := hdep 4 (by simp) (by kernel_rfl)
          refine wpOp_step (i := 7) rfl (fun K hK => ?_)
          have hK := Lib.hid hK
          simp only [fills, List.foldl, Act.put, List.setIfInBounds_toArray, List.set_cons_zero, List.set_cons_succ, List.getElem_toArray, List.getElem_cons_zero, List.getElem_cons_succ]
          rw [e1]
          go_simp
          exact hK.out _ _ ⟨.agg #[.slice qa binds.length qc, .int .i64 0, .int .i64 i, .slice none 0 0], by simp only [fills, List.foldl, Act.put, List.setIfInBounds_toArray, List.set_cons_zero, List.set_cons_succ, List.getElem_toArray, List.getElem_cons_zero, List.getElem_cons_succ]; simp [upd, e1, e0], trivial, ⟨qa, qc, e1, rfl⟩, Below.refl _ _, q1, q2, q3⟩
        · refine wpOp_step (i := 8) rfl (fun K hK => ?_)
          have hK := Lib.hid hK
          simp only [fills, List.foldl, Act.put, List.setIfInBounds_toArray, List.set_cons_zero, List.set_cons_succ, List.getElem_toArray, List.getElem_cons_zero, List.getElem_cons_succ]
          go_simp
          have hb6 : Below w'.heap.size w' (w'.alloc (.cells #[.slice none 0 0, .int .i64 0, .int .i64 0, .slice none 0 0] 37)) := (Below.refl _ _).alloc (Nat.le_refl _) _
          have hKp : Keep (fun _ => True) w' (w'.alloc (.cells #[.slice none 0 0, .int .i64 0, .int .i64 0, .slice none 0 0] 37)) := (Keep.refl _ _).below hb6
          exact hK.out _ _ ⟨_, rfl, ⟨rfl, by simp, Blk.new _ _ _ rfl⟩, trivial, hb6, hKp _ _ _ trivial q1, hKp _ _ _ trivial q2, hKp _ _ _ trivial q3⟩
      case gend =>
        intro u lo hi w' hΦ hΨ hB' hS'
        have hbw : Below w3.heap.size w3 w' := (Below.refl _ _).drew.trans hB'
        obtain ⟨⟨qa, qc, e1, V1⟩, n1, m1, o1⟩ := hΦ.1 3 (by simp) rfl
        obtain ⟨⟨e2, r2, Z2⟩, n2, m2, o2⟩ := hΦ.1 8 (by simp) rfl
        obtain ⟨qa', qc', e3, e4⟩ := hΨ 4 (by simp)
        obtain ⟨qa2, qc2, e5, e6⟩ := hΨ 7 (by simp)
        obtain ⟨rfl, rfl⟩ : qa' = qa ∧ qc' = qc := by rw [e1] at e3; cases e3; exact ⟨rfl, rfl⟩
        obtain ⟨rfl, rfl⟩ : qa2 = qa' ∧ qc2 = qc' := by rw [e4] at e5; cases e5; exact ⟨rfl, rfl⟩
        clear e3 e5
        have k12 := hΦ.2 3 (by simp) 8 (by simp) rfl rfl (by decide)
        clear hΦ hΨ
        simp only [fills, List.foldl, Act.put, List.setIfInBounds_toArray, List.set_cons_zero, List.set_cons_succ, List.getElem_toArray, List.getElem_cons_zero, List.getElem_cons_succ]
        rw [e1, e2, e4, e6]
        clear e1 e2 e4 e6
        have hsz : w3.drew.heap.size = w3.heap.size := rfl
        rw [hsz, hsz1] at n1 n2
        generalize lo 8 = p at *
        have U1 := Lib.hid (V1.weaken (F' := fun q => w.heap.size + 2 ≤ q ∧ q ≠ p) (by decide) fun q _ h => ⟨by omega, by omega⟩)
        clear V1 k12 n1 m1 o1 m2 r2 o2 hsz
        have B2 := B3.trans (hbw.mono B3.size)
        have y0 := x0.below hbw
        have y2 := x2.below hbw
        have r0 : w'.cell? ⟨p, 0, none⟩ = some (.slice none 0 0) := Z2.cell rfl
        have r1 : w'.cell? ⟨p, 1, none⟩ = some (.int .i64 0) := Z2.cell rfl
        have r2 : w'.cell? ⟨p, 2, none⟩ = some (.int .i64 0) := Z2.cell rfl
        have r3 : w'.cell? ⟨p, 3, none⟩ = some (.slice none 0 0) := Z2.cell rfl
        have f0 := Z2.free 0
        have f1 := Z2.free 1
        have f2 := Z2.free 2
        have f3 := Z2.free 3
        refine wpN_step (i := 9) (by kernel_rfl) rfl (fun K hK => ?_)
        go_simp
        refine hK.out _ _ (fun h => absurd h (by decide)) ?_
        clear hK K
        try simp only [Act.put, List.setIfInBounds_toArray, List.set_cons_zero, List.set_cons_succ, List.getElem_toArray, List.getElem_cons_zero, List.getElem_cons_succ]
        refine wpN_done (by kernel_rfl) ?_
        refine NoPanic.normal ?_
        obtain ⟨w2, hw2⟩ : ∃ w2, ((((w'.setCell ⟨p, 0, none⟩ (.slice qa2 binds.length qc2)).setCell ⟨p, 1, none⟩ (.int .i64 0)).setCell ⟨p, 2, none⟩ (.int .i64 i)).setCell ⟨p, 3, none⟩ (.slice none 0 0)) = w2 := ⟨_, rfl⟩
        have hlp := Z2.lt
        have B5 : Below w.heap.size w w2 := by rw [← hw2]; exact ((((B2.setCell (by simp; omega) _).setCell (by simp; omega) _).setCell (by simp; omega) _).setCell (by simp; omega) _)
        have z0 : Blk w2 w.heap.size #[.slice pa binds.length pc, .int .i64 0, .int .i64 i, .slice a args.length c] 37 := by rw [← hw2]; exact ((((y0.far _ _ (by simp; omega)).far _ _ (by simp; omega)).far _ _ (by simp; omega)).far _ _ (by simp; omega))
        have z2 : Blk w2 (w.heap.size + 1) #[.slice none 0 0, .int .i64 0, .int .i64 0, .slice none 0 0] 37 := by rw [← hw2]; exact ((((y2.far _ _ (by simp; omega)).far _ _ (by simp; omega)).far _ _ (by simp; omega)).far _ _ (by simp; omega))
        have zp : Blk w2 p #[.slice qa2 binds.length qc2, .int .i64 0, .int .i64 i, .slice none 0 0] 37 := by rw [← hw2]; exact ((((Z2.set 0 _).set 1 _).set 2 _).set 3 _)
        have KU : Keep (fun q => w.heap.size + 2 ≤ q ∧ q ≠ p) w' w2 := by rw [← hw2]; exact ((((Keep.refl _ _).setCell _ _ (by simp)).setCell _ _ (by simp)).setCell _ _ (by simp)).setCell _ _ (by simp)
        have U2 := Lib.hid (U1.out.keep KU)
        rw [hw2]
        clear hw2 KU U1 y0 y2 Z2 r0 r1 r2 r3 f0 f1 f2 f3 B2 hbw hB' hS' hS x0 x2 B3 hlp
        have hlp2 := zp.lt
        obtain ⟨N2, hN2⟩ : ∃ n, w2.heap.size = n := ⟨_, rfl⟩
        have HN2 := Lib.hid hN2; clear hN2
        have hpN : p < N2 := by have := HN2.out; omega
        have St2 := Lib.hid (HT.out.keep s w w2 HSt.out fun k hk => B5.block k (Hrw.out k hk))
        have c01 : w2.cell? ⟨w.heap.size, 1, none⟩ = some (.int .i64 0) := z0.cell rfl
        have c02 : w2.cell? ⟨w.heap.size, 2, none⟩ = some (.int .i64 i) := z0.cell rfl
        have c03 : w2.cell? ⟨w.heap.size, 3, none⟩ = some (.slice a args.length c) := z0.cell rfl
        have U3 := Lib.hid (U2.out.weaken (F' := fun q => w.heap.size + 2 ≤ q ∧ q ≠ p ∧ q < N2) (by decide) fun q h1 h2 => ⟨h2.1, h2.2, by have := HN2.out; omega⟩)
        clear U2
        have Hr2 : Hid (∀ k, ro k → k < w.heap.size) := Hrw.out
        go_wp2_with fail
        refine (HT.out.call s (i - m) w2 St2.out (by omega) (by omega)).mono ?_
        rintro e w5 ⟨rfl, hSt5, hg5⟩
        have hrow : ∀ q, w.heap.size ≤ q → row ≠ some q := fun q hq e => by have := Hr2.out q (HT.out.sub q e); omega
        have G5 := gb_trans (gb_below B5 row) hg5
        have y0 := z0.grown hg5 (hrow _ (Nat.le_refl _))
        have y2 := z2.grown hg5 (hrow _ (by omega))
        have yp := zp.grown hg5 (hrow _ (by omega))
        have U5 := Lib.hid (U3.out.keep ((Keep.refl _ _).grown hg5 fun k hk hf => hrow k (by omega) hk))
        have hsg := hg5.size
        have Hrng := HT.out.rng s (i - m) (by omega)
        have HSt5 := Lib.hid hSt5
        clear hSt5 z0 z2 zp U3 c01 c02 c03 B5 hlp2 St2
        obtain ⟨fx, hfx⟩ : ∃ fx, (f s (i - m)).2 = fx := ⟨_, rfl⟩
        have Hfx := Lib.hid hfx
        rw [hfx] at Hrng
        rw [hfx]
        clear hfx
        have hwr2 : IntKind.i64.wrap (m + fx) = m + fx := IntWalk.i64_in _ (by omega)
        obtain ⟨jx, hjx⟩ : ∃ jx, m + fx = jx := ⟨_, rfl⟩
        have HJ := Lib.hid hjx
        rw [hjx] at hwr2
        have c03 : w5.cell? ⟨w.heap.size, 3, none⟩ = some (.slice a args.length c) := y0.cell rfl
        have c52 : w5.cell? ⟨p, 2, none⟩ = some (.int .i64 i) := yp.cell rfl
        have f52 := yp.free 2
        have hlp5 := yp.lt
        go_wp2_with fail
        obtain ⟨w7, hw7⟩ : ∃ w7, w5.setCell ⟨p, 2, none⟩ (.int .i64 jx) = w7 := ⟨_, rfl⟩
        have G7 : w.grownBy w7 row := by rw [← hw7]; exact gb_setCell G5 (by simp; omega) _
        have s2 : Blk w7 (w.heap.size + 1) #[.slice none 0 0, .int .i64 0, .int .i64 0, .slice none 0 0] 37 := by rw [← hw7]; exact y2.far _ _ (by simp; omega)
        have sp : Blk w7 p #[.slice qa2 binds.length qc2, .int .i64 0, .int .i64 jx, .slice none 0 0] 37 := by rw [← hw7]; exact yp.set 2 _
        have U7 := Lib.hid (U5.out.keep ((Keep.refl _ _).setCell ⟨p, 2, none⟩ (.int .i64 jx) (by simp)))
        rw [hw7] at U7
        have hs7 : N2 ≤ w7.heap.size := by rw [← hw7]; have := HN2.out; simp; omega
        have St7 : Hid (St (f s (i - m)).1 w7) := by
          rw [← hw7]
          exact HT.out.keep _ _ _ HSt5.out fun k hk => Below.heap_setCell _ _ _ _ (by have := Hr2.out k hk; simp; omega)
        try rw [hw7]
        clear hw7 G5 y0 y2 yp U5 c03 c52 f52 hlp5 hg5 hsg HSt5
        have hrowN : Hid (∀ k, row = some k → ¬ (N2 ≤ k) ∧ k < N2) := fun k hk => by have := Hr2.out k (HT.out.sub k hk); omega
        have Hrow := Lib.hid hrow; clear hrow
        have hacc0 : Acc rpTm 37 N2 (fun q => N2 ≤ q) w7 (.slice none 0 0) [] := Acc.nil _ _ _ _ _
        try go_wp2_with fail
        go_loopw [48] (fun ii wr => ∃ (j : Nat) (v : Value), ii = .int .i64 j ∧ j ≤ args.length ∧ N2 ≤ wr.heap.size ∧
            w.grownBy wr row ∧ Blk wr (w.heap.size + 1) #[.slice none 0 0, .int .i64 0, .int .i64 0, .slice none 0 0] 37 ∧ Blk wr p #[.slice qa2 binds.length qc2, .int .i64 0, .int .i64 jx, v] 37 ∧
            Hid (IsSl rpTy (fun q => w.heap.size + 2 ≤ q ∧ q ≠ p ∧ q < N2) wr (.slice qa2 binds.length qc2) binds) ∧ Hid (St (Tm.turns f (args.take j) (f s (i - m)).1 m).1 wr) ∧
            Acc rpTm 37 N2 (fun q => N2 ≤ q) wr v (Tm.turns f (args.take j) (f s (i - m)).1 m).2) (fun ii _ => args.length - (intOf ii).toNat)
        case atStart => exact ⟨0, _, rfl, by omega, hs7, G7, s2, sp, U7.out, St7.out, hacc0⟩
        case round =>
          clear G7 s2 sp U7 hacc0 hs7 St7
          obtain ⟨j, v, rfl, hj, hsN, hb, hres, hout, hbi, hst, hacc⟩ := hrel
          have hszp := hout.lt
          have hszb := hres.lt
          have Hacc := Lib.hid hacc; clear hacc
          by_cases hlt : j < args.length
          · obtain ⟨rfl, hF⟩ := ha (by omega)
            clear ha
            have hkp : Keep F w0 wr := hw.grown hb fun k hk => HrF.out k hk
            have e1 := hkp _ _ _ hF (h1 j hlt)
            have e2 := hkp _ _ _ hF (h2 j hlt)
            have e3 := hkp _ _ _ hF (h3 j hlt)
            have e4 := hkp _ _ _ hF (h4 j hlt)
            have hlt0 : (0 : Int) ≤ (j : Int) := Int.natCast_nonneg _
            have hlt1 : (j : Int) < (args.length : Int) := by omega
            have Hl : Hid ((Tm.turns f (args.take j) (f s (i - m)).1 m).2.length = j) := by show _ = _; rw [Tm.turns_len, List.length_take]; omega
            have Hne : Hid (∀ q, q < N2 → v.ownBlock ≠ some q) := fun q hq e => by have := (Hacc.out.base_le q e).1; omega
            have Htk := Lib.hid (Tm.turns_take f args (f s (i - m)).1 m j hlt)
            have hblw : bl < wr.heap.size := Keep.lt e1
            go_wp2_with fail
            obtain ⟨wa, hwa⟩ : ∃ wa, wr.alloc (.cells #[.slice (PA j) (PN j) (PC j), .int .i64 (Kd j), .int .i64 (Ix j), .slice (A j) (N j) (C j)] 37) = wa := ⟨_, rfl⟩
            obtain ⟨qn, hqn⟩ : ∃ qn, wr.heap.size = qn := ⟨_, rfl⟩
            have ba : Below wr.heap.size wr wa := by rw [← hwa]; exact (Below.refl _ _).alloc (Nat.le_refl _) _
            have xa : Blk wa qn #[.slice (PA j) (PN j) (PC j), .int .i64 (Kd j), .int .i64 (Ix j), .slice (A j) (N j) (C j)] 37 := by rw [← hwa]; exact Blk.new _ _ _ hqn.symm
            have hba := gb_trans hb (gb_below ba row)
            have hresa := hres.below ba
            have houta := hout.below ba
            have Hacca := Lib.hid (Hacc.out.below ba)
            have hbia := Lib.hid (hbi.out.keep ((Keep.refl _ _).below ba))
            have hsta := Lib.hid (HT.out.keep _ _ _ hst.out fun k hk => ba.block k (by have := Hr2.out k hk; have := hb.size; omega))
            have hown : Hid (v.ownBlock ≠ some qn) := fun e => by have := (Hacc.out.base_le qn e).2; omega
            have hsNa : N2 ≤ wa.heap.size := Nat.le_trans hsN ba.size
            have hqN : N2 ≤ qn := by omega
            try rw [hwa]
            try rw [hqn]
            clear hwa hqn ba hb hres hout Hacc hbi hst hsN hszp hszb hblw e1 e2 e3 e4 hkp
            have hszp := houta.lt
            have hszb := hresa.lt
            refine wp_region_noPanic (wp_region_need (S := fun w' => w'.cell? ⟨p, 3, none⟩ = some v ∧ w'.cell? ⟨qn, 0, none⟩ = some (.slice (PA j) (PN j) (PC j)) ∧ w'.cell? ⟨qn, 1, none⟩ = some (.int .i64 (Kd j)) ∧ w'.cell? ⟨qn, 2, none⟩ = some (.int .i64 (Ix j)) ∧ w'.cell? ⟨qn, 3, none⟩ = some (.slice (A j) (N j) (C j))) (by kernel_rfl) ?_)
            have hS : (wa.drew).cell? ⟨p, 3, none⟩ = some v ∧ (wa.drew).cell? ⟨qn, 0, none⟩ = some (.slice (PA j) (PN j) (PC j)) ∧ (wa.drew).cell? ⟨qn, 1, none⟩ = some (.int .i64 (Kd j)) ∧ (wa.drew).cell? ⟨qn, 2, none⟩ = some (.int .i64 (Ix j)) ∧ (wa.drew).cell? ⟨qn, 3, none⟩ = some (.slice (A j) (N j) (C j)) := ⟨houta.drew.cell rfl, xa.drew.cell rfl, xa.drew.cell rfl, xa.drew.cell rfl, xa.drew.cell rfl⟩
            refine wpN_take (i := 0) (v := ?v6) rfl (by kernel_rfl) (fun _ _ _ h => h) hS (Or.inl ⟨by rfl, ?hy6⟩) ?hr6
            case hy6 => (intro wS hSw; (try dsimp only at hSw); go_simp; (try with_reducible rfl))
            try simp only [Act.put, List.setIfInBounds_toArray, List.set_cons_zero, List.set_cons_succ, List.getElem_toArray, List.getElem_cons_zero, List.getElem_cons_succ]
            refine wpN_take (i := 1) (v := ?v7) rfl (by kernel_rfl) (fun _ _ _ h => h) hS (Or.inl ⟨by rfl, ?hy7⟩) ?hr7
            case hy7 => (intro wS hSw; (try dsimp only at hSw); go_simp; (try with_reducible rfl))
            try simp only [Act.put, List.setIfInBounds_toArray, List.set_cons_zero, List.set_cons_succ, List.getElem_toArray, List.getElem_cons_zero, List.getElem_cons_succ]
            refine wpN_take (i := 2) (v := ?v8) rfl (by kernel_rfl) (fun _ _ _ h => h) hS (Or.inl ⟨by rfl, ?hy8⟩) ?hr8
            case hy8 => (intro wS hSw; (try dsimp only at hSw); go_simp; (try with_reducible rfl))
            try simp only [Act.put, List.setIfInBounds_toArray, List.set_cons_zero, List.set_cons_succ, List.getElem_toArray, List.getElem_cons_zero, List.getElem_cons_succ]
            refine wpN_take (i := 3) (v := ?v9) rfl (by kernel_rfl) (fun _ _ _ h => h) hS (Or.inl ⟨by rfl, ?hy9⟩) ?hr9
            case hy9 => (intro wS hSw; (try dsimp only at hSw); go_simp; (try with_reducible rfl))
            try simp only [Act.put, List.setIfInBounds_toArray, List.set_cons_zero, List.set_cons_succ, List.getElem_toArray, List.getElem_cons_zero, List.getElem_cons_succ]
            refine wpN_take (i := 4) (v := ?v10) rfl (by kernel_rfl) (fun _ _ _ h => h) hS (Or.inl ⟨by rfl, ?hy10⟩) ?hr10
            case hy10 => (intro wS hSw; (try dsimp only at hSw); go_simp; (try with_reducible rfl))
            try simp only [Act.put, List.setIfInBounds_toArray, List.set_cons_zero, List.set_cons_succ, List.getElem_toArray, List.getElem_cons_zero, List.getElem_cons_succ]
            refine wpN_step (i := 5) (by kernel_rfl) rfl (fun K hK => ?_)
            go_simp
            refine (Hih.out j hlt _ wa.drew (hw.grown hba fun k hk => HrF.out k hk).drew (fun k hk => by have := Hr2.out k hk; have := hba.size; simp at *; omega) (HT.out.keep _ _ _ hsta.out fun _ _ => rfl)).mono ?_
            rintro e w5 ⟨b', k', i', a', rfl, hr1, hst5, hg5⟩
            have hg5' : wa.grownBy w5 row := gb_trans (gb_below (Below.refl _ _).drew row) hg5
            have hsg := hg5'.size
            have outa5 := houta.grown hg5' (Hrow.out _ (by omega))
            have resa5 := hresa.grown hg5' (Hrow.out _ (by omega))
            have xa5 := xa.grown hg5' (Hrow.out _ (by omega))
            have acc5 := Lib.hid (Hacca.out.other hg5' hrowN.out)
            have bi5 := Lib.hid (hbia.out.keep ((Keep.refl _ _).grown hg5' fun k hk hf => by have := Hr2.out k (HT.out.sub k hk); omega))
            have G5 := gb_trans hba hg5'
            have Hst5 := Lib.hid hst5; clear hst5
            clear houta hresa xa hbia hba hszp hszb hsta
            have hS : (w5).cell? ⟨p, 3, none⟩ = some v ∧ (w5).cell? ⟨qn, 0, none⟩ = some (.slice (PA j) (PN j) (PC j)) ∧ (w5).cell? ⟨qn, 1, none⟩ = some (.int .i64 (Kd j)) ∧ (w5).cell? ⟨qn, 2, none⟩ = some (.int .i64 (Ix j)) ∧ (w5).cell? ⟨qn, 3, none⟩ = some (.slice (A j) (N j) (C j)) := ⟨outa5.cell rfl, xa5.cell rfl, xa5.cell rfl, xa5.cell rfl, xa5.cell rfl⟩
            refine hK.out _ _ (fun _ => hS) ?_
            clear hK K
            try simp only [Act.put, List.setIfInBounds_toArray, List.set_cons_zero, List.set_cons_succ, List.getElem_toArray, List.getElem_cons_zero, List.getElem_cons_succ]
            refine wpN_step (i := 6) (by kernel_rfl) rfl (fun K hK => ?_)
            go_simp
            have hS : (w5.alloc (.cells #[b', k', i', a'] 37)).cell? ⟨p, 3, none⟩ = some v ∧ (w5.alloc (.cells #[b', k', i', a'] 37)).cell? ⟨qn, 0, none⟩ = some (.slice (PA j) (PN j) (PC j)) ∧ (w5.alloc (.cells #[b', k', i', a'] 37)).cell? ⟨qn, 1, none⟩ = some (.int .i64 (Kd j)) ∧ (w5.alloc (.cells #[b', k', i', a'] 37)).cell? ⟨qn, 2, none⟩ = some (.int .i64 (Ix j)) ∧ (w5.alloc (.cells #[b', k', i', a'] 37)).cell? ⟨qn, 3, none⟩ = some (.slice (A j) (N j) (C j)) := ⟨(outa5.alloc _).cell rfl, (xa5.alloc _).cell rfl, (xa5.alloc _).cell rfl, (xa5.alloc _).cell rfl, (xa5.alloc _).cell rfl⟩
            refine hK.out _ _ (fun _ => hS) ?_
            clear hK K
            try simp only [Act.put, List.setIfInBounds_toArray, List.set_cons_zero, List.set_cons_succ, List.getElem_toArray, List.getElem_cons_zero, List.getElem_cons_succ]
            refine wpN_step (i := 7) (by kernel_rfl) rfl (fun K hK => ?_)
            refine step_push rpTm (by decide) (by rfl) _ _ _ (by rfl) N2 37 i2 _ 64 Try.underlying35 hi2 hz0 hz1 hz2 rfl (by decide)
                   (fun q => N2 ≤ q) v (Tm.turns f (args.take j) (f s (i - m)).1 m).2 (by rfl) (acc5.out.alloc _) (by rw [Hl.out]; omega)
                   w5.heap.size _ [b', k', i', a'] (Tm.turn f args[j] (Tm.turns f (args.take j) (f s (i - m)).1 m).1 m).2 (by rfl) (heap_alloc_new _ _) ⟨_, _, _, _, rfl, (hr1.weaken (fun q _ hq => ⟨Nat.le_trans (show N2 ≤ wa.drew.heap.size from hsNa) hq, fun e => by have := (Hacca.out.base_le q e).2; exact absurd this (Nat.not_lt.2 hq)⟩)).keep ((Keep.refl _ _).alloc _)⟩ (by have := hsg; simp at *; omega) ?_
            intro gg cap w6 hacc2 hgrow hat hlt2
            have o2 := (outa5.alloc _).grown hgrow (Hne.out _ (by omega))
            have o1 := (resa5.alloc _).grown hgrow (Hne.out _ (by omega))
            have oq := (xa5.alloc _).grown hgrow hown.out
            have bi6 := Lib.hid (((bi5.out.keep ((Keep.refl _ _).alloc _)).weaken (F' := fun q => (w.heap.size + 2 ≤ q ∧ q ≠ p ∧ q < N2) ∧ v.ownBlock ≠ some q) (by decide) fun q _ h => ⟨h, Hne.out q h.2.2⟩).keep ((Keep.refl _ _).grown hgrow fun k hk hf => hf.2 hk))
            have G6 := gb_grown (gb_trans G5 (gb_below ((Below.refl _ _).alloc (Nat.le_refl _) _) row)) hgrow (fun q hq => by have := (Hacca.out.base_le q hq).1; omega)
            have st6 := Lib.hid (HT.out.keep _ _ _ Hst5.out fun k hk => ((hgrow.block k (by have := Hr2.out k hk; have := G5.size; simp; omega) (fun e => Hne.out k (by have := Hr2.out k hk; omega) e.symm)).trans (Below.heap_alloc _ _ _ (by have := Hr2.out k hk; have := G5.size; omega))))
            have hS : (w6).cell? ⟨p, 3, none⟩ = some v ∧ (w6).cell? ⟨qn, 0, none⟩ = some (.slice (PA j) (PN j) (PC j)) ∧ (w6).cell? ⟨qn, 1, none⟩ = some (.int .i64 (Kd j)) ∧ (w6).cell? ⟨qn, 2, none⟩ = some (.int .i64 (Ix j)) ∧ (w6).cell? ⟨qn, 3, none⟩ = some (.slice (A j) (N j) (C j)) := ⟨o2.cell (i := 3) rfl, oq.cell rfl, oq.cell rfl, oq.cell rfl, oq.cell rfl⟩
            have p2 := o2.free 3
            have Hacc2 := Lib.hid hacc2; clear hacc2
            refine hK.out _ _ (fun _ => hS) ?_
            clear hK K
            try simp only [Act.put, List.setIfInBounds_toArray, List.set_cons_zero, List.set_cons_succ, List.getElem_toArray, List.getElem_cons_zero, List.getElem_cons_succ]
            refine wpN_take (i := 8) (v := ?v11) rfl (by kernel_rfl) (fun _ _ _ h => h) hS (Or.inl ⟨by rfl, ?hy11⟩) ?hr11
            case hy11 => (intro wS hSw; (try dsimp only at hSw); go_simp; (try with_reducible rfl))
            try simp only [Act.put, List.setIfInBounds_toArray, List.set_cons_zero, List.set_cons_succ, List.getElem_toArray, List.getElem_cons_zero, List.getElem_cons_succ]
            refine wpN_step (i := 9) (by kernel_rfl) rfl (fun K hK => ?_)
            go_simp
            refine hK.out _ _ (fun h => absurd h (by decide)) ?_
            clear hK K
            try simp only [Act.put, List.setIfInBounds_toArray, List.set_cons_zero, List.set_cons_succ, List.getElem_toArray, List.getElem_cons_zero, List.getElem_cons_succ]
            refine wpN_done (by kernel_rfl) ?_
            refine NoPanic.normal ?_
            have hs6 : N2 ≤ w6.heap.size := by have := hgrow.size; simp at *; omega
            clear o1 oq
            have o1 := (resa5.alloc _).grown hgrow (Hne.out _ (by omega))
            go_wp2_with fail
            refine ⟨⟨j + 1, _, by go_num, by omega, by simpa using hs6, gb_setCell G6 (by simp <;> omega) _, o1.far _ _ (by simp <;> omega), o2.set 3 _, ?_, ?_, ?_⟩, by simp [intOf]; omega⟩
            · exact ((bi6.out.weaken (F' := fun q => w.heap.size + 2 ≤ q ∧ q ≠ p ∧ q < N2) (by decide) fun q _ h => h.1).keep ((Keep.refl _ _).setCell _ _ (by simp)))
            · show St _ _
              rw [Htk.out]
              exact HT.out.keep _ _ _ st6.out fun k hk => Below.heap_setCell _ _ _ _ (by have := Hr2.out k hk; simp; omega)
            · have h := Hacc2.out
              rw [Htk.out]
              exact h.setCell ⟨p, 3, none⟩ _ (by simp <;> omega) (by simp <;> omega)
          · obtain ⟨va, vc, hv⟩ := Hacc.out.len_shape
            rw [Tm.turns_len, List.length_take, Nat.min_eq_left hj] at hv
            subst hv
            have d1 : wr.cell? ⟨p, 0, none⟩ = some (.slice qa2 binds.length qc2) := hout.cell rfl
            have d2 : wr.cell? ⟨p, 1, none⟩ = some (.int .i64 0) := hout.cell rfl
            have d3 : wr.cell? ⟨p, 2, none⟩ = some (.int .i64 jx) := hout.cell rfl
            have d4 : wr.cell? ⟨p, 3, none⟩ = some (.slice va j vc) := hout.cell rfl
            have r0 : wr.cell? ⟨w.heap.size + 1, 0, none⟩ = some (.slice none 0 0) := hres.cell rfl
            have r1 : wr.cell? ⟨w.heap.size + 1, 1, none⟩ = some (.int .i64 0) := hres.cell rfl
            have r2 : wr.cell? ⟨w.heap.size + 1, 2, none⟩ = some (.int .i64 0) := hres.cell rfl
            have r3 : wr.cell? ⟨w.heap.size + 1, 3, none⟩ = some (.slice none 0 0) := hres.cell rfl
            have f0 := hres.free 0
            have f1 := hres.free 1
            have f2 := hres.free 2
            have f3 := hres.free 3
            go_wp2_with fail
            refine bodyPost_ret (v := .agg #[.slice qa2 binds.length qc2, .int .i64 0, .int .i64 jx, .slice va j vc]) (by simp [results, Try.results89, go_sem, r0, r1, r2, r3]) rfl ?_
            have h := Hacc.out
            have hst2 := hst.out
            rw [List.take_of_length_le (by omega)] at h hst2
            have hA := (((h.setCell ⟨w.heap.size + 1, 0, none⟩ (.slice qa2 binds.length qc2) (by simp <;> omega) (by simp <;> omega)).setCell ⟨w.heap.size + 1, 1, none⟩ (.int .i64 0) (by simp <;> omega) (by simp <;> omega)).setCell ⟨w.heap.size + 1, 2, none⟩ (.int .i64 jx) (by simp <;> omega) (by simp <;> omega)).setCell ⟨w.heap.size + 1, 3, none⟩ (.slice va j vc) (by simp <;> omega) (by simp <;> omega)
            have KR := (((((Keep.refl (fun q => w.heap.size + 2 ≤ q ∧ q ≠ p ∧ q < N2) wr).setCell ⟨w.heap.size + 1, 0, none⟩ (.slice qa2 binds.length qc2) (by simp <;> omega)).setCell ⟨w.heap.size + 1, 1, none⟩ (.int .i64 0) (by simp <;> omega)).setCell ⟨w.heap.size + 1, 2, none⟩ (.int .i64 jx) (by simp <;> omega)).setCell ⟨w.heap.size + 1, 3, none⟩ (.slice va j vc) (by simp <;> omega))
            have hsetk : ∀ (W : World) (o : Nat) (u : Value) (k : Nat), ro k → (W.setCell ⟨w.heap.size + 1, o, none⟩ u).heap[k]? = W.heap[k]? := fun W o u k hk => Below.heap_setCell _ _ _ _ (by have := Hr2.out k hk; simp; omega)
            rw [Tm.turn_hit f binds i args s n m hmm HC.out, Hfx.out, HJ.out]
            refine ⟨_, _, _, _, rfl, ?_, ?_, gb_setCell (gb_setCell (gb_setCell (gb_setCell hb (by simp) _) (by simp) _) (by simp) _) (by simp) _⟩
            · exact isTm_mk ((hbi.out.keep KR).weaken (by decide) fun q _ h => by omega) (hA.sl (F' := fun q => w.heap.size ≤ q) (fun q _ hq => by omega) (fun q hq => by omega)) 0 jx
            · exact HT.out.keep _ _ _ hst2 fun k hk => (hsetk _ _ _ k hk).trans ((hsetk _ _ _ k hk).trans ((hsetk _ _ _ k hk).trans (hsetk _ _ _ k hk)))
    · have HC : Hid (¬ m ≤ i) := hge
      go_enter Try.func89, Try.ntmps89
      go_wp2_with fail
      try rw [hmm]
      try rw [hs1]
      obtain ⟨w3, hw3⟩ : ∃ w3, (w.alloc (.cells #[.slice pa binds.length pc, .int .i64 0, .int .i64 i, .slice a args.length c] 37)).alloc (.cells #[.slice none 0 0, .int .i64 0, .int .i64 0, .slice none 0 0] 37) = w3 := ⟨_, rfl⟩
      have B3 : Below w.heap.size w w3 := by rw [← hw3]; exact ((Below.refl _ _).alloc (Nat.le_refl _) _).alloc (by simp) _
      have x0 : Blk w3 w.heap.size #[.slice pa binds.length pc, .int .i64 0, .int .i64 i, .slice a args.length c] 37 := by rw [← hw3]; exact (Blk.new _ _ _ rfl).alloc _
      have x2 : Blk w3 (w.heap.size + 1) #[.slice none 0 0, .int .i64 0, .int .i64 0, .slice none 0 0] 37 := by rw [← hw3]; exact Blk.new _ _ _ (by simp)
      have hsz1 : w3.heap.size = w.heap.size + 2 := by rw [← hw3]; simp
      try rw [hw3]
      clear hw3
      refine wp_region_noPanic (wp_region_need (S := fun w' => w'.cell? ⟨w.heap.size, 0, none⟩ = some (.slice pa binds.length pc) ∧ w'.cell? ⟨w.heap.size, 1, none⟩ = some (.int .i64 0) ∧ w'.cell? ⟨w.heap.size, 2, none⟩ = some (.int .i64 i)) (by kernel_rfl) ?_)
      have hS : (w3.drew).cell? ⟨w.heap.size, 0, none⟩ = some (.slice pa binds.length pc) ∧ (w3.drew).cell? ⟨w.heap.size, 1, none⟩ = some (.int .i64 0) ∧ (w3.drew).cell? ⟨w.heap.size, 2, none⟩ = some (.int .i64 i) := ⟨x0.drew.cell rfl, x0.drew.cell rfl, x0.drew.cell rfl⟩
      refine wpN_take (i := 0) (v := ?v12) rfl (by kernel_rfl) (fun _ _ _ h => h) hS (Or.inl ⟨by rfl, ?hy12⟩) ?hr12
      case hy12 => (intro wS hSw; (try dsimp only at hSw); go_simp; (try with_reducible rfl))
      try simp only [Act.put, List.setIfInBounds_toArray, List.set_cons_zero, List.set_cons_succ, List.getElem_toArray, List.getElem_cons_zero, List.getElem_cons_succ]
      refine wpN_take (i := 1) (v := ?v13) rfl (by kernel_rfl) (fun _ _ _ h => h) hS (Or.inl ⟨by rfl, ?hy13⟩) ?hr13
      case hy13 => (intro wS hSw; (try dsimp only at hSw); go_simp; (try with_reducible rfl))
      try simp only [Act.put, List.setIfInBounds_toArray, List.set_cons_zero, List.set_cons_succ, List.getElem_toArray, List.getElem_cons_zero, List.getElem_cons_succ]
      refine wpN_take (i := 2) (v := ?v14) rfl (by kernel_rfl) (fun _ _ _ h => h) hS (Or.inl ⟨by rfl, ?hy14⟩) ?hr14
      case hy14 => (intro wS hSw; (try dsimp only at hSw); go_simp; (try with_reducible rfl))
      try simp only [Act.put, List.setIfInBounds_toArray, List.set_cons_zero, List.set_cons_succ, List.getElem_toArray, List.getElem_cons_zero, List.getElem_cons_succ]
      refine wpN_take (i := 5) (v := ?v15) rfl (by kernel_rfl) (fun _ _ _ h => h) hS (Or.inl ⟨by rfl, ?hy15⟩) ?hr15
      case hy15 => (intro wS hSw; (try dsimp only at hSw); go_simp; (try with_reducible rfl))
      try simp only [Act.put, List.setIfInBounds_toArray, List.set_cons_zero, List.set_cons_succ, List.getElem_toArray, List.getElem_cons_zero, List.getElem_cons_succ]
      refine wpN_take (i := 6) (v := ?v16) rfl (by kernel_rfl) (fun _ _ _ h => h) hS (Or.inl ⟨by rfl, ?hy16⟩) ?hr16
      case hy16 => (intro wS hSw; (try dsimp only at hSw); go_simp; (try with_reducible rfl))
      try simp only [Act.put, List.setIfInBounds_toArray, List.set_cons_zero, List.set_cons_succ, List.getElem_toArray, List.getElem_cons_zero, List.getElem_cons_succ]
      refine wpN_gathersP [(3, 18), (4, 19), (7, 22), (8, 7)] 1 (fun j v x y w' => match j with
        | 3 => ∃ qa qc, v = .agg #[.slice qa binds.length qc, .int .i64 0] ∧ IsSl rpTy (fun q => x ≤ q ∧ q < y) w' (.slice qa binds.length qc) binds
        | 4 => True
        | 7 => True
        | _ => v = .pointer (some ⟨x, 0, none⟩) ∧ x < y ∧ Blk w' x #[.slice none 0 0, .int .i64 0, .int .i64 0, .slice none 0 0] 37) (fun j u => match j with
        | 4 => ∃ qa qc, u 3 = .agg #[.slice qa binds.length qc, .int .i64 0] ∧ u 4 = .slice qa binds.length qc
        | 7 => ∃ qa qc, u 4 = .slice qa binds.length qc ∧ u 7 = .agg #[.slice qa binds.length qc, .int .i64 0, .int .i64 i, .slice none 0 0]
        | _ => True) rfl rfl (by kernel_rfl) ?gst ?gst' hS ?gop ?gend
      case gst =>
        intro j v x y wa wb h hb
        split at h
        · obtain ⟨a, c, e, ht⟩ := h
          exact ⟨a, c, e, ht.keep ((Keep.refl _ _).below hb)⟩
        · trivial
        · trivial
        · exact ⟨h.1, h.2.1, h.2.2.below hb⟩
      case gst' =>
        intro j hj u u' hu h
        simp only [List.map_cons, List.map_nil, List.mem_cons, List.not_mem_nil, or_false] at hj
        rcases hj with rfl | rfl | rfl | rfl
        · trivial
        · obtain ⟨qa, qc, e1, e2⟩ := h
          exact ⟨qa, qc, (hu 3 (.inr (by kernel_rfl))).trans e1, (hu 4 (.inl rfl)).trans e2⟩
        · obtain ⟨qa, qc, e1, e2⟩ := h
          exact ⟨qa, qc, (hu 4 (.inr (by kernel_rfl))).trans e1, (hu 7 (.inl rfl)).trans e2⟩
        · trivial
      case gop =>
        intro x hx u w' hdep hB' hS'
        obtain ⟨q1, q2, q3⟩ := hS'
        have hbw : Below w3.heap.size w3 w' := (Below.refl _ _).drew.trans hB'
        simp only [List.mem_cons, List.not_mem_nil, or_false] at hx
        rcases hx with rfl | rfl | rfl | rfl
        · refine wpOp_step (i := 3) rfl (fun K hK => ?_)
          have hK := Lib.hid hK
          simp only [fills, List.foldl, Act.put, List.setIfInBounds_toArray, List.set_cons_zero, List.set_cons_succ, List.getElem_toArray, List.getElem_cons_zero, List.getElem_cons_succ]
          go_simp
          refine (Harr.out w' (B3.trans (hbw.mono B3.size))).mono ?_
          rintro e w6 ⟨s', b', rfl, hT, hb6⟩
          obtain ⟨qa, qc, rfl, rfl⟩ := hT.shape
          have hSl := hT.inv.2
          simp only [List.append_nil, args_mk', base_mk'] at hSl ⊢
          have hKp : Keep (fun _ => True) w' w6 := (Keep.refl _ _).below hb6
          exact hK.out _ _ ⟨_, rfl, ⟨_, _, rfl, hSl.weaken (by decide) fun q h1 h2 => ⟨h2, h1⟩⟩, trivial, hb6, hKp _ _ _ trivial q1, hKp _ _ _ trivial q2, hKp _ _ _ trivial q3⟩
        · obtain ⟨_, _, _, qa, qc, e1, _⟩ := hdep 3 (by simp) (by kernel_rfl)
          refine wpOp_step (i := 4) rfl (fun K hK => ?_)
          have hK := Lib.hid hK
          simp only [fills, List.foldl, Act.put, List.setIfInBounds_toArray, List.set_cons_zero, List.set_cons_succ, List.getElem_toArray, List.getElem_cons_zero, List.getElem_cons_succ]
          rw [e1]
          go_simp
          exact hK.out _ _ ⟨.slice qa binds.length qc, by simp only [fills, List.foldl, Act.put, List.setIfInBounds_toArray, List.set_cons_zero, List.set_cons_succ, List.getElem_toArray, List.getElem_cons_zero, List.getElem_cons_succ]; simp [upd, e1], trivial, ⟨qa, qc, e1, rfl⟩, Below.refl _ _, q1, q2, q3⟩
        · obtain ⟨⟨qa, qc, e0, e1⟩, _⟩ := hdep 4 (by simp) (by kernel_rfl)
          refine wpOp_step (i := 7) rfl (fun K hK => ?_)
          have hK := Lib.hid hK
          simp only [fills, List.foldl, Act.put, List.setIfInBounds_toArray, List.set_cons_zero, List.set_cons_succ, List.getElem_toArray, List.getElem_cons_zero, List.getElem_cons_succ]
          rw [e1]
          go_simp
          exact hK.out _ _ ⟨.agg #[.slice qa binds.length qc, .int .i64 0, .int .i64 i, .slice none 0 0], by simp only [fills, List.foldl, Act.put, List.setIfInBounds_toArray, List.set_cons_zero, List.set_cons_succ, List.getElem_toArray, List.getElem_cons_zero, List.getElem_cons_succ]; simp [upd, e1, e0], trivial, ⟨qa, qc, e1, rfl⟩, Below.refl _ _, q1, q2, q3⟩
        · refine wpOp_step (i := 8) rfl (fun K hK => ?_)
          have hK := Lib.hid hK
          simp only [fills, List.foldl, Act.put, List.setIfInBounds_toArray, List.set_cons_zero, List.set_cons_succ, List.getElem_toArray, List.getElem_cons_zero, List.getElem_cons_succ]
          go_simp
          have hb6 : Below w'.heap.size w' (w'.alloc (.cells #[.slice none 0 0, .int .i64 0, .int .i64 0, .slice none 0 0] 37)) := (Below.refl _ _).alloc (Nat.le_refl _) _
          have hKp : Keep (fun _ => True) w' (w'.alloc (.cells #[.slice none 0 0, .int .i64 0, .int .i64 0, .slice none 0 0] 37)) := (Keep.refl _ _).below hb6
          exact hK.out _ _ ⟨_, rfl, ⟨rfl, by simp, Blk.new _ _ _ rfl⟩, trivial, hb6, hKp _ _ _ trivial q1, hKp _ _ _ trivial q2, hKp _ _ _ trivial q3⟩
      case gend =>
        intro u lo hi w' hΦ hΨ hB' hS'
        have hbw : Below w3.heap.size w3 w' := (Below.refl _ _).drew.trans hB'
        obtain ⟨⟨qa, qc, e1, V1⟩, n1, m1, o1⟩ := hΦ.1 3 (by simp) rfl
        obtain ⟨⟨e2, r2, Z2⟩, n2, m2, o2⟩ := hΦ.1 8 (by simp) rfl
        obtain ⟨qa', qc', e3, e4⟩ := hΨ 4 (by simp)
        obtain ⟨qa2, qc2, e5, e6⟩ := hΨ 7 (by simp)
        obtain ⟨rfl, rfl⟩ : qa' = qa ∧ qc' = qc := by rw [e1] at e3; cases e3; exact ⟨rfl, rfl⟩
        obtain ⟨rfl, rfl⟩ : qa2 = qa' ∧ qc2 = qc' := by rw [e4] at e5; cases e5; exact ⟨rfl, rfl⟩
        clear e3 e5
        have k12 := hΦ.2 3 (by simp) 8 (by simp) rfl rfl (by decide)
        clear hΦ hΨ
        simp only [fills, List.foldl, Act.put, List.setIfInBounds_toArray, List.set_cons_zero, List.set_cons_succ, List.getElem_toArray, List.getElem_cons_zero, List.getElem_cons_succ]
        rw [e1, e2, e4, e6]
        clear e1 e2 e4 e6
        have hsz : w3.drew.heap.size = w3.heap.size := rfl
        rw [hsz, hsz1] at n1 n2
        generalize lo 8 = p at *
        have U1 := Lib.hid (V1.weaken (F' := fun q => w.heap.size + 2 ≤ q ∧ q ≠ p) (by decide) fun q _ h => ⟨by omega, by omega⟩)
        clear V1 k12 n1 m1 o1 m2 r2 o2 hsz
        have B2 := B3.trans (hbw.mono B3.size)
        have y0 := x0.below hbw
        have y2 := x2.below hbw
        have r0 : w'.cell? ⟨p, 0, none⟩ = some (.slice none 0 0) := Z2.cell rfl
        have r1 : w'.cell? ⟨p, 1, none⟩ = some (.int .i64 0) := Z2.cell rfl
        have r2 : w'.cell? ⟨p, 2, none⟩ = some (.int .i64 0) := Z2.cell rfl
        have r3 : w'.cell? ⟨p, 3, none⟩ = some (.slice none 0 0) := Z2.cell rfl
        have f0 := Z2.free 0
        have f1 := Z2.free 1
        have f2 := Z2.free 2
        have f3 := Z2.free 3
        refine wpN_step (i := 9) (by kernel_rfl) rfl (fun K hK => ?_)
        go_simp
        refine hK.out _ _ (fun h => absurd h (by decide)) ?_
        clear hK K
        try simp only [Act.put, List.setIfInBounds_toArray, List.set_cons_zero, List.set_cons_succ, List.getElem_toArray, List.getElem_cons_zero, List.getElem_cons_succ]
        refine wpN_done (by kernel_rfl) ?_
        refine NoPanic.normal ?_
        obtain ⟨w2, hw2⟩ : ∃ w2, ((((w'.setCell ⟨p, 0, none⟩ (.slice qa2 binds.length qc2)).setCell ⟨p, 1, none⟩ (.int .i64 0)).setCell ⟨p, 2, none⟩ (.int .i64 i)).setCell ⟨p, 3, none⟩ (.slice none 0 0)) = w2 := ⟨_, rfl⟩
        have hlp := Z2.lt
        have B5 : Below w.heap.size w w2 := by rw [← hw2]; exact ((((B2.setCell (by simp; omega) _).setCell (by simp; omega) _).setCell (by simp; omega) _).setCell (by simp; omega) _)
        have z0 : Blk w2 w.heap.size #[.slice pa binds.length pc, .int .i64 0, .int .i64 i, .slice a args.length c] 37 := by rw [← hw2]; exact ((((y0.far _ _ (by simp; omega)).far _ _ (by simp; omega)).far _ _ (by simp; omega)).far _ _ (by simp; omega))
        have z2 : Blk w2 (w.heap.size + 1) #[.slice none 0 0, .int .i64 0, .int .i64 0, .slice none 0 0] 37 := by rw [← hw2]; exact ((((y2.far _ _ (by simp; omega)).far _ _ (by simp; omega)).far _ _ (by simp; omega)).far _ _ (by simp; omega))
        have zp : Blk w2 p #[.slice qa2 binds.length qc2, .int .i64 0, .int .i64 i, .slice none 0 0] 37 := by rw [← hw2]; exact ((((Z2.set 0 _).set 1 _).set 2 _).set 3 _)
        have KU : Keep (fun q => w.heap.size + 2 ≤ q ∧ q ≠ p) w' w2 := by rw [← hw2]; exact ((((Keep.refl _ _).setCell _ _ (by simp)).setCell _ _ (by simp)).setCell _ _ (by simp)).setCell _ _ (by simp)
        have U2 := Lib.hid (U1.out.keep KU)
        rw [hw2]
        clear hw2 KU U1 y0 y2 Z2 r0 r1 r2 r3 f0 f1 f2 f3 B2 hbw hB' hS' hS x0 x2 B3 hlp
        have hlp2 := zp.lt
        obtain ⟨N2, hN2⟩ : ∃ n, w2.heap.size = n := ⟨_, rfl⟩
        have HN2 := Lib.hid hN2; clear hN2
        have hpN : p < N2 := by have := HN2.out; omega
        have St2 := Lib.hid (HT.out.keep s w w2 HSt.out fun k hk => B5.block k (Hrw.out k hk))
        have c01 : w2.cell? ⟨w.heap.size, 1, none⟩ = some (.int .i64 0) := z0.cell rfl
        have c02 : w2.cell? ⟨w.heap.size, 2, none⟩ = some (.int .i64 i) := z0.cell rfl
        have c03 : w2.cell? ⟨w.heap.size, 3, none⟩ = some (.slice a args.length c) := z0.cell rfl
        have U3 := Lib.hid (U2.out.weaken (F' := fun q => w.heap.size + 2 ≤ q ∧ q ≠ p ∧ q < N2) (by decide) fun q h1 h2 => ⟨h2.1, h2.2, by have := HN2.out; omega⟩)
        clear U2
        have Hr2 : Hid (∀ k, ro k → k < w.heap.size) := Hrw.out
        go_wp2_with fail
        have hrow : ∀ q, w.heap.size ≤ q → row ≠ some q := fun q hq e => by have := Hr2.out q (HT.out.sub q e); omega
        obtain ⟨w7, hw7⟩ : ∃ w7, w2 = w7 := ⟨_, rfl⟩
        have G7 := gb_below B5 row
        have s2 := z2
        have sp := zp
        have U7 := U3
        have St7 := St2
        have hs7 : N2 ≤ w2.heap.size := by have := HN2.out; omega
        rw [hw7] at G7 s2 sp U7 St7 hs7 ⊢
        clear hw7 B5 z0 z2 zp U3 c01 c02 c03 hlp2 St2
        have hrowN : Hid (∀ k, row = some k → ¬ (N2 ≤ k) ∧ k < N2) := fun k hk => by have := Hr2.out k (HT.out.sub k hk); omega
        have Hrow := Lib.hid hrow; clear hrow
        have hacc0 : Acc rpTm 37 N2 (fun q => N2 ≤ q) w7 (.slice none 0 0) [] := Acc.nil _ _ _ _ _
        try go_wp2_with fail
        go_loopw [48] (fun ii wr => ∃ (j : Nat) (v : Value), ii = .int .i64 j ∧ j ≤ args.length ∧ N2 ≤ wr.heap.size ∧
            w.grownBy wr row ∧ Blk wr (w.heap.size + 1) #[.slice none 0 0, .int .i64 0, .int .i64 0, .slice none 0 0] 37 ∧ Blk wr p #[.slice qa2 binds.length qc2, .int .i64 0, .int .i64 i, v] 37 ∧
            Hid (IsSl rpTy (fun q => w.heap.size + 2 ≤ q ∧ q ≠ p ∧ q < N2) wr (.slice qa2 binds.length qc2) binds) ∧ Hid (St (Tm.turns f (args.take j) s m).1 wr) ∧
            Acc rpTm 37 N2 (fun q => N2 ≤ q) wr v (Tm.turns f (args.take j) s m).2) (fun ii _ => args.length - (intOf ii).toNat)
        case atStart => exact ⟨0, _, rfl, by omega, hs7, G7, s2, sp, U7.out, St7.out, hacc0⟩
        case round =>
          clear G7 s2 sp U7 hacc0 hs7 St7
          obtain ⟨j, v, rfl, hj, hsN, hb, hres, hout, hbi, hst, hacc⟩ := hrel
          have hszp := hout.lt
          have hszb := hres.lt
          have Hacc := Lib.hid hacc; clear hacc
          by_cases hlt : j < args.length
          · obtain ⟨rfl, hF⟩ := ha (by omega)
            clear ha
            have hkp : Keep F w0 wr := hw.grown hb fun k hk => HrF.out k hk
            have e1 := hkp _ _ _ hF (h1 j hlt)
            have e2 := hkp _ _ _ hF (h2 j hlt)
            have e3 := hkp _ _ _ hF (h3 j hlt)
            have e4 := hkp _ _ _ hF (h4 j hlt)
            have hlt0 : (0 : Int) ≤ (j : Int) := Int.natCast_nonneg _
            have hlt1 : (j : Int) < (args.length : Int) := by omega
            have Hl : Hid ((Tm.turns f (args.take j) s m).2.length = j) := by show _ = _; rw [Tm.turns_len, List.length_take]; omega
            have Hne : Hid (∀ q, q < N2 → v.ownBlock ≠ some q) := fun q hq e => by have := (Hacc.out.base_le q e).1; omega
            have Htk := Lib.hid (Tm.turns_take f args s m j hlt)
            have hblw : bl < wr.heap.size := Keep.lt e1
            go_wp2_with fail
            obtain ⟨wa, hwa⟩ : ∃ wa, wr.alloc (.cells #[.slice (PA j) (PN j) (PC j), .int .i64 (Kd j), .int .i64 (Ix j), .slice (A j) (N j) (C j)] 37) = wa := ⟨_, rfl⟩
            obtain ⟨qn, hqn⟩ : ∃ qn, wr.heap.size = qn := ⟨_, rfl⟩
            have ba : Below wr.heap.size wr wa := by rw [← hwa]; exact (Below.refl _ _).alloc (Nat.le_refl _) _
            have xa : Blk wa qn #[.slice (PA j) (PN j) (PC j), .int .i64 (Kd j), .int .i64 (Ix j), .slice (A j) (N j) (C j)] 37 := by rw [← hwa]; exact Blk.new _ _ _ hqn.symm
            have hba := gb_trans hb (gb_below ba row)
            have hresa := hres.below ba
            have houta := hout.below ba
            have Hacca := Lib.hid (Hacc.out.below ba)
            have hbia := Lib.hid (hbi.out.keep ((Keep.refl _ _).below ba))
            have hsta := Lib.hid (HT.out.keep _ _ _ hst.out fun k hk => ba.block k (by have := Hr2.out k hk; have := hb.size; omega))
            have hown : Hid (v.ownBlock ≠ some qn) := fun e => by have := (Hacc.out.base_le qn e).2; omega
            have hsNa : N2 ≤ wa.heap.size := Nat.le_trans hsN ba.size
            have hqN : N2 ≤ qn := by omega
            try rw [hwa]
            try rw [hqn]
            clear hwa hqn ba hb hres hout Hacc hbi hst hsN hszp hszb hblw e1 e2 e3 e4 hkp
            have hszp := houta.lt
            have hszb := hresa.lt
            refine wp_region_noPanic (wp_region_need (S := fun w' => w'.cell? ⟨p, 3, none⟩ = some v ∧ w'.cell? ⟨qn, 0, none⟩ = some (.slice (PA j) (PN j) (PC j)) ∧ w'.cell? ⟨qn, 1, none⟩ = some (.int .i64 (Kd j)) ∧ w'.cell? ⟨qn, 2, none⟩ = some (.int .i64 (Ix j)) ∧ w'.cell? ⟨qn, 3, none⟩ = some (.slice (A j) (N j) (C j))) (by kernel_rfl) ?_)
            have hS : (wa.drew).cell? ⟨p, 3, none⟩ = some v ∧ (wa.drew).cell? ⟨qn, 0, none⟩ = some (.slice (PA j) (PN j) (PC j)) ∧ (wa.drew).cell? ⟨qn, 1, none⟩ = some (.int .i64 (Kd j)) ∧ (wa.drew).cell? ⟨qn, 2, none⟩ = some (.int .i64 (Ix j)) ∧ (wa.drew).cell? ⟨qn, 3, none⟩ = some (.slice (A j) (N j) (C j)) := ⟨houta.drew.cell rfl, xa.drew.cell rfl, xa.drew.cell rfl, xa.drew.cell rfl, xa.drew.cell rfl⟩
            refine wpN_take (i := 0) (v := ?v17) rfl (by kernel_rfl) (fun _ _ _ h => h) hS (Or.inl ⟨by rfl, ?hy17⟩) ?hr17
            case hy17 => (intro wS hSw; (try dsimp only at hSw); go_simp; (try with_reducible rfl))
            try simp only [Act.put, List.setIfInBounds_toArray, List.set_cons_zero, List.set_cons_succ, List.getElem_toArray, List.getElem_cons_zero, List.getElem_cons_succ]
            refine wpN_take (i := 1) (v := ?v18) rfl (by kernel_rfl) (fun _ _ _ h => h) hS (Or.inl ⟨by rfl, ?hy18⟩) ?hr18
            case hy18 => (intro wS hSw; (try dsimp only at hSw); go_simp; (try with_reducible rfl))
            try simp only [Act.put, List.setIfInBounds_toArray, List.set_cons_zero, List.set_cons_succ, List.getElem_toArray, List.getElem_cons_zero, List.getElem_cons_succ]
            refine wpN_take (i := 2) (v := ?v19) rfl (by kernel_rfl) (fun _ _ _ h => h) hS (Or.inl ⟨by rfl, ?hy19⟩) ?hr19
            case hy19 => (intro wS hSw; (try dsimp only at hSw); go_simp; (try with_reducible rfl))
            try simp only [Act.put, List.setIfInBounds_toArray, List.set_cons_zero, List.set_cons_succ, List.getElem_toArray, List.getElem_cons_zero, List.getElem_cons_succ]
            refine wpN_take (i := 3) (v := ?v20) rfl (by kernel_rfl) (fun _ _ _ h => h) hS (Or.inl ⟨by rfl, ?hy20⟩) ?hr20
            case hy20 => (intro wS hSw; (try dsimp only at hSw); go_simp; (try with_reducible rfl))
            try simp only [Act.put, List.setIfInBounds_toArray, List.set_cons_zero, List.set_cons_succ, List.getElem_toArray, List.getElem_cons_zero, List.getElem_cons_succ]
            refine wpN_take (i := 4) (v := ?v21) rfl (by kernel_rfl) (fun _ _ _ h => h) hS (Or.inl ⟨by rfl, ?hy21⟩) ?hr21
            case hy21 => (intro wS hSw; (try dsimp only at hSw); go_simp; (try with_reducible rfl))
            try simp only [Act.put, List.setIfInBounds_toArray, List.set_cons_zero, List.set_cons_succ, List.getElem_toArray, List.getElem_cons_zero, List.getElem_cons_succ]
            refine wpN_step (i := 5) (by kernel_rfl) rfl (fun K hK => ?_)
            go_simp
            refine (Hih.out j hlt _ wa.drew (hw.grown hba fun k hk => HrF.out k hk).drew (fun k hk => by have := Hr2.out k hk; have := hba.size; simp at *; omega) (HT.out.keep _ _ _ hsta.out fun _ _ => rfl)).mono ?_
            rintro e w5 ⟨b', k', i', a', rfl, hr1, hst5, hg5⟩
            have hg5' : wa.grownBy w5 row := gb_trans (gb_below (Below.refl _ _).drew row) hg5
            have hsg := hg5'.size
            have outa5 := houta.grown hg5' (Hrow.out _ (by omega))
            have resa5 := hresa.grown hg5' (Hrow.out _ (by omega))
            have xa5 := xa.grown hg5' (Hrow.out _ (by omega))
            have acc5 := Lib.hid (Hacca.out.other hg5' hrowN.out)
            have bi5 := Lib.hid (hbia.out.keep ((Keep.refl _ _).grown hg5' fun k hk hf => by have := Hr2.out k (HT.out.sub k hk); omega))
            have G5 := gb_trans hba hg5'
            have Hst5 := Lib.hid hst5; clear hst5
            clear houta hresa xa hbia hba hszp hszb hsta
            have hS : (w5).cell? ⟨p, 3, none⟩ = some v ∧ (w5).cell? ⟨qn, 0, none⟩ = some (.slice (PA j) (PN j) (PC j)) ∧ (w5).cell? ⟨qn, 1, none⟩ = some (.int .i64 (Kd j)) ∧ (w5).cell? ⟨qn, 2, none⟩ = some (.int .i64 (Ix j)) ∧ (w5).cell? ⟨qn, 3, none⟩ = some (.slice (A j) (N j) (C j)) := ⟨outa5.cell rfl, xa5.cell rfl, xa5.cell rfl, xa5.cell rfl, xa5.cell rfl⟩
            refine hK.out _ _ (fun _ => hS) ?_
            clear hK K
            try simp only [Act.put, List.setIfInBounds_toArray, List.set_cons_zero, List.set_cons_succ, List.getElem_toArray, List.getElem_cons_zero, List.getElem_cons_succ]
            refine wpN_step (i := 6) (by kernel_rfl) rfl (fun K hK => ?_)
            go_simp
            have hS : (w5.alloc (.cells #[b', k', i', a'] 37)).cell? ⟨p, 3, none⟩ = some v ∧ (w5.alloc (.cells #[b', k', i', a'] 37)).cell? ⟨qn, 0, none⟩ = some (.slice (PA j) (PN j) (PC j)) ∧ (w5.alloc (.cells #[b', k', i', a'] 37)).cell? ⟨qn, 1, none⟩ = some (.int .i64 (Kd j)) ∧ (w5.alloc (.cells #[b', k', i', a'] 37)).cell? ⟨qn, 2, none⟩ = some (.int .i64 (Ix j)) ∧ (w5.alloc (.cells #[b', k', i', a'] 37)).cell? ⟨qn, 3, none⟩ = some (.slice (A j) (N j) (C j)) := ⟨(outa5.alloc _).cell rfl, (xa5.alloc _).cell rfl, (xa5.alloc _).cell rfl, (xa5.alloc _).cell rfl, (xa5.alloc _).cell rfl⟩
            refine hK.out _ _ (fun _ => hS) ?_
            clear hK K
            try simp only [Act.put, List.setIfInBounds_toArray, List.set_cons_zero, List.set_cons_succ, List.getElem_toArray, List.getElem_cons_zero, List.getElem_cons_succ]
            refine wpN_step (i := 7) (by kernel_rfl) rfl (fun K hK => ?_)
            refine step_push rpTm (by decide) (by rfl) _ _ _ (by rfl) N2 37 i2 _ 64 Try.underlying35 hi2 hz0 hz1 hz2 rfl (by decide)
                   (fun q => N2 ≤ q) v (Tm.turns f (args.take j) s m).2 (by rfl) (acc5.out.alloc _) (by rw [Hl.out]; omega)
                   w5.heap.size _ [b', k', i', a'] (Tm.turn f args[j] (Tm.turns f (args.take j) s m).1 m).2 (by rfl) (heap_alloc_new _ _) ⟨_, _, _, _, rfl, (hr1.weaken (fun q _ hq => ⟨Nat.le_trans (show N2 ≤ wa.drew.heap.size from hsNa) hq, fun e => by have := (Hacca.out.base_le q e).2; exact absurd this (Nat.not_lt.2 hq)⟩)).keep ((Keep.refl _ _).alloc _)⟩ (by have := hsg; simp at *; omega) ?_
            intro gg cap w6 hacc2 hgrow hat hlt2
            have o2 := (outa5.alloc _).grown hgrow (Hne.out _ (by omega))
            have o1 := (resa5.alloc _).grown hgrow (Hne.out _ (by omega))
            have oq := (xa5.alloc _).grown hgrow hown.out
            have bi6 := Lib.hid (((bi5.out.keep ((Keep.refl _ _).alloc _)).weaken (F' := fun q => (w.heap.size + 2 ≤ q ∧ q ≠ p ∧ q < N2) ∧ v.ownBlock ≠ some q) (by decide) fun q _ h => ⟨h, Hne.out q h.2.2⟩).keep ((Keep.refl _ _).grown hgrow fun k hk hf => hf.2 hk))
            have G6 := gb_grown (gb_trans G5 (gb_below ((Below.refl _ _).alloc (Nat.le_refl _) _) row)) hgrow (fun q hq => by have := (Hacca.out.base_le q hq).1; omega)
            have st6 := Lib.hid (HT.out.keep _ _ _ Hst5.out fun k hk => ((hgrow.block k (by have := Hr2.out k hk; have := G5.size; simp; omega) (fun e => Hne.out k (by have := Hr2.out k hk; omega) e.symm)).trans (Below.heap_alloc _ _ _ (by have := Hr2.out k hk; have := G5.size; omega))))
            have hS : (w6).cell? ⟨p, 3, none⟩ = some v ∧ (w6).cell? ⟨qn, 0, none⟩ = some (.slice (PA j) (PN j) (PC j)) ∧ (w6).cell? ⟨qn, 1, none⟩ = some (.int .i64 (Kd j)) ∧ (w6).cell? ⟨qn, 2, none⟩ = some (.int .i64 (Ix j)) ∧ (w6).cell? ⟨qn, 3, none⟩ = some (.slice (A j) (N j) (C j)) := ⟨o2.cell (i := 3) rfl, oq.cell rfl, oq.cell rfl, oq.cell rfl, oq.cell rfl⟩
            have p2 := o2.free 3
            have Hacc2 := Lib.hid hacc2; clear hacc2
            refine hK.out _ _ (fun _ => hS) ?_
            clear hK K
            try simp only [Act.put, List.setIfInBounds_toArray, List.set_cons_zero, List.set_cons_succ, List.getElem_toArray, List.getElem_cons_zero, List.getElem_cons_succ]
            refine wpN_take (i := 8) (v := ?v22) rfl (by kernel_rfl) (fun _ _ _ h => h) hS (Or.inl ⟨by rfl, ?hy22⟩) ?hr22
            case hy22 => (intro wS hSw; (try dsimp only at hSw); go_simp; (try with_reducible rfl))
            try simp only [Act.put, List.setIfInBounds_toArray, List.set_cons_zero, List.set_cons_succ, List.getElem_toArray, List.getElem_cons_zero, List.getElem_cons_succ]
            refine wpN_step (i := 9) (by kernel_rfl) rfl (fun K hK => ?_)
            go_simp
            refine hK.out _ _ (fun h => absurd h (by decide)) ?_
            clear hK K
            try simp only [Act.put, List.setIfInBounds_toArray, List.set_cons_zero, List.set_cons_succ, List.getElem_toArray, List.getElem_cons_zero, List.getElem_cons_succ]
            refine wpN_done (by kernel_rfl) ?_
            refine NoPanic.normal ?_
            have hs6 : N2 ≤ w6.heap.size := by have := hgrow.size; simp at *; omega
            clear o1 oq
            have o1 := (resa5.alloc _).grown hgrow (Hne.out _ (by omega))
            go_wp2_with fail
            refine ⟨⟨j + 1, _, by go_num, by omega, by simpa using hs6, gb_setCell G6 (by simp <;> omega) _, o1.far _ _ (by simp <;> omega), o2.set 3 _, ?_, ?_, ?_⟩, by simp [intOf]; omega⟩
            · exact ((bi6.out.weaken (F' := fun q => w.heap.size + 2 ≤ q ∧ q ≠ p ∧ q < N2) (by decide) fun q _ h => h.1).keep ((Keep.refl _ _).setCell _ _ (by simp)))
            · show St _ _
              rw [Htk.out]
              exact HT.out.keep _ _ _ st6.out fun k hk => Below.heap_setCell _ _ _ _ (by have := Hr2.out k hk; simp; omega)
            · have h := Hacc2.out
              rw [Htk.out]
              exact h.setCell ⟨p, 3, none⟩ _ (by simp <;> omega) (by simp <;> omega)
          · obtain ⟨va, vc, hv⟩ := Hacc.out.len_shape
            rw [Tm.turns_len, List.length_take, Nat.min_eq_left hj] at hv
            subst hv
            have d1 : wr.cell? ⟨p, 0, none⟩ = some (.slice qa2 binds.length qc2) := hout.cell rfl
            have d2 : wr.cell? ⟨p, 1, none⟩ = some (.int .i64 0) := hout.cell rfl
            have d3 : wr.cell? ⟨p, 2, none⟩ = some (.int .i64 i) := hout.cell rfl
            have d4 : wr.cell? ⟨p, 3, none⟩ = some (.slice va j vc) := hout.cell rfl
            have r0 : wr.cell? ⟨w.heap.size + 1, 0, none⟩ = some (.slice none 0 0) := hres.cell rfl
            have r1 : wr.cell? ⟨w.heap.size + 1, 1, none⟩ = some (.int .i64 0) := hres.cell rfl
            have r2 : wr.cell? ⟨w.heap.size + 1, 2, none⟩ = some (.int .i64 0) := hres.cell rfl
            have r3 : wr.cell? ⟨w.heap.size + 1, 3, none⟩ = some (.slice none 0 0) := hres.cell rfl
            have f0 := hres.free 0
            have f1 := hres.free 1
            have f2 := hres.free 2
            have f3 := hres.free 3
            go_wp2_with fail
            refine bodyPost_ret (v := .agg #[.slice qa2 binds.length qc2, .int .i64 0, .int .i64 i, .slice va j vc]) (by simp [results, Try.results89, go_sem, r0, r1, r2, r3]) rfl ?_
            have h := Hacc.out
            have hst2 := hst.out
            rw [List.take_of_length_le (by omega)] at h hst2
            have hA := (((h.setCell ⟨w.heap.size + 1, 0, none⟩ (.slice qa2 binds.length qc2) (by simp <;> omega) (by simp <;> omega)).setCell ⟨w.heap.size + 1, 1, none⟩ (.int .i64 0) (by simp <;> omega) (by simp <;> omega)).setCell ⟨w.heap.size + 1, 2, none⟩ (.int .i64 i) (by simp <;> omega) (by simp <;> omega)).setCell ⟨w.heap.size + 1, 3, none⟩ (.slice va j vc) (by simp <;> omega) (by simp <;> omega)
            have KR := (((((Keep.refl (fun q => w.heap.size + 2 ≤ q ∧ q ≠ p ∧ q < N2) wr).setCell ⟨w.heap.size + 1, 0, none⟩ (.slice qa2 binds.length qc2) (by simp <;> omega)).setCell ⟨w.heap.size + 1, 1, none⟩ (.int .i64 0) (by simp <;> omega)).setCell ⟨w.heap.size + 1, 2, none⟩ (.int .i64 i) (by simp <;> omega)).setCell ⟨w.heap.size + 1, 3, none⟩ (.slice va j vc) (by simp <;> omega))
            have hsetk : ∀ (W : World) (o : Nat) (u : Value) (k : Nat), ro k → (W.setCell ⟨w.heap.size + 1, o, none⟩ u).heap[k]? = W.heap[k]? := fun W o u k hk => Below.heap_setCell _ _ _ _ (by have := Hr2.out k hk; simp; omega)
            rw [Tm.turn_miss f binds 0 i args s n m hmm (fun h => absurd h.2 (by have := HC.out; omega))]
            refine ⟨_, _, _, _, rfl, ?_, ?_, gb_setCell (gb_setCell (gb_setCell (gb_setCell hb (by simp) _) (by simp) _) (by simp) _) (by simp) _⟩
            · exact isTm_mk ((hbi.out.keep KR).weaken (by decide) fun q _ h => by omega) (hA.sl (F' := fun q => w.heap.size ≤ q) (fun q _ hq => by omega) (fun q hq => by omega)) 0 i
            · exact HT.out.keep _ _ _ hst2 fun k hk => (hsetk _ _ _ k hk).trans ((hsetk _ _ _ k hk).trans ((hsetk _ _ _ k hk).trans (hsetk _ _ _ k hk)))
  · have hk0 : (k == 0) = false := by simpa using hk
    go_enter Try.func89, Try.ntmps89
    go_wp2_with fail
    try rw [hmm]
    try rw [hs1]
    obtain ⟨w3, hw3⟩ : ∃ w3, (w.alloc (.cells #[.slice pa binds.length pc, .int .i64 k, .int .i64 i, .slice a args.length c] 37)).alloc (.cells #[.slice none 0 0, .int .i64 0, .int .i64 0, .slice none 0 0] 37) = w3 := ⟨_, rfl⟩
    have B3 : Below w.heap.size w w3 := by rw [← hw3]; exact ((Below.refl _ _).alloc (Nat.le_refl _) _).alloc (by simp) _
    have x0 : Blk w3 w.heap.size #[.slice pa binds.length pc, .int .i64 k, .int .i64 i, .slice a args.length c] 37 := by rw [← hw3]; exact (Blk.new _ _ _ rfl).alloc _
    have x2 : Blk w3 (w.heap.size + 1) #[.slice none 0 0, .int .i64 0, .int .i64 0, .slice none 0 0] 37 := by rw [← hw3]; exact Blk.new _ _ _ (by simp)
    have hsz1 : w3.heap.size = w.heap.size + 2 := by rw [← hw3]; simp
    try rw [hw3]
    clear hw3
    refine wp_region_noPanic (wp_region_need (S := fun w' => w'.cell? ⟨w.heap.size, 0, none⟩ = some (.slice pa binds.length pc) ∧ w'.cell? ⟨w.heap.size, 1, none⟩ = some (.int .i64 k) ∧ w'.cell? ⟨w.heap.size, 2, none⟩ = some (.int .i64 i)) (by kernel_rfl) ?_)
    have hS : (w3.drew).cell? ⟨w.heap.size, 0, none⟩ = some (.slice pa binds.length pc) ∧ (w3.drew).cell? ⟨w.heap.size, 1, none⟩ = some (.int .i64 k) ∧ (w3.drew).cell? ⟨w.heap.size, 2, none⟩ = some (.int .i64 i) := ⟨x0.drew.cell rfl, x0.drew.cell rfl, x0.drew.cell rfl⟩
    refine wpN_take (i := 0) (v := ?v23) rfl (by kernel_rfl) (fun _ _ _ h => h) hS (Or.inl ⟨by rfl, ?hy23⟩) ?hr23
    case hy23 => (intro wS hSw; (try dsimp only at hSw); go_simp; (try with_reducible rfl))
    try simp only [Act.put, List.setIfInBounds_toArray, List.set_cons_zero, List.set_cons_succ, List.getElem_toArray, List.getElem_cons_zero, List.getElem_cons_succ]
    refine wpN_take (i := 1) (v := ?v24) rfl (by kernel_rfl) (fun _ _ _ h => h) hS (Or.inl ⟨by rfl, ?hy24⟩) ?hr24
    case hy24 => (intro wS hSw; (try dsimp only at hSw); go_simp; (try with_reducible rfl))
    try simp only [Act.put, List.setIfInBounds_toArray, List.set_cons_zero, List.set_cons_succ, List.getElem_toArray, List.getElem_cons_zero, List.getElem_cons_succ]
    refine wpN_take (i := 2) (v := ?v25) rfl (by kernel_rfl) (fun _ _ _ h => h) hS (Or.inl ⟨by rfl, ?hy25⟩) ?hr25
    case hy25 => (intro wS hSw; (try dsimp only at hSw); go_simp; (try with_reducible rfl))
    try simp only [Act.put, List.setIfInBounds_toArray, List.set_cons_zero, List.set_cons_succ, List.getElem_toArray, List.getElem_cons_zero, List.getElem_cons_succ]
    refine wpN_take (i := 5) (v := ?v26) rfl (by kernel_rfl) (fun _ _ _ h => h) hS (Or.inl ⟨by rfl, ?hy26⟩) ?hr26
    case hy26 => (intro wS hSw; (try dsimp only at hSw); go_simp; (try with_reducible rfl))
    try simp only [Act.put, List.setIfInBounds_toArray, List.set_cons_zero, List.set_cons_succ, List.getElem_toArray, List.getElem_cons_zero, List.getElem_cons_succ]
    refine wpN_take (i := 6) (v := ?v27) rfl (by kernel_rfl) (fun _ _ _ h => h) hS (Or.inl ⟨by rfl, ?hy27⟩) ?hr27
    case hy27 => (intro wS hSw; (try dsimp only at hSw); go_simp; (try with_reducible rfl))
    try simp only [Act.put, List.setIfInBounds_toArray, List.set_cons_zero, List.set_cons_succ, List.getElem_toArray, List.getElem_cons_zero, List.getElem_cons_succ]
    refine wpN_gathersP [(3, 18), (4, 19), (7, 22), (8, 7)] 1 (fun j v x y w' => match j with
      | 3 => ∃ qa qc, v = .agg #[.slice qa binds.length qc, .int .i64 0] ∧ IsSl rpTy (fun q => x ≤ q ∧ q < y) w' (.slice qa binds.length qc) binds
      | 4 => True
      | 7 => True
      | _ => v = .pointer (some ⟨x, 0, none⟩) ∧ x < y ∧ Blk w' x #[.slice none 0 0, .int .i64 0, .int .i64 0, .slice none 0 0] 37) (fun j u => match j with
      | 4 => ∃ qa qc, u 3 = .agg #[.slice qa binds.length qc, .int .i64 0] ∧ u 4 = .slice qa binds.length qc
      | 7 => ∃ qa qc, u 4 = .slice qa binds.length qc ∧ u 7 = .agg #[.slice qa binds.length qc, .int .i64 k, .int .i64 i, .slice none 0 0]
      | _ => True) rfl rfl (by kernel_rfl) ?gst ?gst' hS ?gop ?gend
    case gst =>
      intro j v x y wa wb h hb
      split at h
      · obtain ⟨a, c, e, ht⟩ := h
        exact ⟨a, c, e, ht.keep ((Keep.refl _ _).below hb)⟩
      · trivial
      · trivial
      · exact ⟨h.1, h.2.1, h.2.2.below hb⟩
    case gst' =>
      intro j hj u u' hu h
      simp only [List.map_cons, List.map_nil, List.mem_cons, List.not_mem_nil, or_false] at hj
      rcases hj with rfl | rfl | rfl | rfl
      · trivial
      · obtain ⟨qa, qc, e1, e2⟩ := h
        exact ⟨qa, qc, (hu 3 (.inr (by kernel_rfl))).trans e1, (hu 4 (.inl rfl)).trans e2⟩
      · obtain ⟨qa, qc, e1, e2⟩ := h
        exact ⟨qa, qc, (hu 4 (.inr (by kernel_rfl))).trans e1, (hu 7 (.inl rfl)).trans e2⟩
      · trivial
    case gop =>
      intro x hx u w' hdep hB' hS'
      obtain ⟨q1, q2, q3⟩ := hS'
      have hbw : Below w3.heap.size w3 w' := (Below.refl _ _).drew.trans hB'
      simp only [List.mem_cons, List.not_mem_nil, or_false] at hx
      rcases hx with rfl | rfl | rfl | rfl
      · refine wpOp_step (i := 3) rfl (fun K hK => ?_)
        have hK := Lib.hid hK
        simp only [fills, List.foldl, Act.put, List.setIfInBounds_toArray, List.set_cons_zero, List.set_cons_succ, List.getElem_toArray, List.getElem_cons_zero, List.getElem_cons_succ]
        go_simp
        refine (Harr.out w' (B3.trans (hbw.mono B3.size))).mono ?_
        rintro e w6 ⟨s', b', rfl, hT, hb6⟩
        obtain ⟨qa, qc, rfl, rfl⟩ := hT.shape
        have hSl := hT.inv.2
        simp only [List.append_nil, args_mk', base_mk'] at hSl ⊢
        have hKp : Keep (fun _ => True) w' w6 := (Keep.refl _ _).below hb6
        exact hK.out _ _ ⟨_, rfl, ⟨_, _, rfl, hSl.weaken (by decide) fun q h1 h2 => ⟨h2, h1⟩⟩, trivial, hb6, hKp _ _ _ trivial q1, hKp _ _ _ trivial q2, hKp _ _ _ trivial q3⟩
      · obtain ⟨_, _, _, qa, qc, e1, _⟩ := hdep 3 (by simp) (by kernel_rfl)
        refine wpOp_step (i := 4) rfl (fun K hK => ?_)
        have hK := Lib.hid hK
        simp only [fills, List.foldl, Act.put, List.setIfInBounds_toArray, List.set_cons_zero, List.set_cons_succ, List.getElem_toArray, List.getElem_cons_zero, List.getElem_cons_succ]
        rw [e1]
        go_simp
        exact hK.out _ _ ⟨.slice qa binds.length qc, by simp only [fills, List.foldl, Act.put, List.setIfInBounds_toArray, List.set_cons_zero, List.set_cons_succ, List.getElem_toArray, List.getElem_cons_zero, List.getElem_cons_succ]; simp [upd, e1], trivial, ⟨qa, qc, e1, rfl⟩, Below.refl _ _, q1, q2, q3⟩
      · obtain ⟨⟨qa, qc, e0, e1⟩, _⟩ := hdep 4 (by simp) (by kernel_rfl)
        refine wpOp_step (i := 7) rfl (fun K hK => ?_)
        have hK := Lib.hid hK
        simp only [fills, List.foldl, Act.put, List.setIfInBounds_toArray, List.set_cons_zero, List.set_cons_succ, List.getElem_toArray, List.getElem_cons_zero, List.getElem_cons_succ]
        rw [e1]
        go_simp
        exact hK.out _ _ ⟨.agg #[.slice qa binds.length qc, .int .i64 k, .int .i64 i, .slice none 0 0], by simp only [fills, List.foldl, Act.put, List.setIfInBounds_toArray, List.set_cons_zero, List.set_cons_succ, List.getElem_toArray, List.getElem_cons_zero, List.getElem_cons_succ]; simp [upd, e1, e0], trivial, ⟨qa, qc, e1, rfl⟩, Below.refl _ _, q1, q2, q3⟩
      · refine wpOp_step (i := 8) rfl (fun K hK => ?_)
        have hK := Lib.hid hK
        simp only [fills, List.foldl, Act.put, List.setIfInBounds_toArray, List.set_cons_zero, List.set_cons_succ, List.getElem_toArray, List.getElem_cons_zero, List.getElem_cons_succ]
        go_simp
        have hb6 : Below w'.heap.size w' (w'.alloc (.cells #[.slice none 0 0, .int .i64 0, .int .i64 0, .slice none 0 0] 37)) := (Below.refl _ _).alloc (Nat.le_refl _) _
        have hKp : Keep (fun _ => True) w' (w'.alloc (.cells #[.slice none 0 0, .int .i64 0, .int .i64 0, .slice none 0 0] 37)) := (Keep.refl _ _).below hb6
        exact hK.out _ _ ⟨_, rfl, ⟨rfl, by simp, Blk.new _ _ _ rfl⟩, trivial, hb6, hKp _ _ _ trivial q1, hKp _ _ _ trivial q2, hKp _ _ _ trivial q3⟩
    case gend =>
      intro u lo hi w' hΦ hΨ hB' hS'
      have hbw : Below w3.heap.size w3 w' := (Below.refl _ _).drew.trans hB'
      obtain ⟨⟨qa, qc, e1, V1⟩, n1, m1, o1⟩ := hΦ.1 3 (by simp) rfl
      obtain ⟨⟨e2, r2, Z2⟩, n2, m2, o2⟩ := hΦ.1 8 (by simp) rfl
      obtain ⟨qa', qc', e3, e4⟩ := hΨ 4 (by simp)
      obtain ⟨qa2, qc2, e5, e6⟩ := hΨ 7 (by simp)
      obtain ⟨rfl, rfl⟩ : qa' = qa ∧ qc' = qc := by rw [e1] at e3; cases e3; exact ⟨rfl, rfl⟩
      obtain ⟨rfl, rfl⟩ : qa2 = qa' ∧ qc2 = qc' := by rw [e4] at e5; cases e5; exact ⟨rfl, rfl⟩
      clear e3 e5
      have k12 := hΦ.2 3 (by simp) 8 (by simp) rfl rfl (by decide)
      clear hΦ hΨ
      simp only [fills, List.foldl, Act.put, List.setIfInBounds_toArray, List.set_cons_zero, List.set_cons_succ, List.getElem_toArray, List.getElem_cons_zero, List.getElem_cons_succ]
      rw [e1, e2, e4, e6]
      clear e1 e2 e4 e6
      have hsz : w3.drew.heap.size = w3.heap.size := rfl
      rw [hsz, hsz1] at n1 n2
      generalize lo 8 = p at *
      have U1 := Lib.hid (V1.weaken (F' := fun q => w.heap.size + 2 ≤ q ∧ q ≠ p) (by decide) fun q _ h => ⟨by omega, by omega⟩)
      clear V1 k12 n1 m1 o1 m2 r2 o2 hsz
      have B2 := B3.trans (hbw.mono B3.size)
      have y0 := x0.below hbw
      have y2 := x2.below hbw
      have r0 : w'.cell? ⟨p, 0, none⟩ = some (.slice none 0 0) := Z2.cell rfl
      have r1 : w'.cell? ⟨p, 1, none⟩ = some (.int .i64 0) := Z2.cell rfl
      have r2 : w'.cell? ⟨p, 2, none⟩ = some (.int .i64 0) := Z2.cell rfl
      have r3 : w'.cell? ⟨p, 3, none⟩ = some (.slice none 0 0) := Z2.cell rfl
      have f0 := Z2.free 0
      have f1 := Z2.free 1
      have f2 := Z2.free 2
      have f3 := Z2.free 3
      refine wpN_step (i := 9) (by kernel_rfl) rfl (fun K hK => ?_)
      go_simp
      refine hK.out _ _ (fun h => absurd h (by decide)) ?_
      clear hK K
      try simp only [Act.put, List.setIfInBounds_toArray, List.set_cons_zero, List.set_cons_succ, List.getElem_toArray, List.getElem_cons_zero, List.getElem_cons_succ]
      refine wpN_done (by kernel_rfl) ?_
      refine NoPanic.normal ?_
      obtain ⟨w2, hw2⟩ : ∃ w2, ((((w'.setCell ⟨p, 0, none⟩ (.slice qa2 binds.length qc2)).setCell ⟨p, 1, none⟩ (.int .i64 k)).setCell ⟨p, 2, none⟩ (.int .i64 i)).setCell ⟨p, 3, none⟩ (.slice none 0 0)) = w2 := ⟨_, rfl⟩
      have hlp := Z2.lt
      have B5 : Below w.heap.size w w2 := by rw [← hw2]; exact ((((B2.setCell (by simp; omega) _).setCell (by simp; omega) _).setCell (by simp; omega) _).setCell (by simp; omega) _)
      have z0 : Blk w2 w.heap.size #[.slice pa binds.length pc, .int .i64 k, .int .i64 i, .slice a args.length c] 37 := by rw [← hw2]; exact ((((y0.far _ _ (by simp; omega)).far _ _ (by simp; omega)).far _ _ (by simp; omega)).far _ _ (by simp; omega))
      have z2 : Blk w2 (w.heap.size + 1) #[.slice none 0 0, .int .i64 0, .int .i64 0, .slice none 0 0] 37 := by rw [← hw2]; exact ((((y2.far _ _ (by simp; omega)).far _ _ (by simp; omega)).far _ _ (by simp; omega)).far _ _ (by simp; omega))
      have zp : Blk w2 p #[.slice qa2 binds.length qc2, .int .i64 k, .int .i64 i, .slice none 0 0] 37 := by rw [← hw2]; exact ((((Z2.set 0 _).set 1 _).set 2 _).set 3 _)
      have KU : Keep (fun q => w.heap.size + 2 ≤ q ∧ q ≠ p) w' w2 := by rw [← hw2]; exact ((((Keep.refl _ _).setCell _ _ (by simp)).setCell _ _ (by simp)).setCell _ _ (by simp)).setCell _ _ (by simp)
      have U2 := Lib.hid (U1.out.keep KU)
      rw [hw2]
      clear hw2 KU U1 y0 y2 Z2 r0 r1 r2 r3 f0 f1 f2 f3 B2 hbw hB' hS' hS x0 x2 B3 hlp
      have hlp2 := zp.lt
      obtain ⟨N2, hN2⟩ : ∃ n, w2.heap.size = n := ⟨_, rfl⟩
      have HN2 := Lib.hid hN2; clear hN2
      have hpN : p < N2 := by have := HN2.out; omega
      have St2 := Lib.hid (HT.out.keep s w w2 HSt.out fun k hk => B5.block k (Hrw.out k hk))
      have c01 : w2.cell? ⟨w.heap.size, 1, none⟩ = some (.int .i64 k) := z0.cell rfl
      have c02 : w2.cell? ⟨w.heap.size, 2, none⟩ = some (.int .i64 i) := z0.cell rfl
      have c03 : w2.cell? ⟨w.heap.size, 3, none⟩ = some (.slice a args.length c) := z0.cell rfl
      have U3 := Lib.hid (U2.out.weaken (F' := fun q => w.heap.size + 2 ≤ q ∧ q ≠ p ∧ q < N2) (by decide) fun q h1 h2 => ⟨h2.1, h2.2, by have := HN2.out; omega⟩)
      clear U2
      have Hr2 : Hid (∀ k, ro k → k < w.heap.size) := Hrw.out
      go_wp2_with fail
      have hrow : ∀ q, w.heap.size ≤ q → row ≠ some q := fun q hq e => by have := Hr2.out q (HT.out.sub q e); omega
      obtain ⟨w7, hw7⟩ : ∃ w7, w2 = w7 := ⟨_, rfl⟩
      have G7 := gb_below B5 row
      have s2 := z2
      have sp := zp
      have U7 := U3
      have St7 := St2
      have hs7 : N2 ≤ w2.heap.size := by have := HN2.out; omega
      rw [hw7] at G7 s2 sp U7 St7 hs7 ⊢
      clear hw7 B5 z0 z2 zp U3 c01 c02 c03 hlp2 St2
      have hrowN : Hid (∀ k, row = some k → ¬ (N2 ≤ k) ∧ k < N2) := fun k hk => by have := Hr2.out k (HT.out.sub k hk); omega
      have Hrow := Lib.hid hrow; clear hrow
      have hacc0 : Acc rpTm 37 N2 (fun q => N2 ≤ q) w7 (.slice none 0 0) [] := Acc.nil _ _ _ _ _
      try go_wp2_with fail
      go_loopw [48] (fun ii wr => ∃ (j : Nat) (v : Value), ii = .int .i64 j ∧ j ≤ args.length ∧ N2 ≤ wr.heap.size ∧
          w.grownBy wr row ∧ Blk wr (w.heap.size + 1) #[.slice none 0 0, .int .i64 0, .int .i64 0, .slice none 0 0] 37 ∧ Blk wr p #[.slice qa2 binds.length qc2, .int .i64 k, .int .i64 i, v] 37 ∧
          Hid (IsSl rpTy (fun q => w.heap.size + 2 ≤ q ∧ q ≠ p ∧ q < N2) wr (.slice qa2 binds.length qc2) binds) ∧ Hid (St (Tm.turns f (args.take j) s m).1 wr) ∧
          Acc rpTm 37 N2 (fun q => N2 ≤ q) wr v (Tm.turns f (args.take j) s m).2) (fun ii _ => args.length - (intOf ii).toNat)
      case atStart => exact ⟨0, _, rfl, by omega, hs7, G7, s2, sp, U7.out, St7.out, hacc0⟩
      case round =>
        clear G7 s2 sp U7 hacc0 hs7 St7
        obtain ⟨j, v, rfl, hj, hsN, hb, hres, hout, hbi, hst, hacc⟩ := hrel
        have hszp := hout.lt
        have hszb := hres.lt
        have Hacc := Lib.hid hacc; clear hacc
        by_cases hlt : j < args.length
        · obtain ⟨rfl, hF⟩ := ha (by omega)
          clear ha
          have hkp : Keep F w0 wr := hw.grown hb fun k hk => HrF.out k hk
          have e1 := hkp _ _ _ hF (h1 j hlt)
          have e2 := hkp _ _ _ hF (h2 j hlt)
          have e3 := hkp _ _ _ hF (h3 j hlt)
          have e4 := hkp _ _ _ hF (h4 j hlt)
          have hlt0 : (0 : Int) ≤ (j : Int) := Int.natCast_nonneg _
          have hlt1 : (j : Int) < (args.length : Int) := by omega
          have Hl : Hid ((Tm.turns f (args.take j) s m).2.length = j) := by show _ = _; rw [Tm.turns_len, List.length_take]; omega
          have Hne : Hid (∀ q, q < N2 → v.ownBlock ≠ some q) := fun q hq e => by have := (Hacc.out.base_le q e).1; omega
          have Htk := Lib.hid (Tm.turns_take f args s m j hlt)
          have hblw : bl < wr.heap.size := Keep.lt e1
          go_wp2_with fail
          obtain ⟨wa, hwa⟩ : ∃ wa, wr.alloc (.cells #[.slice (PA j) (PN j) (PC j), .int .i64 (Kd j), .int .i64 (Ix j), .slice (A j) (N j) (C j)] 37) = wa := ⟨_, rfl⟩
          obtain ⟨qn, hqn⟩ : ∃ qn, wr.heap.size = qn := ⟨_, rfl⟩
          have ba : Below wr.heap.size wr wa := by rw [← hwa]; exact (Below.refl _ _).alloc (Nat.le_refl _) _
          have xa : Blk wa qn #[.slice (PA j) (PN j) (PC j), .int .i64 (Kd j), .int .i64 (Ix j), .slice (A j) (N j) (C j)] 37 := by rw [← hwa]; exact Blk.new _ _ _ hqn.symm
          have hba := gb_trans hb (gb_below ba row)
          have hresa := hres.below ba
          have houta := hout.below ba
          have Hacca := Lib.hid (Hacc.out.below ba)
          have hbia := Lib.hid (hbi.out.keep ((Keep.refl _ _).below ba))
          have hsta := Lib.hid (HT.out.keep _ _ _ hst.out fun k hk => ba.block k (by have := Hr2.out k hk; have := hb.size; omega))
          have hown : Hid (v.ownBlock ≠ some qn) := fun e => by have := (Hacc.out.base_le qn e).2; omega
          have hsNa : N2 ≤ wa.heap.size := Nat.le_trans hsN ba.size
          have hqN : N2 ≤ qn := by omega
          try rw [hwa]
          try rw [hqn]
          clear hwa hqn ba hb hres hout Hacc hbi hst hsN hszp hszb hblw e1 e2 e3 e4 hkp
          have hszp := houta.lt
          have hszb := hresa.lt
          refine wp_region_noPanic (wp_region_need (S := fun w' => w'.cell? ⟨p, 3, none⟩ = some v ∧ w'.cell? ⟨qn, 0, none⟩ = some (.slice (PA j) (PN j) (PC j)) ∧ w'.cell? ⟨qn, 1, none⟩ = some (.int .i64 (Kd j)) ∧ w'.cell? ⟨qn, 2, none⟩ = some (.int .i64 (Ix j)) ∧ w'.cell? ⟨qn, 3, none⟩ = some (.slice (A j) (N j) (C j))) (by kernel_rfl) ?_)
          have hS : (wa.drew).cell? ⟨p, 3, none⟩ = some v ∧ (wa.drew).cell? ⟨qn, 0, none⟩ = some (.slice (PA j) (PN j) (PC j)) ∧ (wa.drew).cell? ⟨qn, 1, none⟩ = some (.int .i64 (Kd j)) ∧ (wa.drew).cell? ⟨qn, 2, none⟩ = some (.int .i64 (Ix j)) ∧ (wa.drew).cell? ⟨qn, 3, none⟩ = some (.slice (A j) (N j) (C j)) := ⟨houta.drew.cell rfl, xa.drew.cell rfl, xa.drew.cell rfl, xa.drew.cell rfl, xa.drew.cell rfl⟩
          refine wpN_take (i := 0) (v := ?v28) rfl (by kernel_rfl) (fun _ _ _ h => h) hS (Or.inl ⟨by rfl, ?hy28⟩) ?hr28
          case hy28 => (intro wS hSw; (try dsimp only at hSw); go_simp; (try with_reducible rfl))
          try simp only [Act.put, List.setIfInBounds_toArray, List.set_cons_zero, List.set_cons_succ, List.getElem_toArray, List.getElem_cons_zero, List.getElem_cons_succ]
          refine wpN_take (i := 1) (v := ?v29) rfl (by kernel_rfl) (fun _ _ _ h => h) hS (Or.inl ⟨by rfl, ?hy29⟩) ?hr29
          case hy29 => (intro wS hSw; (try dsimp only at hSw); go_simp; (try with_reducible rfl))
          try simp only [Act.put, List.setIfInBounds_toArray, List.set_cons_zero, List.set_cons_succ, List.getElem_toArray, List.getElem_cons_zero, List.getElem_cons_succ]
          refine wpN_take (i := 2) (v := ?v30) rfl (by kernel_rfl) (fun _ _ _ h => h) hS (Or.inl ⟨by rfl, ?hy30⟩) ?hr30
          case hy30 => (intro wS hSw; (try dsimp only at hSw); go_simp; (try with_reducible rfl))
          try simp only [Act.put, List.setIfInBounds_toArray, List.set_cons_zero, List.set_cons_succ, List.getElem_toArray, List.getElem_cons_zero, List.getElem_cons_succ]
          refine wpN_take (i := 3) (v := ?v31) rfl (by kernel_rfl) (fun _ _ _ h => h) hS (Or.inl ⟨by rfl, ?hy31⟩) ?hr31
          case hy31 => (intro wS hSw; (try dsimp only at hSw); go_simp; (try with_reducible rfl))
          try simp only [Act.put, List.setIfInBounds_toArray, List.set_cons_zero, List.set_cons_succ, List.getElem_toArray, List.getElem_cons_zero, List.getElem_cons_succ]
          refine wpN_take (i := 4) (v := ?v32) rfl (by kernel_rfl) (fun _ _ _ h => h) hS (Or.inl ⟨by rfl, ?hy32⟩) ?hr32
          case hy32 => (intro wS hSw; (try dsimp only at hSw); go_simp; (try with_reducible rfl))
          try simp only [Act.put, List.setIfInBounds_toArray, List.set_cons_zero, List.set_cons_succ, List.getElem_toArray, List.getElem_cons_zero, List.getElem_cons_succ]
          refine wpN_step (i := 5) (by kernel_rfl) rfl (fun K hK => ?_)
          go_simp
          refine (Hih.out j hlt _ wa.drew (hw.grown hba fun k hk => HrF.out k hk).drew (fun k hk => by have := Hr2.out k hk; have := hba.size; simp at *; omega) (HT.out.keep _ _ _ hsta.out fun _ _ => rfl)).mono ?_
          rintro e w5 ⟨b', k', i', a', rfl, hr1, hst5, hg5⟩
          have hg5' : wa.grownBy w5 row := gb_trans (gb_below (Below.refl _ _).drew row) hg5
          have hsg := hg5'.size
          have outa5 := houta.grown hg5' (Hrow.out _ (by omega))
          have resa5 := hresa.grown hg5' (Hrow.out _ (by omega))
          have xa5 := xa.grown hg5' (Hrow.out _ (by omega))
          have acc5 := Lib.hid (Hacca.out.other hg5' hrowN.out)
          have bi5 := Lib.hid (hbia.out.keep ((Keep.refl _ _).grown hg5' fun k hk hf => by have := Hr2.out k (HT.out.sub k hk); omega))
          have G5 := gb_trans hba hg5'
          have Hst5 := Lib.hid hst5; clear hst5
          clear houta hresa xa hbia hba hszp hszb hsta
          have hS : (w5).cell? ⟨p, 3, none⟩ = some v ∧ (w5).cell? ⟨qn, 0, none⟩ = some (.slice (PA j) (PN j) (PC j)) ∧ (w5).cell? ⟨qn, 1, none⟩ = some (.int .i64 (Kd j)) ∧ (w5).cell? ⟨qn, 2, none⟩ = some (.int .i64 (Ix j)) ∧ (w5).cell? ⟨qn, 3, none⟩ = some (.slice (A j) (N j) (C j)) := ⟨outa5.cell rfl, xa5.cell rfl, xa5.cell rfl, xa5.cell rfl, xa5.cell rfl⟩
          refine hK.out _ _ (fun _ => hS) ?_
          clear hK K
          try simp only [Act.put, List.setIfInBounds_toArray, List.set_cons_zero, List.set_cons_succ, List.getElem_toArray, List.getElem_cons_zero, List.getElem_cons_succ]
          refine wpN_step (i := 6) (by kernel_rfl) rfl (fun K hK => ?_)
          go_simp
          have hS : (w5.alloc (.cells #[b', k', i', a'] 37)).cell? ⟨p, 3, none⟩ = some v ∧ (w5.alloc (.cells #[b', k', i', a'] 37)).cell? ⟨qn, 0, none⟩ = some (.slice (PA j) (PN j) (PC j)) ∧ (w5.alloc (.cells #[b', k', i', a'] 37)).cell? ⟨qn, 1, none⟩ = some (.int .i64 (Kd j)) ∧ (w5.alloc (.cells #[b', k', i', a'] 37)).cell? ⟨qn, 2, none⟩ = some (.int .i64 (Ix j)) ∧ (w5.alloc (.cells #[b', k', i', a'] 37)).cell? ⟨qn, 3, none⟩ = some (.slice (A j) (N j) (C j)) := ⟨(outa5.alloc _).cell rfl, (xa5.alloc _).cell rfl, (xa5.alloc _).cell rfl, (xa5.alloc _).cell rfl, (xa5.alloc _).cell rfl⟩
          refine hK.out _ _ (fun _ => hS) ?_
          clear hK K
          try simp only [Act.put, List.setIfInBounds_toArray, List.set_cons_zero, List.set_cons_succ, List.getElem_toArray, List.getElem_cons_zero, List.getElem_cons_succ]
          refine wpN_step (i := 7) (by kernel_rfl) rfl (fun K hK => ?_)
          refine step_push rpTm (by decide) (by rfl) _ _ _ (by rfl) N2 37 i2 _ 64 Try.underlying35 hi2 hz0 hz1 hz2 rfl (by decide)
                 (fun q => N2 ≤ q) v (Tm.turns f (args.take j) s m).2 (by rfl) (acc5.out.alloc _) (by rw [Hl.out]; omega)
                 w5.heap.size _ [b', k', i', a'] (Tm.turn f args[j] (Tm.turns f (args.take j) s m).1 m).2 (by rfl) (heap_alloc_new _ _) ⟨_, _, _, _, rfl, (hr1.weaken (fun q _ hq => ⟨Nat.le_trans (show N2 ≤ wa.drew.heap.size from hsNa) hq, fun e => by have := (Hacca.out.base_le q e).2; exact absurd this (Nat.not_lt.2 hq)⟩)).keep ((Keep.refl _ _).alloc _)⟩ (by have := hsg; simp at *; omega) ?_
          intro gg cap w6 hacc2 hgrow hat hlt2
          have o2 := (outa5.alloc _).grown hgrow (Hne.out _ (by omega))
          have o1 := (resa5.alloc _).grown hgrow (Hne.out _ (by omega))
          have oq := (xa5.alloc _).grown hgrow hown.out
          have bi6 := Lib.hid (((bi5.out.keep ((Keep.refl _ _).alloc _)).weaken (F' := fun q => (w.heap.size + 2 ≤ q ∧ q ≠ p ∧ q < N2) ∧ v.ownBlock ≠ some q) (by decide) fun q _ h => ⟨h, Hne.out q h.2.2⟩).keep ((Keep.refl _ _).grown hgrow fun k hk hf => hf.2 hk))
          have G6 := gb_grown (gb_trans G5 (gb_below ((Below.refl _ _).alloc (Nat.le_refl _) _) row)) hgrow (fun q hq => by have := (Hacca.out.base_le q hq).1; omega)
          have st6 := Lib.hid (HT.out.keep _ _ _ Hst5.out fun k hk => ((hgrow.block k (by have := Hr2.out k hk; have := G5.size; simp; omega) (fun e => Hne.out k (by have := Hr2.out k hk; omega) e.symm)).trans (Below.heap_alloc _ _ _ (by have := Hr2.out k hk; have := G5.size; omega))))
          have hS : (w6).cell? ⟨p, 3, none⟩ = some v ∧ (w6).cell? ⟨qn, 0, none⟩ = some (.slice (PA j) (PN j) (PC j)) ∧ (w6).cell? ⟨qn, 1, none⟩ = some (.int .i64 (Kd j)) ∧ (w6).cell? ⟨qn, 2, none⟩ = some (.int .i64 (Ix j)) ∧ (w6).cell? ⟨qn, 3, none⟩ = some (.slice (A j) (N j) (C j)) := ⟨o2.cell (i := 3) rfl, oq.cell rfl, oq.cell rfl, oq.cell rfl, oq.cell rfl⟩
          have p2 := o2.free 3
          have Hacc2 := Lib.hid hacc2; clear hacc2
          refine hK.out _ _ (fun _ => hS) ?_
          clear hK K
          try simp only [Act.put, List.setIfInBounds_toArray, List.set_cons_zero, List.set_cons_succ, List.getElem_toArray, List.getElem_cons_zero, List.getElem_cons_succ]
          refine wpN_take (i := 8) (v := ?v33) rfl (by kernel_rfl) (fun _ _ _ h => h) hS (Or.inl ⟨by rfl, ?hy33⟩) ?hr33
          case hy33 => (intro wS hSw; (try dsimp only at hSw); go_simp; (try with_reducible rfl))
          try simp only [Act.put, List.setIfInBounds_toArray, List.set_cons_zero, List.set_cons_succ, List.getElem_toArray, List.getElem_cons_zero, List.getElem_cons_succ]
          refine wpN_step (i := 9) (by kernel_rfl) rfl (fun K hK => ?_)
          go_simp
          refine hK.out _ _ (fun h => absurd h (by decide)) ?_
          clear hK K
          try simp only [Act.put, List.setIfInBounds_toArray, List.set_cons_zero, List.set_cons_succ, List.getElem_toArray, List.getElem_cons_zero, List.getElem_cons_succ]
          refine wpN_done (by kernel_rfl) ?_
          refine NoPanic.normal ?_
          have hs6 : N2 ≤ w6.heap.size := by have := hgrow.size; simp at *; omega
          clear o1 oq
          have o1 := (resa5.alloc _).grown hgrow (Hne.out _ (by omega))
          go_wp2_with fail
          refine ⟨⟨j + 1, _, by go_num, by omega, by simpa using hs6, gb_setCell G6 (by simp <;> omega) _, o1.far _ _ (by simp <;> omega), o2.set 3 _, ?_, ?_, ?_⟩, by simp [intOf]; omega⟩
          · exact ((bi6.out.weaken (F' := fun q => w.heap.size + 2 ≤ q ∧ q ≠ p ∧ q < N2) (by decide) fun q _ h => h.1).keep ((Keep.refl _ _).setCell _ _ (by simp)))
          · show St _ _
            rw [Htk.out]
            exact HT.out.keep _ _ _ st6.out fun k hk => Below.heap_setCell _ _ _ _ (by have := Hr2.out k hk; simp; omega)
          · have h := Hacc2.out
            rw [Htk.out]
            exact h.setCell ⟨p, 3, none⟩ _ (by simp <;> omega) (by simp <;> omega)
        · obtain ⟨va, vc, hv⟩ := Hacc.out.len_shape
          rw [Tm.turns_len, List.length_take, Nat.min_eq_left hj] at hv
          subst hv
          have d1 : wr.cell? ⟨p, 0, none⟩ = some (.slice qa2 binds.length qc2) := hout.cell rfl
          have d2 : wr.cell? ⟨p, 1, none⟩ = some (.int .i64 k) := hout.cell rfl
          have d3 : wr.cell? ⟨p, 2, none⟩ = some (.int .i64 i) := hout.cell rfl
          have d4 : wr.cell? ⟨p, 3, none⟩ = some (.slice va j vc) := hout.cell rfl
          have r0 : wr.cell? ⟨w.heap.size + 1, 0, none⟩ = some (.slice none 0 0) := hres.cell rfl
          have r1 : wr.cell? ⟨w.heap.size + 1, 1, none⟩ = some (.int .i64 0) := hres.cell rfl
          have r2 : wr.cell? ⟨w.heap.size + 1, 2, none⟩ = some (.int .i64 0) := hres.cell rfl
          have r3 : wr.cell? ⟨w.heap.size + 1, 3, none⟩ = some (.slice none 0 0) := hres.cell rfl
          have f0 := hres.free 0
          have f1 := hres.free 1
          have f2 := hres.free 2
          have f3 := hres.free 3
          go_wp2_with fail
          refine bodyPost_ret (v := .agg #[.slice qa2 binds.length qc2, .int .i64 k, .int .i64 i, .slice va j vc]) (by simp [results, Try.results89, go_sem, r0, r1, r2, r3]) rfl ?_
          have h := Hacc.out
          have hst2 := hst.out
          rw [List.take_of_length_le (by omega)] at h hst2
          have hA := (((h.setCell ⟨w.heap.size + 1, 0, none⟩ (.slice qa2 binds.length qc2) (by simp <;> omega) (by simp <;> omega)).setCell ⟨w.heap.size + 1, 1, none⟩ (.int .i64 k) (by simp <;> omega) (by simp <;> omega)).setCell ⟨w.heap.size + 1, 2, none⟩ (.int .i64 i) (by simp <;> omega) (by simp <;> omega)).setCell ⟨w.heap.size + 1, 3, none⟩ (.slice va j vc) (by simp <;> omega) (by simp <;> omega)
          have KR := (((((Keep.refl (fun q => w.heap.size + 2 ≤ q ∧ q ≠ p ∧ q < N2) wr).setCell ⟨w.heap.size + 1, 0, none⟩ (.slice qa2 binds.length qc2) (by simp <;> omega)).setCell ⟨w.heap.size + 1, 1, none⟩ (.int .i64 k) (by simp <;> omega)).setCell ⟨w.heap.size + 1, 2, none⟩ (.int .i64 i) (by simp <;> omega)).setCell ⟨w.heap.size + 1, 3, none⟩ (.slice va j vc) (by simp <;> omega))
          have hsetk : ∀ (W : World) (o : Nat) (u : Value) (k : Nat), ro k → (W.setCell ⟨w.heap.size + 1, o, none⟩ u).heap[k]? = W.heap[k]? := fun W o u k hk => Below.heap_setCell _ _ _ _ (by have := Hr2.out k hk; simp; omega)
          rw [Tm.turn_miss f binds k i args s n m hmm (fun h => hk h.1)]
          refine ⟨_, _, _, _, rfl, ?_, ?_, gb_setCell (gb_setCell (gb_setCell (gb_setCell hb (by simp) _) (by simp) _) (by simp) _) (by simp) _⟩
          · exact isTm_mk ((hbi.out.keep KR).weaken (by decide) fun q _ h => by omega) (hA.sl (F' := fun q => w.heap.size ≤ q) (fun q _ hq => by omega) (fun q hq => by omega)) k i
          · exact HT.out.keep _ _ _ hst2 fun k hk => (hsetk _ _ _ k hk).trans ((hsetk _ _ _ k hk).trans ((hsetk _ _ _ k hk).trans (hsetk _ _ _ k hk)))
end Go.Proofs.Ytejpgifofkiofaa

