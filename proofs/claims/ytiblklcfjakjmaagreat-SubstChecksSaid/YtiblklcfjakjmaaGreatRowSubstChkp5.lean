/-
  term.turned: a term whose loose indexes a function turns. term.Copy, term.Body. Loops over an iterator that writes cells of its own between two rounds. term.each: all terms within, each ahead of its arguments: what the iterator hands to a loop's body. term.Size, term.Depth, term.Right, term.Loose: what the loops over all terms within hand back. term.Right. term.Equal, and slices.EqualFunc with it. Contracts of before, as deep ones. Deep contracts, as ones of before. Terms put for variables, in plain Lean: what norm.Put and subst.Apply make of terms and of a budget. A budget in memory: New, Left, Dry, take, Spend.
-/
import Derived.Test.YtiblklcfjakjmaaGreatRowSubstChkp1
import Derived.Test.YtiblklcfjakjmaaGreatRowSubstChkp4
import Derived.RangeFuncWrites
import Derived.RegionTactic
import Derived.Test.YtiblklcfjakjmaaGreatProg
import Derived.Lib.Hide
import Derived.Laws.LoneSync
import Derived.Deep.RegionHeld3
import Derived.Deep.DrawnRows
import Derived.Tactics2
set_option maxRecDepth 100000
set_option maxHeartbeats 1000000
set_option linter.unusedVariables false
set_option linter.unusedSimpArgs false
namespace Go.Proofs.YtiblklcfjakjmaaGreat
open Go.RowKit

namespace Tm
mutual
def turn {σ : Type} (f : σ → Int → σ × Int) : Tm → σ → Int → σ × Tm
  | .mk b k i a, s, n =>
    ((turns f a (if k = 0 ∧ n + (b.length : Nat) ≤ i then (f s (i - (n + (b.length : Nat)))).1 else s) (n + (b.length : Nat))).1,
      .mk b k (if k = 0 ∧ n + (b.length : Nat) ≤ i then n + (b.length : Nat) + (f s (i - (n + (b.length : Nat)))).2 else i) (turns f a (if k = 0 ∧ n + (b.length : Nat) ≤ i then (f s (i - (n + (b.length : Nat)))).1 else s) (n + (b.length : Nat))).2)
def turns {σ : Type} (f : σ → Int → σ × Int) : List Tm → σ → Int → σ × List Tm
  | [], s, _ => (s, [])
  | t :: l, s, n => ((turns f l (turn f t s n).1 n).1, (turn f t s n).2 :: (turns f l (turn f t s n).1 n).2)
end
variable {σ : Type} (f : σ → Int → σ × Int)
theorem turn_hit (b : List Ty) (i : Int) (a : List Tm) (s : σ) (n m : Int) (hm : n + (b.length : Int) = m) (h : m ≤ i) :
    turn f (.mk b 0 i a) s n = ((turns f a (f s (i - m)).1 m).1, .mk b 0 (m + (f s (i - m)).2) (turns f a (f s (i - m)).1 m).2) := by
  subst hm; rw [turn]; simp only [true_and, if_pos h]
theorem turn_miss (b : List Ty) (k i : Int) (a : List Tm) (s : σ) (n m : Int) (hm : n + (b.length : Int) = m) (h : ¬ (k = 0 ∧ m ≤ i)) :
    turn f (.mk b k i a) s n = ((turns f a s m).1, .mk b k i (turns f a s m).2) := by
  subst hm; rw [turn]; simp only [if_neg h]
theorem turns_append (l l' : List Tm) (s : σ) (n : Int) : turns f (l ++ l') s n = ((turns f l' (turns f l s n).1 n).1, (turns f l s n).2 ++ (turns f l' (turns f l s n).1 n).2) := by
  induction l generalizing s with
  | nil => simp [turns]
  | cons t l ih => simp only [List.cons_append, turns, ih]
theorem turns_len (l : List Tm) (s : σ) (n : Int) : (turns f l s n).2.length = l.length := by
  induction l generalizing s with
  | nil => simp [turns]
  | cons t l ih => simp [turns, ih]
theorem turns_take (l : List Tm) (s : σ) (n : Int) (j : Nat) (h : j < l.length) :
    turns f (l.take (j + 1)) s n = ((turn f l[j] (turns f (l.take j) s n).1 n).1, (turns f (l.take j) s n).2 ++ [(turn f l[j] (turns f (l.take j) s n).1 n).2]) := by
  rw [List.take_succ_eq_append_getElem h, turns_append]; simp [turns]
end Tm

theorem gb_trans {a w w' : World} {row : Option Nat} (h : a.grownBy w row) (k : w.grownBy w' row) : a.grownBy w' row :=
  ⟨k.os.trans h.os, k.tape.trans h.tape, k.output.trans h.output, Nat.le_trans h.size k.size, fun i hi hne => (k.block i (Nat.lt_of_lt_of_le hi h.size) hne).trans (h.block i hi hne)⟩
theorem gb_below {w w' : World} (h : Below w.heap.size w w') (row : Option Nat) : w.grownBy w' row :=
  ⟨h.os, h.tape, h.output, h.size, fun i hi _ => h.block i hi⟩
theorem gb_setCell {a w : World} {row : Option Nat} (h : a.grownBy w row) {p : Addr} (hp : a.heap.size ≤ p.block) (v : Value) : a.grownBy (w.setCell p v) row :=
  ⟨h.os, h.tape, h.output, by simpa using h.size, fun i hi hne => (Below.heap_setCell _ _ _ _ (by omega)).trans (h.block i hi hne)⟩
theorem gb_grown {a w w' : World} {row r2 : Option Nat} (h : a.grownBy w row) (k : w.grownBy w' r2) (hr : ∀ k, r2 = some k → a.heap.size ≤ k) : a.grownBy w' row :=
  ⟨k.os.trans h.os, k.tape.trans h.tape, k.output.trans h.output, Nat.le_trans h.size k.size, fun i hi hne => (k.block i (Nat.lt_of_lt_of_le hi h.size) (fun e => by have := hr i e.symm; omega)).trans (h.block i hi hne)⟩
theorem Acc.other {α : Type} {r : Rp α} {E : TypeId} {base : Nat} {F : Nat → Prop} {w w' : World} {v : Value} {l : List α} {row : Option Nat} (h : Acc r E base F w v l) (hg : w.grownBy w' row) (hr : ∀ k, row = some k → ¬ F k ∧ k < base) : Acc r E base F w' v l := by
  obtain ⟨X, h1, h2, h3⟩ := h
  refine ⟨X, h1, h2.kept hg ?_, fun i hi => ?_⟩
  · cases hv : v.ownBlock with
    | none => exact .inl rfl
    | some k => exact .inr fun e => by have := (h2.lt k hv).1; have := (hr k e.symm).2; omega
  · obtain ⟨x, hx, hrr⟩ := h3 i hi
    exact ⟨x, hx, r.keep hrr ((Keep.refl _ _).grown hg fun k hk hf => (hr k hk).1 hf.1)⟩

def TurnPost {σ : Type} (row : Option Nat) (St : σ → World → Prop) (p : σ × Tm) (w : World) (e : Ending) (w' : World) : Prop :=
  ∃ b k i a, e = .returned (.agg #[b, k, i, a]) ∧ IsTm (fun q => w.heap.size ≤ q) w' b k i a p.2 ∧ St p.1 w' ∧ w.grownBy w' row

structure TurnerC  (row : Option Nat) (ro : Nat → Prop) {σ : Type} (St : σ → World → Prop) (f : σ → Int → σ × Int) : Prop where
  call : ∀ s x w, St s w → 0 ≤ x → x ≤ 9223372036854775807 → Calls Tryz.prog 105 #[.int .i64 x] w fun e w' => e = .returned (.int .i64 (f s x).2) ∧ St (f s x).1 w' ∧ w.grownBy w' row
  keep : ∀ s w w', St s w → (∀ k, ro k → w'.heap[k]? = w.heap[k]?) → St s w'
  sub : ∀ k, row = some k → ro k
  rng : ∀ s x, 0 ≤ x → 0 ≤ (f s x).2 ∧ ((f s x).2 ≤ x ∨ (f s x).2 ≤ 1000)

def TurnedKC  {σ : Type} (row : Option Nat) (ro : Nat → Prop) (St : σ → World → Prop) (f : σ → Int → σ × Int) (t : Tm) : Prop :=
  ∀ (F : Nat → Prop) (w0 : World) (b0 k0 i0 a0 : Value), IsTm F w0 b0 k0 i0 a0 t → (∀ k, row = some k → ¬ F k) → ∀ (s : σ) (n : Int) (w : World), Keep F w0 w → (∀ k, ro k → k < w.heap.size) → St s w → 0 ≤ n → n + t.full ≤ 90000 → t.Fit →
    Calls Tryz.prog 104 #[.agg #[b0, k0, i0, a0], .int .i64 n, .func (.func 105) #[] #[]] w (TurnPost row St (Tm.turn f t s n) w)

set_option maxRecDepth 100000 in
set_option maxHeartbeats 2000000 in
theorem turned_kC  {σ : Type} {row : Option Nat} {ro : Nat → Prop} {St : σ → World → Prop} {f : σ → Int → σ × Int} (hT : TurnerC  row ro St f) : ∀ t : Tm, TurnedKC  row ro St f t := Tm.ind fun binds k i args ih => by
  intro F w0 b0 k0 i0 a0 ht hrF s n w hw hrw hSt hn0 hn1 hfit
  obtain ⟨rfl, rfl, hb, hs⟩ := ht.inv
  obtain ⟨pa, pc, rfl⟩ := hb.shape
  obtain ⟨a, c, rfl⟩ := hs.shape
  simp only [Tm.binds, Tm.kind, Tm.index, Tm.args] at *
  obtain ⟨_, hm, bl, off, PA, A, PN, PC, N, C, Kd, Ix, ha, h1, h2, h3, h4, h5⟩ := sl_cells6 hs
  clear hs ht
  rw [Tm.full_eq] at hn1
  obtain ⟨hi0, hi1, hfa⟩ := Tm.fit_iff.1 hfit
  have hnl : binds.length ≤ 90000 := by have := Ty.le_sizes binds; omega
  have hal : args.length ≤ 90000 := by have := Tm.len_fulls args; omega
  obtain ⟨m, hmm⟩ : ∃ m : Int, n + (binds.length : Int) = m := ⟨_, rfl⟩
  have hm0 : 0 ≤ m := by omega
  have hm1 : m ≤ 90000 := by have := Ty.le_sizes binds; omega
  have hs1 : IntKind.i64.wrap m = m := IntWalk.i64_in _ (by omega)
  have Harr : Hid (∀ w' : World, Below w.heap.size w w' → Calls Tryz.prog 93 #[.agg #[.slice none 0 0, .int .i64 0], .slice pa binds.length pc] w' (FreshTy (.mk (binds ++ []) 0) w')) := fun w' hb' => by
    have h := arrow_k (isTy_mk (isSl_nil rpTy F w') 0) (hb.keep (hw.below hb')) (by simp [Ty.size, Ty.sizes]; have := Ty.le_sizes binds; omega)
    exact h
  have Hih : Hid (∀ j (h : j < args.length) (s : σ) (w' : World), Keep F w0 w' → (∀ k, ro k → k < w'.heap.size) → St s w' →
      Calls Tryz.prog 104 #[.agg #[.slice (PA j) (PN j) (PC j), .int .i64 (Kd j), .int .i64 (Ix j), .slice (A j) (N j) (C j)], .int .i64 m, .func (.func 105) #[] #[]] w' (TurnPost row St (Tm.turn f args[j] s m) w')) :=
    fun j h s w' hw hr hs => ih _ (List.getElem_mem h) _ _ _ _ _ _ (h5 j h) hrF s m w' hw hr hs hm0 (by have := Tm.full_mem (List.getElem_mem h); have := Ty.le_sizes binds; omega) (hfa _ (List.getElem_mem h))
  have HrF := Lib.hid hrF
  have HSt := Lib.hid hSt
  have Hrw := Lib.hid hrw
  have HT := Lib.hid hT
  clear ih h5 hb hfit hfa hrF hSt hrw hT
  obtain ⟨i2, hi2, hz0, hz1, hz2⟩ := info_parts infoT
  by_cases hk : k = 0
  · subst hk
    have hk0 : ((0 : Int) == 0) = true := rfl
    by_cases hge : i ≥ m
    · have HC : Hid (m ≤ i) := hge
      have hq1 : IntKind.i64.wrap (i - m) = i - m := IntWalk.i64_in _ (by omega)
      go_enter Tryz.func104, Tryz.ntmps104
      go_wp2_with fail
      try rw [hmm]
      try rw [hs1]
      obtain ⟨w3, hw3⟩ : ∃ w3, (w.alloc (.cells #[.slice pa binds.length pc, .int .i64 0, .int .i64 i, .slice a args.length c] 52)).alloc (.cells #[.slice none 0 0, .int .i64 0, .int .i64 0, .slice none 0 0] 52) = w3 := ⟨_, rfl⟩
      have B3 : Below w.heap.size w w3 := by rw [← hw3]; exact ((Below.refl _ _).alloc (Nat.le_refl _) _).alloc (by simp) _
      have x0 : Blk w3 w.heap.size #[.slice pa binds.length pc, .int .i64 0, .int .i64 i, .slice a args.length c] 52 := by rw [← hw3]; exact (Blk.new _ _ _ rfl).alloc _
      have x2 : Blk w3 (w.heap.size + 1) #[.slice none 0 0, .int .i64 0, .int .i64 0, .slice none 0 0] 52 := by rw [← hw3]; exact Blk.new _ _ _ (by simp)
      have hsz1 : w3.heap.size = w.heap.size + 2 := by rw [← hw3]; simp
      try rw [hw3]
      clear hw3
      refine wp_region_noPanic (wp_region_need (S := fun w' => w'.cell? ⟨w.heap.size, 0, none⟩ = some (.slice pa binds.length pc) ∧ w'.cell? ⟨w.heap.size, 1, none⟩ = some (.int .i64 0) ∧ w'.cell? ⟨w.heap.size, 2, none⟩ = some (.int .i64 i)) (by kernel_rfl) ?_)
      have hS : (w3.drew).cell? ⟨w.heap.size, 0, none⟩ = some (.slice pa binds.length pc) ∧ (w3.drew).cell? ⟨w.heap.size, 1, none⟩ = some (.int .i64 0) ∧ (w3.drew).cell? ⟨w.heap.size, 2, none⟩ = some (.int .i64 i) := ⟨x0.drew.cell rfl, x0.drew.cell rfl, x0.drew.cell rfl⟩
      refine wpN_take (i := 0) (v := ?v1) rfl (by kernel_rfl) (fun _ _ _ h => h) hS (Or.inl ⟨by rfl, ?hy1⟩) ?hr1
      case hy1 => (intro wS hSw; (try dsimp only at hSw); go_simp; (try with_reducible rfl))
      try simp only [Act.put, List.setIfInBounds_toArray, List.set_cons_zero, List.set_cons_succ, List.getElem_toArray, List.getElem_cons_zero, List.getElem_cons_succ]
      refine wpN_take (i := 1) (v := ?v2) rfl (by kernel_rfl) (fun _ _ _ h => h) hS (Or.inl ⟨by rfl, ?hy2⟩) ?hr2
      case hy2 => (intro wS hSw; (try dsimp only at hSw); go_simp; (try with_reducible rfl))
      try simp only [Act.put, List.setIfInBounds_toArray, List.set_cons_zero, List.set_cons_succ, List.getElem_toArray, List.getElem_cons_zero, List.getElem_cons_succ]
      refine wpN_take (i := 2) (v := ?v3) rfl (by kernel_rfl) (fun _ _ _ h => h) hS (Or.inl ⟨by rfl, ?hy3⟩) ?hr3
      case hy3 => (intro wS hSw; (try dsimp only at hSw); go_simp; (try with_reducible rfl))
      try simp only [Act.put, List.setIfInBounds_toArray, List.set_cons_zero, List.set_cons_succ, List.getElem_toArray, List.getElem_cons_zero, List.getElem_cons_succ]
      refine wpN_take (i := 5) (v := ?v4) rfl (by kernel_rfl) (fun _ _ _ h => h) hS (Or.inl ⟨by rfl, ?hy4⟩) ?hr4
      case hy4 => (intro wS hSw; (try dsimp only at hSw); go_simp; (try with_reducible rfl))
      try simp only [Act.put, List.setIfInBounds_toArray, List.set_cons_zero, List.set_cons_succ, List.getElem_toArray, List.getElem_cons_zero, List.getElem_cons_succ]
      refine wpN_take (i := 6) (v := ?v5) rfl (by kernel_rfl) (fun _ _ _ h => h) hS (Or.inl ⟨by rfl, ?hy5⟩) ?hr5
      case hy5 => (intro wS hSw; (try dsimp only at hSw); go_simp; (try with_reducible rfl))
      try simp only [Act.put, List.setIfInBounds_toArray, List.set_cons_zero, List.set_cons_succ, List.getElem_toArray, List.getElem_cons_zero, List.getElem_cons_succ]
      refine wpN_gathersP [(3, 18), (4, 19), (7, 22), (8, 7)] 1 (fun j v x y w' => match j with
        | 3 => ∃ qa qc, v = .agg #[.slice qa binds.length qc, .int .i64 0] ∧ IsSl rpTy (fun q => x ≤ q ∧ q < y) w' (.slice qa binds.length qc) binds
        | 4 => True
        | 7 => True
        | _ => v = .pointer (some ⟨x, 0, none⟩) ∧ x < y ∧ Blk w' x #[.slice none 0 0, .int .i64 0, .int .i64 0, .slice none 0 0] 52) (fun j u => match j with
        | 4 => ∃ qa qc, u 3 = .agg #[.slice qa binds.length qc, .int .i64 0] ∧ u 4 = .slice qa binds.length qc
        | 7 => ∃ qa qc, u 4 = .slice qa binds.length qc ∧ u 7 = .agg #[.slice qa binds.length qc, .int .i64 0, .int .i64 i, .slice none 0 0]
        | _ => True) rfl rfl (by kernel_rfl) ?gst ?gst' hS ?gop ?gend
      case gst =>
        intro j v x y wa wb h hb
        split at h
        · obtain ⟨a, c, e, ht⟩ := h
          exact ⟨a, c, e, ht.keep ((Keep.refl _ _).below hb)⟩
        · trivial
        · trivial
        · exact ⟨h.1, h.2.1, h.2.2.below hb⟩
      case gst' =>
        intro j hj u u' hu h
        simp only [List.map_cons, List.map_nil, List.mem_cons, List.not_mem_nil, or_false] at hj
        rcases hj with rfl | rfl | rfl | rfl
        · trivial
        · obtain ⟨qa, qc, e1, e2⟩ := h
          exact ⟨qa, qc, (hu 3 (.inr (by kernel_rfl))).trans e1, (hu 4 (.inl rfl)).trans e2⟩
        · obtain ⟨qa, qc, e1, e2⟩ := h
          exact ⟨qa, qc, (hu 4 (.inr (by kernel_rfl))).trans e1, (hu 7 (.inl rfl)).trans e2⟩
        · trivial
      case gop =>
        intro x hx u w' hdep hB' hS'
        obtain ⟨q1, q2, q3⟩ := hS'
        have hbw : Below w3.heap.size w3 w' := (Below.refl _ _).drew.trans hB'
        simp only [List.mem_cons, List.not_mem_nil, or_false] at hx
        rcases hx with rfl | rfl | rfl | rfl
        · refine wpOp_step (i := 3) rfl (fun K hK => ?_)
          have hK := Lib.hid hK
          simp only [fills, List.foldl, Act.put, List.setIfInBounds_toArray, List.set_cons_zero, List.set_cons_succ, List.getElem_toArray, List.getElem_cons_zero, List.getElem_cons_succ]
          go_simp
          refine (Harr.out w' (B3.trans (hbw.mono B3.size))).mono ?_
          rintro e w6 ⟨s', b', rfl, hT, hb6⟩
          obtain ⟨qa, qc, rfl, rfl⟩ := hT.shape
          have hSl := hT.inv.2
          simp only [List.append_nil, args_mk', base_mk'] at hSl ⊢
          have hKp : Keep (fun _ => True) w' w6 := (Keep.refl _ _).below hb6
          exact hK.out _ _ ⟨_, rfl, ⟨_, _, rfl, hSl.weaken (by decide) fun q h1 h2 => ⟨h2, h1⟩⟩, trivial, hb6, hKp _ _ _ trivial q1, hKp _ _ _ trivial q2, hKp _ _ _ trivial q3⟩
        · obtain ⟨_, _, _, qa, qc, e1, _⟩ := hdep 3 (by simp) (by kernel_rfl)
          refine wpOp_step (i := 4) rfl (fun K hK => ?_)
          have hK := Lib.hid hK
          simp only [fills, List.foldl, Act.put, List.setIfInBounds_toArray, List.set_cons_zero, List.set_cons_succ, List.getElem_toArray, List.getElem_cons_zero, List.getElem_cons_succ]
          rw [e1]
          go_simp
          exact hK.out _ _ ⟨.slice qa binds.length qc, by simp only [fills, List.foldl, Act.put, List.setIfInBounds_toArray, List.set_cons_zero, List.set_cons_succ, List.getElem_toArray, List.getElem_cons_zero, List.getElem_cons_succ]; simp [upd, e1], trivial, ⟨qa, qc, e1, rfl⟩, Below.refl _ _, q1, q2, q3⟩
        · obtain ⟨⟨qa, qc, e0, e1⟩, _⟩ := hdep 4 (by simp) (by kernel_rfl)
          refine wpOp_step (i := 7) rfl (fun K hK => ?_)
          have hK := Lib.hid hK
          simp only [fills, List.foldl, Act.put, List.setIfInBounds_toArray, List.set_cons_zero, List.set_cons_succ, List.getElem_toArray, List.getElem_cons_zero, List.getElem_cons_succ]
          rw [e1]
          go_simp
          exact hK.out _ _ ⟨.agg #[.slice qa binds.length qc, .int .i64 0, .int .i64 i, .slice none 0 0], by simp only [fills, List.foldl, Act.put, List.setIfInBounds_toArray, List.set_cons_zero, List.set_cons_succ, List.getElem_toArray, List.getElem_cons_zero, List.getElem_cons_succ]; simp [upd, e1, e0], trivial, ⟨qa, qc, e1, rfl⟩, Below.refl _ _, q1, q2, q3⟩
        · refine wpOp_step (i := 8) rfl (fun K hK => ?_)
          have hK := Lib.hid hK
          simp only [fills, List.foldl, Act.put, List.setIfInBounds_toArray, List.set_cons_zero, List.set_cons_succ, List.getElem_toArray, List.getElem_cons_zero, List.getElem_cons_succ]
          go_simp
          have hb6 : Below w'.heap.size w' (w'.alloc (.cells #[.slice none 0 0, .int .i64 0, .int .i64 0, .slice none 0 0] 52)) := (Below.refl _ _).alloc (Nat.le_refl _) _
          have hKp : Keep (fun _ => True) w' (w'.alloc (.cells #[.slice none 0 0, .int .i64 0, .int .i64 0, .slice none 0 0] 52)) := (Keep.refl _ _).below hb6
          exact hK.out _ _ ⟨_, rfl, ⟨rfl, by simp, Blk.new _ _ _ rfl⟩, trivial, hb6, hKp _ _ _ trivial q1, hKp _ _ _ trivial q2, hKp _ _ _ trivial q3⟩
      case gend =>
        intro u lo hi w' hΦ hΨ hB' hS'
        have hbw : Below w3.heap.size w3 w' := (Below.refl _ _).drew.trans hB'
        obtain ⟨⟨qa, qc, e1, V1⟩, n1, m1, o1⟩ := hΦ.1 3 (by simp) rfl
        obtain ⟨⟨e2, r2, Z2⟩, n2, m2, o2⟩ := hΦ.1 8 (by simp) rfl
        obtain ⟨qa', qc', e3, e4⟩ := hΨ 4 (by simp)
        obtain ⟨qa2, qc2, e5, e6⟩ := hΨ 7 (by simp)
        obtain ⟨rfl, rfl⟩ : qa' = qa ∧ qc' = qc := by rw [e1] at e3; cases e3; exact ⟨rfl, rfl⟩
        obtain ⟨rfl, rfl⟩ : qa2 = qa' ∧ qc2 = qc' := by rw [e4] at e5; cases e5; exact ⟨rfl, rfl⟩
        clear e3 e5
        have k12 := hΦ.2 3 (by simp) 8 (by simp) rfl rfl (by decide)
        clear hΦ hΨ
        simp only [fills, List.foldl, Act.put, List.setIfInBounds_toArray, List.set_cons_zero, List.set_cons_succ, List.getElem_toArray, List.getElem_cons_zero, List.getElem_cons_succ]
        rw [e1, e2, e4, e6]
        clear e1 e2 e4 e6
        have hsz : w3.drew.heap.size = w3.heap.size := rfl
        rw [hsz, hsz1] at n1 n2
        generalize lo 8 = p at *
        have U1 := Lib.hid (V1.weaken (F' := fun q => w.heap.size + 2 ≤ q ∧ q ≠ p) (by decide) fun q _ h => ⟨by omega, by omega⟩)
        clear V1 k12 n1 m1 o1 m2 r2 o2 hsz
        have B2 := B3.trans (hbw.mono B3.size)
        have y0 := x0.below hbw
        have y2 := x2.below hbw
        have r0 : w'.cell? ⟨p, 0, none⟩ = some (.slice none 0 0) := Z2.cell rfl
        have r1 : w'.cell? ⟨p, 1, none⟩ = some (.int .i64 0) := Z2.cell rfl
        have r2 : w'.cell? ⟨p, 2, none⟩ = some (.int .i64 0) := Z2.cell rfl
        have r3 : w'.cell? ⟨p, 3, none⟩ = some (.slice none 0 0) := Z2.cell rfl
        have f0 := Z2.free 0
        have f1 := Z2.free 1
        have f2 := Z2.free 2
        have f3 := Z2.free 3
        refine wpN_step (i := 9) (by kernel_rfl) rfl (fun K hK => ?_)
        go_simp
        refine hK.out _ _ (fun h => absurd h (by decide)) ?_
        clear hK K
        try simp only [Act.put, List.setIfInBounds_toArray, List.set_cons_zero, List.set_cons_succ, List.getElem_toArray, List.getElem_cons_zero, List.getElem_cons_succ]
        refine wpN_done (by kernel_rfl) ?_
        refine NoPanic.normal ?_
        obtain ⟨w2, hw2⟩ : ∃ w2, ((((w'.setCell ⟨p, 0, none⟩ (.slice qa2 binds.length qc2)).setCell ⟨p, 1, none⟩ (.int .i64 0)).setCell ⟨p, 2, none⟩ (.int .i64 i)).setCell ⟨p, 3, none⟩ (.slice none 0 0)) = w2 := ⟨_, rfl⟩
        have hlp := Z2.lt
        have B5 : Below w.heap.size w w2 := by rw [← hw2]; exact ((((B2.setCell (by simp; omega) _).setCell (by simp; omega) _).setCell (by simp; omega) _).setCell (by simp; omega) _)
        have z0 : Blk w2 w.heap.size #[.slice pa binds.length pc, .int .i64 0, .int .i64 i, .slice a args.length c] 52 := by rw [← hw2]; exact ((((y0.far _ _ (by simp; omega)).far _ _ (by simp; omega)).far _ _ (by simp; omega)).far _ _ (by simp; omega))
        have z2 : Blk w2 (w.heap.size + 1) #[.slice none 0 0, .int .i64 0, .int .i64 0, .slice none 0 0] 52 := by rw [← hw2]; exact ((((y2.far _ _ (by simp; omega)).far _ _ (by simp; omega)).far _ _ (by simp; omega)).far _ _ (by simp; omega))
        have zp : Blk w2 p #[.slice qa2 binds.length qc2, .int .i64 0, .int .i64 i, .slice none 0 0] 52 := by rw [← hw2]; exact ((((Z2.set 0 _).set 1 _).set 2 _).set 3 _)
        have KU : Keep (fun q => w.heap.size + 2 ≤ q ∧ q ≠ p) w' w2 := by rw [← hw2]; exact ((((Keep.refl _ _).setCell _ _ (by simp)).setCell _ _ (by simp)).setCell _ _ (by simp)).setCell _ _ (by simp)
        have U2 := Lib.hid (U1.out.keep KU)
        rw [hw2]
        clear hw2 KU U1 y0 y2 Z2 r0 r1 r2 r3 f0 f1 f2 f3 B2 hbw hB' hS' hS x0 x2 B3 hlp
        have hlp2 := zp.lt
        obtain ⟨N2, hN2⟩ : ∃ n, w2.heap.size = n := ⟨_, rfl⟩
        have HN2 := Lib.hid hN2; clear hN2
        have hpN : p < N2 := by have := HN2.out; omega
        have St2 := Lib.hid (HT.out.keep s w w2 HSt.out fun k hk => B5.block k (Hrw.out k hk))
        have c01 : w2.cell? ⟨w.heap.size, 1, none⟩ = some (.int .i64 0) := z0.cell rfl
        have c02 : w2.cell? ⟨w.heap.size, 2, none⟩ = some (.int .i64 i) := z0.cell rfl
        have c03 : w2.cell? ⟨w.heap.size, 3, none⟩ = some (.slice a args.length c) := z0.cell rfl
        have U3 := Lib.hid (U2.out.weaken (F' := fun q => w.heap.size + 2 ≤ q ∧ q ≠ p ∧ q < N2) (by decide) fun q h1 h2 => ⟨h2.1, h2.2, by have := HN2.out; omega⟩)
        clear U2
        have Hr2 : Hid (∀ k, ro k → k < w.heap.size) := Hrw.out
        go_wp2_with fail
        refine (HT.out.call s (i - m) w2 St2.out (by omega) (by omega)).mono ?_
        rintro e w5 ⟨rfl, hSt5, hg5⟩
        have hrow : ∀ q, w.heap.size ≤ q → row ≠ some q := fun q hq e => by have := Hr2.out q (HT.out.sub q e); omega
        have G5 := gb_trans (gb_below B5 row) hg5
        have y0 := z0.grown hg5 (hrow _ (Nat.le_refl _))
        have y2 := z2.grown hg5 (hrow _ (by omega))
        have yp := zp.grown hg5 (hrow _ (by omega))
        have U5 := Lib.hid (U3.out.keep ((Keep.refl _ _).grown hg5 fun k hk hf => hrow k (by omega) hk))
        have hsg := hg5.size
        have Hrng := HT.out.rng s (i - m) (by omega)
        have HSt5 := Lib.hid hSt5
        clear hSt5 z0 z2 zp U3 c01 c02 c03 B5 hlp2 St2
        obtain ⟨fx, hfx⟩ : ∃ fx, (f s (i - m)).2 = fx := ⟨_, rfl⟩
        have Hfx := Lib.hid hfx
        rw [hfx] at Hrng
        rw [hfx]
        clear hfx
        have hwr2 : IntKind.i64.wrap (m + fx) = m + fx := IntWalk.i64_in _ (by omega)
        obtain ⟨jx, hjx⟩ : ∃ jx, m + fx = jx := ⟨_, rfl⟩
        have HJ := Lib.hid hjx
        rw [hjx] at hwr2
        have c03 : w5.cell? ⟨w.heap.size, 3, none⟩ = some (.slice a args.length c) := y0.cell rfl
        have c52 : w5.cell? ⟨p, 2, none⟩ = some (.int .i64 i) := yp.cell rfl
        have f52 := yp.free 2
        have hlp5 := yp.lt
        go_wp2_with fail
        obtain ⟨w7, hw7⟩ : ∃ w7, w5.setCell ⟨p, 2, none⟩ (.int .i64 jx) = w7 := ⟨_, rfl⟩
        have G7 : w.grownBy w7 row := by rw [← hw7]; exact gb_setCell G5 (by simp; omega) _
        have s2 : Blk w7 (w.heap.size + 1) #[.slice none 0 0, .int .i64 0, .int .i64 0, .slice none 0 0] 52 := by rw [← hw7]; exact y2.far _ _ (by simp; omega)
        have sp : Blk w7 p #[.slice qa2 binds.length qc2, .int .i64 0, .int .i64 jx, .slice none 0 0] 52 := by rw [← hw7]; exact yp.set 2 _
        have U7 := Lib.hid (U5.out.keep ((Keep.refl _ _).setCell ⟨p, 2, none⟩ (.int .i64 jx) (by simp)))
        rw [hw7] at U7
        have hs7 : N2 ≤ w7.heap.size := by rw [← hw7]; have := HN2.out; simp; omega
        have St7 : Hid (St (f s (i - m)).1 w7) := by
          rw [← hw7]
          exact HT.out.keep _ _ _ HSt5.out fun k hk => Below.heap_setCell _ _ _ _ (by have := Hr2.out k hk; simp; omega)
        try rw [hw7]
        clear hw7 G5 y0 y2 yp U5 c03 c52 f52 hlp5 hg5 hsg HSt5
        have hrowN : Hid (∀ k, row = some k → ¬ (N2 ≤ k) ∧ k < N2) := fun k hk => by have := Hr2.out k (HT.out.sub k hk); omega
        have Hrow := Lib.hid hrow; clear hrow
        have hacc0 : Acc rpTm 52 N2 (fun q => N2 ≤ q) w7 (.slice none 0 0) [] := Acc.nil _ _ _ _ _
        try go_wp2_with fail
        go_loopw [48] (fun ii wr => ∃ (j : Nat) (v : Value), ii = .int .i64 j ∧ j ≤ args.length ∧ N2 ≤ wr.heap.size ∧
            w.grownBy wr row ∧ Blk wr (w.heap.size + 1) #[.slice none 0 0, .int .i64 0, .int .i64 0, .slice none 0 0] 52 ∧ Blk wr p #[.slice qa2 binds.length qc2, .int .i64 0, .int .i64 jx, v] 52 ∧
            Hid (IsSl rpTy (fun q => w.heap.size + 2 ≤ q ∧ q ≠ p ∧ q < N2) wr (.slice qa2 binds.length qc2) binds) ∧ Hid (St (Tm.turns f (args.take j) (f s (i - m)).1 m).1 wr) ∧
            Acc rpTm 52 N2 (fun q => N2 ≤ q) wr v (Tm.turns f (args.take j) (f s (i - m)).1 m).2) (fun ii _ => args.length - (intOf ii).toNat)
        case atStart => exact ⟨0, _, rfl, by omega, hs7, G7, s2, sp, U7.out, St7.out, hacc0⟩
        case round =>
          clear G7 s2 sp U7 hacc0 hs7 St7
          obtain ⟨j, v, rfl, hj, hsN, hb, hres, hout, hbi, hst, hacc⟩ := hrel
          have hszp := hout.lt
          have hszb := hres.lt
          have Hacc := Lib.hid hacc; clear hacc
          by_cases hlt : j < args.length
          · obtain ⟨rfl, hF⟩ := ha (by omega)
            clear ha
            have hkp : Keep F w0 wr := hw.grown hb fun k hk => HrF.out k hk
            have e1 := hkp _ _ _ hF (h1 j hlt)
            have e2 := hkp _ _ _ hF (h2 j hlt)
            have e3 := hkp _ _ _ hF (h3 j hlt)
            have e4 := hkp _ _ _ hF (h4 j hlt)
            have hlt0 : (0 : Int) ≤ (j : Int) := Int.natCast_nonneg _
            have hlt1 : (j : Int) < (args.length : Int) := by omega
            have Hl : Hid ((Tm.turns f (args.take j) (f s (i - m)).1 m).2.length = j) := by show _ = _; rw [Tm.turns_len, List.length_take]; omega
            have Hne : Hid (∀ q, q < N2 → v.ownBlock ≠ some q) := fun q hq e => by have := (Hacc.out.base_le q e).1; omega
            have Htk := Lib.hid (Tm.turns_take f args (f s (i - m)).1 m j hlt)
            have hblw : bl < wr.heap.size := Keep.lt e1
            go_wp2_with fail
            obtain ⟨wa, hwa⟩ : ∃ wa, wr.alloc (.cells #[.slice (PA j) (PN j) (PC j), .int .i64 (Kd j), .int .i64 (Ix j), .slice (A j) (N j) (C j)] 52) = wa := ⟨_, rfl⟩
            obtain ⟨qn, hqn⟩ : ∃ qn, wr.heap.size = qn := ⟨_, rfl⟩
            have ba : Below wr.heap.size wr wa := by rw [← hwa]; exact (Below.refl _ _).alloc (Nat.le_refl _) _
            have xa : Blk wa qn #[.slice (PA j) (PN j) (PC j), .int .i64 (Kd j), .int .i64 (Ix j), .slice (A j) (N j) (C j)] 52 := by rw [← hwa]; exact Blk.new _ _ _ hqn.symm
            have hba := gb_trans hb (gb_below ba row)
            have hresa := hres.below ba
            have houta := hout.below ba
            have Hacca := Lib.hid (Hacc.out.below ba)
            have hbia := Lib.hid (hbi.out.keep ((Keep.refl _ _).below ba))
            have hsta := Lib.hid (HT.out.keep _ _ _ hst.out fun k hk => ba.block k (by have := Hr2.out k hk; have := hb.size; omega))
            have hown : Hid (v.ownBlock ≠ some qn) := fun e => by have := (Hacc.out.base_le qn e).2; omega
            have hsNa : N2 ≤ wa.heap.size := Nat.le_trans hsN ba.size
            have hqN : N2 ≤ qn := by omega
            try rw [hwa]
            try rw [hqn]
            clear hwa hqn ba hb hres hout Hacc hbi hst hsN hszp hszb hblw e1 e2 e3 e4 hkp
            have hszp := houta.lt
            have hszb := hresa.lt
            refine wp_region_noPanic (wp_region_need (S := fun w' => w'.cell? ⟨p, 3, none⟩ = some v ∧ w'.cell? ⟨qn, 0, none⟩ = some (.slice (PA j) (PN j) (PC j)) ∧ w'.cell? ⟨qn, 1, none⟩ = some (.int .i64 (Kd j)) ∧ w'.cell? ⟨qn, 2, none⟩ = some (.int .i64 (Ix j)) ∧ w'.cell? ⟨qn, 3, none⟩ = some (.slice (A j) (N j) (C j))) (by kernel_rfl) ?_)
            have hS : (wa.drew).cell? ⟨p, 3, none⟩ = some v ∧ (wa.drew).cell? ⟨qn, 0, none⟩ = some (.slice (PA j) (PN j) (PC j)) ∧ (wa.drew).cell? ⟨qn, 1, none⟩ = some (.int .i64 (Kd j)) ∧ (wa.drew).cell? ⟨qn, 2, none⟩ = some (.int .i64 (Ix j)) ∧ (wa.drew).cell? ⟨qn, 3, none⟩ = some (.slice (A j) (N j) (C j)) := ⟨houta.drew.cell rfl, xa.drew.cell rfl, xa.drew.cell rfl, xa.drew.cell rfl, xa.drew.cell rfl⟩
            refine wpN_take (i := 0) (v := ?v6) rfl (by kernel_rfl) (fun _ _ _ h => h) hS (Or.inl ⟨by rfl, ?hy6⟩) ?hr6
            case hy6 => (intro wS hSw; (try dsimp only at hSw); go_simp; (try with_reducible rfl))
            try simp only [Act.put, List.setIfInBounds_toArray, List.set_cons_zero, List.set_cons_succ, List.getElem_toArray, List.getElem_cons_zero, List.getElem_cons_succ]
            refine wpN_take (i := 1) (v := ?v7) rfl (by kernel_rfl) (fun _ _ _ h => h) hS (Or.inl ⟨by rfl, ?hy7⟩) ?hr7
            case hy7 => (intro wS hSw; (try dsimp only at hSw); go_simp; (try with_reducible rfl))
            try simp only [Act.put, List.setIfInBounds_toArray, List.set_cons_zero, List.set_cons_succ, List.getElem_toArray, List.getElem_cons_zero, List.getElem_cons_succ]
            refine wpN_take (i := 2) (v := ?v8) rfl (by kernel_rfl) (fun _ _ _ h => h) hS (Or.inl ⟨by rfl, ?hy8⟩) ?hr8
            case hy8 => (intro wS hSw; (try dsimp only at hSw); go_simp; (try with_reducible rfl))
            try simp only [Act.put, List.setIfInBounds_toArray, List.set_cons_zero, List.set_cons_succ, List.getElem_toArray, List.getElem_cons_zero, List.getElem_cons_succ]
            refine wpN_take (i := 3) (v := ?v9) rfl (by kernel_rfl) (fun _ _ _ h => h) hS (Or.inl ⟨by rfl, ?hy9⟩) ?hr9
            case hy9 => (intro wS hSw; (try dsimp only at hSw); go_simp; (try with_reducible rfl))
            try simp only [Act.put, List.setIfInBounds_toArray, List.set_cons_zero, List.set_cons_succ, List.getElem_toArray, List.getElem_cons_zero, List.getElem_cons_succ]
            refine wpN_take (i := 4) (v := ?v10) rfl (by kernel_rfl) (fun _ _ _ h => h) hS (Or.inl ⟨by rfl, ?hy10⟩) ?hr10
            case hy10 => (intro wS hSw; (try dsimp only at hSw); go_simp; (try with_reducible rfl))
            try simp only [Act.put, List.setIfInBounds_toArray, List.set_cons_zero, List.set_cons_succ, List.getElem_toArray, List.getElem_cons_zero, List.getElem_cons_succ]
            refine wpN_step (i := 5) (by kernel_rfl) rfl (fun K hK => ?_)
            go_simp
            refine (Hih.out j hlt _ wa.drew (hw.grown hba fun k hk => HrF.out k hk).drew (fun k hk => by have := Hr2.out k hk; have := hba.size; simp at *; omega) (HT.out.keep _ _ _ hsta.out fun _ _ => rfl)).mono ?_
            rintro e w5 ⟨b', k', i', a', rfl, hr1, hst5, hg5⟩
            have hg5' : wa.grownBy w5 row := gb_trans (gb_below (Below.refl _ _).drew row) hg5
            have hsg := hg5'.size
            have outa5 := houta.grown hg5' (Hrow.out _ (by omega))
            have resa5 := hresa.grown hg5' (Hrow.out _ (by omega))
            have xa5 := xa.grown hg5' (Hrow.out _ (by omega))
            have acc5 := Lib.hid (Hacca.out.other hg5' hrowN.out)
            have bi5 := Lib.hid (hbia.out.keep ((Keep.refl _ _).grown hg5' fun k hk hf => by have := Hr2.out k (HT.out.sub k hk); omega))
            have G5 := gb_trans hba hg5'
            have Hst5 := Lib.hid hst5; clear hst5
            clear houta hresa xa hbia hba hszp hszb hsta
            have hS : (w5).cell? ⟨p, 3, none⟩ = some v ∧ (w5).cell? ⟨qn, 0, none⟩ = some (.slice (PA j) (PN j) (PC j)) ∧ (w5).cell? ⟨qn, 1, none⟩ = some (.int .i64 (Kd j)) ∧ (w5).cell? ⟨qn, 2, none⟩ = some (.int .i64 (Ix j)) ∧ (w5).cell? ⟨qn, 3, none⟩ = some (.slice (A j) (N j) (C j)) := ⟨outa5.cell rfl, xa5.cell rfl, xa5.cell rfl, xa5.cell rfl, xa5.cell rfl⟩
            refine hK.out _ _ (fun _ => hS) ?_
            clear hK K
            try simp only [Act.put, List.setIfInBounds_toArray, List.set_cons_zero, List.set_cons_succ, List.getElem_toArray, List.getElem_cons_zero, List.getElem_cons_succ]
            refine wpN_step (i := 6) (by kernel_rfl) rfl (fun K hK => ?_)
            go_simp
            have hS : (w5.alloc (.cells #[b', k', i', a'] 52)).cell? ⟨p, 3, none⟩ = some v ∧ (w5.alloc (.cells #[b', k', i', a'] 52)).cell? ⟨qn, 0, none⟩ = some (.slice (PA j) (PN j) (PC j)) ∧ (w5.alloc (.cells #[b', k', i', a'] 52)).cell? ⟨qn, 1, none⟩ = some (.int .i64 (Kd j)) ∧ (w5.alloc (.cells #[b', k', i', a'] 52)).cell? ⟨qn, 2, none⟩ = some (.int .i64 (Ix j)) ∧ (w5.alloc (.cells #[b', k', i', a'] 52)).cell? ⟨qn, 3, none⟩ = some (.slice (A j) (N j) (C j)) := ⟨(outa5.alloc _).cell rfl, (xa5.alloc _).cell rfl, (xa5.alloc _).cell rfl, (xa5.alloc _).cell rfl, (xa5.alloc _).cell rfl⟩
            refine hK.out _ _ (fun _ => hS) ?_
            clear hK K
            try simp only [Act.put, List.setIfInBounds_toArray, List.set_cons_zero, List.set_cons_succ, List.getElem_toArray, List.getElem_cons_zero, List.getElem_cons_succ]
            refine wpN_step (i := 7) (by kernel_rfl) rfl (fun K hK => ?_)
            refine step_push rpTm (by decide) (by rfl) _ _ _ (by rfl) N2 52 i2 _ 64 Tryz.underlying50 hi2 hz0 hz1 hz2 rfl (by decide)
                   (fun q => N2 ≤ q) v (Tm.turns f (args.take j) (f s (i - m)).1 m).2 (by rfl) (acc5.out.alloc _) (by rw [Hl.out]; omega)
                   w5.heap.size _ [b', k', i', a'] (Tm.turn f args[j] (Tm.turns f (args.take j) (f s (i - m)).1 m).1 m).2 (by rfl) (heap_alloc_new _ _) ⟨_, _, _, _, rfl, (hr1.weaken (fun q _ hq => ⟨Nat.le_trans (show N2 ≤ wa.drew.heap.size from hsNa) hq, fun e => by have := (Hacca.out.base_le q e).2; exact absurd this (Nat.not_lt.2 hq)⟩)).keep ((Keep.refl _ _).alloc _)⟩ (by have := hsg; simp at *; omega) ?_
            intro gg cap w6 hacc2 hgrow hat hlt2
            have o2 := (outa5.alloc _).grown hgrow (Hne.out _ (by omega))
            have o1 := (resa5.alloc _).grown hgrow (Hne.out _ (by omega))
            have oq := (xa5.alloc _).grown hgrow hown.out
            have bi6 := Lib.hid (((bi5.out.keep ((Keep.refl _ _).alloc _)).weaken (F' := fun q => (w.heap.size + 2 ≤ q ∧ q ≠ p ∧ q < N2) ∧ v.ownBlock ≠ some q) (by decide) fun q _ h => ⟨h, Hne.out q h.2.2⟩).keep ((Keep.refl _ _).grown hgrow fun k hk hf => hf.2 hk))
            have G6 := gb_grown (gb_trans G5 (gb_below ((Below.refl _ _).alloc (Nat.le_refl _) _) row)) hgrow (fun q hq => by have := (Hacca.out.base_le q hq).1; omega)
            have st6 := Lib.hid (HT.out.keep _ _ _ Hst5.out fun k hk => ((hgrow.block k (by have := Hr2.out k hk; have := G5.size; simp; omega) (fun e => Hne.out k (by have := Hr2.out k hk; omega) e.symm)).trans (Below.heap_alloc _ _ _ (by have := Hr2.out k hk; have := G5.size; omega))))
            have hS : (w6).cell? ⟨p, 3, none⟩ = some v ∧ (w6).cell? ⟨qn, 0, none⟩ = some (.slice (PA j) (PN j) (PC j)) ∧ (w6).cell? ⟨qn, 1, none⟩ = some (.int .i64 (Kd j)) ∧ (w6).cell? ⟨qn, 2, none⟩ = some (.int .i64 (Ix j)) ∧ (w6).cell? ⟨qn, 3, none⟩ = some (.slice (A j) (N j) (C j)) := ⟨o2.cell (i := 3) rfl, oq.cell rfl, oq.cell rfl, oq.cell rfl, oq.cell rfl⟩
            have p2 := o2.free 3
            have Hacc2 := Lib.hid hacc2; clear hacc2
            refine hK.out _ _ (fun _ => hS) ?_
            clear hK K
            try simp only [Act.put, List.setIfInBounds_toArray, List.set_cons_zero, List.set_cons_succ, List.getElem_toArray, List.getElem_cons_zero, List.getElem_cons_succ]
            refine wpN_take (i := 8) (v := ?v11) rfl (by kernel_rfl) (fun _ _ _ h => h) hS (Or.inl ⟨by rfl, ?hy11⟩) ?hr11
            case hy11 => (intro wS hSw; (try dsimp only at hSw); go_simp; (try with_reducible rfl))
            try simp only [Act.put, List.setIfInBounds_toArray, List.set_cons_zero, List.set_cons_succ, List.getElem_toArray, List.getElem_cons_zero, List.getElem_cons_succ]
            refine wpN_step (i := 9) (by kernel_rfl) rfl (fun K hK => ?_)
            go_simp
            refine hK.out _ _ (fun h => absurd h (by decide)) ?_
            clear hK K
            try simp only [Act.put, List.setIfInBounds_toArray, List.set_cons_zero, List.set_cons_succ, List.getElem_toArray, List.getElem_cons_zero, List.getElem_cons_succ]
            refine wpN_done (by kernel_rfl) ?_
            refine NoPanic.normal ?_
            have hs6 : N2 ≤ w6.heap.size := by have := hgrow.size; simp at *; omega
            clear o1 oq
            have o1 := (resa5.alloc _).grown hgrow (Hne.out _ (by omega))
            go_wp2_with fail
            refine ⟨⟨j + 1, _, by go_num, by omega, by simpa using hs6, gb_setCell G6 (by simp <;> omega) _, o1.far _ _ (by simp <;> omega), o2.set 3 _, ?_, ?_, ?_⟩, by simp [intOf]; omega⟩
            · exact ((bi6.out.weaken (F' := fun q => w.heap.size + 2 ≤ q ∧ q ≠ p ∧ q < N2) (by decide) fun q _ h => h.1).keep ((Keep.refl _ _).setCell _ _ (by simp)))
            · show St _ _
              rw [Htk.out]
              exact HT.out.keep _ _ _ st6.out fun k hk => Below.heap_setCell _ _ _ _ (by have := Hr2.out k hk; simp; omega)
            · have h := Hacc2.out
              rw [Htk.out]
              exact h.setCell ⟨p, 3, none⟩ _ (by simp <;> omega) (by simp <;> omega)
          · obtain ⟨va, vc, hv⟩ := Hacc.out.len_shape
            rw [Tm.turns_len, List.length_take, Nat.min_eq_left hj] at hv
            subst hv
            have d1 : wr.cell? ⟨p, 0, none⟩ = some (.slice qa2 binds.length qc2) := hout.cell rfl
            have d2 : wr.cell? ⟨p, 1, none⟩ = some (.int .i64 0) := hout.cell rfl
            have d3 : wr.cell? ⟨p, 2, none⟩ = some (.int .i64 jx) := hout.cell rfl
            have d4 : wr.cell? ⟨p, 3, none⟩ = some (.slice va j vc) := hout.cell rfl
            have r0 : wr.cell? ⟨w.heap.size + 1, 0, none⟩ = some (.slice none 0 0) := hres.cell rfl
            have r1 : wr.cell? ⟨w.heap.size + 1, 1, none⟩ = some (.int .i64 0) := hres.cell rfl
            have r2 : wr.cell? ⟨w.heap.size + 1, 2, none⟩ = some (.int .i64 0) := hres.cell rfl
            have r3 : wr.cell? ⟨w.heap.size + 1, 3, none⟩ = some (.slice none 0 0) := hres.cell rfl
            have f0 := hres.free 0
            have f1 := hres.free 1
            have f2 := hres.free 2
            have f3 := hres.free 3
            go_wp2_with fail
            refine bodyPost_ret (v := .agg #[.slice qa2 binds.length qc2, .int .i64 0, .int .i64 jx, .slice va j vc]) (by simp [results, Tryz.results104, go_sem, r0, r1, r2, r3]) rfl ?_
            have h := Hacc.out
            have hst2 := hst.out
            rw [List.take_of_length_le (by omega)] at h hst2
            have hA := (((h.setCell ⟨w.heap.size + 1, 0, none⟩ (.slice qa2 binds.length qc2) (by simp <;> omega) (by simp <;> omega)).setCell ⟨w.heap.size + 1, 1, none⟩ (.int .i64 0) (by simp <;> omega) (by simp <;> omega)).setCell ⟨w.heap.size + 1, 2, none⟩ (.int .i64 jx) (by simp <;> omega) (by simp <;> omega)).setCell ⟨w.heap.size + 1, 3, none⟩ (.slice va j vc) (by simp <;> omega) (by simp <;> omega)
            have KR := (((((Keep.refl (fun q => w.heap.size + 2 ≤ q ∧ q ≠ p ∧ q < N2) wr).setCell ⟨w.heap.size + 1, 0, none⟩ (.slice qa2 binds.length qc2) (by simp <;> omega)).setCell ⟨w.heap.size + 1, 1, none⟩ (.int .i64 0) (by simp <;> omega)).setCell ⟨w.heap.size + 1, 2, none⟩ (.int .i64 jx) (by simp <;> omega)).setCell ⟨w.heap.size + 1, 3, none⟩ (.slice va j vc) (by simp <;> omega))
            have hsetk : ∀ (W : World) (o : Nat) (u : Value) (k : Nat), ro k → (W.setCell ⟨w.heap.size + 1, o, none⟩ u).heap[k]? = W.heap[k]? := fun W o u k hk => Below.heap_setCell _ _ _ _ (by have := Hr2.out k hk; simp; omega)
            rw [Tm.turn_hit f binds i args s n m hmm HC.out, Hfx.out, HJ.out]
            refine ⟨_, _, _, _, rfl, ?_, ?_, gb_setCell (gb_setCell (gb_setCell (gb_setCell hb (by simp) _) (by simp) _) (by simp) _) (by simp) _⟩
            · exact isTm_mk ((hbi.out.keep KR).weaken (by decide) fun q _ h => by omega) (hA.sl (F' := fun q => w.heap.size ≤ q) (fun q _ hq => by omega) (fun q hq => by omega)) 0 jx
            · exact HT.out.keep _ _ _ hst2 fun k hk => (hsetk _ _ _ k hk).trans ((hsetk _ _ _ k hk).trans ((hsetk _ _ _ k hk).trans (hsetk _ _ _ k hk)))
    · have HC : Hid (¬ m ≤ i) := hge
      go_enter Tryz.func104, Tryz.ntmps104
      go_wp2_with fail
      try rw [hmm]
      try rw [hs1]
      obtain ⟨w3, hw3⟩ : ∃ w3, (w.alloc (.cells #[.slice pa binds.length pc, .int .i64 0, .int .i64 i, .slice a args.length c] 52)).alloc (.cells #[.slice none 0 0, .int .i64 0, .int .i64 0, .slice none 0 0] 52) = w3 := ⟨_, rfl⟩
      have B3 : Below w.heap.size w w3 := by rw [← hw3]; exact ((Below.refl _ _).alloc (Nat.le_refl _) _).alloc (by simp) _
      have x0 : Blk w3 w.heap.size #[.slice pa binds.length pc, .int .i64 0, .int .i64 i, .slice a args.length c] 52 := by rw [← hw3]; exact (Blk.new _ _ _ rfl).alloc _
      have x2 : Blk w3 (w.heap.size + 1) #[.slice none 0 0, .int .i64 0, .int .i64 0, .slice none 0 0] 52 := by rw [← hw3]; exact Blk.new _ _ _ (by simp)
      have hsz1 : w3.heap.size = w.heap.size + 2 := by rw [← hw3]; simp
      try rw [hw3]
      clear hw3
      refine wp_region_noPanic (wp_region_need (S := fun w' => w'.cell? ⟨w.heap.size, 0, none⟩ = some (.slice pa binds.length pc) ∧ w'.cell? ⟨w.heap.size, 1, none⟩ = some (.int .i64 0) ∧ w'.cell? ⟨w.heap.size, 2, none⟩ = some (.int .i64 i)) (by kernel_rfl) ?_)
      have hS : (w3.drew).cell? ⟨w.heap.size, 0, none⟩ = some (.slice pa binds.length pc) ∧ (w3.drew).cell? ⟨w.heap.size, 1, none⟩ = some (.int .i64 0) ∧ (w3.drew).cell? ⟨w.heap.size, 2, none⟩ = some (.int .i64 i) := ⟨x0.drew.cell rfl, x0.drew.cell rfl, x0.drew.cell rfl⟩
      refine wpN_take (i := 0) (v := ?v12) rfl (by kernel_rfl) (fun _ _ _ h => h) hS (Or.inl ⟨by rfl, ?hy12⟩) ?hr12
      case hy12 => (intro wS hSw; (try dsimp only at hSw); go_simp; (try with_reducible rfl))
      try simp only [Act.put, List.setIfInBounds_toArray, List.set_cons_zero, List.set_cons_succ, List.getElem_toArray, List.getElem_cons_zero, List.getElem_cons_succ]
      refine wpN_take (i := 1) (v := ?v13) rfl (by kernel_rfl) (fun _ _ _ h => h) hS (Or.inl ⟨by rfl, ?hy13⟩) ?hr13
      case hy13 => (intro wS hSw; (try dsimp only at hSw); go_simp; (try with_reducible rfl))
      try simp only [Act.put, List.setIfInBounds_toArray, List.set_cons_zero, List.set_cons_succ, List.getElem_toArray, List.getElem_cons_zero, List.getElem_cons_succ]
      refine wpN_take (i := 2) (v := ?v14) rfl (by kernel_rfl) (fun _ _ _ h => h) hS (Or.inl ⟨by rfl, ?hy14⟩) ?hr14
      case hy14 => (intro wS hSw; (try dsimp only at hSw); go_simp; (try with_reducible rfl))
      try simp only [Act.put, List.setIfInBounds_toArray, List.set_cons_zero, List.set_cons_succ, List.getElem_toArray, List.getElem_cons_zero, List.getElem_cons_succ]
      refine wpN_take (i := 5) (v := ?v15) rfl (by kernel_rfl) (fun _ _ _ h => h) hS (Or.inl ⟨by rfl, ?hy15⟩) ?hr15
      case hy15 => (intro wS hSw; (try dsimp only at hSw); go_simp; (try with_reducible rfl))
      try simp only [Act.put, List.setIfInBounds_toArray, List.set_cons_zero, List.set_cons_succ, List.getElem_toArray, List.getElem_cons_zero, List.getElem_cons_succ]
      refine wpN_take (i := 6) (v := ?v16) rfl (by kernel_rfl) (fun _ _ _ h => h) hS (Or.inl ⟨by rfl, ?hy16⟩) ?hr16
      case hy16 => (intro wS hSw; (try dsimp only at hSw); go_simp; (try with_reducible rfl))
      try simp only [Act.put, List.setIfInBounds_toArray, List.set_cons_zero, List.set_cons_succ, List.getElem_toArray, List.getElem_cons_zero, List.getElem_cons_succ]
      refine wpN_gathersP [(3, 18), (4, 19), (7, 22), (8, 7)] 1 (fun j v x y w' => match j with
        | 3 => ∃ qa qc, v = .agg #[.slice qa binds.length qc, .int .i64 0] ∧ IsSl rpTy (fun q => x ≤ q ∧ q < y) w' (.slice qa binds.length qc) binds
        | 4 => True
        | 7 => True
        | _ => v = .pointer (some ⟨x, 0, none⟩) ∧ x < y ∧ Blk w' x #[.slice none 0 0, .int .i64 0, .int .i64 0, .slice none 0 0] 52) (fun j u => match j with
        | 4 => ∃ qa qc, u 3 = .agg #[.slice qa binds.length qc, .int .i64 0] ∧ u 4 = .slice qa binds.length qc
        | 7 => ∃ qa qc, u 4 = .slice qa binds.length qc ∧ u 7 = .agg #[.slice qa binds.length qc, .int .i64 0, .int .i64 i, .slice none 0 0]
        | _ => True) rfl rfl (by kernel_rfl) ?gst ?gst' hS ?gop ?gend
      case gst =>
        intro j v x y wa wb h hb
        split at h
        · obtain ⟨a, c, e, ht⟩ := h
          exact ⟨a, c, e, ht.keep ((Keep.refl _ _).below hb)⟩
        · trivial
        · trivial
        · exact ⟨h.1, h.2.1, h.2.2.below hb⟩
      case gst' =>
        intro j hj u u' hu h
        simp only [List.map_cons, List.map_nil, List.mem_cons, List.not_mem_nil, or_false] at hj
        rcases hj with rfl | rfl | rfl | rfl
        · trivial
        · obtain ⟨qa, qc, e1, e2⟩ := h
          exact ⟨qa, qc, (hu 3 (.inr (by kernel_rfl))).trans e1, (hu 4 (.inl rfl)).trans e2⟩
        · obtain ⟨qa, qc, e1, e2⟩ := h
          exact ⟨qa, qc, (hu 4 (.inr (by kernel_rfl))).trans e1, (hu 7 (.inl rfl)).trans e2⟩
        · trivial
      case gop =>
        intro x hx u w' hdep hB' hS'
        obtain ⟨q1, q2, q3⟩ := hS'
        have hbw : Below w3.heap.size w3 w' := (Below.refl _ _).drew.trans hB'
        simp only [List.mem_cons, List.not_mem_nil, or_false] at hx
        rcases hx with rfl | rfl | rfl | rfl
        · refine wpOp_step (i := 3) rfl (fun K hK => ?_)
          have hK := Lib.hid hK
          simp only [fills, List.foldl, Act.put, List.setIfInBounds_toArray, List.set_cons_zero, List.set_cons_succ, List.getElem_toArray, List.getElem_cons_zero, List.getElem_cons_succ]
          go_simp
          refine (Harr.out w' (B3.trans (hbw.mono B3.size))).mono ?_
          rintro e w6 ⟨s', b', rfl, hT, hb6⟩
          obtain ⟨qa, qc, rfl, rfl⟩ := hT.shape
          have hSl := hT.inv.2
          simp only [List.append_nil, args_mk', base_mk'] at hSl ⊢
          have hKp : Keep (fun _ => True) w' w6 := (Keep.refl _ _).below hb6
          exact hK.out _ _ ⟨_, rfl, ⟨_, _, rfl, hSl.weaken (by decide) fun q h1 h2 => ⟨h2, h1⟩⟩, trivial, hb6, hKp _ _ _ trivial q1, hKp _ _ _ trivial q2, hKp _ _ _ trivial q3⟩
        · obtain ⟨_, _, _, qa, qc, e1, _⟩ := hdep 3 (by simp) (by kernel_rfl)
          refine wpOp_step (i := 4) rfl (fun K hK => ?_)
          have hK := Lib.hid hK
          simp only [fills, List.foldl, Act.put, List.setIfInBounds_toArray, List.set_cons_zero, List.set_cons_succ, List.getElem_toArray, List.getElem_cons_zero, List.getElem_cons_succ]
          rw [e1]
          go_simp
          exact hK.out _ _ ⟨.slice qa binds.length qc, by simp only [fills, List.foldl, Act.put, List.setIfInBounds_toArray, List.set_cons_zero, List.set_cons_succ, List.getElem_toArray, List.getElem_cons_zero, List.getElem_cons_succ]; simp [upd, e1], trivial, ⟨qa, qc, e1, rfl⟩, Below.refl _ _, q1, q2, q3⟩
        · obtain ⟨⟨qa, qc, e0, e1⟩, _⟩ := hdep 4 (by simp) (by kernel_rfl)
          refine wpOp_step (i := 7) rfl (fun K hK => ?_)
          have hK := Lib.hid hK
          simp only [fills, List.foldl, Act.put, List.setIfInBounds_toArray, List.set_cons_zero, List.set_cons_succ, List.getElem_toArray, List.getElem_cons_zero, List.getElem_cons_succ]
          rw [e1]
          go_simp
          exact hK.out _ _ ⟨.agg #[.slice qa binds.length qc, .int .i64 0, .int .i64 i, .slice none 0 0], by simp only [fills, List.foldl, Act.put, List.setIfInBounds_toArray, List.set_cons_zero, List.set_cons_succ, List.getElem_toArray, List.getElem_cons_zero, List.getElem_cons_succ]; simp [upd, e1, e0], trivial, ⟨qa, qc, e1, rfl⟩, Below.refl _ _, q1, q2, q3⟩
        · refine wpOp_step (i := 8) rfl (fun K hK => ?_)
          have hK := Lib.hid hK
          simp only [fills, List.foldl, Act.put, List.setIfInBounds_toArray, List.set_cons_zero, List.set_cons_succ, List.getElem_toArray, List.getElem_cons_zero, List.getElem_cons_succ]
          go_simp
          have hb6 : Below w'.heap.size w' (w'.alloc (.cells #[.slice none 0 0, .int .i64 0, .int .i64 0, .slice none 0 0] 52)) := (Below.refl _ _).alloc (Nat.le_refl _) _
          have hKp : Keep (fun _ => True) w' (w'.alloc (.cells #[.slice none 0 0, .int .i64 0, .int .i64 0, .slice none 0 0] 52)) := (Keep.refl _ _).below hb6
          exact hK.out _ _ ⟨_, rfl, ⟨rfl, by simp, Blk.new _ _ _ rfl⟩, trivial, hb6, hKp _ _ _ trivial q1, hKp _ _ _ trivial q2, hKp _ _ _ trivial q3⟩
      case gend =>
        intro u lo hi w' hΦ hΨ hB' hS'
        have hbw : Below w3.heap.size w3 w' := (Below.refl _ _).drew.trans hB'
        obtain ⟨⟨qa, qc, e1, V1⟩, n1, m1, o1⟩ := hΦ.1 3 (by simp) rfl
        obtain ⟨⟨e2, r2, Z2⟩, n2, m2, o2⟩ := hΦ.1 8 (by simp) rfl
        obtain ⟨qa', qc', e3, e4⟩ := hΨ 4 (by simp)
        obtain ⟨qa2, qc2, e5, e6⟩ := hΨ 7 (by simp)
        obtain ⟨rfl, rfl⟩ : qa' = qa ∧ qc' = qc := by rw [e1] at e3; cases e3; exact ⟨rfl, rfl⟩
        obtain ⟨rfl, rfl⟩ : qa2 = qa' ∧ qc2 = qc' := by rw [e4] at e5; cases e5; exact ⟨rfl, rfl⟩
        clear e3 e5
        have k12 := hΦ.2 3 (by simp) 8 (by simp) rfl rfl (by decide)
        clear hΦ hΨ
        simp only [fills, List.foldl, Act.put, List.setIfInBounds_toArray, List.set_cons_zero, List.set_cons_succ, List.getElem_toArray, List.getElem_cons_zero, List.getElem_cons_succ]
        rw [e1, e2, e4, e6]
        clear e1 e2 e4 e6
        have hsz : w3.drew.heap.size = w3.heap.size := rfl
        rw [hsz, hsz1] at n1 n2
        generalize lo 8 = p at *
        have U1 := Lib.hid (V1.weaken (F' := fun q => w.heap.size + 2 ≤ q ∧ q ≠ p) (by decide) fun q _ h => ⟨by omega, by omega⟩)
        clear V1 k12 n1 m1 o1 m2 r2 o2 hsz
        have B2 := B3.trans (hbw.mono B3.size)
        have y0 := x0.below hbw
        have y2 := x2.below hbw
        have r0 : w'.cell? ⟨p, 0, none⟩ = some (.slice none 0 0) := Z2.cell rfl
        have r1 : w'.cell? ⟨p, 1, none⟩ = some (.int .i64 0) := Z2.cell rfl
        have r2 : w'.cell? ⟨p, 2, none⟩ = some (.int .i64 0) := Z2.cell rfl
        have r3 : w'.cell? ⟨p, 3, none⟩ = some (.slice none 0 0) := Z2.cell rfl
        have f0 := Z2.free 0
        have f1 := Z2.free 1
        have f2 := Z2.free 2
        have f3 := Z2.free 3
        refine wpN_step (i := 9) (by kernel_rfl) rfl (fun K hK => ?_)
        go_simp
        refine hK.out _ _ (fun h => absurd h (by decide)) ?_
        clear hK K
        try simp only [Act.put, List.setIfInBounds_toArray, List.set_cons_zero, List.set_cons_succ, List.getElem_toArray, List.getElem_cons_zero, List.getElem_cons_succ]
        refine wpN_done (by kernel_rfl) ?_
        refine NoPanic.normal ?_
        obtain ⟨w2, hw2⟩ : ∃ w2, ((((w'.setCell ⟨p, 0, none⟩ (.slice qa2 binds.length qc2)).setCell ⟨p, 1, none⟩ (.int .i64 0)).setCell ⟨p, 2, none⟩ (.int .i64 i)).setCell ⟨p, 3, none⟩ (.slice none 0 0)) = w2 := ⟨_, rfl⟩
        have hlp := Z2.lt
        have B5 : Below w.heap.size w w2 := by rw [← hw2]; exact ((((B2.setCell (by simp; omega) _).setCell (by simp; omega) _).setCell (by simp; omega) _).setCell (by simp; omega) _)
        have z0 : Blk w2 w.heap.size #[.slice pa binds.length pc, .int .i64 0, .int .i64 i, .slice a args.length c] 52 := by rw [← hw2]; exact ((((y0.far _ _ (by simp; omega)).far _ _ (by simp; omega)).far _ _ (by simp; omega)).far _ _ (by simp; omega))
        have z2 : Blk w2 (w.heap.size + 1) #[.slice none 0 0, .int .i64 0, .int .i64 0, .slice none 0 0] 52 := by rw [← hw2]; exact ((((y2.far _ _ (by simp; omega)).far _ _ (by simp; omega)).far _ _ (by simp; omega)).far _ _ (by simp; omega))
        have zp : Blk w2 p #[.slice qa2 binds.length qc2, .int .i64 0, .int .i64 i, .slice none 0 0] 52 := by rw [← hw2]; exact ((((Z2.set 0 _).set 1 _).set 2 _).set 3 _)
        have KU : Keep (fun q => w.heap.size + 2 ≤ q ∧ q ≠ p) w' w2 := by rw [← hw2]; exact ((((Keep.refl _ _).setCell _ _ (by simp)).setCell _ _ (by simp)).setCell _ _ (by simp)).setCell _ _ (by simp)
        have U2 := Lib.hid (U1.out.keep KU)
        rw [hw2]
        clear hw2 KU U1 y0 y2 Z2 r0 r1 r2 r3 f0 f1 f2 f3 B2 hbw hB' hS' hS x0 x2 B3 hlp
        have hlp2 := zp.lt
        obtain ⟨N2, hN2⟩ : ∃ n, w2.heap.size = n := ⟨_, rfl⟩
        have HN2 := Lib.hid hN2; clear hN2
        have hpN : p < N2 := by have := HN2.out; omega
        have St2 := Lib.hid (HT.out.keep s w w2 HSt.out fun k hk => B5.block k (Hrw.out k hk))
        have c01 : w2.cell? ⟨w.heap.size, 1, none⟩ = some (.int .i64 0) := z0.cell rfl
        have c02 : w2.cell? ⟨w.heap.size, 2, none⟩ = some (.int .i64 i) := z0.cell rfl
        have c03 : w2.cell? ⟨w.heap.size, 3, none⟩ = some (.slice a args.length c) := z0.cell rfl
        have U3 := Lib.hid (U2.out.weaken (F' := fun q => w.heap.size + 2 ≤ q ∧ q ≠ p ∧ q < N2) (by decide) fun q h1 h2 => ⟨h2.1, h2.2, by have := HN2.out; omega⟩)
        clear U2
        have Hr2 : Hid (∀ k, ro k → k < w.heap.size) := Hrw.out
        go_wp2_with fail
        have hrow : ∀ q, w.heap.size ≤ q → row ≠ some q := fun q hq e => by have := Hr2.out q (HT.out.sub q e); omega
        obtain ⟨w7, hw7⟩ : ∃ w7, w2 = w7 := ⟨_, rfl⟩
        have G7 := gb_below B5 row
        have s2 := z2
        have sp := zp
        have U7 := U3
        have St7 := St2
        have hs7 : N2 ≤ w2.heap.size := by have := HN2.out; omega
        rw [hw7] at G7 s2 sp U7 St7 hs7 ⊢
        clear hw7 B5 z0 z2 zp U3 c01 c02 c03 hlp2 St2
        have hrowN : Hid (∀ k, row = some k → ¬ (N2 ≤ k) ∧ k < N2) := fun k hk => by have := Hr2.out k (HT.out.sub k hk); omega
        have Hrow := Lib.hid hrow; clear hrow
        have hacc0 : Acc rpTm 52 N2 (fun q => N2 ≤ q) w7 (.slice none 0 0) [] := Acc.nil _ _ _ _ _
        try go_wp2_with fail
        go_loopw [48] (fun ii wr => ∃ (j : Nat) (v : Value), ii = .int .i64 j ∧ j ≤ args.length ∧ N2 ≤ wr.heap.size ∧
            w.grownBy wr row ∧ Blk wr (w.heap.size + 1) #[.slice none 0 0, .int .i64 0, .int .i64 0, .slice none 0 0] 52 ∧ Blk wr p #[.slice qa2 binds.length qc2, .int .i64 0, .int .i64 i, v] 52 ∧
            Hid (IsSl rpTy (fun q => w.heap.size + 2 ≤ q ∧ q ≠ p ∧ q < N2) wr (.slice qa2 binds.length qc2) binds) ∧ Hid (St (Tm.turns f (args.take j) s m).1 wr) ∧
            Acc rpTm 52 N2 (fun q => N2 ≤ q) wr v (Tm.turns f (args.take j) s m).2) (fun ii _ => args.length - (intOf ii).toNat)
        case atStart => exact ⟨0, _, rfl, by omega, hs7, G7, s2, sp, U7.out, St7.out, hacc0⟩
        case round =>
          clear G7 s2 sp U7 hacc0 hs7 St7
          obtain ⟨j, v, rfl, hj, hsN, hb, hres, hout, hbi, hst, hacc⟩ := hrel
          have hszp := hout.lt
          have hszb := hres.lt
          have Hacc := Lib.hid hacc; clear hacc
          by_cases hlt : j < args.length
          · obtain ⟨rfl, hF⟩ := ha (by omega)
            clear ha
            have hkp : Keep F w0 wr := hw.grown hb fun k hk => HrF.out k hk
            have e1 := hkp _ _ _ hF (h1 j hlt)
            have e2 := hkp _ _ _ hF (h2 j hlt)
            have e3 := hkp _ _ _ hF (h3 j hlt)
            have e4 := hkp _ _ _ hF (h4 j hlt)
            have hlt0 : (0 : Int) ≤ (j : Int) := Int.natCast_nonneg _
            have hlt1 : (j : Int) < (args.length : Int) := by omega
            have Hl : Hid ((Tm.turns f (args.take j) s m).2.length = j) := by show _ = _; rw [Tm.turns_len, List.length_take]; omega
            have Hne : Hid (∀ q, q < N2 → v.ownBlock ≠ some q) := fun q hq e => by have := (Hacc.out.base_le q e).1; omega
            have Htk := Lib.hid (Tm.turns_take f args s m j hlt)
            have hblw : bl < wr.heap.size := Keep.lt e1
            go_wp2_with fail
            obtain ⟨wa, hwa⟩ : ∃ wa, wr.alloc (.cells #[.slice (PA j) (PN j) (PC j), .int .i64 (Kd j), .int .i64 (Ix j), .slice (A j) (N j) (C j)] 52) = wa := ⟨_, rfl⟩
            obtain ⟨qn, hqn⟩ : ∃ qn, wr.heap.size = qn := ⟨_, rfl⟩
            have ba : Below wr.heap.size wr wa := by rw [← hwa]; exact (Below.refl _ _).alloc (Nat.le_refl _) _
            have xa : Blk wa qn #[.slice (PA j) (PN j) (PC j), .int .i64 (Kd j), .int .i64 (Ix j), .slice (A j) (N j) (C j)] 52 := by rw [← hwa]; exact Blk.new _ _ _ hqn.symm
            have hba := gb_trans hb (gb_below ba row)
            have hresa := hres.below ba
            have houta := hout.below ba
            have Hacca := Lib.hid (Hacc.out.below ba)
            have hbia := Lib.hid (hbi.out.keep ((Keep.refl _ _).below ba))
            have hsta := Lib.hid (HT.out.keep _ _ _ hst.out fun k hk => ba.block k (by have := Hr2.out k hk; have := hb.size; omega))
            have hown : Hid (v.ownBlock ≠ some qn) := fun e => by have := (Hacc.out.base_le qn e).2; omega
            have hsNa : N2 ≤ wa.heap.size := Nat.le_trans hsN ba.size
            have hqN : N2 ≤ qn := by omega
            try rw [hwa]
            try rw [hqn]
            clear hwa hqn ba hb hres hout Hacc hbi hst hsN hszp hszb hblw e1 e2 e3 e4 hkp
            have hszp := houta.lt
            have hszb := hresa.lt
            refine wp_region_noPanic (wp_region_need (S := fun w' => w'.cell? ⟨p, 3, none⟩ = some v ∧ w'.cell? ⟨qn, 0, none⟩ = some (.slice (PA j) (PN j) (PC j)) ∧ w'.cell? ⟨qn, 1, none⟩ = some (.int .i64 (Kd j)) ∧ w'.cell? ⟨qn, 2, none⟩ = some (.int .i64 (Ix j)) ∧ w'.cell? ⟨qn, 3, none⟩ = some (.slice (A j) (N j) (C j))) (by kernel_rfl) ?_)
            have hS : (wa.drew).cell? ⟨p, 3, none⟩ = some v ∧ (wa.drew).cell? ⟨qn, 0, none⟩ = some (.slice (PA j) (PN j) (PC j)) ∧ (wa.drew).cell? ⟨qn, 1, none⟩ = some (.int .i64 (Kd j)) ∧ (wa.drew).cell? ⟨qn, 2, none⟩ = some (.int .i64 (Ix j)) ∧ (wa.drew).cell? ⟨qn, 3, none⟩ = some (.slice (A j) (N j) (C j)) := ⟨houta.drew.cell rfl, xa.drew.cell rfl, xa.drew.cell rfl, xa.drew.cell rfl, xa.drew.cell rfl⟩
            refine wpN_take (i := 0) (v := ?v17) rfl (by kernel_rfl) (fun _ _ _ h => h) hS (Or.inl ⟨by rfl, ?hy17⟩) ?hr17
            case hy17 => (intro wS hSw; (try dsimp only at hSw); go_simp; (try with_reducible rfl))
            try simp only [Act.put, List.setIfInBounds_toArray, List.set_cons_zero, List.set_cons_succ, List.getElem_toArray, List.getElem_cons_zero, List.getElem_cons_succ]
            refine wpN_take (i := 1) (v := ?v18) rfl (by kernel_rfl) (fun _ _ _ h => h) hS (Or.inl ⟨by rfl, ?hy18⟩) ?hr18
            case hy18 => (intro wS hSw; (try dsimp only at hSw); go_simp; (try with_reducible rfl))
            try simp only [Act.put, List.setIfInBounds_toArray, List.set_cons_zero, List.set_cons_succ, List.getElem_toArray, List.getElem_cons_zero, List.getElem_cons_succ]
            refine wpN_take (i := 2) (v := ?v19) rfl (by kernel_rfl) (fun _ _ _ h => h) hS (Or.inl ⟨by rfl, ?hy19⟩) ?hr19
            case hy19 => (intro wS hSw; (try dsimp only at hSw); go_simp; (try with_reducible rfl))
            try simp only [Act.put, List.setIfInBounds_toArray, List.set_cons_zero, List.set_cons_succ, List.getElem_toArray, List.getElem_cons_zero, List.getElem_cons_succ]
            refine wpN_take (i := 3) (v := ?v20) rfl (by kernel_rfl) (fun _ _ _ h => h) hS (Or.inl ⟨by rfl, ?hy20⟩) ?hr20
            case hy20 => (intro wS hSw; (try dsimp only at hSw); go_simp; (try with_reducible rfl))
            try simp only [Act.put, List.setIfInBounds_toArray, List.set_cons_zero, List.set_cons_succ, List.getElem_toArray, List.getElem_cons_zero, List.getElem_cons_succ]
            refine wpN_take (i := 4) (v := ?v21) rfl (by kernel_rfl) (fun _ _ _ h => h) hS (Or.inl ⟨by rfl, ?hy21⟩) ?hr21
            case hy21 => (intro wS hSw; (try dsimp only at hSw); go_simp; (try with_reducible rfl))
            try simp only [Act.put, List.setIfInBounds_toArray, List.set_cons_zero, List.set_cons_succ, List.getElem_toArray, List.getElem_cons_zero, List.getElem_cons_succ]
            refine wpN_step (i := 5) (by kernel_rfl) rfl (fun K hK => ?_)
            go_simp
            refine (Hih.out j hlt _ wa.drew (hw.grown hba fun k hk => HrF.out k hk).drew (fun k hk => by have := Hr2.out k hk; have := hba.size; simp at *; omega) (HT.out.keep _ _ _ hsta.out fun _ _ => rfl)).mono ?_
            rintro e w5 ⟨b', k', i', a', rfl, hr1, hst5, hg5⟩
            have hg5' : wa.grownBy w5 row := gb_trans (gb_below (Below.refl _ _).drew row) hg5
            have hsg := hg5'.size
            have outa5 := houta.grown hg5' (Hrow.out _ (by omega))
            have resa5 := hresa.grown hg5' (Hrow.out _ (by omega))
            have xa5 := xa.grown hg5' (Hrow.out _ (by omega))
            have acc5 := Lib.hid (Hacca.out.other hg5' hrowN.out)
            have bi5 := Lib.hid (hbia.out.keep ((Keep.refl _ _).grown hg5' fun k hk hf => by have := Hr2.out k (HT.out.sub k hk); omega))
            have G5 := gb_trans hba hg5'
            have Hst5 := Lib.hid hst5; clear hst5
            clear houta hresa xa hbia hba hszp hszb hsta
            have hS : (w5).cell? ⟨p, 3, none⟩ = some v ∧ (w5).cell? ⟨qn, 0, none⟩ = some (.slice (PA j) (PN j) (PC j)) ∧ (w5).cell? ⟨qn, 1, none⟩ = some (.int .i64 (Kd j)) ∧ (w5).cell? ⟨qn, 2, none⟩ = some (.int .i64 (Ix j)) ∧ (w5).cell? ⟨qn, 3, none⟩ = some (.slice (A j) (N j) (C j)) := ⟨outa5.cell rfl, xa5.cell rfl, xa5.cell rfl, xa5.cell rfl, xa5.cell rfl⟩
            refine hK.out _ _ (fun _ => hS) ?_
            clear hK K
            try simp only [Act.put, List.setIfInBounds_toArray, List.set_cons_zero, List.set_cons_succ, List.getElem_toArray, List.getElem_cons_zero, List.getElem_cons_succ]
            refine wpN_step (i := 6) (by kernel_rfl) rfl (fun K hK => ?_)
            go_simp
            have hS : (w5.alloc (.cells #[b', k', i', a'] 52)).cell? ⟨p, 3, none⟩ = some v ∧ (w5.alloc (.cells #[b', k', i', a'] 52)).cell? ⟨qn, 0, none⟩ = some (.slice (PA j) (PN j) (PC j)) ∧ (w5.alloc (.cells #[b', k', i', a'] 52)).cell? ⟨qn, 1, none⟩ = some (.int .i64 (Kd j)) ∧ (w5.alloc (.cells #[b', k', i', a'] 52)).cell? ⟨qn, 2, none⟩ = some (.int .i64 (Ix j)) ∧ (w5.alloc (.cells #[b', k', i', a'] 52)).cell? ⟨qn, 3, none⟩ = some (.slice (A j) (N j) (C j)) := ⟨(outa5.alloc _).cell rfl, (xa5.alloc _).cell rfl, (xa5.alloc _).cell rfl, (xa5.alloc _).cell rfl, (xa5.alloc _).cell rfl⟩
            refine hK.out _ _ (fun _ => hS) ?_
            clear hK K
            try simp only [Act.put, List.setIfInBounds_toArray, List.set_cons_zero, List.set_cons_succ, List.getElem_toArray, List.getElem_cons_zero, List.getElem_cons_succ]
            refine wpN_step (i := 7) (by kernel_rfl) rfl (fun K hK => ?_)
            refine step_push rpTm (by decide) (by rfl) _ _ _ (by rfl) N2 52 i2 _ 64 Tryz.underlying50 hi2 hz0 hz1 hz2 rfl (by decide)
                   (fun q => N2 ≤ q) v (Tm.turns f (args.take j) s m).2 (by rfl) (acc5.out.alloc _) (by rw [Hl.out]; omega)
                   w5.heap.size _ [b', k', i', a'] (Tm.turn f args[j] (Tm.turns f (args.take j) s m).1 m).2 (by rfl) (heap_alloc_new _ _) ⟨_, _, _, _, rfl, (hr1.weaken (fun q _ hq => ⟨Nat.le_trans (show N2 ≤ wa.drew.heap.size from hsNa) hq, fun e => by have := (Hacca.out.base_le q e).2; exact absurd this (Nat.not_lt.2 hq)⟩)).keep ((Keep.refl _ _).alloc _)⟩ (by have := hsg; simp at *; omega) ?_
            intro gg cap w6 hacc2 hgrow hat hlt2
            have o2 := (outa5.alloc _).grown hgrow (Hne.out _ (by omega))
            have o1 := (resa5.alloc _).grown hgrow (Hne.out _ (by omega))
            have oq := (xa5.alloc _).grown hgrow hown.out
            have bi6 := Lib.hid (((bi5.out.keep ((Keep.refl _ _).alloc _)).weaken (F' := fun q => (w.heap.size + 2 ≤ q ∧ q ≠ p ∧ q < N2) ∧ v.ownBlock ≠ some q) (by decide) fun q _ h => ⟨h, Hne.out q h.2.2⟩).keep ((Keep.refl _ _).grown hgrow fun k hk hf => hf.2 hk))
            have G6 := gb_grown (gb_trans G5 (gb_below ((Below.refl _ _).alloc (Nat.le_refl _) _) row)) hgrow (fun q hq => by have := (Hacca.out.base_le q hq).1; omega)
            have st6 := Lib.hid (HT.out.keep _ _ _ Hst5.out fun k hk => ((hgrow.block k (by have := Hr2.out k hk; have := G5.size; simp; omega) (fun e => Hne.out k (by have := Hr2.out k hk; omega) e.symm)).trans (Below.heap_alloc _ _ _ (by have := Hr2.out k hk; have := G5.size; omega))))
            have hS : (w6).cell? ⟨p, 3, none⟩ = some v ∧ (w6).cell? ⟨qn, 0, none⟩ = some (.slice (PA j) (PN j) (PC j)) ∧ (w6).cell? ⟨qn, 1, none⟩ = some (.int .i64 (Kd j)) ∧ (w6).cell? ⟨qn, 2, none⟩ = some (.int .i64 (Ix j)) ∧ (w6).cell? ⟨qn, 3, none⟩ = some (.slice (A j) (N j) (C j)) := ⟨o2.cell (i := 3) rfl, oq.cell rfl, oq.cell rfl, oq.cell rfl, oq.cell rfl⟩
            have p2 := o2.free 3
            have Hacc2 := Lib.hid hacc2; clear hacc2
            refine hK.out _ _ (fun _ => hS) ?_
            clear hK K
            try simp only [Act.put, List.setIfInBounds_toArray, List.set_cons_zero, List.set_cons_succ, List.getElem_toArray, List.getElem_cons_zero, List.getElem_cons_succ]
            refine wpN_take (i := 8) (v := ?v22) rfl (by kernel_rfl) (fun _ _ _ h => h) hS (Or.inl ⟨by rfl, ?hy22⟩) ?hr22
            case hy22 => (intro wS hSw; (try dsimp only at hSw); go_simp; (try with_reducible rfl))
            try simp only [Act.put, List.setIfInBounds_toArray, List.set_cons_zero, List.set_cons_succ, List.getElem_toArray, List.getElem_cons_zero, List.getElem_cons_succ]
            refine wpN_step (i := 9) (by kernel_rfl) rfl (fun K hK => ?_)
            go_simp
            refine hK.out _ _ (fun h => absurd h (by decide)) ?_
            clear hK K
            try simp only [Act.put, List.setIfInBounds_toArray, List.set_cons_zero, List.set_cons_succ, List.getElem_toArray, List.getElem_cons_zero, List.getElem_cons_succ]
            refine wpN_done (by kernel_rfl) ?_
            refine NoPanic.normal ?_
            have hs6 : N2 ≤ w6.heap.size := by have := hgrow.size; simp at *; omega
            clear o1 oq
            have o1 := (resa5.alloc _).grown hgrow (Hne.out _ (by omega))
            go_wp2_with fail
            refine ⟨⟨j + 1, _, by go_num, by omega, by simpa using hs6, gb_setCell G6 (by simp <;> omega) _, o1.far _ _ (by simp <;> omega), o2.set 3 _, ?_, ?_, ?_⟩, by simp [intOf]; omega⟩
            · exact ((bi6.out.weaken (F' := fun q => w.heap.size + 2 ≤ q ∧ q ≠ p ∧ q < N2) (by decide) fun q _ h => h.1).keep ((Keep.refl _ _).setCell _ _ (by simp)))
            · show St _ _
              rw [Htk.out]
              exact HT.out.keep _ _ _ st6.out fun k hk => Below.heap_setCell _ _ _ _ (by have := Hr2.out k hk; simp; omega)
            · have h := Hacc2.out
              rw [Htk.out]
              exact h.setCell ⟨p, 3, none⟩ _ (by simp <;> omega) (by simp <;> omega)
          · obtain ⟨va, vc, hv⟩ := Hacc.out.len_shape
            rw [Tm.turns_len, List.length_take, Nat.min_eq_left hj] at hv
            subst hv
            have d1 : wr.cell? ⟨p, 0, none⟩ = some (.slice qa2 binds.length qc2) := hout.cell rfl
            have d2 : wr.cell? ⟨p, 1, none⟩ = some (.int .i64 0) := hout.cell rfl
            have d3 : wr.cell? ⟨p, 2, none⟩ = some (.int .i64 i) := hout.cell rfl
            have d4 : wr.cell? ⟨p, 3, none⟩ = some (.slice va j vc) := hout.cell rfl
            have r0 : wr.cell? ⟨w.heap.size + 1, 0, none⟩ = some (.slice none 0 0) := hres.cell rfl
            have r1 : wr.cell? ⟨w.heap.size + 1, 1, none⟩ = some (.int .i64 0) := hres.cell rfl
            have r2 : wr.cell? ⟨w.heap.size + 1, 2, none⟩ = some (.int .i64 0) := hres.cell rfl
            have r3 : wr.cell? ⟨w.heap.size + 1, 3, none⟩ = some (.slice none 0 0) := hres.cell rfl
            have f0 := hres.free 0
            have f1 := hres.free 1
            have f2 := hres.free 2
            have f3 := hres.free 3
            go_wp2_with fail
            refine bodyPost_ret (v := .agg #[.slice qa2 binds.length qc2, .int .i64 0, .int .i64 i, .slice va j vc]) (by simp [results, Tryz.results104, go_sem, r0, r1, r2, r3]) rfl ?_
            have h := Hacc.out
            have hst2 := hst.out
            rw [List.take_of_length_le (by omega)] at h hst2
            have hA := (((h.setCell ⟨w.heap.size + 1, 0, none⟩ (.slice qa2 binds.length qc2) (by simp <;> omega) (by simp <;> omega)).setCell ⟨w.heap.size + 1, 1, none⟩ (.int .i64 0) (by simp <;> omega) (by simp <;> omega)).setCell ⟨w.heap.size + 1, 2, none⟩ (.int .i64 i) (by simp <;> omega) (by simp <;> omega)).setCell ⟨w.heap.size + 1, 3, none⟩ (.slice va j vc) (by simp <;> omega) (by simp <;> omega)
            have KR := (((((Keep.refl (fun q => w.heap.size + 2 ≤ q ∧ q ≠ p ∧ q < N2) wr).setCell ⟨w.heap.size + 1, 0, none⟩ (.slice qa2 binds.length qc2) (by simp <;> omega)).setCell ⟨w.heap.size + 1, 1, none⟩ (.int .i64 0) (by simp <;> omega)).setCell ⟨w.heap.size + 1, 2, none⟩ (.int .i64 i) (by simp <;> omega)).setCell ⟨w.heap.size + 1, 3, none⟩ (.slice va j vc) (by simp <;> omega))
            have hsetk : ∀ (W : World) (o : Nat) (u : Value) (k : Nat), ro k → (W.setCell ⟨w.heap.size + 1, o, none⟩ u).heap[k]? = W.heap[k]? := fun W o u k hk => Below.heap_setCell _ _ _ _ (by have := Hr2.out k hk; simp; omega)
            rw [Tm.turn_miss f binds 0 i args s n m hmm (fun h => absurd h.2 (by have := HC.out; omega))]
            refine ⟨_, _, _, _, rfl, ?_, ?_, gb_setCell (gb_setCell (gb_setCell (gb_setCell hb (by simp) _) (by simp) _) (by simp) _) (by simp) _⟩
            · exact isTm_mk ((hbi.out.keep KR).weaken (by decide) fun q _ h => by omega) (hA.sl (F' := fun q => w.heap.size ≤ q) (fun q _ hq => by omega) (fun q hq => by omega)) 0 i
            · exact HT.out.keep _ _ _ hst2 fun k hk => (hsetk _ _ _ k hk).trans ((hsetk _ _ _ k hk).trans ((hsetk _ _ _ k hk).trans (hsetk _ _ _ k hk)))
  · have hk0 : (k == 0) = false := by simpa using hk
    go_enter Tryz.func104, Tryz.ntmps104
    go_wp2_with fail
    try rw [hmm]
    try rw [hs1]
    obtain ⟨w3, hw3⟩ : ∃ w3, (w.alloc (.cells #[.slice pa binds.length pc, .int .i64 k, .int .i64 i, .slice a args.length c] 52)).alloc (.cells #[.slice none 0 0, .int .i64 0, .int .i64 0, .slice none 0 0] 52) = w3 := ⟨_, rfl⟩
    have B3 : Below w.heap.size w w3 := by rw [← hw3]; exact ((Below.refl _ _).alloc (Nat.le_refl _) _).alloc (by simp) _
    have x0 : Blk w3 w.heap.size #[.slice pa binds.length pc, .int .i64 k, .int .i64 i, .slice a args.length c] 52 := by rw [← hw3]; exact (Blk.new _ _ _ rfl).alloc _
    have x2 : Blk w3 (w.heap.size + 1) #[.slice none 0 0, .int .i64 0, .int .i64 0, .slice none 0 0] 52 := by rw [← hw3]; exact Blk.new _ _ _ (by simp)
    have hsz1 : w3.heap.size = w.heap.size + 2 := by rw [← hw3]; simp
    try rw [hw3]
    clear hw3
    refine wp_region_noPanic (wp_region_need (S := fun w' => w'.cell? ⟨w.heap.size, 0, none⟩ = some (.slice pa binds.length pc) ∧ w'.cell? ⟨w.heap.size, 1, none⟩ = some (.int .i64 k) ∧ w'.cell? ⟨w.heap.size, 2, none⟩ = some (.int .i64 i)) (by kernel_rfl) ?_)
    have hS : (w3.drew).cell? ⟨w.heap.size, 0, none⟩ = some (.slice pa binds.length pc) ∧ (w3.drew).cell? ⟨w.heap.size, 1, none⟩ = some (.int .i64 k) ∧ (w3.drew).cell? ⟨w.heap.size, 2, none⟩ = some (.int .i64 i) := ⟨x0.drew.cell rfl, x0.drew.cell rfl, x0.drew.cell rfl⟩
    refine wpN_take (i := 0) (v := ?v23) rfl (by kernel_rfl) (fun _ _ _ h => h) hS (Or.inl ⟨by rfl, ?hy23⟩) ?hr23
    case hy23 => (intro wS hSw; (try dsimp only at hSw); go_simp; (try with_reducible rfl))
    try simp only [Act.put, List.setIfInBounds_toArray, List.set_cons_zero, List.set_cons_succ, List.getElem_toArray, List.getElem_cons_zero, List.getElem_cons_succ]
    refine wpN_take (i := 1) (v := ?v24) rfl (by kernel_rfl) (fun _ _ _ h => h) hS (Or.inl ⟨by rfl, ?hy24⟩) ?hr24
    case hy24 => (intro wS hSw; (try dsimp only at hSw); go_simp; (try with_reducible rfl))
    try simp only [Act.put, List.setIfInBounds_toArray, List.set_cons_zero, List.set_cons_succ, List.getElem_toArray, List.getElem_cons_zero, List.getElem_cons_succ]
    refine wpN_take (i := 2) (v := ?v25) rfl (by kernel_rfl) (fun _ _ _ h => h) hS (Or.inl ⟨by rfl, ?hy25⟩) ?hr25
    case hy25 => (intro wS hSw; (try dsimp only at hSw); go_simp; (try with_reducible rfl))
    try simp only [Act.put, List.setIfInBounds_toArray, List.set_cons_zero, List.set_cons_succ, List.getElem_toArray, List.getElem_cons_zero, List.getElem_cons_succ]
    refine wpN_take (i := 5) (v := ?v26) rfl (by kernel_rfl) (fun _ _ _ h => h) hS (Or.inl ⟨by rfl, ?hy26⟩) ?hr26
    case hy26 => (intro wS hSw; (try dsimp only at hSw); go_simp; (try with_reducible rfl))
    try simp only [Act.put, List.setIfInBounds_toArray, List.set_cons_zero, List.set_cons_succ, List.getElem_toArray, List.getElem_cons_zero, List.getElem_cons_succ]
    refine wpN_take (i := 6) (v := ?v27) rfl (by kernel_rfl) (fun _ _ _ h => h) hS (Or.inl ⟨by rfl, ?hy27⟩) ?hr27
    case hy27 => (intro wS hSw; (try dsimp only at hSw); go_simp; (try with_reducible rfl))
    try simp only [Act.put, List.setIfInBounds_toArray, List.set_cons_zero, List.set_cons_succ, List.getElem_toArray, List.getElem_cons_zero, List.getElem_cons_succ]
    refine wpN_gathersP [(3, 18), (4, 19), (7, 22), (8, 7)] 1 (fun j v x y w' => match j with
      | 3 => ∃ qa qc, v = .agg #[.slice qa binds.length qc, .int .i64 0] ∧ IsSl rpTy (fun q => x ≤ q ∧ q < y) w' (.slice qa binds.length qc) binds
      | 4 => True
      | 7 => True
      | _ => v = .pointer (some ⟨x, 0, none⟩) ∧ x < y ∧ Blk w' x #[.slice none 0 0, .int .i64 0, .int .i64 0, .slice none 0 0] 52) (fun j u => match j with
      | 4 => ∃ qa qc, u 3 = .agg #[.slice qa binds.length qc, .int .i64 0] ∧ u 4 = .slice qa binds.length qc
      | 7 => ∃ qa qc, u 4 = .slice qa binds.length qc ∧ u 7 = .agg #[.slice qa binds.length qc, .int .i64 k, .int .i64 i, .slice none 0 0]
      | _ => True) rfl rfl (by kernel_rfl) ?gst ?gst' hS ?gop ?gend
    case gst =>
      intro j v x y wa wb h hb
      split at h
      · obtain ⟨a, c, e, ht⟩ := h
        exact ⟨a, c, e, ht.keep ((Keep.refl _ _).below hb)⟩
      · trivial
      · trivial
      · exact ⟨h.1, h.2.1, h.2.2.below hb⟩
    case gst' =>
      intro j hj u u' hu h
      simp only [List.map_cons, List.map_nil, List.mem_cons, List.not_mem_nil, or_false] at hj
      rcases hj with rfl | rfl | rfl | rfl
      · trivial
      · obtain ⟨qa, qc, e1, e2⟩ := h
        exact ⟨qa, qc, (hu 3 (.inr (by kernel_rfl))).trans e1, (hu 4 (.inl rfl)).trans e2⟩
      · obtain ⟨qa, qc, e1, e2⟩ := h
        exact ⟨qa, qc, (hu 4 (.inr (by kernel_rfl))).trans e1, (hu 7 (.inl rfl)).trans e2⟩
      · trivial
    case gop =>
      intro x hx u w' hdep hB' hS'
      obtain ⟨q1, q2, q3⟩ := hS'
      have hbw : Below w3.heap.size w3 w' := (Below.refl _ _).drew.trans hB'
      simp only [List.mem_cons, List.not_mem_nil, or_false] at hx
      rcases hx with rfl | rfl | rfl | rfl
      · refine wpOp_step (i := 3) rfl (fun K hK => ?_)
        have hK := Lib.hid hK
        simp only [fills, List.foldl, Act.put, List.setIfInBounds_toArray, List.set_cons_zero, List.set_cons_succ, List.getElem_toArray, List.getElem_cons_zero, List.getElem_cons_succ]
        go_simp
        refine (Harr.out w' (B3.trans (hbw.mono B3.size))).mono ?_
        rintro e w6 ⟨s', b', rfl, hT, hb6⟩
        obtain ⟨qa, qc, rfl, rfl⟩ := hT.shape
        have hSl := hT.inv.2
        simp only [List.append_nil, args_mk', base_mk'] at hSl ⊢
        have hKp : Keep (fun _ => True) w' w6 := (Keep.refl _ _).below hb6
        exact hK.out _ _ ⟨_, rfl, ⟨_, _, rfl, hSl.weaken (by decide) fun q h1 h2 => ⟨h2, h1⟩⟩, trivial, hb6, hKp _ _ _ trivial q1, hKp _ _ _ trivial q2, hKp _ _ _ trivial q3⟩
      · obtain ⟨_, _, _, qa, qc, e1, _⟩ := hdep 3 (by simp) (by kernel_rfl)
        refine wpOp_step (i := 4) rfl (fun K hK => ?_)
        have hK := Lib.hid hK
        simp only [fills, List.foldl, Act.put, List.setIfInBounds_toArray, List.set_cons_zero, List.set_cons_succ, List.getElem_toArray, List.getElem_cons_zero, List.getElem_cons_succ]
        rw [e1]
        go_simp
        exact hK.out _ _ ⟨.slice qa binds.length qc, by simp only [fills, List.foldl, Act.put, List.setIfInBounds_toArray, List.set_cons_zero, List.set_cons_succ, List.getElem_toArray, List.getElem_cons_zero, List.getElem_cons_succ]; simp [upd, e1], trivial, ⟨qa, qc, e1, rfl⟩, Below.refl _ _, q1, q2, q3⟩
      · obtain ⟨⟨qa, qc, e0, e1⟩, _⟩ := hdep 4 (by simp) (by kernel_rfl)
        refine wpOp_step (i := 7) rfl (fun K hK => ?_)
        have hK := Lib.hid hK
        simp only [fills, List.foldl, Act.put, List.setIfInBounds_toArray, List.set_cons_zero, List.set_cons_succ, List.getElem_toArray, List.getElem_cons_zero, List.getElem_cons_succ]
        rw [e1]
        go_simp
        exact hK.out _ _ ⟨.agg #[.slice qa binds.length qc, .int .i64 k, .int .i64 i, .slice none 0 0], by simp only [fills, List.foldl, Act.put, List.setIfInBounds_toArray, List.set_cons_zero, List.set_cons_succ, List.getElem_toArray, List.getElem_cons_zero, List.getElem_cons_succ]; simp [upd, e1, e0], trivial, ⟨qa, qc, e1, rfl⟩, Below.refl _ _, q1, q2, q3⟩
      · refine wpOp_step (i := 8) rfl (fun K hK => ?_)
        have hK := Lib.hid hK
        simp only [fills, List.foldl, Act.put, List.setIfInBounds_toArray, List.set_cons_zero, List.set_cons_succ, List.getElem_toArray, List.getElem_cons_zero, List.getElem_cons_succ]
        go_simp
        have hb6 : Below w'.heap.size w' (w'.alloc (.cells #[.slice none 0 0, .int .i64 0, .int .i64 0, .slice none 0 0] 52)) := (Below.refl _ _).alloc (Nat.le_refl _) _
        have hKp : Keep (fun _ => True) w' (w'.alloc (.cells #[.slice none 0 0, .int .i64 0, .int .i64 0, .slice none 0 0] 52)) := (Keep.refl _ _).below hb6
        exact hK.out _ _ ⟨_, rfl, ⟨rfl, by simp, Blk.new _ _ _ rfl⟩, trivial, hb6, hKp _ _ _ trivial q1, hKp _ _ _ trivial q2, hKp _ _ _ trivial q3⟩
    case gend =>
      intro u lo hi w' hΦ hΨ hB' hS'
      have hbw : Below w3.heap.size w3 w' := (Below.refl _ _).drew.trans hB'
      obtain ⟨⟨qa, qc, e1, V1⟩, n1, m1, o1⟩ := hΦ.1 3 (by simp) rfl
      obtain ⟨⟨e2, r2, Z2⟩, n2, m2, o2⟩ := hΦ.1 8 (by simp) rfl
      obtain ⟨qa', qc', e3, e4⟩ := hΨ 4 (by simp)
      obtain ⟨qa2, qc2, e5, e6⟩ := hΨ 7 (by simp)
      obtain ⟨rfl, rfl⟩ : qa' = qa ∧ qc' = qc := by rw [e1] at e3; cases e3; exact ⟨rfl, rfl⟩
      obtain ⟨rfl, rfl⟩ : qa2 = qa' ∧ qc2 = qc' := by rw [e4] at e5; cases e5; exact ⟨rfl, rfl⟩
      clear e3 e5
      have k12 := hΦ.2 3 (by simp) 8 (by simp) rfl rfl (by decide)
      clear hΦ hΨ
      simp only [fills, List.foldl, Act.put, List.setIfInBounds_toArray, List.set_cons_zero, List.set_cons_succ, List.getElem_toArray, List.getElem_cons_zero, List.getElem_cons_succ]
      rw [e1, e2, e4, e6]
      clear e1 e2 e4 e6
      have hsz : w3.drew.heap.size = w3.heap.size := rfl
      rw [hsz, hsz1] at n1 n2
      generalize lo 8 = p at *
      have U1 := Lib.hid (V1.weaken (F' := fun q => w.heap.size + 2 ≤ q ∧ q ≠ p) (by decide) fun q _ h => ⟨by omega, by omega⟩)
      clear V1 k12 n1 m1 o1 m2 r2 o2 hsz
      have B2 := B3.trans (hbw.mono B3.size)
      have y0 := x0.below hbw
      have y2 := x2.below hbw
      have r0 : w'.cell? ⟨p, 0, none⟩ = some (.slice none 0 0) := Z2.cell rfl
      have r1 : w'.cell? ⟨p, 1, none⟩ = some (.int .i64 0) := Z2.cell rfl
      have r2 : w'.cell? ⟨p, 2, none⟩ = some (.int .i64 0) := Z2.cell rfl
      have r3 : w'.cell? ⟨p, 3, none⟩ = some (.slice none 0 0) := Z2.cell rfl
      have f0 := Z2.free 0
      have f1 := Z2.free 1
      have f2 := Z2.free 2
      have f3 := Z2.free 3
      refine wpN_step (i := 9) (by kernel_rfl) rfl (fun K hK => ?_)
      go_simp
      refine hK.out _ _ (fun h => absurd h (by decide)) ?_
      clear hK K
      try simp only [Act.put, List.setIfInBounds_toArray, List.set_cons_zero, List.set_cons_succ, List.getElem_toArray, List.getElem_cons_zero, List.getElem_cons_succ]
      refine wpN_done (by kernel_rfl) ?_
      refine NoPanic.normal ?_
      obtain ⟨w2, hw2⟩ : ∃ w2, ((((w'.setCell ⟨p, 0, none⟩ (.slice qa2 binds.length qc2)).setCell ⟨p, 1, none⟩ (.int .i64 k)).setCell ⟨p, 2, none⟩ (.int .i64 i)).setCell ⟨p, 3, none⟩ (.slice none 0 0)) = w2 := ⟨_, rfl⟩
      have hlp := Z2.lt
      have B5 : Below w.heap.size w w2 := by rw [← hw2]; exact ((((B2.setCell (by simp; omega) _).setCell (by simp; omega) _).setCell (by simp; omega) _).setCell (by simp; omega) _)
      have z0 : Blk w2 w.heap.size #[.slice pa binds.length pc, .int .i64 k, .int .i64 i, .slice a args.length c] 52 := by rw [← hw2]; exact ((((y0.far _ _ (by simp; omega)).far _ _ (by simp; omega)).far _ _ (by simp; omega)).far _ _ (by simp; omega))
      have z2 : Blk w2 (w.heap.size + 1) #[.slice none 0 0, .int .i64 0, .int .i64 0, .slice none 0 0] 52 := by rw [← hw2]; exact ((((y2.far _ _ (by simp; omega)).far _ _ (by simp; omega)).far _ _ (by simp; omega)).far _ _ (by simp; omega))
      have zp : Blk w2 p #[.slice qa2 binds.length qc2, .int .i64 k, .int .i64 i, .slice none 0 0] 52 := by rw [← hw2]; exact ((((Z2.set 0 _).set 1 _).set 2 _).set 3 _)
      have KU : Keep (fun q => w.heap.size + 2 ≤ q ∧ q ≠ p) w' w2 := by rw [← hw2]; exact ((((Keep.refl _ _).setCell _ _ (by simp)).setCell _ _ (by simp)).setCell _ _ (by simp)).setCell _ _ (by simp)
      have U2 := Lib.hid (U1.out.keep KU)
      rw [hw2]
      clear hw2 KU U1 y0 y2 Z2 r0 r1 r2 r3 f0 f1 f2 f3 B2 hbw hB' hS' hS x0 x2 B3 hlp
      have hlp2 := zp.lt
      obtain ⟨N2, hN2⟩ : ∃ n, w2.heap.size = n := ⟨_, rfl⟩
      have HN2 := Lib.hid hN2; clear hN2
      have hpN : p < N2 := by have := HN2.out; omega
      have St2 := Lib.hid (HT.out.keep s w w2 HSt.out fun k hk => B5.block k (Hrw.out k hk))
      have c01 : w2.cell? ⟨w.heap.size, 1, none⟩ = some (.int .i64 k) := z0.cell rfl
      have c02 : w2.cell? ⟨w.heap.size, 2, none⟩ = some (.int .i64 i) := z0.cell rfl
      have c03 : w2.cell? ⟨w.heap.size, 3, none⟩ = some (.slice a args.length c) := z0.cell rfl
      have U3 := Lib.hid (U2.out.weaken (F' := fun q => w.heap.size + 2 ≤ q ∧ q ≠ p ∧ q < N2) (by decide) fun q h1 h2 => ⟨h2.1, h2.2, by have := HN2.out; omega⟩)
      clear U2
      have Hr2 : Hid (∀ k, ro k → k < w.heap.size) := Hrw.out
      go_wp2_with fail
      have hrow : ∀ q, w.heap.size ≤ q → row ≠ some q := fun q hq e => by have := Hr2.out q (HT.out.sub q e); omega
      obtain ⟨w7, hw7⟩ : ∃ w7, w2 = w7 := ⟨_, rfl⟩
      have G7 := gb_below B5 row
      have s2 := z2
      have sp := zp
      have U7 := U3
      have St7 := St2
      have hs7 : N2 ≤ w2.heap.size := by have := HN2.out; omega
      rw [hw7] at G7 s2 sp U7 St7 hs7 ⊢
      clear hw7 B5 z0 z2 zp U3 c01 c02 c03 hlp2 St2
      have hrowN : Hid (∀ k, row = some k → ¬ (N2 ≤ k) ∧ k < N2) := fun k hk => by have := Hr2.out k (HT.out.sub k hk); omega
      have Hrow := Lib.hid hrow; clear hrow
      have hacc0 : Acc rpTm 52 N2 (fun q => N2 ≤ q) w7 (.slice none 0 0) [] := Acc.nil _ _ _ _ _
      try go_wp2_with fail
      go_loopw [48] (fun ii wr => ∃ (j : Nat) (v : Value), ii = .int .i64 j ∧ j ≤ args.length ∧ N2 ≤ wr.heap.size ∧
          w.grownBy wr row ∧ Blk wr (w.heap.size + 1) #[.slice none 0 0, .int .i64 0, .int .i64 0, .slice none 0 0] 52 ∧ Blk wr p #[.slice qa2 binds.length qc2, .int .i64 k, .int .i64 i, v] 52 ∧
          Hid (IsSl rpTy (fun q => w.heap.size + 2 ≤ q ∧ q ≠ p ∧ q < N2) wr (.slice qa2 binds.length qc2) binds) ∧ Hid (St (Tm.turns f (args.take j) s m).1 wr) ∧
          Acc rpTm 52 N2 (fun q => N2 ≤ q) wr v (Tm.turns f (args.take j) s m).2) (fun ii _ => args.length - (intOf ii).toNat)
      case atStart => exact ⟨0, _, rfl, by omega, hs7, G7, s2, sp, U7.out, St7.out, hacc0⟩
      case round =>
        clear G7 s2 sp U7 hacc0 hs7 St7
        obtain ⟨j, v, rfl, hj, hsN, hb, hres, hout, hbi, hst, hacc⟩ := hrel
        have hszp := hout.lt
        have hszb := hres.lt
        have Hacc := Lib.hid hacc; clear hacc
        by_cases hlt : j < args.length
        · obtain ⟨rfl, hF⟩ := ha (by omega)
          clear ha
          have hkp : Keep F w0 wr := hw.grown hb fun k hk => HrF.out k hk
          have e1 := hkp _ _ _ hF (h1 j hlt)
          have e2 := hkp _ _ _ hF (h2 j hlt)
          have e3 := hkp _ _ _ hF (h3 j hlt)
          have e4 := hkp _ _ _ hF (h4 j hlt)
          have hlt0 : (0 : Int) ≤ (j : Int) := Int.natCast_nonneg _
          have hlt1 : (j : Int) < (args.length : Int) := by omega
          have Hl : Hid ((Tm.turns f (args.take j) s m).2.length = j) := by show _ = _; rw [Tm.turns_len, List.length_take]; omega
          have Hne : Hid (∀ q, q < N2 → v.ownBlock ≠ some q) := fun q hq e => by have := (Hacc.out.base_le q e).1; omega
          have Htk := Lib.hid (Tm.turns_take f args s m j hlt)
          have hblw : bl < wr.heap.size := Keep.lt e1
          go_wp2_with fail
          obtain ⟨wa, hwa⟩ : ∃ wa, wr.alloc (.cells #[.slice (PA j) (PN j) (PC j), .int .i64 (Kd j), .int .i64 (Ix j), .slice (A j) (N j) (C j)] 52) = wa := ⟨_, rfl⟩
          obtain ⟨qn, hqn⟩ : ∃ qn, wr.heap.size = qn := ⟨_, rfl⟩
          have ba : Below wr.heap.size wr wa := by rw [← hwa]; exact (Below.refl _ _).alloc (Nat.le_refl _) _
          have xa : Blk wa qn #[.slice (PA j) (PN j) (PC j), .int .i64 (Kd j), .int .i64 (Ix j), .slice (A j) (N j) (C j)] 52 := by rw [← hwa]; exact Blk.new _ _ _ hqn.symm
          have hba := gb_trans hb (gb_below ba row)
          have hresa := hres.below ba
          have houta := hout.below ba
          have Hacca := Lib.hid (Hacc.out.below ba)
          have hbia := Lib.hid (hbi.out.keep ((Keep.refl _ _).below ba))
          have hsta := Lib.hid (HT.out.keep _ _ _ hst.out fun k hk => ba.block k (by have := Hr2.out k hk; have := hb.size; omega))
          have hown : Hid (v.ownBlock ≠ some qn) := fun e => by have := (Hacc.out.base_le qn e).2; omega
          have hsNa : N2 ≤ wa.heap.size := Nat.le_trans hsN ba.size
          have hqN : N2 ≤ qn := by omega
          try rw [hwa]
          try rw [hqn]
          clear hwa hqn ba hb hres hout Hacc hbi hst hsN hszp hszb hblw e1 e2 e3 e4 hkp
          have hszp := houta.lt
          have hszb := hresa.lt
          refine wp_region_noPanic (wp_region_need (S := fun w' => w'.cell? ⟨p, 3, none⟩ = some v ∧ w'.cell? ⟨qn, 0, none⟩ = some (.slice (PA j) (PN j) (PC j)) ∧ w'.cell? ⟨qn, 1, none⟩ = some (.int .i64 (Kd j)) ∧ w'.cell? ⟨qn, 2, none⟩ = some (.int .i64 (Ix j)) ∧ w'.cell? ⟨qn, 3, none⟩ = some (.slice (A j) (N j) (C j))) (by kernel_rfl) ?_)
          have hS : (wa.drew).cell? ⟨p, 3, none⟩ = some v ∧ (wa.drew).cell? ⟨qn, 0, none⟩ = some (.slice (PA j) (PN j) (PC j)) ∧ (wa.drew).cell? ⟨qn, 1, none⟩ = some (.int .i64 (Kd j)) ∧ (wa.drew).cell? ⟨qn, 2, none⟩ = some (.int .i64 (Ix j)) ∧ (wa.drew).cell? ⟨qn, 3, none⟩ = some (.slice (A j) (N j) (C j)) := ⟨houta.drew.cell rfl, xa.drew.cell rfl, xa.drew.cell rfl, xa.drew.cell rfl, xa.drew.cell rfl⟩
          refine wpN_take (i := 0) (v := ?v28) rfl (by kernel_rfl) (fun _ _ _ h => h) hS (Or.inl ⟨by rfl, ?hy28⟩) ?hr28
          case hy28 => (intro wS hSw; (try dsimp only at hSw); go_simp; (try with_reducible rfl))
          try simp only [Act.put, List.setIfInBounds_toArray, List.set_cons_zero, List.set_cons_succ, List.getElem_toArray, List.getElem_cons_zero, List.getElem_cons_succ]
          refine wpN_take (i := 1) (v := ?v29) rfl (by kernel_rfl) (fun _ _ _ h => h) hS (Or.inl ⟨by rfl, ?hy29⟩) ?hr29
          case hy29 => (intro wS hSw; (try dsimp only at hSw); go_simp; (try with_reducible rfl))
          try simp only [Act.put, List.setIfInBounds_toArray, List.set_cons_zero, List.set_cons_succ, List.getElem_toArray, List.getElem_cons_zero, List.getElem_cons_succ]
          refine wpN_take (i := 2) (v := ?v30) rfl (by kernel_rfl) (fun _ _ _ h => h) hS (Or.inl ⟨by rfl, ?hy30⟩) ?hr30
          case hy30 => (intro wS hSw; (try dsimp only at hSw); go_simp; (try with_reducible rfl))
          try simp only [Act.put, List.setIfInBounds_toArray, List.set_cons_zero, List.set_cons_succ, List.getElem_toArray, List.getElem_cons_zero, List.getElem_cons_succ]
          refine wpN_take (i := 3) (v := ?v31) rfl (by kernel_rfl) (fun _ _ _ h => h) hS (Or.inl ⟨by rfl, ?hy31⟩) ?hr31
          case hy31 => (intro wS hSw; (try dsimp only at hSw); go_simp; (try with_reducible rfl))
          try simp only [Act.put, List.setIfInBounds_toArray, List.set_cons_zero, List.set_cons_succ, List.getElem_toArray, List.getElem_cons_zero, List.getElem_cons_succ]
          refine wpN_take (i := 4) (v := ?v32) rfl (by kernel_rfl) (fun _ _ _ h => h) hS (Or.inl ⟨by rfl, ?hy32⟩) ?hr32
          case hy32 => (intro wS hSw; (try dsimp only at hSw); go_simp; (try with_reducible rfl))
          try simp only [Act.put, List.setIfInBounds_toArray, List.set_cons_zero, List.set_cons_succ, List.getElem_toArray, List.getElem_cons_zero, List.getElem_cons_succ]
          refine wpN_step (i := 5) (by kernel_rfl) rfl (fun K hK => ?_)
          go_simp
          refine (Hih.out j hlt _ wa.drew (hw.grown hba fun k hk => HrF.out k hk).drew (fun k hk => by have := Hr2.out k hk; have := hba.size; simp at *; omega) (HT.out.keep _ _ _ hsta.out fun _ _ => rfl)).mono ?_
          rintro e w5 ⟨b', k', i', a', rfl, hr1, hst5, hg5⟩
          have hg5' : wa.grownBy w5 row := gb_trans (gb_below (Below.refl _ _).drew row) hg5
          have hsg := hg5'.size
          have outa5 := houta.grown hg5' (Hrow.out _ (by omega))
          have resa5 := hresa.grown hg5' (Hrow.out _ (by omega))
          have xa5 := xa.grown hg5' (Hrow.out _ (by omega))
          have acc5 := Lib.hid (Hacca.out.other hg5' hrowN.out)
          have bi5 := Lib.hid (hbia.out.keep ((Keep.refl _ _).grown hg5' fun k hk hf => by have := Hr2.out k (HT.out.sub k hk); omega))
          have G5 := gb_trans hba hg5'
          have Hst5 := Lib.hid hst5; clear hst5
          clear houta hresa xa hbia hba hszp hszb hsta
          have hS : (w5).cell? ⟨p, 3, none⟩ = some v ∧ (w5).cell? ⟨qn, 0, none⟩ = some (.slice (PA j) (PN j) (PC j)) ∧ (w5).cell? ⟨qn, 1, none⟩ = some (.int .i64 (Kd j)) ∧ (w5).cell? ⟨qn, 2, none⟩ = some (.int .i64 (Ix j)) ∧ (w5).cell? ⟨qn, 3, none⟩ = some (.slice (A j) (N j) (C j)) := ⟨outa5.cell rfl, xa5.cell rfl, xa5.cell rfl, xa5.cell rfl, xa5.cell rfl⟩
          refine hK.out _ _ (fun _ => hS) ?_
          clear hK K
          try simp only [Act.put, List.setIfInBounds_toArray, List.set_cons_zero, List.set_cons_succ, List.getElem_toArray, List.getElem_cons_zero, List.getElem_cons_succ]
          refine wpN_step (i := 6) (by kernel_rfl) rfl (fun K hK => ?_)
          go_simp
          have hS : (w5.alloc (.cells #[b', k', i', a'] 52)).cell? ⟨p, 3, none⟩ = some v ∧ (w5.alloc (.cells #[b', k', i', a'] 52)).cell? ⟨qn, 0, none⟩ = some (.slice (PA j) (PN j) (PC j)) ∧ (w5.alloc (.cells #[b', k', i', a'] 52)).cell? ⟨qn, 1, none⟩ = some (.int .i64 (Kd j)) ∧ (w5.alloc (.cells #[b', k', i', a'] 52)).cell? ⟨qn, 2, none⟩ = some (.int .i64 (Ix j)) ∧ (w5.alloc (.cells #[b', k', i', a'] 52)).cell? ⟨qn, 3, none⟩ = some (.slice (A j) (N j) (C j)) := ⟨(outa5.alloc _).cell rfl, (xa5.alloc _).cell rfl, (xa5.alloc _).cell rfl, (xa5.alloc _).cell rfl, (xa5.alloc _).cell rfl⟩
          refine hK.out _ _ (fun _ => hS) ?_
          clear hK K
          try simp only [Act.put, List.setIfInBounds_toArray, List.set_cons_zero, List.set_cons_succ, List.getElem_toArray, List.getElem_cons_zero, List.getElem_cons_succ]
          refine wpN_step (i := 7) (by kernel_rfl) rfl (fun K hK => ?_)
          refine step_push rpTm (by decide) (by rfl) _ _ _ (by rfl) N2 52 i2 _ 64 Tryz.underlying50 hi2 hz0 hz1 hz2 rfl (by decide)
                 (fun q => N2 ≤ q) v (Tm.turns f (args.take j) s m).2 (by rfl) (acc5.out.alloc _) (by rw [Hl.out]; omega)
                 w5.heap.size _ [b', k', i', a'] (Tm.turn f args[j] (Tm.turns f (args.take j) s m).1 m).2 (by rfl) (heap_alloc_new _ _) ⟨_, _, _, _, rfl, (hr1.weaken (fun q _ hq => ⟨Nat.le_trans (show N2 ≤ wa.drew.heap.size from hsNa) hq, fun e => by have := (Hacca.out.base_le q e).2; exact absurd this (Nat.not_lt.2 hq)⟩)).keep ((Keep.refl _ _).alloc _)⟩ (by have := hsg; simp at *; omega) ?_
          intro gg cap w6 hacc2 hgrow hat hlt2
          have o2 := (outa5.alloc _).grown hgrow (Hne.out _ (by omega))
          have o1 := (resa5.alloc _).grown hgrow (Hne.out _ (by omega))
          have oq := (xa5.alloc _).grown hgrow hown.out
          have bi6 := Lib.hid (((bi5.out.keep ((Keep.refl _ _).alloc _)).weaken (F' := fun q => (w.heap.size + 2 ≤ q ∧ q ≠ p ∧ q < N2) ∧ v.ownBlock ≠ some q) (by decide) fun q _ h => ⟨h, Hne.out q h.2.2⟩).keep ((Keep.refl _ _).grown hgrow fun k hk hf => hf.2 hk))
          have G6 := gb_grown (gb_trans G5 (gb_below ((Below.refl _ _).alloc (Nat.le_refl _) _) row)) hgrow (fun q hq => by have := (Hacca.out.base_le q hq).1; omega)
          have st6 := Lib.hid (HT.out.keep _ _ _ Hst5.out fun k hk => ((hgrow.block k (by have := Hr2.out k hk; have := G5.size; simp; omega) (fun e => Hne.out k (by have := Hr2.out k hk; omega) e.symm)).trans (Below.heap_alloc _ _ _ (by have := Hr2.out k hk; have := G5.size; omega))))
          have hS : (w6).cell? ⟨p, 3, none⟩ = some v ∧ (w6).cell? ⟨qn, 0, none⟩ = some (.slice (PA j) (PN j) (PC j)) ∧ (w6).cell? ⟨qn, 1, none⟩ = some (.int .i64 (Kd j)) ∧ (w6).cell? ⟨qn, 2, none⟩ = some (.int .i64 (Ix j)) ∧ (w6).cell? ⟨qn, 3, none⟩ = some (.slice (A j) (N j) (C j)) := ⟨o2.cell (i := 3) rfl, oq.cell rfl, oq.cell rfl, oq.cell rfl, oq.cell rfl⟩
          have p2 := o2.free 3
          have Hacc2 := Lib.hid hacc2; clear hacc2
          refine hK.out _ _ (fun _ => hS) ?_
          clear hK K
          try simp only [Act.put, List.setIfInBounds_toArray, List.set_cons_zero, List.set_cons_succ, List.getElem_toArray, List.getElem_cons_zero, List.getElem_cons_succ]
          refine wpN_take (i := 8) (v := ?v33) rfl (by kernel_rfl) (fun _ _ _ h => h) hS (Or.inl ⟨by rfl, ?hy33⟩) ?hr33
          case hy33 => (intro wS hSw; (try dsimp only at hSw); go_simp; (try with_reducible rfl))
          try simp only [Act.put, List.setIfInBounds_toArray, List.set_cons_zero, List.set_cons_succ, List.getElem_toArray, List.getElem_cons_zero, List.getElem_cons_succ]
          refine wpN_step (i := 9) (by kernel_rfl) rfl (fun K hK => ?_)
          go_simp
          refine hK.out _ _ (fun h => absurd h (by decide)) ?_
          clear hK K
          try simp only [Act.put, List.setIfInBounds_toArray, List.set_cons_zero, List.set_cons_succ, List.getElem_toArray, List.getElem_cons_zero, List.getElem_cons_succ]
          refine wpN_done (by kernel_rfl) ?_
          refine NoPanic.normal ?_
          have hs6 : N2 ≤ w6.heap.size := by have := hgrow.size; simp at *; omega
          clear o1 oq
          have o1 := (resa5.alloc _).grown hgrow (Hne.out _ (by omega))
          go_wp2_with fail
          refine ⟨⟨j + 1, _, by go_num, by omega, by simpa using hs6, gb_setCell G6 (by simp <;> omega) _, o1.far _ _ (by simp <;> omega), o2.set 3 _, ?_, ?_, ?_⟩, by simp [intOf]; omega⟩
          · exact ((bi6.out.weaken (F' := fun q => w.heap.size + 2 ≤ q ∧ q ≠ p ∧ q < N2) (by decide) fun q _ h => h.1).keep ((Keep.refl _ _).setCell _ _ (by simp)))
          · show St _ _
            rw [Htk.out]
            exact HT.out.keep _ _ _ st6.out fun k hk => Below.heap_setCell _ _ _ _ (by have := Hr2.out k hk; simp; omega)
          · have h := Hacc2.out
            rw [Htk.out]
            exact h.setCell ⟨p, 3, none⟩ _ (by simp <;> omega) (by simp <;> omega)
        · obtain ⟨va, vc, hv⟩ := Hacc.out.len_shape
          rw [Tm.turns_len, List.length_take, Nat.min_eq_left hj] at hv
          subst hv
          have d1 : wr.cell? ⟨p, 0, none⟩ = some (.slice qa2 binds.length qc2) := hout.cell rfl
          have d2 : wr.cell? ⟨p, 1, none⟩ = some (.int .i64 k) := hout.cell rfl
          have d3 : wr.cell? ⟨p, 2, none⟩ = some (.int .i64 i) := hout.cell rfl
          have d4 : wr.cell? ⟨p, 3, none⟩ = some (.slice va j vc) := hout.cell rfl
          have r0 : wr.cell? ⟨w.heap.size + 1, 0, none⟩ = some (.slice none 0 0) := hres.cell rfl
          have r1 : wr.cell? ⟨w.heap.size + 1, 1, none⟩ = some (.int .i64 0) := hres.cell rfl
          have r2 : wr.cell? ⟨w.heap.size + 1, 2, none⟩ = some (.int .i64 0) := hres.cell rfl
          have r3 : wr.cell? ⟨w.heap.size + 1, 3, none⟩ = some (.slice none 0 0) := hres.cell rfl
          have f0 := hres.free 0
          have f1 := hres.free 1
          have f2 := hres.free 2
          have f3 := hres.free 3
          go_wp2_with fail
          refine bodyPost_ret (v := .agg #[.slice qa2 binds.length qc2, .int .i64 k, .int .i64 i, .slice va j vc]) (by simp [results, Tryz.results104, go_sem, r0, r1, r2, r3]) rfl ?_
          have h := Hacc.out
          have hst2 := hst.out
          rw [List.take_of_length_le (by omega)] at h hst2
          have hA := (((h.setCell ⟨w.heap.size + 1, 0, none⟩ (.slice qa2 binds.length qc2) (by simp <;> omega) (by simp <;> omega)).setCell ⟨w.heap.size + 1, 1, none⟩ (.int .i64 k) (by simp <;> omega) (by simp <;> omega)).setCell ⟨w.heap.size + 1, 2, none⟩ (.int .i64 i) (by simp <;> omega) (by simp <;> omega)).setCell ⟨w.heap.size + 1, 3, none⟩ (.slice va j vc) (by simp <;> omega) (by simp <;> omega)
          have KR := (((((Keep.refl (fun q => w.heap.size + 2 ≤ q ∧ q ≠ p ∧ q < N2) wr).setCell ⟨w.heap.size + 1, 0, none⟩ (.slice qa2 binds.length qc2) (by simp <;> omega)).setCell ⟨w.heap.size + 1, 1, none⟩ (.int .i64 k) (by simp <;> omega)).setCell ⟨w.heap.size + 1, 2, none⟩ (.int .i64 i) (by simp <;> omega)).setCell ⟨w.heap.size + 1, 3, none⟩ (.slice va j vc) (by simp <;> omega))
          have hsetk : ∀ (W : World) (o : Nat) (u : Value) (k : Nat), ro k → (W.setCell ⟨w.heap.size + 1, o, none⟩ u).heap[k]? = W.heap[k]? := fun W o u k hk => Below.heap_setCell _ _ _ _ (by have := Hr2.out k hk; simp; omega)
          rw [Tm.turn_miss f binds k i args s n m hmm (fun h => hk h.1)]
          refine ⟨_, _, _, _, rfl, ?_, ?_, gb_setCell (gb_setCell (gb_setCell (gb_setCell hb (by simp) _) (by simp) _) (by simp) _) (by simp) _⟩
          · exact isTm_mk ((hbi.out.keep KR).weaken (by decide) fun q _ h => by omega) (hA.sl (F' := fun q => w.heap.size ≤ q) (fun q _ hq => by omega) (fun q hq => by omega)) k i
          · exact HT.out.keep _ _ _ hst2 fun k hk => (hsetk _ _ _ k hk).trans ((hsetk _ _ _ k hk).trans ((hsetk _ _ _ k hk).trans (hsetk _ _ _ k hk)))
end Go.Proofs.YtiblklcfjakjmaaGreat

namespace Go.Proofs.YtiblklcfjakjmaaGreat
open Go.RowKit

theorem copy1_k (w : World) (x : Int) : Calls Tryz.prog 105 #[.int .i64 x] w fun e w' => e = .returned (.int .i64 x) ∧ True ∧ w.grownBy w' none := by
  go_enter Tryz.func105, Tryz.ntmps105
  go_wp2_with fail
  go_ret
  exact ⟨rfl, trivial, World.grownBy.refl _ _⟩

theorem turner_copy : TurnerC none (fun _ => False) (fun (_ : Unit) (_ : World) => True) (fun s x => (s, x)) where
  call := fun s x w _ _ _ => copy1_k w x
  keep := fun _ _ _ _ _ => trivial
  sub := fun _ h => by cases h
  rng := fun _ x h => ⟨h, .inl (Int.le_refl _)⟩

theorem Tm.turns_id {l : List Tm} (h : ∀ t ∈ l, ∀ (s : Unit) (n : Int), Tm.turn (fun s x => (s, x)) t s n = (s, t)) : ∀ (s : Unit) (n : Int), Tm.turns (fun s x => (s, x)) l s n = (s, l) := by
  induction l with
  | nil => intro s n; simp [turns]
  | cons t l ih =>
    intro s n
    have h1 := ih (fun u hu => h u (by simp [hu]))
    have h2 := h t (by simp)
    simp [turns, h1, h2]
theorem Tm.turn_id (t : Tm) : ∀ (s : Unit) (n : Int), Tm.turn (fun s x => (s, x)) t s n = (s, t) := by
  induction t using Tm.ind with
  | h b k i a ih =>
    intro s n
    have h := Tm.turns_id ih
    rw [turn]
    simp only [h]
    by_cases hc : k = 0 ∧ n + (b.length : Int) ≤ i
    · simp only [if_pos hc]
      have : n + (b.length : Int) + (i - (n + (b.length : Int))) = i := by omega
      rw [this]
    · simp only [if_neg hc]

theorem below_of_gb {w w' : World} (h : w.grownBy w' none) : Below w.heap.size w w' := ⟨h.os, h.tape, h.output, h.size, fun k hk => h.block k hk (by simp)⟩

set_option maxRecDepth 100000 in
set_option maxHeartbeats 1000000 in
theorem copy_k {F : Nat → Prop} {w : World} {b k i a : Value} {t : Tm} (ht : IsTm F w b k i a t) (hsz : t.full ≤ 80000) (hfit : t.Fit) :
    Calls Tryz.prog 61 #[.agg #[b, k, i, a]] w (FreshTm t w) := by
  have Ht : Hid (∀ w' : World, Below w.heap.size w w' → Calls Tryz.prog 104 #[.agg #[b, k, i, a], .int .i64 0, .func (.func 105) #[] #[]] w' (FreshTm t w')) := fun w' hb => by
    have h := turned_kC turner_copy t F w b k i a ht (fun _ h => by cases h) () 0 w' ((Keep.refl _ _).below hb) (fun _ h => h.elim) trivial (Int.le_refl _) (by omega) hfit
    refine h.mono ?_
    rintro e w2 ⟨b', k', i', a', rfl, h1, _, h3⟩
    rw [Tm.turn_id] at h1
    exact ⟨b', k', i', a', rfl, h1, below_of_gb h3⟩
  obtain ⟨pa, pc, qa, qc, rfl, rfl, rfl, rfl⟩ := ht.shape
  clear ht
  obtain ⟨x1, hx1⟩ : ∃ x, t.binds.length = x := ⟨_, rfl⟩
  obtain ⟨x2, hx2⟩ : ∃ x, t.args.length = x := ⟨_, rfl⟩
  obtain ⟨x3, hx3⟩ : ∃ x, t.kind = x := ⟨_, rfl⟩
  obtain ⟨x4, hx4⟩ : ∃ x, t.index = x := ⟨_, rfl⟩
  rw [hx1, hx2, hx3, hx4] at Ht ⊢
  have Hx1 := Lib.hid hx1; have Hx2 := Lib.hid hx2; have Hx3 := Lib.hid hx3; have Hx4 := Lib.hid hx4
  clear hx1 hx2 hx3 hx4
  go_enter Tryz.func61, Tryz.ntmps61
  go_wp2_with fail
  obtain ⟨w3, hw3⟩ : ∃ w3, (w.alloc (.cells #[.slice pa x1 pc, .int .i64 x3, .int .i64 x4, .slice qa x2 qc] 52)).alloc (.cells #[.slice none 0 0, .int .i64 0, .int .i64 0, .slice none 0 0] 52) = w3 := ⟨_, rfl⟩
  have B3 : Below w.heap.size w w3 := by rw [← hw3]; exact ((Below.refl _ _).alloc (Nat.le_refl _) _).alloc (by simp) _
  have x2' : Blk w3 (w.heap.size + 1) #[.slice none 0 0, .int .i64 0, .int .i64 0, .slice none 0 0] 52 := by rw [← hw3]; exact Blk.new _ _ _ (by simp)
  try rw [hw3]
  clear hw3
  refine (Ht.out w3 B3).mono ?_
  rintro e w4 ⟨b', k', i', a', rfl, hT, hb4⟩
  have y2 := x2'.below hb4
  have B4 := B3.trans (hb4.mono B3.size)
  have hlt := x2'.lt
  obtain ⟨pa', pc', qa', qc', rfl, rfl, rfl, rfl⟩ := hT.shape
  rw [Hx1.out, Hx2.out, Hx3.out, Hx4.out] at hT ⊢
  have r0 : w4.cell? ⟨w.heap.size + 1, 0, none⟩ = some (.slice none 0 0) := y2.cell rfl
  have r1 : w4.cell? ⟨w.heap.size + 1, 1, none⟩ = some (.int .i64 0) := y2.cell rfl
  have r2 : w4.cell? ⟨w.heap.size + 1, 2, none⟩ = some (.int .i64 0) := y2.cell rfl
  have r3 : w4.cell? ⟨w.heap.size + 1, 3, none⟩ = some (.slice none 0 0) := y2.cell rfl
  have f0 := y2.free 0
  have f1 := y2.free 1
  have f2 := y2.free 2
  have f3 := y2.free 3
  have HT := Lib.hid (hT.weaken (F' := fun q => w.heap.size + 2 ≤ q) fun q _ h => by omega)
  clear hT
  go_wp2_with fail
  refine bodyPost_ret (v := .agg #[.slice pa' x1 pc', .int .i64 x3, .int .i64 x4, .slice qa' x2 qc']) (by simp [results, Tryz.results61, go_sem, r0, r1, r2, r3]) rfl ?_
  refine ⟨_, _, _, _, rfl, ?_, (((B4.setCell (by simp <;> omega) _).setCell (by simp <;> omega) _).setCell (by simp <;> omega) _).setCell (by simp <;> omega) _⟩
  exact ((((HT.out.keep ((Keep.refl _ _).setCell ⟨w.heap.size + 1, 0, none⟩ _ (by simp <;> omega))).keep ((Keep.refl _ _).setCell ⟨w.heap.size + 1, 1, none⟩ _ (by simp <;> omega))).keep ((Keep.refl _ _).setCell ⟨w.heap.size + 1, 2, none⟩ _ (by simp <;> omega))).keep ((Keep.refl _ _).setCell ⟨w.heap.size + 1, 3, none⟩ _ (by simp <;> omega))).weaken fun q _ h => by omega

end Go.Proofs.YtiblklcfjakjmaaGreat

namespace Go.Proofs.YtiblklcfjakjmaaGreat
open Go.RowKit

def Mild {β : Type} (Ok : Obj → Prop) (B : Nat) (J : β → World → Prop) : Prop :=
  ∀ s W W' row, J s W → W.grownBy W' row → (∀ r, row = some r → B ≤ r ∧ ∃ o : Obj, W.heap[r]? = some o ∧ Ok o) → J s W'
section
variable {β : Type} {Ok : Obj → Prop} {B : Nat} {I I' : β → World → Prop}
theorem Mild.and (h : Mild Ok B I) (h' : Mild Ok B I') : Mild Ok B (fun s W => I s W ∧ I' s W) := fun s W W' row hs hg hr => ⟨h s W W' row hs.1 hg hr, h' s W W' row hs.2 hg hr⟩
theorem Mild.alloc (h : Mild Ok B I) {s : β} {W : World} (hs : I s W) (o : Obj) : I s (W.alloc o) := h s W _ none hs (World.grownBy_alloc W o none) (fun r e => by cases e)
theorem Mild.put (h : Mild Ok B I) (hOk : ∀ o : Obj, o.isCells = false → Ok o) {s : β} {W : World} (hs : I s W) {l : Nat} {o : Obj} (o' : Obj) (hl : W.heap[l]? = some o) (ho : o.isCells = false) (hB : B ≤ l) : I s (W.putObj l o') :=
  h s W _ _ hs (grownBy_putObj' W l o') (fun r e => by cases e; exact ⟨hB, o, hl, hOk o ho⟩)
theorem Mild.up {B' : Nat} (h : Mild Ok B I) (hB : B ≤ B') : Mild Ok B' I := fun s W W' row hs hg hr => h s W W' row hs hg fun r e => ⟨Nat.le_trans hB (hr r e).1, (hr r e).2⟩
theorem mild_block {k : Nat} {o : Obj} (hk : k < B) : Mild Ok B (fun (_ : β) W => W.heap[k]? = some o) := fun _ W _ row hs hg hr => (hg.block k (Array.getElem?_eq_some_iff.1 hs).1 (fun e => by have := (hr k e.symm).1; omega)).trans hs
theorem mild_below {n0 : Nat} {w0 : World} (hn : n0 ≤ w0.heap.size) (hB : n0 ≤ B) : Mild Ok B (fun (_ : β) W => Below n0 w0 W) := fun _ _ _ _ hs hg hr => hs.grown hg (Nat.le_trans hn hs.size) (fun k e => Nat.le_trans hB (hr k e).1)
end

def SeqSoft {α : Type} (Ok : Obj → Prop) (F : Fence) (n : Nat) (P : Program) (g : Nat) (lb : Array Value) (encs : α → Array Value) (Kp : World → World → Prop) (S Sp : List α → Prop) (N : Nat) (w : World) : Prop :=
  ∀ (l : Nat) (J Jx : List α → World → Prop) (W : World), Below w.heap.size w W → Mild Ok W.heap.size J → Mild Ok W.heap.size Jx →
    (∀ pre x V, J pre V → pre.length < N → YieldAt F (n - 1) P l (encs x) V fun e V' => (e = .returned (.bool true) ∧ J (pre ++ [x]) V' ∧ Kp V V') ∨ (e = .returned (.bool false) ∧ Jx (pre ++ [x]) V')) →
    J [] W → CallsIn F n P g (#[.func (.yield l) #[] #[]] ++ lb) W fun e W' => (∃ v, e = .returned v) ∧ ((∃ xs, S xs ∧ J xs W') ∨ (∃ pre, Sp pre ∧ Jx pre W'))

theorem range_softA {Ok : Obj → Prop} (hOk : ∀ o : Obj, o.isCells = false → Ok o) {F : Fence} {n : Nat} {P : Program} {α : Type} {g : Operand} {ps : Array Tmp} {assign body : Code} {Q : Exit → Act → World → Prop} {a : Act} {w : World}
    (hro : F.round = none) (hn : 1 ≤ n) {gf : Nat} {lb : Array Value} (hg : a.eval g = .func (.func gf) #[] lb) (hF : F.fn gf) (eg : ∀ args w, (callFunc gf args).run P w = .ok (.enter gf args) w)
    {encs : α → Array Value} {Kp : World → World → Prop} {S Sp : List α → Prop} {N : Nat} {w0 : World} (hseq : SeqSoft Ok F (n - 1) P gf lb encs Kp S Sp N w0)
    (hKt : ∀ {X Y Z : World}, Kp X Y → Kp Y Z → Kp X Z) (hKb : ∀ (W : World) (l : Nat) (o o' : Obj), w.heap.size ≤ l → W.heap[l]? = some o → o.isCells = false → o.isWalk = false → Kp W (W.putObj l o')) (hw0 : Below w0.heap.size w0 w) (hps : ∀ x, (encs x).size = ps.size)
    (I : List α → World → Prop) (Ix : Code → List α → World → Prop) (hI : Mild Ok w.heap.size I) (hIx : ∀ c, Mild Ok w.heap.size (Ix c)) (h0 : I [] w) (Ra : α → Act → World → Prop) (hRa : ∀ x a' W l (o o' : Obj), w.heap.size ≤ l → W.heap[l]? = some o → o.isCells = false → Ra x a' W → Ra x a' (W.putObj l o'))
    (hassign : ∀ (l : Nat) (pre : List α) (x : α) (W : World) (K : Act → World → Prop), I pre W → (∀ a' W', KeepsFrom w.heap.size W W' → Kp W W' → I pre W' → Ra x a' W' → K a' W') →
      assign.wpIn (F.inRound l) (n - 1 - 1) P (Exit.then K (fun _ _ _ => False)) { tmps := (ps.zip (encs x)).foldl (fun t (p, v) => t.setIfInBounds p v) a.tmps, defers := [] } W)
    (hbody : ∀ (l : Nat) (pre : List α) (x : α) (a' : Act) (W : World), I pre W → pre.length < N → Ra x a' W → body.wpIn (F.inRound l) (n - 1 - 1) P (ownPostG w.heap.size Kp I Ix (pre ++ [x]) W) a' W)
    (hdone : ∀ (D : Nat) (xs : List α) (W : World), w.heap.size ≤ D → S xs → I xs W → W.heap[D]? = some (.deferred (some [])) → Q .normal { a with defers := { target := .collected D, args := #[] } :: a.defers } W)
    (hstop : ∀ (D : Nat) (c : Code) (pre : List α) (W : World), w.heap.size ≤ D → Sp pre → Ix c pre W → W.heap[D]? = some (.deferred (some [])) → c.wpIn F n P Q { a with defers := { target := .collected D, args := #[] } :: a.defers } W) :
    (Code.rangeFunc g ps assign body).wpIn F n P Q a w := by
  refine wpIn_rangeFunc fun fn hfn => ?_
  rw [hro]
  let L : LoopState → Option Code → Obj := fun st pe => .loop { state := st, pending := pe, fn, tmps := a.tmps, params := ps, assign, body, defers := w.heap.size }
  let D : Obj := .deferred (some [])
  obtain ⟨W1, hW1⟩ : ∃ W1, (w.alloc D).alloc (L .ready none) = W1 := ⟨_, rfl⟩
  have hz : W1.heap.size = w.heap.size + 2 := by rw [← hW1]; simp
  have hL : W1.heap[w.heap.size + 1]? = some (L .ready none) := by rw [← hW1]; have h := World.alloc_heap_new (w.alloc D) (L .ready none); rwa [World.size_alloc] at h
  have hD : W1.heap[w.heap.size]? = some D := by rw [← hW1]; exact (Below.heap_alloc _ _ _ (by simp)).trans (World.alloc_heap_new w D)
  refine ⟨w.heap.size + 1, [{ target := .collected w.heap.size, args := #[] }], W1, { target := .fn (.func gf) lb, args := #[.func (.yield (w.heap.size + 1)) #[] #[]] }, W1, gf,
    #[.func (.yield (w.heap.size + 1)) #[] #[]] ++ lb, W1, by rw [← hW1]; exact run_enterLoop_outer _ _ _ _ _, by simp only [resolve, hg]; simp [go_sem], ?_, by simp [invoke, go_sem, eg], fun _ => hn, ?_⟩
  · intro f' hf'; simp [Target.leads] at hf'; subst hf'; exact hF
  have up : ∀ {β : Type} {J : β → World → Prop}, Mild Ok w.heap.size J → Mild Ok W1.heap.size J := fun h => h.up (by omega)
  have m1 : ∀ (o : Obj), Mild Ok W1.heap.size (fun (_ : List α) W => W.heap[w.heap.size + 1]? = some o) := fun o => mild_block (by omega)
  have m0 : Mild Ok W1.heap.size (fun (_ : List α) W => W.heap[w.heap.size]? = some D) := mild_block (by omega)
  refine (hseq (w.heap.size + 1)
    (fun pre W => I pre W ∧ W.heap[w.heap.size + 1]? = some (L .ready none) ∧ W.heap[w.heap.size]? = some D)
    (fun pre W => ∃ c, Ix c pre W ∧ W.heap[w.heap.size + 1]? = some (L .done (some c)) ∧ W.heap[w.heap.size]? = some D) W1
    (by rw [← hW1]; exact hw0.trans ((((Below.refl _ w).alloc (Nat.le_refl _) _).alloc (by simp) _).mono hw0.size))
    ((up hI).and ((m1 _).and m0)) (fun s A B row ⟨c, h1, h2, h3⟩ hgr hr => ⟨c, up (hIx c) s A B row h1 hgr hr, m1 _ s A B row h2 hgr hr, m0 s A B row h3 hgr hr⟩)
    ?_ ⟨by rw [← hW1]; exact hI.alloc (hI.alloc h0 _) _, hL, hD⟩).mono ?_
  · -- a round
    rintro pre x V0 ⟨hi0, hl0, hd0⟩ hlen
    refine ⟨fn, _, assign, body, run_yield (P := P) (args := encs x) hl0 (hps x), roundIn_of_wpIn hfn (hassign _ pre x V0 _ hi0 fun a' V hkf hkp0 hi hra => ?_)⟩
    have hl := hkf.same _ _ (by omega) hl0 rfl
    have hd := hkf.same _ _ (Nat.le_refl _) hd0 rfl
    have hlt : w.heap.size + 1 < V.heap.size := (Array.getElem?_eq_some_iff.1 hl).1
    refine ⟨_, run_beginRound hl rfl, ?_⟩
    obtain ⟨V2, hV2⟩ : ∃ V2, V.putObj (w.heap.size + 1) (L .busy none) = V2 := ⟨_, rfl⟩
    have hl2 : V2.heap[w.heap.size + 1]? = some (L .busy none) := by rw [← hV2]; exact World.putObj_heap_same hlt
    have hd2 : V2.heap[w.heap.size]? = some D := by rw [← hV2]; exact (World.putObj_heap_other (by omega)).trans hd
    have hk2 : Kp V0 V2 := by rw [← hV2]; exact hKt hkp0 (hKb _ _ _ _ (by omega) hl rfl rfl)
    have hi2 : I pre V2 := by rw [← hV2]; exact hI.put hOk hi _ hl rfl (by omega)
    have hra2 : Ra x a' V2 := by rw [← hV2]; exact hRa _ _ _ _ _ _ (by omega) hl rfl hra
    show Code.wpIn _ _ _ _ _ _ (V.putObj (w.heap.size + 1) (L .busy none))
    rw [hV2]
    clear hV2 hl hd hi hlt
    refine wpIn_mono (hbody _ pre x a' V2 hi2 hlen hra2) ?_
    have fin : ∀ (jump : Option Code) (V3 : World), KeepsFrom w.heap.size V2 V3 → V3.heap[w.heap.size + 1]? = some (L .busy none) ∧ ∃ V4, V4 = V3.putObj (w.heap.size + 1) (L (if jump.isNone then .ready else .done) jump) ∧
        (Instr.endRound (w.heap.size + 1) jump).run P V3 = .ok (.bool jump.isNone) V4 ∧ V4.heap[w.heap.size + 1]? = some (L (if jump.isNone then .ready else .done) jump) ∧ V4.heap[w.heap.size]? = some D := fun jump V3 hk => by
      have h1 := hk.same _ _ (by omega) hl2 rfl
      exact ⟨h1, _, rfl, run_endRound (P := P) jump h1, World.putObj_heap_same (Array.getElem?_eq_some_iff.1 h1).1, (World.putObj_heap_other (by omega)).trans (hk.same _ _ (Nat.le_refl _) hd2 rfl)⟩
    have out : ∀ (c : Code) (V3 : World), KeepsFrom w.heap.size V2 V3 → Ix c (pre ++ [x]) V3 → ∃ r V4, (Instr.endRound (w.heap.size + 1) (some c)).run P V3 = .ok r V4 ∧ (Ending.returned r = .returned (.bool false) ∧ ∃ c, Ix c (pre ++ [x]) V4 ∧ V4.heap[w.heap.size + 1]? = some (L .done (some c)) ∧ V4.heap[w.heap.size]? = some D) := fun c V3 hk hi => by
      obtain ⟨h3, V4, rfl, hr, h4, h5⟩ := fin (some c) V3 hk
      exact ⟨_, _, hr, rfl, c, (hIx c).put hOk hi _ h3 rfl (by omega), h4, h5⟩
    rintro e a3 V3 hp
    cases e with
    | normal =>
      obtain ⟨hk, hkp, hi⟩ := hp
      obtain ⟨h3, V4, rfl, hr, h4, h5⟩ := fin none V3 hk
      exact ⟨_, _, hr, .inl ⟨rfl, ⟨hI.put hOk hi _ h3 rfl (by omega), h4, h5⟩, hKt (hKt hk2 hkp) (hKb _ _ _ _ (by omega) h3 rfl rfl)⟩⟩
    | ret => obtain ⟨r, V4, hr, h⟩ := out .ret V3 hp.1 hp.2; exact ⟨r, V4, hr, .inr h⟩
    | exit id => obtain ⟨r, V4, hr, h⟩ := out (.exit id) V3 hp.1 hp.2; exact ⟨r, V4, hr, .inr h⟩
    | goto t => obtain ⟨r, V4, hr, h⟩ := out (.goto t) V3 hp.1 hp.2; exact ⟨r, V4, hr, .inr h⟩
    | panic ch => exact hp.elim
    | outgrown => exact hp.elim
  · -- behind the iterator
    rintro e W2 ⟨⟨v, rfl⟩, ⟨xs, hS, hi, hl, hd⟩ | ⟨pre, hSp, c, hi, hl, hd⟩⟩
    · exact ⟨none, _, run_endLoop (P := P) hl (by simp), hdone _ xs _ (Nat.le_refl _) hS (hI.put hOk hi _ hl rfl (by omega)) ((World.putObj_heap_other (by omega)).trans hd)⟩
    · exact ⟨some c, _, run_endLoop (P := P) hl (by simp), hstop _ c pre _ (Nat.le_refl _) hSp ((hIx c).put hOk hi _ hl rfl (by omega)) ((World.putObj_heap_other (by omega)).trans hd)⟩
end Go.Proofs.YtiblklcfjakjmaaGreat

namespace Go.Proofs.YtiblklcfjakjmaaGreat
open Go.RowKit Go.Shelf
attribute [local go_sem] Oper.semAt_some

namespace Tm
mutual
def pre : Tm → Nat → Nat → List (Nat × Nat × Tm)
  | .mk b k i a, s, d => (s + b.length, d, .mk b k i a) :: pres a (s + b.length) (d + 1)
def pres : List Tm → Nat → Nat → List (Nat × Nat × Tm)
  | [], _, _ => []
  | t :: l, s, d => pre t s d ++ pres l s d
end
theorem pre_eq (b : List Ty) (k i : Int) (a : List Tm) (s d : Nat) : pre (.mk b k i a) s d = (s + b.length, d, .mk b k i a) :: pres a (s + b.length) (d + 1) := by rw [pre]
theorem pres_append (l r : List Tm) (s d : Nat) : pres (l ++ r) s d = pres l s d ++ pres r s d := by
  induction l with
  | nil => simp [pres]
  | cons t l ih => simp [pres, ih]
theorem pres_take (l : List Tm) (i s d : Nat) (h : i < l.length) : pres (l.take (i + 1)) s d = pres (l.take i) s d ++ pre l[i] s d := by
  rw [List.take_succ_eq_append_getElem h, pres_append]; simp [pres]
theorem pres_take_le (l : List Tm) (i s d : Nat) : pres (l.take i) s d <+: pres l s d := by
  conv => rhs; rw [← List.take_append_drop i l]
  rw [pres_append]; exact List.prefix_append _ _
theorem pres_length_of {l : List Tm} (h : ∀ t ∈ l, ∀ s d, (pre t s d).length = t.size) : ∀ s d, (pres l s d).length = sizes l := by
  induction l with
  | nil => intro s d; simp [pres, sizes]
  | cons t l ih => intro s d; simp [pres, sizes, h t (by simp) s d, ih (fun u hu => h u (by simp [hu])) s d]
theorem pre_length (t : Tm) : ∀ s d, (pre t s d).length = t.size := by
  induction t using Tm.ind with
  | h b k i a ih => intro s d; simp [pre_eq, size_eq, pres_length_of ih]
theorem pres_length (l : List Tm) (s d : Nat) : (pres l s d).length = sizes l := pres_length_of (fun t _ => pre_length t) s d
end Tm

structure Hit6 (F : Nat → Prop) (w : World) where
  s : Nat
  d : Nat
  pb : Option Addr
  cb : Nat
  pa : Option Addr
  ca : Nat
  t : Tm
  ok : IsTm F w (.slice pb t.binds.length cb) (.int .i64 t.kind) (.int .i64 t.index) (.slice pa t.args.length ca) t
def Hit6.key {F : Nat → Prop} {w : World} (x : Hit6 F w) : Nat × Nat × Tm := (x.s, x.d, x.t)
def Hit6.enc {F : Nat → Prop} {w : World} (x : Hit6 F w) : Array Value := #[.agg #[.int .i64 x.s, .int .i64 x.d], .agg #[.slice x.pb x.t.binds.length x.cb, .int .i64 x.t.kind, .int .i64 x.t.index, .slice x.pa x.t.args.length x.ca]]

def DownPost6 {F : Nat → Prop} {w0 : World} (G : Nat → TypeId → Prop) (J Jx : List (Hit6 F w0) → World → Prop) (pre : List (Hit6 F w0)) (l : List (Nat × Nat × Tm)) (W : World) (e : Ending) (W' : World) : Prop :=
  (e = .returned (.bool true) ∧ KeepC G W W' ∧ ∃ xs, xs.map Hit6.key = l ∧ J (pre ++ xs) W') ∨ (e = .returned (.bool false) ∧ ∃ xs, xs.map Hit6.key <+: l ∧ Jx (pre ++ xs) W')

def SpotOk (o : Obj) : Prop := o.isCells = false ∨ ∃ cs fr, o = .cells cs 173 fr
theorem KeepC.setNew {G : Nat → TypeId → Prop} {A B : World} (h : KeepC G A B) (p : Addr) (u : Value) (hp : A.heap.size ≤ p.block) : KeepC G A (B.setCell p u) :=
  ⟨by simpa using h.size, fun k cs t fr hk hc => by
    have hlt : k < A.heap.size := (Array.getElem?_eq_some_iff.1 hc).1
    exact (Below.heap_setCell _ _ _ _ (fun e => by omega)).trans (h.cells k cs t fr hk hc)⟩
theorem Mild.setSpot {β : Type} {B : Nat} {J : β → World → Prop} (h : Mild SpotOk B J) {s : β} {W : World} (hs : J s W) {n i : Nat} {cs : Array Value} (u : Value) (hb : Blk W n cs 173) (hB : B ≤ n) : J s (W.setCell ⟨n, i, none⟩ u) :=
  h s W _ (some n) hs ⟨rfl, rfl, rfl, by simp, fun k _ hk => Below.heap_setCell _ _ _ _ (fun e => hk (by rw [e]))⟩ (fun r e => by cases e; exact ⟨hB, _, hb, .inr ⟨_, _, rfl⟩⟩)

set_option maxRecDepth 100000 in
set_option maxHeartbeats 1000000 in
theorem down6_k {F : Nat → Prop} {w0 : World} (G : Nat → TypeId → Prop) (hGF : ∀ k t, F k → k < w0.heap.size → G k t) (l N B0 : Nat) (hN0 : N ≤ 1000000) (J Jx : List (Hit6 F w0) → World → Prop) (hJ : Mild SpotOk B0 J)
    (hY : ∀ m pre x W, J pre W → pre.length < N → YieldAt Fence.wide m Tryz.prog l (Hit6.enc x) W fun e W' =>
      (e = .returned (.bool true) ∧ J (pre ++ [x]) W' ∧ KeepC G W W') ∨ (e = .returned (.bool false) ∧ Jx (pre ++ [x]) W')) :
    ∀ t : Tm, ∀ {b k i a : Value} (_ : IsTm F w0 b k i a t) (n s d : Nat) (si di : Int) (pre : List (Hit6 F w0)) (W : World), si = s → di = d → (∀ k t, W.heap.size ≤ k → t ≠ 3 → G k t) → B0 ≤ W.heap.size → Keep F w0 W → J pre W → pre.length + t.size ≤ N → d + t.depth ≤ 1000000 → s + t.full ≤ 1000000 →
      CallsIn Fence.wide n Tryz.prog 125 #[.agg #[b, k, i, a], .agg #[.int .i64 si, .int .i64 di], .func (.yield l) #[] #[]] W (DownPost6 G J Jx pre (t.pre s d) W) := Tm.ind fun binds k0 i0 args ih => by
  intro b k i a ht nn s d si di pre W hsi hdi hG hB0 hw hJ0 hN hd hs
  subst hsi hdi
  obtain ⟨pa, pc, qa, qc, rfl, rfl, rfl, rfl⟩ := ht.shape
  simp only [Tm.binds, Tm.kind, Tm.index, Tm.args] at ht ⊢
  obtain ⟨_, _, _, hsl⟩ := ht.inv
  simp only [Tm.args] at hsl
  obtain ⟨_, hm, bl, off, PA, A, PN, PC, N', C, Kd, Ix, ha, h1, h2, h3, h4, h5⟩ := sl_cells6 hsl
  have hdd : ∀ k : Nat, (Fence.wide.depth.isSome = true → 1 ≤ k) := fun k h => by cases h
  have hlen : args.length ≤ 1000000 := by have := Tm.len_sizes args; rw [Tm.size_eq] at hN; omega
  have hbl : s + binds.length ≤ 1000000 := by have := Ty.le_sizes binds; rw [Tm.full_eq] at hs; omega
  have hq1 : IntKind.i64.wrap ((s : Int) + (binds.length : Int)) = (s : Int) + (binds.length : Int) := IntWalk.i64_in _ (by omega)
  have hdb : (d : Int) ≤ 1000000 := by omega
  have hq2 : IntKind.i64.wrap ((d : Int) + 1) = (d : Int) + 1 := IntWalk.i64_in _ (by omega)
  obtain ⟨W1, hW1⟩ : ∃ W1, (W.alloc (.cells #[.slice pa binds.length pc, .int .i64 k0, .int .i64 i0, .slice qa args.length qc] 52)).alloc (.cells #[.int .i64 ((s : Int) + (binds.length : Int)), .int .i64 d] 173) = W1 := ⟨_, rfl⟩
  have hJ1 : J pre W1 := by rw [← hW1]; exact hJ.alloc (hJ.alloc hJ0 _) _
  have xt : Blk W1 W.heap.size #[.slice pa binds.length pc, .int .i64 k0, .int .i64 i0, .slice qa args.length qc] 52 := by rw [← hW1]; exact (Blk.new _ _ _ rfl).alloc _
  have xs : Blk W1 (W.heap.size + 1) #[.int .i64 ((s : Int) + (binds.length : Int)), .int .i64 d] 173 := by rw [← hW1]; exact Blk.new _ _ _ (by simp)
  have hz1 : W1.heap.size = W.heap.size + 2 := by rw [← hW1]; simp
  have hk0 : KeepC G W W1 := by rw [← hW1]; exact ((KeepC.refl G W).alloc _).alloc _
  obtain ⟨X, hX⟩ : ∃ X : Hit6 F w0, X = ⟨s + binds.length, d, pa, pc, qa, qc, .mk binds k0 i0 args, ht⟩ := ⟨_, rfl⟩
  have hkey : X.key = (s + binds.length, d, .mk binds k0 i0 args) := by rw [hX]; rfl
  obtain ⟨fn, tmps, assign, body, hy, hR⟩ := hY (nn - 1) pre X W1 hJ1 (by have := Tm.size_pos (.mk binds k0 i0 args); omega)
  have henc : X.enc = #[.agg #[.int .i64 ((s : Int) + (binds.length : Int)), .int .i64 d], .agg #[.slice pa binds.length pc, .int .i64 k0, .int .i64 i0, .slice qa args.length qc]] := by rw [hX]; simp [Hit6.enc, Tm.binds, Tm.kind, Tm.index, Tm.args]
  rw [henc] at hy
  clear hX henc ht hsl
  refine callsIn_of_wp Tryz.func125 rfl trivial ?_ rfl
  simp only [Tryz.ntmps125, List.size_toArray, List.length_cons, List.length_nil, Nat.reduceAdd, Nat.reduceSub, Array.replicate_succ, Array.replicate_zero, List.push_toArray, List.append_toArray, List.nil_append, List.cons_append]
  have c0 : W1.cell? ⟨W.heap.size, 0, none⟩ = some (.slice pa binds.length pc) := xt.cell rfl
  have c1 : W1.cell? ⟨W.heap.size, 1, none⟩ = some (.int .i64 k0) := xt.cell rfl
  have c2 : W1.cell? ⟨W.heap.size, 2, none⟩ = some (.int .i64 i0) := xt.cell rfl
  have c3 : W1.cell? ⟨W.heap.size, 3, none⟩ = some (.slice qa args.length qc) := xt.cell rfl
  have s0 : W1.cell? ⟨W.heap.size + 1, 0, none⟩ = some (.int .i64 ((s : Int) + (binds.length : Int))) := xs.cell rfl
  have s1 : W1.cell? ⟨W.heap.size + 1, 1, none⟩ = some (.int .i64 d) := xs.cell rfl
  gi_wp2_with fail
  clear hW1
  refine ⟨hdd _, hR.mono ?_⟩
  clear c0 c1 c2 c3 s0 s1
  rintro e W2 (⟨rfl, hJ2, hk1⟩ | ⟨rfl, hx1⟩)
  rotate_left
  · gi_wp2_with fail
    go_ret
    exact .inr ⟨rfl, [X], ⟨Tm.pres args (s + binds.length) (d + 1), by simp [hkey, Tm.pre_eq]⟩, hx1⟩
  have yt : Blk W2 W.heap.size _ _ := hk1.blk xt (hG _ _ (Nat.le_refl _) (by decide))
  have ys : Blk W2 (W.heap.size + 1) _ _ := hk1.blk xs (hG _ _ (by omega) (by decide))
  have c0 : W2.cell? ⟨W.heap.size, 0, none⟩ = some (.slice pa binds.length pc) := yt.cell rfl
  have c1 : W2.cell? ⟨W.heap.size, 1, none⟩ = some (.int .i64 k0) := yt.cell rfl
  have c2 : W2.cell? ⟨W.heap.size, 2, none⟩ = some (.int .i64 i0) := yt.cell rfl
  have c3 : W2.cell? ⟨W.heap.size, 3, none⟩ = some (.slice qa args.length qc) := yt.cell rfl
  have s1 : W2.cell? ⟨W.heap.size + 1, 1, none⟩ = some (.int .i64 d) := ys.cell rfl
  have f1 := ys.free 1
  gi_wp2_with fail
  obtain ⟨W3, hW3⟩ : ∃ W3, W2.setCell ⟨W.heap.size + 1, 1, none⟩ (.int .i64 ((d : Int) + 1)) = W3 := ⟨_, rfl⟩
  have hJ3 : J (pre ++ [X]) W3 := by rw [← hW3]; exact hJ.setSpot hJ2 _ ys (by omega)
  have hk3 : KeepC G W W3 := by rw [← hW3]; exact (hk0.trans hk1).setNew _ _ (by simp)
  have xt3 : Blk W3 W.heap.size #[.slice pa binds.length pc, .int .i64 k0, .int .i64 i0, .slice qa args.length qc] 52 := by rw [← hW3]; exact yt.far _ _ (by simp)
  have xs3 : Blk W3 (W.heap.size + 1) #[.int .i64 ((s : Int) + (binds.length : Int)), .int .i64 ((d : Int) + 1)] 173 := by rw [← hW3]; exact ys.set 1 _
  try rw [hW3]
  clear hW3 c0 c1 c2 c3 s1 f1 hJ2 hk1 yt ys hk0 xt xs hJ1 hR hy hY hz1
  have Hih := Lib.hid ih; clear ih
  have HG := Lib.hid hG; clear hG
  have HN := Lib.hid hN; clear hN
  have Hd := Lib.hid hd; clear hd
  have Hs := Lib.hid hs; clear hs
  gi_loopw [8, 28] (fun _ i wr => ∃ (k : Nat) (xs : List (Hit6 F w0)), i = .int .i64 k ∧ k ≤ args.length ∧ Hid (xs.map Hit6.key = Tm.pres (args.take k) (s + binds.length) (d + 1)) ∧ J (pre ++ [X] ++ xs) wr ∧ KeepC G W wr ∧
      Blk wr W.heap.size #[.slice pa binds.length pc, .int .i64 k0, .int .i64 i0, .slice qa args.length qc] 52 ∧ Blk wr (W.heap.size + 1) #[.int .i64 ((s : Int) + (binds.length : Int)), .int .i64 ((d : Int) + 1)] 173) (fun _ i _ => args.length - (intOf i).toNat)
  case atStart => exact ⟨0, [], rfl, by omega, by simp [Hid, Tm.pres], by simpa using hJ3, hk3, xt3, xs3⟩
  case round =>
    clear hJ3 hk3 xt3 xs3
    obtain ⟨k, xs, rfl, hk, hxs, hJr, hkr, hbt, hbs⟩ := hrel
    have Hkr := Lib.hid hkr
    have HJr := Lib.hid hJr; clear hJr
    have hsz := hkr.size
    have hsb := hbs.lt
    have s0 : wr.cell? ⟨W.heap.size + 1, 0, none⟩ = some (.int .i64 ((s : Int) + (binds.length : Int))) := hbs.cell rfl
    have s1 : wr.cell? ⟨W.heap.size + 1, 1, none⟩ = some (.int .i64 ((d : Int) + 1)) := hbs.cell rfl
    by_cases hlt : k < args.length
    · obtain ⟨rfl, hF⟩ := ha (by omega)
      have hKp : Keep F w0 wr := hkr.keep' hw hGF
      have e1 := hKp _ _ _ hF (h1 k hlt)
      have e2 := hKp _ _ _ hF (h2 k hlt)
      have e3 := hKp _ _ _ hF (h3 k hlt)
      have e4 := hKp _ _ _ hF (h4 k hlt)
      have hs1 := Lib.hid (Tm.sizes_take args k hlt)
      have hs2 := Lib.hid (Tm.sizes_take_le args (k + 1))
      have hl : Hid (xs.length = Tm.sizes (args.take k)) := by
        show _ = _
        have := congrArg List.length hxs.out
        rw [List.length_map] at this
        rw [this, Tm.pres_length]
      have hz : pre.length + 1 + xs.length + args[k].size ≤ N := by have := HN.out; have := hl.out; have := hs1.out; have := hs2.out; rw [Tm.size_eq] at *; omega
      gi_wp2_with fail
      refine ⟨trivial, hdd _, (Hih.out args[k] (List.getElem_mem hlt) (h5 k hlt) (nn - 1) (s + binds.length) (d + 1) ((s : Int) + (binds.length : Int)) ((d : Int) + 1) (pre ++ [X] ++ xs) _ (by omega) (by omega) (fun q t hq ht => HG.out q t (by simp at hq; omega) ht) (by simp; omega) (hKp.alloc _) (hJ.alloc HJr.out _) (by simp; omega) ?_ ?_).mono ?_⟩
      · have := Hd.out; have := Tm.depth_mem (List.getElem_mem hlt); rw [Tm.depth_eq] at *; omega
      · have := Hs.out; have := Tm.full_mem (List.getElem_mem hlt); have := Ty.le_sizes binds; rw [Tm.full_eq] at *; omega
      rintro e W2 (⟨rfl, hk2, ys, hys, hJ2⟩ | ⟨rfl, ys, hys, hx2⟩)
      · have HJ2 := Lib.hid hJ2; clear hJ2
        have Hys := Lib.hid hys; clear hys
        have hbt2 := hk2.blk (hbt.alloc _) (HG.out _ _ (Nat.le_refl _) (by decide))
        have hbs2 := hk2.blk (hbs.alloc _) (HG.out _ _ (by omega) (by decide))
        gi_wp2_with fail
        go_roundw
        case rel => exact ⟨k + 1, xs ++ ys, by go_num, by omega, by show _ = _; rw [List.map_append, hxs.out, Hys.out, Tm.pres_take _ _ _ _ hlt], by rw [← List.append_assoc]; exact HJ2.out, (Hkr.out.alloc _).trans hk2, hbt2, hbs2⟩
        case measure => simp [intOf]; omega
      · have Hys := Lib.hid hys; clear hys
        have Hx2 := Lib.hid hx2; clear hx2
        gi_wp2_with fail
        go_ret
        refine .inr ⟨rfl, X :: (xs ++ ys), ?_, by simpa using Hx2.out⟩
        obtain ⟨r, hr⟩ := Hys.out
        have hp := Tm.pres_take args k (s + binds.length) (d + 1) hlt
        rw [← hr] at hp
        obtain ⟨q, hq⟩ := Tm.pres_take_le args (k + 1) (s + binds.length) (d + 1)
        refine ⟨r ++ q, ?_⟩
        simp only [Tm.pre_eq, List.map_cons, List.map_append, hkey, List.cons_append]
        rw [← hq, hp, ← hxs.out]
        simp
    · gi_wp2_with fail
      go_ret
      refine .inl ⟨rfl, Hkr.out, X :: xs, ?_, by simpa using HJr.out⟩
      have h := hxs.out
      rw [List.take_of_length_le (by omega)] at h
      simp [Tm.pre_eq, hkey, ← h]

theorem each61_k {F : Nat → Prop} {w0 : World} (G : Nat → TypeId → Prop) (hGF : ∀ k t, F k → k < w0.heap.size → G k t) (l : Nat) (J Jx : List (Hit6 F w0) → World → Prop)
    {b k i a : Value} {t : Tm} (ht : IsTm F w0 b k i a t) (hsz : t.full ≤ 500000) (n : Nat) (W : World) (hJ : Mild SpotOk W.heap.size J)
    (hY : ∀ pre x V, J pre V → pre.length < t.size → YieldAt Fence.wide (n - 1) Tryz.prog l (Hit6.enc x) V fun e W' =>
      (e = .returned (.bool true) ∧ J (pre ++ [x]) W' ∧ KeepC G V W') ∨ (e = .returned (.bool false) ∧ Jx (pre ++ [x]) W'))
    (hG : ∀ k t, W.heap.size ≤ k → t ≠ 3 → G k t) (hw : Keep F w0 W) (Bt : Nat) (c0 : W.cell? ⟨Bt, 0, none⟩ = some b) (c1 : W.cell? ⟨Bt, 1, none⟩ = some k) (c2 : W.cell? ⟨Bt, 2, none⟩ = some i) (c3 : W.cell? ⟨Bt, 3, none⟩ = some a) (h0 : J [] W) :
    CallsIn Fence.wide n Tryz.prog 124 #[.func (.yield l) #[] #[], .pointer (some ⟨Bt, 0, none⟩)] W fun e W' => (∃ v, e = .returned v) ∧
      ((∃ ys, List.map Hit6.key ys = t.pre 0 1 ∧ J ys W') ∨ (∃ pre, List.map Hit6.key pre <+: t.pre 0 1 ∧ Jx pre W')) := by
  have hdd : ∀ k : Nat, (Fence.wide.depth.isSome = true → 1 ≤ k) := fun k h => by cases h
  have hf := Tm.size_le_full t
  have hp := Lib.hid (down6_k G hGF l t.size W.heap.size (by omega) J Jx hJ (fun m pre x V hj hl => yield_any rfl m (hY pre x V hj hl)) t ht (n - 1) 0 1 0 1 [] W rfl rfl hG (Nat.le_refl _) hw h0 (by simp) (by have := Tm.depth_le_size t; omega) (by omega))
  clear hG hY
  obtain ⟨pa, pc, qa, qc, rfl, rfl, rfl, rfl⟩ := ht.shape
  refine callsIn_of_wp Tryz.func124 rfl trivial ?_ rfl
  simp only [Tryz.ntmps124, List.size_toArray, List.length_cons, List.length_nil, Nat.reduceAdd, Nat.reduceSub, Array.replicate_succ, Array.replicate_zero, List.push_toArray, List.append_toArray, List.nil_append, List.cons_append]
  gi_wp2_with fail
  refine ⟨trivial, hdd _, hp.out.mono ?_⟩
  rintro e W1 (⟨rfl, hk, ys, hys, hJ1⟩ | ⟨rfl, ys, hys, hx⟩)
  · have A1 := Lib.hid hys; clear hys
    gi_wp2_with fail
    go_end0
    exact ⟨⟨_, rfl⟩, .inl ⟨ys, A1.out, by simpa using hJ1⟩⟩
  · have A1 := Lib.hid hys; clear hys
    gi_wp2_with fail
    go_end0
    exact ⟨⟨_, rfl⟩, .inr ⟨ys, A1.out, by simpa using hx⟩⟩

theorem each6_soft {F : Nat → Prop} {w0 : World} (G : Nat → TypeId → Prop) (hGF : ∀ k t, F k → k < w0.heap.size → G k t) {b k i a : Value} {t : Tm} (ht : IsTm F w0 b k i a t) (hsz : t.full ≤ 500000) (n : Nat)
    (w : World) (hG : ∀ k t, w.heap.size ≤ k → t ≠ 3 → G k t) (hw : Keep F w0 w) (Bt : Nat) (hB : Blk w Bt #[b, k, i, a] 52) :
    SeqSoft SpotOk Fence.wide n Tryz.prog 124 #[.pointer (some ⟨Bt, 0, none⟩)] (Hit6.enc (F := F) (w := w0)) (KeepC G) (fun ys => ys.map Hit6.key = t.pre 0 1) (fun p => p.map Hit6.key <+: t.pre 0 1) t.size w :=
  fun l J Jx W hW hJ _ hY h0 => by
    have hB' := hB.below hW
    exact each61_k G hGF l J Jx ht hsz n W hJ hY (fun k t hk ht => hG k t (Nat.le_trans hW.size hk) ht) (hw.below hW) Bt (hB'.cell rfl) (hB'.cell rfl) (hB'.cell rfl) (hB'.cell rfl) h0

theorem each6_k (b k i a : Value) (n : Nat) (w : World) (hs : ∃ p m c, b = .slice p m c) (hk : ∃ x, k = .int .i64 x) (hi : ∃ x, i = .int .i64 x) (ha : ∃ p m c, a = .slice p m c) :
    CallsIn Fence.wide n Tryz.prog 94 #[.agg #[b, k, i, a]] w fun e w' => e = .returned (.func (.func 124) #[] #[.pointer (some ⟨w.heap.size, 0, none⟩)]) ∧ w' = w.alloc (.cells #[b, k, i, a] 52) := by
  obtain ⟨pb, mb, cb, rfl⟩ := hs
  obtain ⟨kx, rfl⟩ := hk
  obtain ⟨ix, rfl⟩ := hi
  obtain ⟨pa, ma, ca, rfl⟩ := ha
  refine callsIn_of_wp Tryz.func94 rfl trivial ?_ rfl
  simp only [Tryz.ntmps94, List.size_toArray, List.length_cons, List.length_nil, Nat.reduceAdd, Nat.reduceSub, Array.replicate_succ, Array.replicate_zero, List.push_toArray, List.append_toArray, List.nil_append, List.cons_append]
  gi_wp2_with fail
  go_ret
  exact ⟨rfl, rfl⟩
end Go.Proofs.YtiblklcfjakjmaaGreat

namespace Go.Proofs.YtiblklcfjakjmaaGreat
open Go.RowKit Go.Shelf
attribute [local go_sem] Oper.semAt_some

theorem spot_int {W : World} {n : Nat} {cs : Array Value} {T : TypeId} (hT : T ≠ 173) {W' : World} {B : Nat} {row : Option Nat} (h : Blk W n cs T) (hg : W.grownBy W' row) (hr : ∀ r, row = some r → B ≤ r ∧ ∃ o : Obj, W.heap[r]? = some o ∧ SpotOk o) : Blk W' n cs T :=
  h.grown hg fun e => by
    obtain ⟨_, o, ho, h'⟩ := hr _ e
    have hb : W.heap[n]? = _ := h
    rw [hb] at ho; cases ho
    rcases h' with h' | ⟨cs', fr, h'⟩
    · simp [Obj.isCells] at h'
    · cases h'; exact hT rfl
theorem mild_blk {β : Type} {n B : Nat} {T : TypeId} (hT : T ≠ 173) (f : β → Array Value) : Mild SpotOk B (fun s W => Blk W n (f s) T) := fun _ _ _ _ hs hg hr => spot_int hT hs hg hr

end Go.Proofs.YtiblklcfjakjmaaGreat

namespace Go.Proofs.YtiblklcfjakjmaaGreat
open Go.RowKit Go.Shelf
attribute [local go_sem] Oper.semAt_some

namespace Tm
theorem pres_depth_of {l : List Tm} (h : ∀ t ∈ l, ∀ s d m, (∀ p ∈ pre t s d, p.2.1 ≤ m) ↔ d + t.depth ≤ m + 1) : ∀ s d m, d ≤ m + 1 → ((∀ p ∈ pres l s d, p.2.1 ≤ m) ↔ d + depths l ≤ m + 1) := by
  intro s d m hd
  induction l with
  | nil => simp [pres, depths, hd]
  | cons t l ih =>
    have h1 := h t (by simp) s d m
    have h2 := ih (fun u hu => h u (by simp [hu]))
    simp only [pres, depths, List.mem_append]
    constructor
    · intro h3
      have a := h1.1 fun p hp => h3 p (.inl hp)
      have b := h2.1 fun p hp => h3 p (.inr hp)
      omega
    · intro h3 p hp
      rcases hp with hp | hp
      · exact h1.2 (by omega) p hp
      · exact h2.2 (by omega) p hp
theorem pre_depth (t : Tm) : ∀ s d m, (∀ p ∈ pre t s d, p.2.1 ≤ m) ↔ d + t.depth ≤ m + 1 := by
  induction t using Tm.ind with
  | h b k i a ih =>
    intro s d m
    have h := pres_depth_of ih (s + b.length) (d + 1) m
    rw [pre_eq, depth_eq]
    simp only [List.mem_cons, forall_eq_or_imp]
    constructor
    · rintro ⟨h1, h2⟩
      have := (h (by omega)).1 h2
      omega
    · intro h1
      exact ⟨by omega, (h (by omega)).2 (by omega)⟩
end Tm

set_option maxRecDepth 100000 in
set_option maxHeartbeats 2000000 in
theorem right6_k {F : Nat → Prop} {w : World} {b k i a : Value} {t : Tm} (ht : IsTm F w b k i a t) (hsz : t.full ≤ 500000) : Calls Tryz.prog 82 #[.agg #[b, k, i, a]] w (RetB (t.size ≤ 5000 ∧ t.depth ≤ 60) w) := by
  refine (callsIn_wide (n := 9)).1 ?_
  have Ht := Lib.hid (ht.weaken (F' := fun _ => True) fun _ _ _ => trivial)
  obtain ⟨pa, pc, qa, qc, rfl, rfl, rfl, rfl⟩ := ht.shape
  clear ht
  obtain ⟨x1, hx1⟩ : ∃ x, t.binds.length = x := ⟨_, rfl⟩
  obtain ⟨x2, hx2⟩ : ∃ x, t.args.length = x := ⟨_, rfl⟩
  obtain ⟨x3, hx3⟩ : ∃ x, t.kind = x := ⟨_, rfl⟩
  obtain ⟨x4, hx4⟩ : ∃ x, t.index = x := ⟨_, rfl⟩
  rw [hx1, hx2, hx3, hx4] at Ht ⊢
  clear hx1 hx2 hx3 hx4
  refine callsIn_of_wp_marks Tryz.func82 rfl trivial ?_ rfl
  simp only [Tryz.ntmps82, List.size_toArray, List.length_cons, List.length_nil, Nat.reduceAdd, Nat.reduceSub, Array.replicate_succ, Array.replicate_zero, List.push_toArray, List.append_toArray, List.nil_append, List.cons_append]
  gi_wp2_with fail
  refine ⟨trivial, (each6_k _ _ _ _ _ _ ⟨_, _, _, rfl⟩ ⟨_, rfl⟩ ⟨_, rfl⟩ ⟨_, _, _, rfl⟩).mono ?_⟩
  rintro e w' ⟨rfl, rfl⟩
  gi_wp2_with fail
  have hsz' := Lib.hid hsz
  have hfl := Tm.size_le_full t
  obtain ⟨w5, hw5⟩ : ∃ w5, (((w.alloc (.cells #[.slice pa x1 pc, .int .i64 x3, .int .i64 x4, .slice qa x2 qc] 52)).alloc (.cells #[.bool false] 4)).alloc (.cells #[.int .i64 0] 3)).alloc (.cells #[.slice pa x1 pc, .int .i64 x3, .int .i64 x4, .slice qa x2 qc] 52) = w5 := ⟨_, rfl⟩
  have hB0 : Below w.heap.size w w5 := by rw [← hw5]; exact ((((Below.refl _ w).alloc (Nat.le_refl _) _).alloc (by simp) _).alloc (by simp; omega) _).alloc (by simp; omega) _
  have hz : w5.heap.size = w.heap.size + 4 := by rw [← hw5]; simp
  have y1 : Blk w5 (w.heap.size + 1) #[.bool false] 4 := by rw [← hw5]; exact ((Blk.new _ _ _ (by simp)).alloc _).alloc _
  have y2 : Blk w5 (w.heap.size + 2) #[.int .i64 0] 3 := by rw [← hw5]; exact (Blk.new _ _ _ (by simp)).alloc _
  have y3 : Blk w5 (w.heap.size + 1 + 1 + 1) #[.slice pa x1 pc, .int .i64 x3, .int .i64 x4, .slice qa x2 qc] 52 := by rw [← hw5]; exact Blk.new _ _ _ (by simp)
  rw [hw5]
  clear hw5
  refine range_softA (Ok := SpotOk) (fun o h => .inl h) rfl (by omega) (gf := 124) (lb := #[.pointer (some ⟨w.heap.size + 1 + 1 + 1, 0, none⟩)]) rfl trivial (enters_of Tryz.func124 (by kernel_rfl) rfl)
    (each6_soft (But w.heap.size (w.heap.size + 3)) (fun k _ _ hk => .inl hk) Ht.out hsz (9 - 1) w5 (fun k _ hk _ => .inr (by omega)) ((Keep.refl _ _).below hB0) (w.heap.size + 1 + 1 + 1) y3)
    (fun h h' => h.trans h') (fun W l o o' _ hl ho _ => KeepC.putObj _ W l o o' hl ho) (Below.refl _ _) (fun _ => rfl)
    (fun pre W => (Blk W (w.heap.size + 1) #[.bool false] 4 ∧ Blk W (w.heap.size + 2) #[.int .i64 (pre.length : Int)] 3) ∧ (Hid (pre.length ≤ 5000 ∧ ∀ x ∈ pre, x.d ≤ 60) ∧ Below w.heap.size w W))
    (fun c pre W => (Blk W (w.heap.size + 1) #[.bool false] 4 ∧ Below w.heap.size w W) ∧ (c = .ret ∧ Hid (5000 < pre.length ∨ ∃ x ∈ pre, ¬ x.d ≤ 60)))
    (Mild.and (Mild.and (mild_blk (by decide) (fun (_ : List (Hit6 (fun _ => True) w)) => #[.bool false])) (mild_blk (by decide) (fun (pre : List (Hit6 (fun _ => True) w)) => #[.int .i64 (pre.length : Int)]))) (Mild.and (fun _ _ _ _ h _ _ => h) (mild_below (Nat.le_refl _) (by omega))))
    (fun c => Mild.and (Mild.and (mild_blk (by decide) (fun (_ : List (Hit6 (fun _ => True) w)) => #[.bool false])) (mild_below (Nat.le_refl _) (by omega))) (fun _ _ _ _ h _ _ => h))
    ⟨⟨y1, y2⟩, ⟨by simp, by simp⟩, hB0⟩
    (fun x a' W => ∃ Bx, w.heap.size + 2 < Bx ∧ Blk W Bx #[.int .i64 x.s, .int .i64 x.d] 173 ∧ a' = { tmps := #[.agg #[.slice pa x1 pc, .int .i64 x3, .int .i64 x4, .slice qa x2 qc], .pointer (some ⟨w.heap.size, 0, none⟩), .pointer (some ⟨w.heap.size + 1, 0, none⟩), .pointer (some ⟨w.heap.size + 1 + 1, 0, none⟩), .pointer (some ⟨Bx, 0, none⟩), .agg #[.slice pa x1 pc, .int .i64 x3, .int .i64 x4, .slice qa x2 qc], .func (.func 124) #[] #[.pointer (some ⟨w.heap.size + 1 + 1 + 1, 0, none⟩)], .agg #[.int .i64 x.s, .int .i64 x.d], .agg #[.slice x.pb x.t.binds.length x.cb, .int .i64 x.t.kind, .int .i64 x.t.index, .slice x.pa x.t.args.length x.ca], undef, undef, undef, undef, undef, undef, undef, undef, undef], defers := [] })
    (fun x a' W l o o' hl ho hoc => by
      rintro ⟨Bx, h1, h2, h3⟩
      refine ⟨Bx, h1, ?_, h3⟩
      have hne : l ≠ Bx := fun e => by
        subst e
        have hb : W.heap[l]? = _ := h2
        rw [hb] at ho; cases ho; simp [Obj.isCells] at hoc
      exact (World.putObj_heap_other (Ne.symm hne)).trans h2) ?assign ?body ?done ?stop
  case assign =>
    rintro l pre x W K ⟨⟨z1, z2⟩, hp, hB⟩ hK
    have HK := Lib.hid hK; clear hK
    have Hp := Lib.hid hp; clear hp
    simp only [Hit6.enc] at *
    gi_wp2
    have hs := hB.size
    exact HK.out _ _ ((KeepsOthers.alloc _ _).from _) ((KeepC.refl _ W).alloc _) ⟨⟨z1.alloc _, z2.alloc _⟩, Hp.out, hB.alloc hs _⟩ ⟨W.heap.size, z2.lt, Blk.new _ _ _ rfl, rfl⟩
  case body =>
    rintro l pre x a' W ⟨⟨z1, z2⟩, hp, hB⟩ hlt ⟨Bx, hBx, bX, rfl⟩
    have c1 : W.cell? ⟨w.heap.size + 1, 0, none⟩ = some (.bool false) := z1.cell rfl
    have f1 := z1.free 0
    have c2 : W.cell? ⟨w.heap.size + 1 + 1, 0, none⟩ = some (.int .i64 (pre.length : Int)) := z2.cell rfl
    have f2 := z2.free 0
    have cx : W.cell? ⟨Bx, 1, none⟩ = some (.int .i64 x.d) := bX.cell rfl
    have hlt2 : (pre.length : Int) ≤ 1000000 := by omega
    have hBn : ¬ (Bx = w.heap.size + 1 + 1) := by omega
    have Hp := Lib.hid hp.out; clear hp
    have hbd : Hid (Below w.heap.size w ((W.setCell ⟨w.heap.size + 1 + 1, 0, none⟩ (.int .i64 ((pre.length : Int) + 1))).setCell ⟨w.heap.size + 1, 0, none⟩ (.bool false))) := (hB.setCell (by simp; omega) _).setCell (by simp) _
    by_cases h2 : (5000 : Int) < (pre.length : Int) + 1
    · gi_wp2
      first
      | exact ⟨((KeepsOthers.setCell W _ _).trans (KeepsOthers.setCell _ _ _)).from _, ⟨(z1.far ⟨w.heap.size + 1 + 1, 0, none⟩ _ (by simp)).set 0 _, hbd.out⟩, rfl, .inl (by simp; omega)⟩
      | exact ⟨(KeepsOthers.setCell W _ _).from _, ⟨z1.far ⟨w.heap.size + 1 + 1, 0, none⟩ _ (by simp), hB.setCell (by simp; omega) _⟩, rfl, .inl (by simp; omega)⟩
    by_cases h1 : 60 < x.d
    · have h1' : (60 : Int) < (x.d : Int) := by omega
      gi_wp2
      first
      | exact ⟨((KeepsOthers.setCell W _ _).trans (KeepsOthers.setCell _ _ _)).from _, ⟨(z1.far ⟨w.heap.size + 1 + 1, 0, none⟩ _ (by simp)).set 0 _, hbd.out⟩, rfl, .inr ⟨x, by simp, by omega⟩⟩
      | exact ⟨(KeepsOthers.setCell W _ _).from _, ⟨z1.far ⟨w.heap.size + 1 + 1, 0, none⟩ _ (by simp), hB.setCell (by simp; omega) _⟩, rfl, .inr ⟨x, by simp, by omega⟩⟩
    have h1' : ¬ (60 : Int) < (x.d : Int) := by omega
    gi_wp2
    refine ⟨(KeepsOthers.setCell W _ _).from _, (KeepC.refl _ W).setCell _ _ (by simp [But]; omega), ⟨z1.far _ _ (by simp), ?_⟩, ⟨by have := Hp.out.1; simp; omega, fun y hy => ?_⟩, hB.setCell (by simp; omega) _⟩
    · have := z2.set 0 (.int .i64 ((pre.length : Int) + 1))
      simpa using this
    · rcases List.mem_append.1 hy with hy | hy
      · exact Hp.out.2 y hy
      · simp at hy; subst hy; omega
  case done =>
    rintro D ys W hD hys ⟨⟨z1, z2⟩, hp, hB⟩ hK
    have c1 : W.cell? ⟨w.heap.size + 1, 0, none⟩ = some (.bool false) := z1.cell rfl
    have f1 := z1.free 0
    have Hys := Lib.hid hys; clear hys
    have Hp := Lib.hid hp.out; clear hp
    gi_wp2
    have hK' := (KeepsOthers.setCell W ⟨w.heap.size + 1, 0, none⟩ (.bool true)).same D _ hK rfl
    refine ⟨by simp, .inl ⟨_, _, rfl, run_takeDeferred hK', ?_⟩⟩
    have hc5 := cell_kept ((z1.set 0 (.bool true)).cell (i := 0) (v := .bool true) rfl) (grownBy_putObj' _ D (.deferred none)) (fun r e => by cases e; exact ⟨_, hK', rfl⟩)
    refine ⟨.bool true, ?_, ⟨true, ?_, rfl, ?_⟩⟩
    · simp [results, Tryz.results82, go_sem, hc5]
    · have hl : ys.length = t.size := by rw [← Tm.pre_length t 0 1, ← Hys.out, List.length_map]
      have hd := (Tm.pre_depth t 0 1 60).1 (fun p hp' => by
        rw [← Hys.out] at hp'
        obtain ⟨y, hy, he⟩ := List.mem_map.1 hp'
        rw [← he]; exact Hp.out.2 y hy)
      have := Hp.out.1
      simp; omega
    · exact (hB.setCell (p := ⟨w.heap.size + 1, 0, none⟩) (by simp) _).trans (belowK_b (w := w) (Nat.le_refl _) _ D _ _ (by omega) hK' rfl rfl)
  case stop =>
    rintro D c pre W hD hpre ⟨⟨z1, hB⟩, rfl, hbad⟩ hK
    gi_wp2
    refine ⟨by simp, .inl ⟨_, _, rfl, run_takeDeferred hK, ?_⟩⟩
    have hc5 := cell_kept (z1.cell (i := 0) (v := .bool false) rfl) (grownBy_putObj' _ D (.deferred none)) (fun r e => by cases e; exact ⟨_, hK, rfl⟩)
    refine ⟨.bool false, ?_, ⟨false, ?_, rfl, ?_⟩⟩
    · simp [results, Tryz.results82, go_sem, hc5]
    · simp only [Bool.false_eq_true, false_iff, not_and]
      intro h1 h2
      rcases hbad.out with h | ⟨y, hy, h⟩
      · have := hpre.length_le
        rw [List.length_map, Tm.pre_length] at this; omega
      · exact h ((Tm.pre_depth t 0 1 60).2 (by omega) y.key (hpre.subset (List.mem_map.2 ⟨y, hy, rfl⟩)))
    · exact hB.trans (belowK_b (w := w) (Nat.le_refl _) W D _ _ (by omega) hK rfl rfl)
end Go.Proofs.YtiblklcfjakjmaaGreat

namespace Go.Proofs.YtiblklcfjakjmaaGreat
open Go.RowKit

def EqT (t : Tm) : Prop := ∀ (F : Nat → Prop) (w0 : World) (b k i a : Value), IsTm F w0 b k i a t → ∀ (F' : Nat → Prop) (w0' : World) (b' k' i' a' : Value) (u : Tm), IsTm F' w0' b' k' i' a' u → ∀ w : World, Keep F w0 w → Keep F' w0' w →
    Calls Tryz.prog 43 #[.agg #[b, k, i, a], .agg #[b', k', i', a']] w (RetB (t = u) w)

set_option maxRecDepth 100000 in
set_option maxHeartbeats 1600000 in
theorem equalFunc6_k {F F' : Nat → Prop} {w0 w0' : World} {v v' : Value} {l l' : List Tm} (h : IsSl rpTm F w0 v l) (h' : IsSl rpTm F' w0' v' l') (heq : ∀ t ∈ l, EqT t) (w : World) (hw : Keep F w0 w) (hw' : Keep F' w0' w) :
    Calls Tryz.prog 89 #[v, v', .func (.func 43) #[] #[]] w (RetB (l = l') w) := by
  obtain ⟨a, c, rfl⟩ := sl_shape' h
  obtain ⟨a', c', rfl⟩ := sl_shape' h'
  obtain ⟨_, hm, bl, off, PA, A, PN, PC, N, C, Kd, Ix, ha, h1, h2, h3, h4, h5⟩ := sl_cells6 h
  obtain ⟨_, hm', bl', off', PA', A', PN', PC', N', C', Kd', Ix', ha', h1', h2', h3', h4', h5'⟩ := sl_cells6 h'
  clear h h'
  unfold maxLen at hm hm'
  have H3 : Hid (∀ i (h : i < l.length) (h' : i < l'.length) (w : World), Keep F w0 w → Keep F' w0' w → Calls Tryz.prog 43 #[.agg #[.slice (PA i) (PN i) (PC i), .int .i64 (Kd i), .int .i64 (Ix i), .slice (A i) (N i) (C i)], .agg #[.slice (PA' i) (PN' i) (PC' i), .int .i64 (Kd' i), .int .i64 (Ix' i), .slice (A' i) (N' i) (C' i)]] w (RetB (l[i] = l'[i]) w)) :=
    fun i h h' w hw hw' => heq _ (List.getElem_mem h) _ _ _ _ _ _ (h5 i h) _ _ _ _ _ _ _ (h5' i h') w hw hw'
  clear h5 h5' heq
  by_cases hll : l.length = l'.length
  rotate_left
  · have hg : ((l.length : Int) == (l'.length : Int)) = false := by simpa using by omega
    have hg' : ((l.length : Int) != (l'.length : Int)) = true := by simpa using by omega
    go_enter Tryz.func89, Tryz.ntmps89
    go_wp2_with fail
    go_ret
    refine ⟨false, ?_, rfl, Below.refl _ _⟩
    simp; intro h; rw [h] at hll; exact hll rfl
  have Hll := Lib.hid hll
  have hg : ((l.length : Int) == (l'.length : Int)) = true := by simpa using by omega
  have hg' : ((l.length : Int) != (l'.length : Int)) = false := by simpa using by omega
  clear hll
  go_enter Tryz.func89, Tryz.ntmps89
  go_wp2_with fail
  go_loopw [17] (fun i wr => ∃ k : Nat, i = .int .i64 k ∧ k ≤ l.length ∧ Hid (l.take k = l'.take k) ∧ Below w.heap.size w wr) (fun i _ => l.length - (intOf i).toNat)
  case atStart => exact ⟨0, rfl, by omega, rfl, Below.refl _ _⟩
  case round =>
    obtain ⟨k, rfl, hk, hall, hb⟩ := hrel
    have hsz := hb.size
    by_cases hlt : k < l.length
    · have hlt' : k < l'.length := by rw [← Hll.out]; exact hlt
      obtain ⟨rfl, hF⟩ := ha (by omega)
      obtain ⟨rfl, hF'⟩ := ha' (by omega)
      have e1 := (hw.below hb) _ _ _ hF (h1 k hlt)
      have e2 := (hw.below hb) _ _ _ hF (h2 k hlt)
      have e3 := (hw.below hb) _ _ _ hF (h3 k hlt)
      have e4 := (hw.below hb) _ _ _ hF (h4 k hlt)
      have e1' := (hw'.below hb) _ _ _ hF' (h1' k hlt')
      have e2' := (hw'.below hb) _ _ _ hF' (h2' k hlt')
      have e3' := (hw'.below hb) _ _ _ hF' (h3' k hlt')
      have e4' := (hw'.below hb) _ _ _ hF' (h4' k hlt')
      have i0 : (0 : Int) ≤ (k : Int) := Int.natCast_nonneg _
      have i1 : (k : Int) < (l.length : Int) := by omega
      have i2 : (k : Int) < (l'.length : Int) := by omega
      have q1 : bl < wr.heap.size := Keep.lt e1
      have q1' : bl' < wr.heap.size := Keep.lt e1'
      go_wp2_with fail
      have hB2 := (hb.alloc hb.size (.cells #[.slice (PA k) (PN k) (PC k), .int .i64 (Kd k), .int .i64 (Ix k), .slice (A k) (N k) (C k)] 52)).alloc (by simp; omega) (.cells #[.slice (PA' k) (PN' k) (PC' k), .int .i64 (Kd' k), .int .i64 (Ix' k), .slice (A' k) (N' k) (C' k)] 52)
      refine (H3.out k hlt hlt' _ (hw.below hB2) (hw'.below hB2)).mono ?_
      rintro e w1 ⟨r, hr, rfl, hb1⟩
      have hB := hB2.trans (hb1.mono (by simp; omega))
      cases r
      · have Hr := Lib.hid (no_of hr); clear hr
        go_wp2_with fail
        go_ret
        refine ⟨false, ?_, rfl, hB⟩
        simp
        intro h
        subst h
        exact Hr.out rfl
      · have Hr := Lib.hid (yes_of hr); clear hr
        go_wp2_with fail
        go_roundw
        case rel => exact ⟨k + 1, by go_num, by omega, take_eq_succ hlt hlt' hall.out Hr.out, hB⟩
        case measure => simp [intOf]; omega
    · go_wp2_with fail
      go_ret
      refine ⟨true, ?_, rfl, hb⟩
      have h := hall.out
      rw [List.take_of_length_le (by omega), List.take_of_length_le (by rw [← Hll.out]; omega)] at h
      simp [h]

set_option maxRecDepth 100000 in
set_option maxHeartbeats 1600000 in
theorem equal6_k : ∀ t : Tm, EqT t := Tm.ind fun binds k i1 args ih => by
  intro F w0 b k0 i0 a ht F' w0' b' k0' i0' a' u hu w hw hw'
  obtain ⟨binds', k', i', args'⟩ := u
  obtain ⟨rfl, rfl, hb, hs⟩ := ht.inv
  obtain ⟨rfl, rfl, hb', hs'⟩ := hu.inv
  have Hty := Lib.hid fun (w : World) (hw : Keep F w0 w) (hw' : Keep F' w0' w) => equalFunc_k hb hb' (fun t _ => equal_k t) w hw hw'
  have Hts := Lib.hid fun (w : World) (hw : Keep F w0 w) (hw' : Keep F' w0' w) => equalFunc6_k hs hs' ih w hw hw'
  obtain ⟨pa, pc, rfl⟩ := hb.shape
  obtain ⟨pa', pc', rfl⟩ := hb'.shape
  obtain ⟨a, c, rfl⟩ := hs.shape
  obtain ⟨a', c', rfl⟩ := hs'.shape
  clear hb hb' hs hs' ht hu ih
  simp only [Tm.binds, Tm.kind, Tm.index, Tm.args] at *
  obtain ⟨pr, hpr⟩ : ∃ pr : Prop, (Tm.mk binds k i1 args = Tm.mk binds' k' i' args') = pr := ⟨_, rfl⟩
  have Ht : Hid (pr ↔ binds = binds' ∧ k = k' ∧ i1 = i' ∧ args = args') := by rw [← hpr]; exact tm_eq
  rw [hpr]
  clear hpr
  obtain ⟨l, hl⟩ : ∃ l, args.length = l := ⟨_, rfl⟩
  obtain ⟨l', hl'⟩ : ∃ l, args'.length = l := ⟨_, rfl⟩
  obtain ⟨m, hm⟩ : ∃ l, binds.length = l := ⟨_, rfl⟩
  obtain ⟨m', hm'⟩ : ∃ l, binds'.length = l := ⟨_, rfl⟩
  rw [hm, hm'] at Hty
  rw [hl, hl'] at Hts
  rw [hl, hl', hm, hm']
  clear hl hl' hm hm'
  by_cases hk : k = k'
  rotate_left
  · have hg : (k == k') = false := by simpa using hk
    go_enter Tryz.func43, Tryz.ntmps43
    go_wp2_with fail
    go_ret
    exact ⟨false, by rw [Ht.out]; simp [hk], rfl, ((Below.refl _ _).alloc (Nat.le_refl _) _).alloc (by simp) _⟩
  subst hk
  by_cases hi : i1 = i'
  rotate_left
  · have hg : (i1 == i') = false := by simpa using hi
    go_enter Tryz.func43, Tryz.ntmps43
    go_wp2_with fail
    go_ret
    exact ⟨false, by rw [Ht.out]; simp [hi], rfl, ((Below.refl _ _).alloc (Nat.le_refl _) _).alloc (by simp) _⟩
  subst hi
  go_enter Tryz.func43, Tryz.ntmps43
  go_wp2_with fail
  have B2 := ((Below.refl w.heap.size w).alloc (Nat.le_refl _) (.cells #[.slice pa m pc, .int .i64 k, .int .i64 i1, .slice a l c] 52)).alloc (by simp) (.cells #[.slice pa' m' pc', .int .i64 k, .int .i64 i1, .slice a' l' c'] 52)
  have X0 := (Blk.new w #[.slice pa m pc, .int .i64 k, .int .i64 i1, .slice a l c] 52 rfl).alloc (.cells #[.slice pa' m' pc', .int .i64 k, .int .i64 i1, .slice a' l' c'] 52)
  have X1 := Blk.new (w.alloc (.cells #[.slice pa m pc, .int .i64 k, .int .i64 i1, .slice a l c] 52)) #[.slice pa' m' pc', .int .i64 k, .int .i64 i1, .slice a' l' c'] 52 (n := w.heap.size + 1) (by simp)
  refine (Hty.out _ (hw.below B2) (hw'.below B2)).mono ?_
  rintro e w3 ⟨r, hr, rfl, hb3⟩
  have B3 := B2.trans (hb3.mono (by simp; omega))
  have x0 := X0.below hb3
  have x1 := X1.below hb3
  have c0 : w3.cell? ⟨w.heap.size, 3, none⟩ = some (.slice a l c) := x0.cell rfl
  have c1 : w3.cell? ⟨w.heap.size + 1, 3, none⟩ = some (.slice a' l' c') := x1.cell rfl
  cases r
  · have Hr := Lib.hid (no_of hr); clear hr
    go_wp2_with fail
    go_ret
    exact ⟨false, by rw [Ht.out]; simp; intro h; exact absurd h Hr.out, rfl, B3⟩
  · have Hr := Lib.hid (yes_of hr); clear hr
    go_wp2_with fail
    refine (Hts.out _ (hw.below B3) (hw'.below B3)).mono ?_
    rintro e w4 ⟨r, hr, rfl, hb4⟩
    have Hr2 := Lib.hid hr; clear hr
    go_wp2_with fail
    go_ret
    exact ⟨r, by rw [Ht.out]; simp [Hr.out]; exact Hr2.out, rfl, B3.trans (hb4.mono B3.size)⟩
end Go.Proofs.YtiblklcfjakjmaaGreat

namespace Go.Proofs.YtiblklcfjakjmaaGreat
open Go.RowKit

theorem pure_below {P : Program} {f : FuncId} (hf : entersB P f = true) {ds : List D} {V : D}
    (h : ∀ (m : Mp) (Im : Nat → Nat → Prop) (w : World) (vs : List Value), RelL m Im w vs ds → Calls P f vs.toArray w fun e w' => ∃ v, e = .returned v ∧ Below w.heap.size w w' ∧ ∀ Im' : Nat → Nat → Prop, (∀ b o, Im b o → Im' b o) → (∀ b o v, w.heap.size ≤ b → w'.cell? ⟨b, o, none⟩ = some v → Im' b o) → Rel m Im' w' v V) : PureC P f ds V := by
  refine ⟨hf, fun cx Fr m Im w vs hmem hargs _ => (h m Im w vs hargs).mono ?_⟩
  rintro e w' ⟨v, rfl, hb, hr⟩
  refine ⟨v, fun b o => Im b o ∨ (w.heap.size ≤ b ∧ ∃ v, w'.cell? ⟨b, o, none⟩ = some v), rfl, ⟨hb.os, hb.tape, hb.output, hb.size, fun b hl _ => hb.block b hl⟩, fun b o h => .inl h, fun b o h => h.imp id fun h => h.1, fun b o hi => ?_, fun k b o hk => ?_, hr _ (fun b o h => .inl h) fun b o v h1 h2 => .inr ⟨h1, v, h2⟩, nofun⟩
  · rcases hi with hi | hi
    · obtain ⟨v, hv⟩ := hmem.im b o hi
      exact ⟨v, (hb.cell (p := ⟨b, o, none⟩) (ltOfCell hv)).trans hv⟩
    · exact hi.2
  · exact (World.frozen?_of_block (a := ⟨b, o, none⟩) (hb.block b (hmem.lt k b hk))).trans (hmem.free k b o hk)
theorem agTm {m : Mp} {Im : Nat → Nat → Prop} {w : World} {x : Value} {t : Tm} (h : Rel m Im w x (.ag (eTm t))) : ∃ b k i a, x = .agg #[b, k, i, a] ∧ IsTm (blkI Im) w b k i a t := by
  obtain ⟨cs, rfl, hr⟩ := rel_ag.1 h
  obtain ⟨b, k, i, a, rfl, ht⟩ := tm_of_rel t hr
  exact ⟨b, k, i, a, rfl, ht⟩
theorem copy_d (t : Tm) (hsz : t.full ≤ 80000) (hfit : t.Fit) : PureC Tryz.prog 61 [.ag (eTm t)] (.ag (eTm t)) := by
  refine pure_below (by kernel_rfl) fun m Im w vs hv => ?_
  match vs, hv with
  | [x], hv =>
    obtain ⟨b, k, i, a, rfl, ht⟩ := agTm hv.1
    refine (copy_k ht hsz hfit).mono ?_
    rintro e w' ⟨b', k', i', a', rfl, h1, h2⟩
    exact ⟨_, rfl, h2, fun Im' _ hI => rel_ag.2 ⟨_, rfl, rel_of_tm (fun b o v hb hc => hI b o v hb hc) t h1⟩⟩
theorem right_d (t : Tm) (hsz : t.full ≤ 500000) : PureC Tryz.prog 82 [.ag (eTm t)] (.v (.bool (decide (t.size ≤ 5000 ∧ t.depth ≤ 60)))) := by
  refine pure_below (by kernel_rfl) fun m Im w vs hv => ?_
  match vs, hv with
  | [x], hv =>
    obtain ⟨b, k, i, a, rfl, ht⟩ := agTm hv.1
    refine (right6_k ht hsz).mono ?_
    rintro e w' ⟨b, hb, rfl, h2⟩
    have : b = decide (t.size ≤ 5000 ∧ t.depth ≤ 60) := by
      by_cases hp : t.size ≤ 5000 ∧ t.depth ≤ 60
      · rw [hb.2 hp]; simp [hp]
      · have : b = false := by
          cases b with
          | false => rfl
          | true => exact absurd (hb.1 rfl) hp
        rw [this]; simp [hp]
    subst this
    exact ⟨_, rfl, h2, fun Im' _ hI => .v _⟩
theorem eTm_ren (ρ : Nat → Nat) (t : Tm) : D.rens ρ (eTm t) = eTm t := D.rens_id (f := fun _ => false) (g := fun _ => false) (fun _ h => by cases h) _ (eTm_ok _ _ t)
theorem eTms_ren (ρ : Nat → Nat) (l : List Tm) : D.renss ρ (eTms l) = eTms l := D.renss_id (f := fun _ => false) (g := fun _ => false) (fun _ h => by cases h) _ (eTms_ok _ _ l)
end Go.Proofs.YtiblklcfjakjmaaGreat

namespace Go.Proofs.YtiblklcfjakjmaaGreat
open Go.RowKit

def m00 : Mp := ⟨fun _ => none, fun _ => none, fun _ => none⟩
theorem calls_of_pure {P : Program} {f : FuncId} {ds : List D} {V : D} (h : PureC P f ds V) {Im : Nat → Nat → Prop} {w : World} {vs : List Value} (hi : ∀ b o, Im b o → ∃ v, w.cell? ⟨b, o, none⟩ = some v) (hv : RelL m00 Im w vs ds) :
    Calls P f vs.toArray w fun e w' => ∃ v Im', e = .returned v ∧ Below w.heap.size w w' ∧ Rel m00 Im' w' v V ∧ (∀ b o, Im' b o → Im b o ∨ w.heap.size ≤ b) := by
  let cx : Cx := { w0 := w, C := fun _ => False, Im0 := Im, m0 := m00, nt := 0, n0 := 0, h0 := (fun k b hk => by cases hk), h0o := (fun k b hk => by cases hk) }
  have hm : MemOk cx (fun _ => False) m00 Im w := {
    off := Off.refl _ _, im := hi, imb := fun b o h => .inl h, im0 := fun b o h => h
    own := fun k b hk => by cases hk
    lt := fun k b hk => by cases hk
    free := fun k b o hk => by cases hk
    nim := fun k b o hk => by cases hk
    inj := fun k k' b hk => by cases hk
    row := fun g R hg => by cases hg
    rIm := fun g R b o hg => by cases hg
    rblk := fun g R b k hg => by cases hg
    rinj := fun g g' R R' b hg => by cases hg
    fr := fun k hk => hk.elim
    m0 := fun k b hk => by cases hk
    m0o := fun k b hk => by cases hk
    oown := fun k b hk => by cases hk
    olt := fun k b hk => by cases hk
    onim := fun k b o hk => by cases hk
    oinj := fun k k' b hk => by cases hk
    oblk := fun k k' b hk => by cases hk
    orow := fun k g R b hk => by cases hk
    dis := fun k b hk => by cases hk }
  refine (h.2 cx _ m00 Im w vs hm hv nofun).mono ?_
  rintro e w' ⟨v, Im', rfl, q1, q2, q3, q4, q5, q6, q7⟩
  refine ⟨v, Im', rfl, ⟨q1.os, q1.tape, q1.output, q1.size, fun b hb => q1.block b hb fun ht => ?_⟩, q6, q3⟩
  rcases ht with ⟨k, off, d, hm, _⟩ | ⟨X, J, hm, _⟩ | ⟨k, d, hm, _⟩ <;> cases hm
def cellI (F : Nat → Prop) (w : World) : Nat → Nat → Prop := fun b o => F b ∧ ∃ v, w.cell? ⟨b, o, none⟩ = some v
theorem cellI_ok {F : Nat → Prop} {w : World} : ∀ b o, cellI F w b o → ∃ v, w.cell? ⟨b, o, none⟩ = some v := fun _ _ h => h.2
theorem cellI_of {F : Nat → Prop} {w : World} : ∀ b o v, F b → w.cell? ⟨b, o, none⟩ = some v → cellI F w b o := fun _ _ v h hv => ⟨h, v, hv⟩
end Go.Proofs.YtiblklcfjakjmaaGreat

namespace Go.Proofs.YtiblklcfjakjmaaGreat
namespace Nm
abbrev wr (x : Int) : Int := RowKit.wrap64 x

def tz : Tm := .mk [] 0 0 []

structure St where
  left : Int
  dry : Bool
  count : Int
  e : Int
deriving DecidableEq

def spend (s : St) : Bool × St :=
  if s.dry = true ∨ s.left < 1 then (false, { s with left := 0, dry := true }) else (true, { s with left := s.left - 1 })
def fail (s : St) (c : Int) : St := if s.e = 0 then { s with e := c } else s
def unit (s : St) : Bool × St :=
  if s.e ≠ 0 then (false, s)
  else if s.count = 100000 then (false, { s with count := s.count + 1, e := 2 })
  else match spend s with
    | (false, s') => (false, { s' with count := s'.count + 1, e := 11 })
    | (true, s') => (true, { s' with count := s'.count + 1 })

mutual
def lift (by_ : Int) : Tm → Int → Tm
  | .mk b k i a, ins => .mk b k (if k = 0 ∧ wr (ins + b.length) ≤ i then wr (i + by_) else i) (lifts by_ a (wr (ins + b.length)))
def lifts (by_ : Int) : List Tm → Int → List Tm
  | [], _ => []
  | t :: l, ins => lift by_ t ins :: lifts by_ l ins
end
theorem lift_eq (y : Int) (b : List Ty) (k i : Int) (a : List Tm) (ins : Int) : lift y (.mk b k i a) ins = .mk b k (if k = 0 ∧ wr (ins + b.length) ≤ i then wr (i + y) else i) (lifts y a (wr (ins + b.length))) := by rw [lift]
theorem lifts_map (y : Int) (l : List Tm) (ins : Int) : lifts y l ins = l.map fun t => lift y t ins := by
  induction l with
  | nil => rfl
  | cons t l ih => rw [lifts, ih]; rfl
def grown (t : Tm) (y : Int) : Tm := if y = 0 then t else lift y t 0

def seqM (g : Tm → St → Tm × St) : List Tm → St → List Tm × St
  | [], s => ([], s)
  | t :: l, s => ((g t s).1 :: (seqM g l (g t s).2).1, (seqM g l (g t s).2).2)
theorem seqM_append (g : Tm → St → Tm × St) (l r : List Tm) (s : St) : seqM g (l ++ r) s = ((seqM g l s).1 ++ (seqM g r (seqM g l s).2).1, (seqM g r (seqM g l s).2).2) := by
  induction l generalizing s with
  | nil => simp [seqM]
  | cons t l ih => simp [seqM, ih]
theorem seqM_take (g : Tm → St → Tm × St) (l : List Tm) (j : Nat) (h : j < l.length) (s : St) : seqM g (l.take (j + 1)) s = ((seqM g (l.take j) s).1 ++ [(g l[j] (seqM g (l.take j) s).2).1], (g l[j] (seqM g (l.take j) s).2).2) := by
  rw [List.take_succ_eq_append_getElem h, seqM_append]; rfl
theorem seqM_length (g : Tm → St → Tm × St) (l : List Tm) (s : St) : (seqM g l s).1.length = l.length := by
  induction l generalizing s with
  | nil => rfl
  | cons t l ih => simp [seqM, ih]

abbrev Thr := List Tm → Nat → Tm → Int → St → Tm × St
def putW (thr : Thr) (t : Tm) (xs : List Tm) (s : St) : Tm × St :=
  if s.e ≠ 0 ∨ xs.length > t.binds.length then (tz, fail s 1)
  else
    let r := thr xs t.binds.length (.mk [] t.kind t.index t.args) 0 s
    (.mk (t.binds.drop xs.length) r.1.kind r.1.index r.1.args, r.2)
def hit (thr : Thr) (xs : List Tm) (n : Nat) (t : Tm) (ins : Int) (args : List Tm) (s : St) : Tm × St :=
  if t.kind ≠ 0 ∨ t.index < ins then (.mk t.binds t.kind t.index args, s)
  else
    let i := wr (t.index - ins)
    if i < (n : Int) - xs.length then (.mk t.binds t.kind t.index args, s)
    else if (n : Int) ≤ i then (.mk t.binds t.kind (wr (t.index - xs.length)) args, s)
    else
      let u := grown (xs.getD ((n : Int) - 1 - i).toNat tz) (wr (wr (ins + n) - xs.length))
      if u.binds.length ≠ args.length then (tz, fail s 1)
      else
        let r := putW thr u args s
        (.mk t.binds r.1.kind r.1.index r.1.args, r.2)
def through : Nat → Thr
  | 0 => fun _ _ _ _ s => (tz, s)
  | f + 1 => fun xs n t ins s =>
    if (unit s).1 = true then
      let q := seqM (fun a s => through f xs n a (wr (ins + t.binds.length)) s) t.args (unit s).2
      hit (through f) xs n t (wr (ins + t.binds.length)) q.1 q.2
    else (tz, (unit s).2)
def put (f : Nat) : Tm → List Tm → St → Tm × St := putW (through f)

def done (p : Tm × St) : Tm × St :=
  let s := if p.2.e = 0 ∧ ¬ (p.1.size ≤ 5000 ∧ p.1.depth ≤ 60) then fail p.2 2 else p.2
  if s.e ≠ 0 then (tz, s) else (p.1, s)
def Put (t : Tm) (xs : List Tm) (left : Int) (dry : Bool) : Tm × St := done (put 100001 t xs ⟨left, dry, 0, 0⟩)
end Nm

namespace Sb
open Go.Proofs.YtiblklcfjakjmaaGreat.Nm
abbrev Pair := Int × Tm
def right (s : List Pair) : Bool := decide (s.Pairwise fun a b => a.1 < b.1)
def find (s : List Pair) (m : Int) : Option Tm := (s.find? fun p => p.1 == m).map (·.2)
def replaced (t u : Tm) (s : Nm.St) : Tm × Nm.St :=
  if u.binds.length ≠ t.args.length then (tz, { s with e := 1 })
  else
    let r := Put u t.args s.left s.dry
    if r.2.e ≠ 0 then (tz, { s with left := r.2.left, dry := r.2.dry, e := r.2.e }) else (.mk t.binds r.1.kind r.1.index r.1.args, { s with left := r.2.left, dry := r.2.dry })
mutual
def through (l : List Pair) : Tm → Int → Nm.St → Tm × Nm.St
  | .mk b k i a, ins, s =>
    if s.e ≠ 0 then (tz, s)
    else if (spend s).1 = false then (tz, { (spend s).2 with e := 11 })
    else
      let q := throughs l a (wr (ins + b.length)) (spend s).2
      if k ≠ 2 ∨ q.2.e ≠ 0 then (.mk b k i q.1, q.2)
      else match find l i with
        | none => (.mk b k i q.1, q.2)
        | some u => replaced (.mk b k i q.1) (lift (wr (ins + b.length)) u 0) q.2
def throughs (l : List Pair) : List Tm → Int → Nm.St → List Tm × Nm.St
  | [], _, s => ([], s)
  | t :: r, ins, s => ((through l t ins s).1 :: (throughs l r ins (through l t ins s).2).1, (throughs l r ins (through l t ins s).2).2)
end
theorem throughs_seq (l : List Pair) (a : List Tm) (ins : Int) (s : Nm.St) : throughs l a ins s = seqM (fun t s => through l t ins s) a s := by
  induction a generalizing s with
  | nil => rfl
  | cons t a ih => rw [throughs, ih]; rfl
def apply (l : List Pair) (t : Tm) (left : Int) (dry : Bool) : Tm × Nm.St :=
  if right l = false then (tz, ⟨left, dry, 0, 1⟩)
  else
    let r := through l t 0 ⟨left, dry, 0, 0⟩
    let s := if r.2.e = 0 ∧ ¬ (r.1.size ≤ 5000 ∧ r.1.depth ≤ 60) then { r.2 with e := 2 } else r.2
    if s.e ≠ 0 then (tz, s) else (r.1, s)

def kA : Ty := .mk [] 0
def kC (l : List Tm) : Tm := .mk [] 1 1 l
def kX (l : List Tm) : Tm := .mk [] 2 0 l
def kZ : Tm := .mk [] 1 0 []
def kF : Tm := .mk [kA] 1 1 [.mk [] 0 0 []]
theorem known_is : (apply [(0, kF)] (kX [kX [kZ]]) 20 false).1 = kC [kC [kZ]] := by kernel_rfl
theorem known_ok : (apply [(0, kF)] (kX [kX [kZ]]) 20 false).2.e = 0 := by kernel_rfl
end Sb
end Go.Proofs.YtiblklcfjakjmaaGreat

namespace Go.Proofs.YtiblklcfjakjmaaGreat
open Go.RowKit

theorem load64 (w : World) (b o : Nat) (x : Int) (hc : w.cell? ⟨b, o, none⟩ = some (.int .i64 x)) :
    Calls Tryz.prog 161 #[.pointer (some ⟨b, o, none⟩)] w fun e w' => e = .returned (.int .i64 x) ∧ w' = w := by
  have hl := run_call_load (P := Tryz.prog) Tryz.func180 (by kernel_rfl) (by kernel_rfl) (by kernel_rfl) .i64 (by kernel_rfl) hc
  go_enter Tryz.func161, Tryz.ntmps161
  go_wp2_with fail
  go_ret
  exact ⟨rfl, rfl⟩
theorem store64 (w : World) (b o : Nat) (x y : Int) (hc : w.cell? ⟨b, o, none⟩ = some (.int .i64 x)) (hf : w.frozen? ⟨b, o, none⟩ = false) :
    Calls Tryz.prog 86 #[.pointer (some ⟨b, o, none⟩), .int .i64 y] w fun e w' => e = .returned (.tuple #[]) ∧ w' = w.setCell ⟨b, o, none⟩ (.int .i64 y) := by
  have hs := run_call_store (P := Tryz.prog) Tryz.func120 (by kernel_rfl) (by kernel_rfl) (by kernel_rfl) (by kernel_rfl) (k := .i64) (y := y) hc hf
  go_enter Tryz.func86, Tryz.ntmps86
  go_wp2_with fail
  go_end0
  exact ⟨rfl, rfl⟩
theorem add64 (w : World) (b o : Nat) (x y : Int) (hc : w.cell? ⟨b, o, none⟩ = some (.int .i64 x)) (hf : w.frozen? ⟨b, o, none⟩ = false) :
    Calls Tryz.prog 162 #[.pointer (some ⟨b, o, none⟩), .int .i64 y] w fun e w' => (∃ r, e = .returned (.int .i64 r)) ∧ w' = w.setCell ⟨b, o, none⟩ (.int .i64 (IntKind.i64.wrap (x + y))) := by
  have hs := run_call_add (P := Tryz.prog) Tryz.func181 (by kernel_rfl) (by kernel_rfl) (by kernel_rfl) .i64 (by kernel_rfl) (y := y) (s := IntKind.i64.wrap (x + y)) hc hf (by simp [go_sem])
  go_enter Tryz.func162, Tryz.ntmps162
  go_wp2_with fail
  go_ret
  exact ⟨⟨_, rfl⟩, by rw [IntWalk.i64_left]⟩
theorem loadB (w : World) (b o : Nat) (x : Int) (hc : w.cell? ⟨b, o, none⟩ = some (.int .u32 x)) :
    Calls Tryz.prog 160 #[.pointer (some ⟨b, o, none⟩)] w fun e w' => e = .returned (.bool (x != 0)) ∧ w' = w := by
  have hl := run_call_load (P := Tryz.prog) Tryz.func179 (by kernel_rfl) (by kernel_rfl) (by kernel_rfl) .u32 (by kernel_rfl) hc
  go_enter Tryz.func160, Tryz.ntmps160
  go_wp2_with fail
  go_ret
  exact ⟨rfl, rfl⟩

def bi (d : Bool) : Int := if d = true then 1 else 0
def budC (left used : Int) (dry : Bool) : Array Value := #[.int .i64 left, .int .i64 used, .int .u32 (bi dry), .int .i32 0, .int .u32 0, .int .u32 (bi dry)]
def BudAt (w : World) (b : Nat) (left : Int) (dry : Bool) : Prop := ∃ used, Blk w b (budC left used dry) 158

theorem new_b (w : World) (n : Int) (h0 : 0 ≤ n) : Calls Tryz.prog 42 #[.int .i64 n] w fun e w' => e = .returned (.pointer (some ⟨w.heap.size, 0, none⟩)) ∧ BudAt w' w.heap.size n false ∧ Below w.heap.size w w' := by
  have z0 := Blk.new w (budC 0 0 false) 158 rfl
  go_enter Tryz.func42, Tryz.ntmps42
  go_wp2_with fail
  have hmx : max n 0 = n := by omega
  try simp only [hmx]
  refine (store64 _ _ _ 0 n (z0.cell rfl) (z0.free 0)).mono ?_
  rintro e w' ⟨rfl, rfl⟩
  go_wp2_with fail
  go_ret
  exact ⟨rfl, ⟨0, Blk.new w (budC n 0 false) 158 rfl⟩, (Below.refl _ _).alloc (Nat.le_refl _) _⟩
theorem left_b {w : World} {b : Nat} {left : Int} {dry : Bool} (h : BudAt w b left dry) : Calls Tryz.prog 138 #[.pointer (some ⟨b, 0, none⟩)] w fun e w' => e = .returned (.int .i64 left) ∧ w' = w := by
  obtain ⟨used, h⟩ := h
  have hcon := load64 w b 0 left (h.cell rfl)
  go_enter Tryz.func138, Tryz.ntmps138
  go_wp2_with fail
  refine hcon.mono ?_
  rintro e w' ⟨rfl, rfl⟩
  go_wp2_with fail
  go_ret
  exact ⟨rfl, rfl⟩
theorem dry_b {w : World} {b : Nat} {left : Int} {dry : Bool} (h : BudAt w b left dry) : Calls Tryz.prog 137 #[.pointer (some ⟨b, 0, none⟩)] w fun e w' => e = .returned (.bool dry) ∧ w' = w := by
  obtain ⟨used, h⟩ := h
  have hcon := loadB w b 5 (bi dry) (h.cell rfl)
  have hd : (bi dry != 0) = dry := by cases dry <;> rfl
  rw [hd] at hcon
  go_enter Tryz.func137, Tryz.ntmps137
  go_wp2_with fail
  refine hcon.mono ?_
  rintro e w' ⟨rfl, rfl⟩
  go_wp2_with fail
  go_ret
  exact ⟨rfl, rfl⟩
theorem take_b {w : World} {b : Nat} {left : Int} {dry : Bool} (h : BudAt w b left dry) (n : Int) (h0 : 0 ≤ n) (h1 : n ≤ left) (h2 : left ≤ 1000000000) : Calls Tryz.prog 139 #[.pointer (some ⟨b, 0, none⟩), .int .i64 n] w fun e w' => e = .returned (.tuple #[]) ∧ BudAt w' b (left - n) dry ∧ (∀ B, B ≤ b → Below B w w') ∧ ∀ k, k ≠ b → w'.heap[k]? = w.heap[k]? := by
  obtain ⟨used, h⟩ := h
  have hn : IntKind.i64.wrap (-n) = -n := IntWalk.i64_in _ (by omega)
  have hl : IntKind.i64.wrap (left + -n) = left - n := by rw [IntWalk.i64_in _ (by omega)]; omega
  have hcon := add64 w b 0 left (-n) (h.cell rfl) (h.free 0)
  rw [hl] at hcon
  have h' := h.set 0 (.int .i64 (left - n))
  have hcon2 := add64 _ b 1 used n (h'.cell rfl) (h'.free 1)
  have h'' := h'.set 1 (.int .i64 (IntKind.i64.wrap (used + n)))
  clear hl
  go_enter Tryz.func139, Tryz.ntmps139
  go_wp2_with fail
  refine hcon.mono ?_
  rintro e w' ⟨⟨r, rfl⟩, rfl⟩
  go_wp2_with fail
  refine hcon2.mono ?_
  rintro e w' ⟨⟨r2, rfl⟩, rfl⟩
  go_wp2_with fail
  go_end0
  exact ⟨rfl, ⟨_, h''⟩, fun B hB => ((Below.refl B w).setCell (p := ⟨b, 0, none⟩) hB _).setCell (p := ⟨b, 1, none⟩) hB _, fun k hk => (Below.heap_setCell _ ⟨b, 1, none⟩ _ _ hk).trans (Below.heap_setCell _ ⟨b, 0, none⟩ _ _ hk)⟩
end Go.Proofs.YtiblklcfjakjmaaGreat

