/-
  The reference's Looses, Loose, Up and Shift. What the members of a gathering yield: a list of standard shapes.
-/
import Derived.Test.YtejpgifofkiofaaRowParts6p19
import Derived.Test.YtejpgifofkiofaaRowParts6p33
import Derived.Test.YtejpgifofkiofaaRowParts6p15
import Derived.Test.YtejpgifofkiofaaRowParts6p10
import Derived.Test.YtejpgifofkiofaaRowParts6p28
set_option linter.unusedVariables false
set_option linter.unusedSimpArgs false
namespace Go.Proofs.Ytejpgifofkiofaa
open Go.RowKit

theorem Tm.loosess_le_of {l : List Tm} (h : ∀ t ∈ l, ∀ n, 0 ≤ n → ∀ x ∈ t.looses n, x ≤ 9223372036854775807) : ∀ n, 0 ≤ n → ∀ x ∈ Tm.loosess l n, x ≤ 9223372036854775807 := by
  induction l with
  | nil => intro n _ x hx; simp [loosess] at hx
  | cons t l ih =>
    intro n hn x hx
    simp only [loosess, List.mem_append] at hx
    rcases hx with hx | hx
    · exact h t (by simp) n hn x hx
    · exact ih (fun u hu => h u (by simp [hu])) n hn x hx
theorem Tm.looses_le (t : Tm) : t.Fit → ∀ n, 0 ≤ n → ∀ x ∈ t.looses n, x ≤ 9223372036854775807 := by
  induction t using Tm.ind with
  | h b k i a ih =>
    intro hf n hn x hx
    obtain ⟨_, h1, h2⟩ := Tm.fit_iff.1 hf
    rw [Tm.looses_eq b k i a n _ rfl] at hx
    rcases List.mem_append.1 hx with hx | hx
    · split at hx
      · simp at hx; omega
      · simp at hx
    · exact Tm.loosess_le_of (fun t ht => ih t ht (h2 t ht)) _ (by omega) x hx

theorem FreshInts.up {l : List Int} {w w0 : World} {o : Obj} {e : Ending} {w' : World} (h : FreshInts l (w.alloc o) e w') (h0 : w0 = w) : FreshInts l w0 e w' := by
  subst h0
  obtain ⟨a, c, rfl, hr, hb⟩ := h
  exact ⟨a, c, rfl, hr.weaken (by decide) (fun q _ hq => by simp at hq; omega), ((Below.refl _ _).alloc (Nat.le_refl _) _).trans (hb.mono (by simp))⟩

theorem Looses_r {F : Nat → Prop} {w0 : World} {b k i a : Value} {t : Tm} (ht : IsTm F w0 b k i a t) (w : World) (hw : Keep F w0 w) (hsz : t.full ≤ 90000) (hfit : t.Fit) :
    Calls Try.prog 93 #[.agg #[b, k, i, a]] w (FreshInts (t.looses 0) w) := by
  have H := fun w1 hk => looses_r t _ _ _ _ _ _ ht 0 w1 hk (by omega) (by omega) hfit
  clear ht
  go_enter Try.func93, Try.ntmps93
  go_wp2_with fail
  refine (H _ (hw.alloc _)).mono ?_
  intro e w1 h
  obtain ⟨ra, rc, rfl, hr, hb⟩ := h.up rfl
  clear h H
  go_wp2_with fail
  go_ret
  exact ⟨ra, rc, rfl, hr, hb⟩

theorem Up_r {F : Nat → Prop} {w0 : World} {b k i a : Value} {t : Tm} (ht : IsTm F w0 b k i a t) (w : World) (hw : Keep F w0 w) (y f : Int) (hsz : t.full ≤ 90000) (hfit : t.Fit) (hok : ∀ x ∈ t.looses 0, f ≤ x → 0 ≤ x + y ∧ x + y ≤ 1000) :
    Calls Try.prog 94 #[.agg #[b, k, i, a], .int .i64 y, .int .i64 f] w (AnyTm F (t.mapl (grow y f) 0) w) := by
  have H := fun w1 hk => up_r y f t _ _ _ _ _ _ ((ht.keep hw).weaken (F' := fun q => F q ∧ q < w.heap.size) (fun q h1 h2 => ⟨h2, h1⟩)) 0 w1 hk (by omega) (by omega) hfit hok
  clear ht
  go_enter Try.func94, Try.ntmps94
  go_wp2_with fail
  refine (H _ (((Keep.refl _ _).alloc _).alloc _)).mono ?_
  rintro e w1 ⟨b', k', i', a', rfl, hr, hb⟩
  have Hr := Lib.hid (hr.weaken (F' := fun q => (F q ∧ q < w.heap.size) ∨ w.heap.size + 2 ≤ q) (fun q _ h => h.imp id (fun h => by simp at h; omega))); clear hr
  have hres : Blk w1 (w.heap.size + 1) #[.slice none 0 0, .int .i64 0, .int .i64 0, .slice none 0 0] 29 := Blk.below (Blk.new _ _ _ (by simp)) hb
  have hB : Below w.heap.size w w1 := (((Below.refl _ _).alloc (Nat.le_refl _) _).alloc (by simp) _).trans (hb.mono (by simp; omega))
  clear hb H
  have r0 : w1.cell? ⟨w.heap.size + 1, 0, none⟩ = some (.slice none 0 0) := hres.cell rfl
  have r1 : w1.cell? ⟨w.heap.size + 1, 1, none⟩ = some (.int .i64 0) := hres.cell rfl
  have r2 : w1.cell? ⟨w.heap.size + 1, 2, none⟩ = some (.int .i64 0) := hres.cell rfl
  have r3 : w1.cell? ⟨w.heap.size + 1, 3, none⟩ = some (.slice none 0 0) := hres.cell rfl
  have f0 := hres.free 0
  have f1 := hres.free 1
  have f2 := hres.free 2
  have f3 := hres.free 3
  obtain ⟨pa, pc, qa, qc, rfl, rfl, rfl, rfl⟩ := Hr.out.shape
  go_wp2_with fail
  refine bodyPost_ret (v := .agg #[(.slice pa (t.mapl (grow y f) 0).binds.length pc), (.int .i64 (t.mapl (grow y f) 0).kind), (.int .i64 (t.mapl (grow y f) 0).index), (.slice qa (t.mapl (grow y f) 0).args.length qc)]) (by simp [results, Try.results94, go_sem, r0, r1, r2, r3]) rfl ?_
  refine ⟨_, _, _, _, rfl, ?_, (((hB.setCell (by simp <;> omega) _).setCell (by simp <;> omega) _).setCell (by simp <;> omega) _).setCell (by simp <;> omega) _⟩
  have KR := (((((Keep.refl (fun q => (F q ∧ q < w.heap.size) ∨ w.heap.size + 2 ≤ q) w1).setCell ⟨w.heap.size + 1, 0, none⟩ (.slice pa (t.mapl (grow y f) 0).binds.length pc) (by simp <;> omega)).setCell ⟨w.heap.size + 1, 1, none⟩ (.int .i64 (t.mapl (grow y f) 0).kind) (by simp <;> omega)).setCell ⟨w.heap.size + 1, 2, none⟩ (.int .i64 (t.mapl (grow y f) 0).index) (by simp <;> omega)).setCell ⟨w.heap.size + 1, 3, none⟩ (.slice qa (t.mapl (grow y f) 0).args.length qc) (by simp <;> omega))
  exact (Hr.out.keep KR).weaken fun q _ h => h.imp And.left (fun h => by omega)

theorem ints_cells {F : Nat → Prop} {w : World} {a : Option Addr} {n c : Nat} {l : List Int} (h : IsSl rpInt F w (.slice a n c) l) : n = l.length ∧ (l.length ≤ maxLen ∧ l.length ≤ c) ∧ ∃ (bl off : Nat),
    (0 < l.length → a = some ⟨bl, off, none⟩ ∧ F bl) ∧ ∀ j (hj : j < l.length), w.cell? ⟨bl, off + j, none⟩ = some (.int .i64 l[j]) := by
  obtain ⟨a', c', bl, off, Y, hv, hm, ha, h1, h2⟩ := h
  cases hv
  refine ⟨rfl, hm, bl, off, ha, fun j hj => ?_⟩
  have hy : Y j = [.int .i64 l[j]] := h2 j hj
  have := h1 j 0 (.int .i64 l[j]) hj (by rw [hy]; rfl)
  simpa [rpInt] using this

def looseOf (l : List Int) : Int := l.foldl (fun n x => if (if x > 1000 then 1000 else x) + 1 > n then (if x > 1000 then 1000 else x) + 1 else n) 0
theorem looseOf_range (l : List Int) (h : ∀ x ∈ l, 0 ≤ x) : 0 ≤ looseOf l ∧ looseOf l ≤ 1001 := by
  unfold looseOf
  suffices H : ∀ (n : Int), 0 ≤ n → n ≤ 1001 → 0 ≤ l.foldl (fun n x => if (if x > 1000 then 1000 else x) + 1 > n then (if x > 1000 then 1000 else x) + 1 else n) n ∧ l.foldl (fun n x => if (if x > 1000 then 1000 else x) + 1 > n then (if x > 1000 then 1000 else x) + 1 else n) n ≤ 1001 from H 0 (by omega) (by omega)
  induction l with
  | nil => intro n h0 h1; exact ⟨h0, h1⟩
  | cons x l ih =>
    intro n h0 h1
    rw [List.foldl_cons]
    have hx := h x (by simp)
    exact ih (fun y hy => h y (by simp [hy])) _ (by split <;> split <;> omega) (by split <;> split <;> omega)
theorem looseOf_take (l : List Int) (j : Nat) (h : j < l.length) : looseOf (l.take (j + 1)) = if (if l[j] > 1000 then 1000 else l[j]) + 1 > looseOf (l.take j) then (if l[j] > 1000 then 1000 else l[j]) + 1 else looseOf (l.take j) := by
  rw [List.take_succ_eq_append_getElem h]
  unfold looseOf
  rw [List.foldl_append]
  rfl

set_option maxRecDepth 100000 in
theorem Loose_r {F : Nat → Prop} {w0 : World} {b k i a : Value} {t : Tm} (ht : IsTm F w0 b k i a t) (w : World) (hw : Keep F w0 w) (hsz : t.full ≤ 90000) (hfit : t.Fit) :
    Calls Try.prog 29 #[.agg #[b, k, i, a]] w (fun e w' => e = .returned (.int .i64 (looseOf (t.looses 0))) ∧ Below w.heap.size w w') := by
  have H := fun w1 hk => Looses_r ht w1 hk hsz hfit
  have hnn := Tm.looses_nonneg t 0
  obtain ⟨l, hl⟩ : ∃ l, t.looses 0 = l := ⟨_, rfl⟩
  rw [hl] at H hnn ⊢
  have hlen : l.length ≤ 90000 := by rw [← hl]; have := Tm.looses_len t 0; omega
  clear ht hl
  go_enter Try.func29, Try.ntmps29
  go_wp2_with fail
  refine (H _ (hw.alloc _)).mono ?_
  intro e w1 h
  obtain ⟨ra, rc, rfl, hr, hb⟩ := h.up rfl
  clear h
  obtain ⟨_, hm, bl, off, ha, h1⟩ := ints_cells hr
  clear hr H
  go_wp2_with fail
  go_loopw [3, 5] (fun nn ii wr => ∃ (j : Nat), ii = .int .i64 j ∧ nn = .int .i64 (looseOf (l.take j)) ∧ j ≤ l.length ∧ wr = w1) (fun _ ii _ => l.length - (intOf ii).toNat)
  case atStart => exact ⟨0, rfl, rfl, by omega, rfl⟩
  case round =>
    obtain ⟨j, rfl, hn, hj, rfl⟩ := hrel
    have hj0 : (0 : Int) ≤ (j : Int) := Int.natCast_nonneg _
    obtain ⟨g1, g2⟩ := looseOf_range (l.take j) (fun x hx => hnn x (List.mem_of_mem_take hx))
    obtain ⟨N, hN⟩ : ∃ N, looseOf (l.take j) = N := ⟨_, rfl⟩
    by_cases hlt : j < l.length
    · have hj1 : (j : Int) < (l.length : Int) := by omega
      obtain ⟨rfl, hF⟩ := ha (by omega)
      have e1 := h1 j hlt
      have htk := Lib.hid (looseOf_take l j hlt)
      have hx0 := hnn _ (List.getElem_mem hlt)
      obtain ⟨x, hx⟩ : ∃ x, l[j] = x := ⟨_, rfl⟩
      rw [hN] at hn g1 g2 htk
      rw [hx] at e1 htk hx0
      subst hn
      have hq1 : IntKind.i64.wrap (1000 + 1) = 1001 := by rfl
      by_cases hb1 : x > 1000
      · by_cases hb2 : (1001 : Int) > N
        · go_wp2_with fail
          exact ⟨⟨j + 1, by go_num, by rw [htk.out, if_pos hb1, if_pos (by omega)]; rfl, by omega, trivial⟩, by simp [intOf]; omega⟩
        · go_wp2_with fail
          exact ⟨⟨j + 1, by go_num, by rw [htk.out, if_pos hb1, if_neg (by omega)], by omega, trivial⟩, by simp [intOf]; omega⟩
      · have hq2 : IntKind.i64.wrap (x + 1) = x + 1 := IntWalk.i64_in _ (by omega)
        by_cases hb2 : x + 1 > N
        · go_wp2_with fail
          exact ⟨⟨j + 1, by go_num, by rw [htk.out, if_neg hb1, if_pos (by omega)], by omega, trivial⟩, by simp [intOf]; omega⟩
        · go_wp2_with fail
          exact ⟨⟨j + 1, by go_num, by rw [htk.out, if_neg hb1, if_neg (by omega)], by omega, trivial⟩, by simp [intOf]; omega⟩
    · go_wp2_with fail
      go_ret
      rw [List.take_of_length_le (by omega)] at hn
      exact ⟨by rw [hn]; rfl, hb⟩

def ShiftPostR (F : Nat → Prop) (p : Tm × Int) (w : World) (e : Ending) (w' : World) : Prop := ∃ b k i a, e = .returned (.tuple #[.agg #[b, k, i, a], .int .i64 p.2]) ∧ IsTm (fun q => F q ∨ w.heap.size ≤ q) w' b k i a p.1 ∧ Below w.heap.size w w'

set_option maxRecDepth 100000 in
set_option maxHeartbeats 1000000 in
theorem Shift_r {F : Nat → Prop} {w0 : World} {b k i a : Value} {t : Tm} (ht : IsTm F w0 b k i a t) (w : World) (hw : Keep F w0 w) (y f : Int) (hsz : t.full ≤ 90000) (hfit : t.Fit)
    (hy : -9223372036854775808 ≤ y ∧ y ≤ 9223372036854775807) (hf : -9223372036854775808 ≤ f ∧ f ≤ 9223372036854775807) :
    Calls Try.prog 28 #[.agg #[b, k, i, a], .int .i64 y, .int .i64 f] w (ShiftPostR F (t.shift y f) w) := by
  obtain ⟨PP, hPP⟩ : ∃ PP, t.shift y f = PP := ⟨_, rfl⟩
  rw [hPP]
  by_cases hfn : f < 0
  · have HP : Hid (PP = (Tm.zero, 1)) := by show _ = _; rw [← hPP, Tm.shift, if_pos hfn]
    clear hPP
    go_enter Try.func28, Try.ntmps28
    go_wp2_with fail
    have hres := Blk.new (w.alloc (.cells #[b, k, i, a] 29)) #[.slice none 0 0, .int .i64 0, .int .i64 0, .slice none 0 0] 29 (n := w.heap.size + 1) (by simp)
    obtain ⟨w2, hw2⟩ : ∃ w2, (w.alloc (.cells #[b, k, i, a] 29)).alloc (.cells #[.slice none 0 0, .int .i64 0, .int .i64 0, .slice none 0 0] 29) = w2 := ⟨_, rfl⟩
    have hB : Below w.heap.size w w2 := by rw [← hw2]; exact ((Below.refl _ _).alloc (Nat.le_refl _) _).alloc (by simp) _
    rw [hw2] at hres ⊢
    clear hw2
    have r0 : w2.cell? ⟨w.heap.size + 1, 0, none⟩ = some (.slice none 0 0) := hres.cell rfl
    have r1 : w2.cell? ⟨w.heap.size + 1, 1, none⟩ = some (.int .i64 0) := hres.cell rfl
    have r2 : w2.cell? ⟨w.heap.size + 1, 2, none⟩ = some (.int .i64 0) := hres.cell rfl
    have r3 : w2.cell? ⟨w.heap.size + 1, 3, none⟩ = some (.slice none 0 0) := hres.cell rfl
    have f0 := hres.free 0
    have f1 := hres.free 1
    have f2 := hres.free 2
    have f3 := hres.free 3
    refine bodyPost_ret (v := .tuple #[.agg #[.slice none 0 0, .int .i64 0, .int .i64 0, .slice none 0 0], .int .i64 1]) (by simp [results, Try.results28, go_sem, r0, r1, r2, r3]) rfl ?_
    rw [HP.out]
    exact ⟨_, _, _, _, rfl, isTm_zero _ _, hB⟩
  · have H := fun w1 hk => Looses_r ht w1 hk hsz hfit
    have HU := fun w1 hk h => Up_r (ht.keep hw |>.weaken (F' := fun q => F q ∧ q < w.heap.size) (fun q h1 h2 => ⟨h2, h1⟩)) w1 hk y f hsz hfit h
    have hnn := Tm.looses_nonneg t 0
    have hmx := Tm.looses_le t hfit 0 (by omega)
    obtain ⟨l, hl⟩ : ∃ l, t.looses 0 = l := ⟨_, rfl⟩
    rw [hl] at H HU hnn hmx
    have HPP : Hid (PP = if shiftCode y f l = 0 then (t.mapl (grow y f) 0, 0) else (Tm.zero, shiftCode y f l)) := by show _ = _; rw [← hPP, Tm.shift, if_neg hfn, hl]
    have hlen : l.length ≤ 90000 := by rw [← hl]; have := Tm.looses_len t 0; omega
    obtain ⟨T, hT⟩ : ∃ T, t.mapl (grow y f) 0 = T := ⟨_, rfl⟩
    rw [hT] at HPP HU
    clear ht hl hPP hT
    go_enter Try.func28, Try.ntmps28
    go_wp2_with fail
    refine (H _ ((hw.alloc _).alloc _)).mono ?_
    intro e w1 h
    obtain ⟨ra, rc, rfl, hr, hb⟩ := h
    obtain ⟨_, hm, bl, off, ha, h1⟩ := ints_cells hr
    have hres : Blk w1 (w.heap.size + 1) #[.slice none 0 0, .int .i64 0, .int .i64 0, .slice none 0 0] 29 := Blk.below (Blk.new _ _ _ (by simp)) hb
    have hbox : Blk w1 w.heap.size #[b, k, i, a] 29 := Blk.below ((Blk.new _ _ _ rfl).alloc _) hb
    have hB : Below w.heap.size w w1 := (((Below.refl _ _).alloc (Nat.le_refl _) _).alloc (by simp) _).trans (hb.mono (by simp; omega))
    clear hr H hb hw
    go_wp2_with fail
    go_loopw [9, 10] (fun gg ii wr => ∃ (j : Nat) (lg : Bool), ii = .int .i64 j ∧ gg = .bool lg ∧ j ≤ l.length ∧ wr = w1 ∧ (∀ x ∈ l.take j, ¬ argBad y f x) ∧ (lg = true ↔ ∃ x ∈ l.take j, longBad y f x)) (fun _ ii _ => l.length - (intOf ii).toNat)
    case atStart => exact ⟨0, false, rfl, rfl, by omega, rfl, by simp, by simp⟩
    case round =>
      obtain ⟨j, lg, rfl, hgg, hj, rfl, hna0, hlg0⟩ := hrel
      have hgg := hgg.symm
      subst hgg
      have HA := Lib.hid hna0
      have HL := Lib.hid hlg0
      clear hna0 hlg0
      have r0 : wr.cell? ⟨w.heap.size + 1, 0, none⟩ = some (.slice none 0 0) := hres.cell rfl
      have r1 : wr.cell? ⟨w.heap.size + 1, 1, none⟩ = some (.int .i64 0) := hres.cell rfl
      have r2 : wr.cell? ⟨w.heap.size + 1, 2, none⟩ = some (.int .i64 0) := hres.cell rfl
      have r3 : wr.cell? ⟨w.heap.size + 1, 3, none⟩ = some (.slice none 0 0) := hres.cell rfl
      have f0 := hres.free 0
      have f1 := hres.free 1
      have f2 := hres.free 2
      have f3 := hres.free 3
      have hj0 : (0 : Int) ≤ (j : Int) := Int.natCast_nonneg _
      by_cases hlt : j < l.length
      · have hj1 : (j : Int) < (l.length : Int) := by omega
        obtain ⟨rfl, hF⟩ := ha (by omega)
        have e1 := h1 j hlt
        have htk := Lib.hid (List.take_succ_eq_append_getElem hlt)
        have hx0 := hnn _ (List.getElem_mem hlt)
        have hx9 := hmx _ (List.getElem_mem hlt)
        have hmem := List.getElem_mem hlt
        obtain ⟨x, hx⟩ : ∃ x, l[j] = x := ⟨_, rfl⟩
        rw [hx] at e1 htk hx0 hx9 hmem
        clear ha
        by_cases h0 : x < f
        · skip
          have hna : ¬ argBad y f x := fun h => by have := h.1; omega
          have hlb : ¬ longBad y f x := fun h => by have := h.1; omega
          have HN : Hid (lg = true ↔ ∃ x ∈ l.take (j + 1), longBad y f x) := by
            show _ ↔ _
            rw [HL.out, htk.out]
            constructor
            · rintro ⟨z, hz, h⟩; exact ⟨z, List.mem_append.2 (.inl hz), h⟩
            · rintro ⟨z, hz, h⟩
              rcases List.mem_append.1 hz with hz | hz
              · exact ⟨z, hz, h⟩
              · simp at hz; subst hz; exact absurd h hlb
          have HA2 : Hid (∀ x ∈ l.take (j + 1), ¬ argBad y f x) := by
            show ∀ _, _
            rw [htk.out]
            intro z hz
            rcases List.mem_append.1 hz with hz | hz
            · exact HA.out z hz
            · simp at hz; subst hz; exact hna
          clear hna hlb
          go_wp2_with fail
          exact ⟨⟨j + 1, lg, by go_num, by first | trivial | rfl, by omega, by first | trivial | rfl, HA2.out, HN.out⟩, by simp [intOf]; omega⟩
        · by_cases c1 : y = -9223372036854775808
          · subst c1
            have d1 : ((-9223372036854775808 : Int) == -9223372036854775808) = true := rfl
            have HP : Hid (PP = (Tm.zero, 1)) := by
              show _ = _
              have hc : shiftCode (-9223372036854775808) f l = 1 := by unfold shiftCode; rw [if_pos ⟨x, hmem, ⟨by omega, by omega, .inl rfl⟩⟩]
              rw [HPP.out, hc, if_neg (by decide)]
            go_wp2_with fail
            refine bodyPost_ret (v := .tuple #[.agg #[.slice none 0 0, .int .i64 0, .int .i64 0, .slice none 0 0], .int .i64 1]) (by simp [results, Try.results28, go_sem, r0, r1, r2, r3]) rfl ?_
            rw [HP.out]
            exact ⟨_, _, _, _, rfl, isTm_zero _ _, (((hB.setCell (by simp <;> omega) _).setCell (by simp <;> omega) _).setCell (by simp <;> omega) _).setCell (by simp <;> omega) _⟩
          · have d1 : (y == -9223372036854775808) = false := by simpa using c1
            by_cases c2 : y < 0
            · have q1 : IntKind.i64.wrap (x - f) = x - f := IntWalk.i64_in _ (by omega)
              have q2 : IntKind.i64.wrap (-y) = -y := IntWalk.i64_in _ (by omega)
              by_cases c3 : x - f < -y
              · skip
                have HP : Hid (PP = (Tm.zero, 1)) := by
                  show _ = _
                  have hc : shiftCode y f l = 1 := by unfold shiftCode; rw [if_pos ⟨x, hmem, ⟨by omega, by omega, .inr c3⟩⟩]
                  rw [HPP.out, hc, if_neg (by decide)]
                go_wp2_with fail
                refine bodyPost_ret (v := .tuple #[.agg #[.slice none 0 0, .int .i64 0, .int .i64 0, .slice none 0 0], .int .i64 1]) (by simp [results, Try.results28, go_sem, r0, r1, r2, r3]) rfl ?_
                rw [HP.out]
                exact ⟨_, _, _, _, rfl, isTm_zero _ _, (((hB.setCell (by simp <;> omega) _).setCell (by simp <;> omega) _).setCell (by simp <;> omega) _).setCell (by simp <;> omega) _⟩
              · have q3 : IntKind.i64.wrap (x + y) = x + y := IntWalk.i64_in _ (by omega)
                have d2 : ¬ y > 1000 := by omega
                have d3 : ¬ y > 0 := by omega
                have d4 : y ≤ 0 := by omega
                by_cases c4 : x + y > 1000
                · skip
                  have hna : ¬ argBad y f x := by rintro ⟨_, _, h | h⟩ <;> omega
                  have hlb : longBad y f x := ⟨by omega, by omega⟩
                  have HN : Hid (true = true ↔ ∃ x ∈ l.take (j + 1), longBad y f x) := ⟨fun _ => ⟨x, htk.out ▸ List.mem_append.2 (.inr (by simp)), hlb⟩, fun _ => rfl⟩
                  have HA2 : Hid (∀ x ∈ l.take (j + 1), ¬ argBad y f x) := by
                    show ∀ _, _
                    rw [htk.out]
                    intro z hz
                    rcases List.mem_append.1 hz with hz | hz
                    · exact HA.out z hz
                    · simp at hz; subst hz; exact hna
                  clear hna hlb
                  go_wp2_with fail
                  exact ⟨⟨j + 1, true, by go_num, by first | trivial | rfl, by omega, by first | trivial | rfl, HA2.out, HN.out⟩, by simp [intOf]; omega⟩
                · skip
                  have hna : ¬ argBad y f x := by rintro ⟨_, _, h | h⟩ <;> omega
                  have hlb : ¬ longBad y f x := by rintro ⟨_, h⟩; omega
                  have HN : Hid (lg = true ↔ ∃ x ∈ l.take (j + 1), longBad y f x) := by
                    show _ ↔ _
                    rw [HL.out, htk.out]
                    constructor
                    · rintro ⟨z, hz, h⟩; exact ⟨z, List.mem_append.2 (.inl hz), h⟩
                    · rintro ⟨z, hz, h⟩
                      rcases List.mem_append.1 hz with hz | hz
                      · exact ⟨z, hz, h⟩
                      · simp at hz; subst hz; exact absurd h hlb
                  have HA2 : Hid (∀ x ∈ l.take (j + 1), ¬ argBad y f x) := by
                    show ∀ _, _
                    rw [htk.out]
                    intro z hz
                    rcases List.mem_append.1 hz with hz | hz
                    · exact HA.out z hz
                    · simp at hz; subst hz; exact hna
                  clear hna hlb
                  go_wp2_with fail
                  exact ⟨⟨j + 1, lg, by go_num, by first | trivial | rfl, by omega, by first | trivial | rfl, HA2.out, HN.out⟩, by simp [intOf]; omega⟩
            · by_cases c3 : y > 1000
              · skip
                have hna : ¬ argBad y f x := by rintro ⟨_, h, _⟩; omega
                have hlb : longBad y f x := ⟨by omega, .inl (by omega)⟩
                have HN : Hid (true = true ↔ ∃ x ∈ l.take (j + 1), longBad y f x) := ⟨fun _ => ⟨x, htk.out ▸ List.mem_append.2 (.inr (by simp)), hlb⟩, fun _ => rfl⟩
                have HA2 : Hid (∀ x ∈ l.take (j + 1), ¬ argBad y f x) := by
                  show ∀ _, _
                  rw [htk.out]
                  intro z hz
                  rcases List.mem_append.1 hz with hz | hz
                  · exact HA.out z hz
                  · simp at hz; subst hz; exact hna
                clear hna hlb
                go_wp2_with fail
                exact ⟨⟨j + 1, true, by go_num, by first | trivial | rfl, by omega, by first | trivial | rfl, HA2.out, HN.out⟩, by simp [intOf]; omega⟩
              · by_cases c4 : y > 0
                · have q1 : IntKind.i64.wrap (1000 - y) = 1000 - y := IntWalk.i64_in _ (by omega)
                  have d4 : ¬ y ≤ 0 := by omega
                  by_cases c5 : x > 1000 - y
                  · skip
                    have hna : ¬ argBad y f x := by rintro ⟨_, h, _⟩; omega
                    have hlb : longBad y f x := ⟨by omega, by omega⟩
                    have HN : Hid (true = true ↔ ∃ x ∈ l.take (j + 1), longBad y f x) := ⟨fun _ => ⟨x, htk.out ▸ List.mem_append.2 (.inr (by simp)), hlb⟩, fun _ => rfl⟩
                    have HA2 : Hid (∀ x ∈ l.take (j + 1), ¬ argBad y f x) := by
                      show ∀ _, _
                      rw [htk.out]
                      intro z hz
                      rcases List.mem_append.1 hz with hz | hz
                      · exact HA.out z hz
                      · simp at hz; subst hz; exact hna
                    clear hna hlb
                    go_wp2_with fail
                    exact ⟨⟨j + 1, true, by go_num, by first | trivial | rfl, by omega, by first | trivial | rfl, HA2.out, HN.out⟩, by simp [intOf]; omega⟩
                  · skip
                    have hna : ¬ argBad y f x := by rintro ⟨_, h, _⟩; omega
                    have hlb : ¬ longBad y f x := by rintro ⟨_, h⟩; omega
                    have HN : Hid (lg = true ↔ ∃ x ∈ l.take (j + 1), longBad y f x) := by
                      show _ ↔ _
                      rw [HL.out, htk.out]
                      constructor
                      · rintro ⟨z, hz, h⟩; exact ⟨z, List.mem_append.2 (.inl hz), h⟩
                      · rintro ⟨z, hz, h⟩
                        rcases List.mem_append.1 hz with hz | hz
                        · exact ⟨z, hz, h⟩
                        · simp at hz; subst hz; exact absurd h hlb
                    have HA2 : Hid (∀ x ∈ l.take (j + 1), ¬ argBad y f x) := by
                      show ∀ _, _
                      rw [htk.out]
                      intro z hz
                      rcases List.mem_append.1 hz with hz | hz
                      · exact HA.out z hz
                      · simp at hz; subst hz; exact hna
                    clear hna hlb
                    go_wp2_with fail
                    exact ⟨⟨j + 1, lg, by go_num, by first | trivial | rfl, by omega, by first | trivial | rfl, HA2.out, HN.out⟩, by simp [intOf]; omega⟩
                · obtain rfl : y = 0 := by omega
                  have q1 : IntKind.i64.wrap (x + 0) = x + 0 := IntWalk.i64_in _ (by omega)
                  by_cases c5 : x > 1000
                  · skip
                    have hna : ¬ argBad 0 f x := by rintro ⟨_, h, _⟩; omega
                    have hlb : longBad 0 f x := ⟨by omega, by omega⟩
                    have HN : Hid (true = true ↔ ∃ x ∈ l.take (j + 1), longBad 0 f x) := ⟨fun _ => ⟨x, htk.out ▸ List.mem_append.2 (.inr (by simp)), hlb⟩, fun _ => rfl⟩
                    have HA2 : Hid (∀ x ∈ l.take (j + 1), ¬ argBad 0 f x) := by
                      show ∀ _, _
                      rw [htk.out]
                      intro z hz
                      rcases List.mem_append.1 hz with hz | hz
                      · exact HA.out z hz
                      · simp at hz; subst hz; exact hna
                    clear hna hlb
                    go_wp2_with fail
                    exact ⟨⟨j + 1, true, by go_num, by first | trivial | rfl, by omega, by first | trivial | rfl, HA2.out, HN.out⟩, by simp [intOf]; omega⟩
                  · skip
                    have hna : ¬ argBad 0 f x := by rintro ⟨_, h, _⟩; omega
                    have hlb : ¬ longBad 0 f x := by rintro ⟨_, h⟩; omega
                    have HN : Hid (lg = true ↔ ∃ x ∈ l.take (j + 1), longBad 0 f x) := by
                      show _ ↔ _
                      rw [HL.out, htk.out]
                      constructor
                      · rintro ⟨z, hz, h⟩; exact ⟨z, List.mem_append.2 (.inl hz), h⟩
                      · rintro ⟨z, hz, h⟩
                        rcases List.mem_append.1 hz with hz | hz
                        · exact ⟨z, hz, h⟩
                        · simp at hz; subst hz; exact absurd h hlb
                    have HA2 : Hid (∀ x ∈ l.take (j + 1), ¬ argBad 0 f x) := by
                      show ∀ _, _
                      rw [htk.out]
                      intro z hz
                      rcases List.mem_append.1 hz with hz | hz
                      · exact HA.out z hz
                      · simp at hz; subst hz; exact hna
                    clear hna hlb
                    go_wp2_with fail
                    exact ⟨⟨j + 1, lg, by go_num, by first | trivial | rfl, by omega, by first | trivial | rfl, HA2.out, HN.out⟩, by simp [intOf]; omega⟩
      · have ho := HA.out
        have hg := HL.out
        rw [List.take_of_length_le (by omega)] at ho hg
        have hE : ¬ ∃ x ∈ l, argBad y f x := fun ⟨x, h1, h2⟩ => ho x h1 h2
        by_cases hlg : lg = true
        · have HP : Hid (PP = (Tm.zero, 2)) := by
            show _ = _
            have hc : shiftCode y f l = 2 := by unfold shiftCode; rw [if_neg hE, if_pos (hg.1 hlg)]
            rw [HPP.out, hc, if_neg (by decide)]
          subst hlg
          clear ho hg hE
          go_wp2_with fail
          refine bodyPost_ret (v := .tuple #[.agg #[.slice none 0 0, .int .i64 0, .int .i64 0, .slice none 0 0], .int .i64 2]) (by simp [results, Try.results28, go_sem, r0, r1, r2, r3]) rfl ?_
          rw [HP.out]
          exact ⟨_, _, _, _, rfl, isTm_zero _ _, (((hB.setCell (by simp <;> omega) _).setCell (by simp <;> omega) _).setCell (by simp <;> omega) _).setCell (by simp <;> omega) _⟩
        · have hc : shiftCode y f l = 0 := by unfold shiftCode; rw [if_neg hE, if_neg (fun h => hlg (hg.2 h))]
          have HP : Hid (PP = (T, 0)) := by show _ = _; rw [HPP.out, hc, if_pos rfl]
          have hnl : ¬ ∃ x ∈ l, longBad y f x := fun h => hlg (hg.2 h)
          have HU2 := fun w1 hk => HU w1 hk (fun x hx hfx => by
            have a1 : ¬ argBad y f x := fun h => hE ⟨x, hx, h⟩
            have a2 : ¬ longBad y f x := fun h => hnl ⟨x, hx, h⟩
            unfold argBad at a1
            unfold longBad at a2
            omega)
          obtain rfl : lg = false := by simpa using hlg
          clear ho hg hE hnl HU hlg
          have hk : Keep (fun q => F q ∧ q < w.heap.size) w wr := (Keep.refl _ _).below hB
          have b0 : wr.cell? ⟨w.heap.size, 0, none⟩ = some b := hbox.cell rfl
          have b1 : wr.cell? ⟨w.heap.size, 1, none⟩ = some k := hbox.cell rfl
          have b2 : wr.cell? ⟨w.heap.size, 2, none⟩ = some i := hbox.cell rfl
          have b3 : wr.cell? ⟨w.heap.size, 3, none⟩ = some a := hbox.cell rfl
          go_wp2_with fail
          refine (HU2 wr hk).mono ?_
          rintro e w3 ⟨b', k', i', a', rfl, hr, hb⟩
          have hlt2 := hres.lt
          have Hr := Lib.hid (hr.weaken (F' := fun q => (F q ∧ q < w.heap.size) ∨ w.heap.size + 2 ≤ q) (fun q _ h => h.imp id (fun h => by omega))); clear hr
          have hres3 := hres.below hb
          have hB3 := hB.trans (hb.mono hB.size)
          clear hres hB hb r0 r1 r2 r3 f0 f1 f2 f3 b0 b1 b2 b3 hbox HU2 hk
          have hres := hres3
          clear hres3
          have r0 : w3.cell? ⟨w.heap.size + 1, 0, none⟩ = some (.slice none 0 0) := hres.cell rfl
          have r1 : w3.cell? ⟨w.heap.size + 1, 1, none⟩ = some (.int .i64 0) := hres.cell rfl
          have r2 : w3.cell? ⟨w.heap.size + 1, 2, none⟩ = some (.int .i64 0) := hres.cell rfl
          have r3 : w3.cell? ⟨w.heap.size + 1, 3, none⟩ = some (.slice none 0 0) := hres.cell rfl
          have f0 := hres.free 0
          have f1 := hres.free 1
          have f2 := hres.free 2
          have f3 := hres.free 3
          obtain ⟨pa, pc, qa, qc, rfl, rfl, rfl, rfl⟩ := Hr.out.shape
          go_wp2_with fail
          refine bodyPost_ret (v := .tuple #[.agg #[.slice pa T.binds.length pc, .int .i64 T.kind, .int .i64 T.index, .slice qa T.args.length qc], .int .i64 0]) (by simp [results, Try.results28, go_sem, r0, r1, r2, r3]) rfl ?_
          rw [HP.out]
          refine ⟨_, _, _, _, rfl, ?_, (((hB3.setCell (by simp <;> omega) _).setCell (by simp <;> omega) _).setCell (by simp <;> omega) _).setCell (by simp <;> omega) _⟩
          have KR := (((((Keep.refl (fun q => (F q ∧ q < w.heap.size) ∨ w.heap.size + 2 ≤ q) w3).setCell ⟨w.heap.size + 1, 0, none⟩ (.slice pa T.binds.length pc) (by simp <;> omega)).setCell ⟨w.heap.size + 1, 1, none⟩ (.int .i64 T.kind) (by simp <;> omega)).setCell ⟨w.heap.size + 1, 2, none⟩ (.int .i64 T.index) (by simp <;> omega)).setCell ⟨w.heap.size + 1, 3, none⟩ (.slice qa T.args.length qc) (by simp <;> omega))
          exact (Hr.out.keep KR).weaken fun q _ h => h.imp And.left (fun h => by omega)
end Go.Proofs.Ytejpgifofkiofaa

namespace Go.Proofs.Ytejpgifofkiofaa
open Go.RowKit

structure Phi where
  P : Value → Nat → Nat → World → Prop
  up : ∀ {v x y w w'}, P v x y w → Below w.heap.size w w' → P v x y w'
def PhiL (l : List (Nat × Phi)) (j : Nat) (v : Value) (x y : Nat) (w : World) : Prop := ∃ p, l.find? (fun p => p.1 == j) = some p ∧ p.2.P v x y w
theorem phiL_below {l : List (Nat × Phi)} : ∀ j v x y w w', PhiL l j v x y w → Below w.heap.size w w' → PhiL l j v x y w' := fun _ _ _ _ _ _ ⟨p, h1, h2⟩ hb => ⟨p, h1, p.2.up h2 hb⟩
theorem phiL_at {l : List (Nat × Phi)} {j : Nat} {p : Nat × Phi} {v : Value} {x y : Nat} {w : World} (h : l.find? (fun p => p.1 == j) = some p) (hp : PhiL l j v x y w) : p.2.P v x y w := by
  obtain ⟨q, h1, h2⟩ := hp
  rw [h] at h1; cases h1; exact h2
theorem phiL_mk {l : List (Nat × Phi)} {j : Nat} {p : Nat × Phi} {v : Value} {x y : Nat} {w : World} (h : l.find? (fun p => p.1 == j) = some p) (hp : p.2.P v x y w) : PhiL l j v x y w := ⟨p, h, hp⟩
def phiTm (t : Tm) : Phi := ⟨fun v x y w => ∃ b k i a, v = .agg #[b, k, i, a] ∧ IsTm (fun q => x ≤ q ∧ q < y) w b k i a t, fun ⟨b, k, i, a, e, h⟩ hb => ⟨b, k, i, a, e, h.bel hb⟩⟩
def phiBlk (cs : Array Value) (T : TypeId) : Phi := ⟨fun v x y w => v = .pointer (some ⟨x, 0, none⟩) ∧ x < y ∧ Blk w x cs T, fun ⟨e, h1, h2⟩ hb => ⟨e, h1, h2.below hb⟩⟩
def phiLit (cs : Array Value) (T : TypeId) (n : Nat) : Phi := ⟨fun v x y w => v = .slice (some ⟨x, 0, none⟩) n n ∧ x < y ∧ Blk w x cs T, fun ⟨e, h1, h2⟩ hb => ⟨e, h1, h2.below hb⟩⟩
def phiTy (t : Ty) : Phi := ⟨fun v x y w => ∃ s b, v = .agg #[s, b] ∧ IsTy (fun q => x ≤ q ∧ q < y) w s b t, fun ⟨s, b, e, h⟩ hb => ⟨s, b, e, h.bel hb⟩⟩
def phiSl {α : Type} (r : Rp α) (l : List α) : Phi := ⟨fun v x y w => ∃ a c, v = .slice a l.length c ∧ IsSl r (fun q => x ≤ q ∧ q < y) w (.slice a l.length c) l, fun ⟨a, c, e, h⟩ hb => ⟨a, c, e, h.keep ((Keep.refl _ _).below hb)⟩⟩
def phiSl2 (r : Rp Ty) (F : Nat → Prop) (l : List Ty) : Phi := ⟨fun v x y w => ∃ a c, v = .slice a l.length c ∧ IsSl2 r (fun q => x ≤ q ∧ q < y) F w (.slice a l.length c) l, fun ⟨a, c, e, h⟩ hb => ⟨a, c, e, h.bel hb⟩⟩
def phiHead (F : Nat → Prop) (o : Option Ty) : Phi := ⟨fun v _ _ w => ∃ s b, v = .tuple #[.agg #[s, b], .bool o.isSome] ∧ IsTy F w s b (o.getD tyZ), fun ⟨s, b, e, h⟩ hb => ⟨s, b, e, h.bel hb⟩⟩
def phiTyF (F : Nat → Prop) (u : Ty) : Phi := ⟨fun v _ _ w => ∃ s b, v = .agg #[s, b] ∧ IsTy F w s b u, fun ⟨s, b, e, h⟩ hb => ⟨s, b, e, h.bel hb⟩⟩
def phiWd (b : Int) (C M : List Ty) : Phi := ⟨fun v x y w => ∃ cv mv, v = .agg #[.int .i64 b, cv, mv] ∧ IsSl rpTy (fun q => x ≤ q ∧ q < y) w cv C ∧ IsSl rpTy (fun q => x ≤ q ∧ q < y) w mv M, fun ⟨cv, mv, e, h, h'⟩ hb => ⟨cv, mv, e, h.keep ((Keep.refl _ _).below hb), h'.keep ((Keep.refl _ _).below hb)⟩⟩
def phiTup : Phi := ⟨fun v _ _ _ => ∃ a k, v = .tuple #[a, k], fun h _ => h⟩
def phiAny : Phi := ⟨fun _ _ _ _ => True, fun h _ => h⟩
def phiTyc (z : Ty) (c : Int) : Phi := ⟨fun v x y w => ∃ s b, v = .tuple #[.agg #[s, b], .int .i64 c] ∧ IsTy (fun q => x ≤ q ∧ q < y) w s b z, fun ⟨s, b, e, h⟩ hb => ⟨s, b, e, h.bel hb⟩⟩
def phiV (u : Value) : Phi := ⟨fun v _ _ _ => v = u, fun h _ => h⟩
theorem upd_self {u : Nat → Value} {k : Nat} {v : Value} (h : u k = v) : ∃ u', u = upd u' k v := ⟨u, funext fun j => by
  unfold upd
  split
  · rename_i hj; rw [hj]; exact h
  · rfl⟩
theorem isSl_one6 {w : World} {B : Nat} {E : TypeId} {b k i a : Value} {t : Tm} (hB : Blk w B #[b, k, i, a] E) (ht : IsTm (fun _ => True) w b k i a t) : IsSl rpTm (fun _ => True) w (.slice (some ⟨B, 0, none⟩) 1 1) [t] :=
  isSl_blk (r := rpTm) (l := [t]) [[b, k, i, a]] hB rfl rfl (by simp [maxLen]) (fun i hi => by
    match i, hi with
    | 0, _ => exact ⟨_, rfl, _, _, _, _, rfl, ht⟩)

end Go.Proofs.Ytejpgifofkiofaa

