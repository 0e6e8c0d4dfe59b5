/-
  The law KindEach, stepped through.
-/
import Derived.Test.YtejpgifofkiofaaRowEachp14
import Derived.Test.YtejpgifofkiofaaRowEachp18
import Derived.Test.YtejpgifofkiofaaRowEachp6
set_option linter.unusedVariables false
set_option linter.unusedSimpArgs false
namespace Go.Proofs.Ytejpgifofkiofaa
open Go.RowKit Go.Shelf
attribute [local go_sem] Oper.semAt_some

theorem keepC_own {G : Nat → TypeId → Prop} {A B B' : World} {row : Option Nat} (h : KeepC G A B) (hg : B.grownBy B' row) (hr : ∀ r, row = some r → ∃ o : Obj, B.heap[r]? = some o ∧ o.isCells = false) : KeepC G A B' :=
  ⟨Nat.le_trans h.size hg.size, fun k cs t fr hk hc => by
    have h1 := h.cells k cs t fr hk hc
    refine (hg.block k (Array.getElem?_eq_some_iff.1 h1).1 fun e => ?_).trans h1
    obtain ⟨o, ho, hc'⟩ := hr k e.symm
    rw [h1] at ho; cases ho; simp [Obj.isCells] at hc'⟩

theorem blkB {n B : Nat} {A W : World} {cs : Array Value} {t : TypeId} (h : Below n A W) (hb : Blk A B cs t) (hB : B < n) : Blk W B cs t := hb.same (h.block B hB)
theorem keepB {F : Nat → Prop} {n : Nat} {A W : World} (h : Below n A W) (hF : ∀ k, F k → k < n) : Keep F A W := fun k o _ hk hv => (h.cell (p := ⟨k, o, none⟩) (hF k hk)).trans hv
theorem prefix_snoc {α : Type} {l r : List α} {x : α} (h : l <+: r) (hl : l.length < r.length) : l ++ [x] <+: r ↔ x = r[l.length] := by
  obtain ⟨s, rfl⟩ := h
  cases s with
  | nil => simp at hl
  | cons y s => simp [List.prefix_append_right_inj, eq_comm]

set_option maxRecDepth 100000 in
set_option maxHeartbeats 16000000 in
theorem kindEach_walk {w : World} {s b : Value} {t : Ty} (ht : IsTy (fun _ => True) w s b t) (st : Int) :
    Calls Try.prog 12 #[.agg #[s, b], .int .i64 st] w fun e w' => e = .returned (.bool true) ∧ Below w.heap.size w w' := by
  refine (callsIn_wide (n := 9)).1 ?_
  obtain ⟨a, c, rfl, rfl⟩ := ht.shape
  have Ht := Lib.hid (ht.weaken (F' := fun q => q < w.heap.size) (fun k hk _ => hk)); clear ht
  obtain ⟨l2, hl2⟩ : ∃ l2, t.args.length = l2 := ⟨_, rfl⟩
  obtain ⟨b2, hb2⟩ : ∃ b2, t.base = b2 := ⟨_, rfl⟩
  rw [hl2, hb2] at Ht ⊢
  clear hl2 hb2
  refine callsIn_of_wp_marks Try.func12 rfl trivial ?_ rfl
  simp only [Try.ntmps12, List.size_toArray, List.length_cons, List.length_nil, Nat.reduceAdd, Nat.reduceSub, Array.replicate_succ, Array.replicate_zero, List.push_toArray, List.append_toArray, List.nil_append, List.cons_append]
  gi_wp2_with fail
  obtain ⟨w4, hw4⟩ : ∃ w4, ((w.alloc (.cells #[.slice a l2 c, .int .i64 b2] 26)).alloc (.cells #[.int .i64 st] 3)).alloc (.cells #[.slice a l2 c, .int .i64 b2] 26) = w4 := ⟨_, rfl⟩
  have B4 : Below w.heap.size w w4 := by rw [← hw4]; exact (((Below.refl _ _).alloc (Nat.le_refl _) _).alloc (by simp) _).alloc (by simp; omega) _
  have x1_w4 : Blk w4 w.heap.size #[.slice a l2 c, .int .i64 b2] 26 := by rw [← hw4]; exact ((Blk.new _ _ _ rfl).alloc _).alloc _
  have x2_w4 : Blk w4 (w.heap.size + 1) #[.int .i64 st] 3 := by rw [← hw4]; exact (Blk.new _ _ _ (by simp)).alloc _
  have xv : Blk w4 (w.heap.size + 1 + 1) #[.slice a l2 c, .int .i64 b2] 26 := by rw [← hw4]; exact Blk.new _ _ _ (by simp)
  try rw [hw4]
  clear hw4
  have T4 := Lib.hid (Ht.out.bel B4)
  refine ⟨trivial, (calls_wideF wide_self _ (few04 (isSl_one xv (T4.out.weaken fun _ _ _ => trivial)) (by simp))).mono ?_⟩
  clear xv
  intro e w5 h
  obtain ⟨r, hr, rfl, hbx⟩ := h
  have B5 := B4.trans (hbx.mono B4.size)
  have x1_w5 := x1_w4.below hbx
  have x2_w5 := x2_w4.below hbx
  have T5 := Lib.hid (T4.out.bel hbx)
  clear B4 x1_w4 x2_w4 T4 hbx
  cases r
  · clear hr
    gi_wp2_with fail
    refine ⟨by intros; trivial, ?_⟩
    gi_wp2_with fail
    refine ⟨trivial, (calls_wideF wide_self _ (known04 w5)).mono ?_⟩
    rintro e w6 ⟨rfl, hb6⟩
    gi_wp2_with fail
    exact ⟨_, results_tmp rfl _ _ _, rfl, B5.trans (hb6.mono B5.size)⟩
  have Hr := Lib.hid (show t.size ≤ 100 ∧ t.depth ≤ 70 by have := yes_of hr; simpa using this)
  clear hr
  gi_wp2_with fail
  refine ⟨trivial, (calls_wideF wide_self _ (known04 w5)).mono ?_⟩
  rintro e w6 ⟨rfl, hbx⟩
  have B6 := B5.trans (hbx.mono B5.size)
  have x1_w6 := x1_w5.below hbx
  have x2_w6 := x2_w5.below hbx
  have T6 := Lib.hid (T5.out.bel hbx)
  clear B5 x1_w5 x2_w5 T5 hbx
  have c0 : w6.cell? ⟨w.heap.size, 0, none⟩ = some (.slice a l2 c) := x1_w6.cell rfl
  have c1 : w6.cell? ⟨w.heap.size, 1, none⟩ = some (.int .i64 b2) := x1_w6.cell rfl
  gi_wp2_with fail
  refine ⟨trivial, (calls_wideF wide_self _ (Within_r T6.out 1 w6 (Keep.refl _ _) (Nat.le_refl _) (by have := Hr.out; omega))).mono ?_⟩
  intro e w7 h
  obtain ⟨la, lc, da, dc, rfl, hL, hD, hbx⟩ := h
  have B7 := B6.trans (hbx.mono B6.size)
  have x1_w7 := x1_w6.below hbx
  have x2_w7 := x2_w6.below hbx
  have T7 := Lib.hid (T6.out.bel hbx)
  have hw6 := B6.size
  have hq6 := x2_w6.lt
  have L8x := Lib.hid (hL.sl (F' := fun q => q < w.heap.size ∨ w6.heap.size ≤ q) (by decide) (fun _ _ h => .inr h) (fun _ _ h => .inl h.1))
  have D8x := Lib.hid (hD.weaken (F' := fun q => q < w.heap.size ∨ w6.heap.size ≤ q) (by decide) (fun _ _ h => .inr h))
  clear B6 x1_w6 x2_w6 T6 hbx hL hD c0 c1
  obtain ⟨n, hn⟩ : ∃ n, t.size = n := ⟨_, rfl⟩
  have hn1 : n ≤ 100 := by rw [← hn]; exact Hr.out.1
  have e1 : (tyL (t.pre 1)).length = n := by rw [← hn]; simp [tyL, Ty.pre_length]
  have e2 : (dpL (t.pre 1)).length = n := by rw [← hn]; simp [dpL, Ty.pre_length]
  rw [e1] at L8x ⊢
  rw [e2] at D8x ⊢
  have HLe := Lib.hid e1; have HDe := Lib.hid e2; have Hn := Lib.hid hn
  clear e1 e2 hn
  obtain ⟨q2, hq2⟩ : ∃ q, w.heap.size + 1 = q := ⟨_, rfl⟩
  rw [hq2] at x2_w7
  try rw [hq2]
  have hne1 : ¬ (w.heap.size = q2) := by omega
  have hne2 : ¬ (q2 = w.heap.size) := by omega
  have c0 : w7.cell? ⟨w.heap.size, 0, none⟩ = some (.slice a l2 c) := x1_w7.cell rfl
  have c1 : w7.cell? ⟨w.heap.size, 1, none⟩ = some (.int .i64 b2) := x1_w7.cell rfl
  have c2 : w7.cell? ⟨q2, 0, none⟩ = some (.int .i64 st) := x2_w7.cell rfl
  have f2 := x2_w7.free 0
  have hlt1 := x1_w7.lt
  have hlt2 := x2_w7.lt
  have Hq2 := Lib.hid hq2; clear hq2
  have g0 : ∀ v, (((((w7.setCell ⟨q2, 0, none⟩ v).alloc (.cells #[.slice la n lc] 24)).alloc (.cells #[.slice da n dc] 105)).alloc (.cells #[.int .i64 0] 3)).alloc (.cells #[.bool true] 4)).cell? ⟨w.heap.size, 0, none⟩ = some (.slice a l2 c) := fun v => (((((x1_w7.far ⟨q2, 0, none⟩ v hne1).alloc _).alloc _).alloc _).alloc _).cell rfl
  have g1 : ∀ v, (((((w7.setCell ⟨q2, 0, none⟩ v).alloc (.cells #[.slice la n lc] 24)).alloc (.cells #[.slice da n dc] 105)).alloc (.cells #[.int .i64 0] 3)).alloc (.cells #[.bool true] 4)).cell? ⟨w.heap.size, 1, none⟩ = some (.int .i64 b2) := fun v => (((((x1_w7.far ⟨q2, 0, none⟩ v hne1).alloc _).alloc _).alloc _).alloc _).cell rfl
  gi_wp2_with fail
  clear g0 g1 c0 c1 c2 f2
  obtain ⟨S, hS⟩ : ∃ S, wrap64 (1 + wrap64 ((IntKind.u64.wrap st).tmod 150)) = S := ⟨_, rfl⟩
  have HS : Hid (1 ≤ S) := by
    show _ ≤ _
    rw [← hS]
    have h1 : 0 ≤ IntKind.u64.wrap st := by
      unfold IntKind.wrap
      simp only [IntKind.signed, IntKind.bits, Bool.false_and, Bool.false_eq_true, if_false]
      exact Int.emod_nonneg _ (by decide)
    have h2 := Int.tmod_nonneg 150 h1
    have h3 := Int.tmod_lt_of_pos (IntKind.u64.wrap st) (show (0 : Int) < 150 by decide)
    generalize (IntKind.u64.wrap st).tmod 150 = z at *
    unfold wrap64
    omega
  rw [hS]
  clear hS
  obtain ⟨p, hp⟩ : ∃ p, w7.heap.size = p := ⟨_, rfl⟩
  obtain ⟨w8, hw8⟩ : ∃ w8, (((((w7.setCell ⟨q2, 0, none⟩ (.int .i64 S)).alloc (.cells #[.slice la n lc] 24)).alloc (.cells #[.slice da n dc] 105)).alloc (.cells #[.int .i64 0] 3)).alloc (.cells #[.bool true] 4)) = w8 := ⟨_, rfl⟩
  have hz8 : w8.heap.size = p + 4 := by rw [← hw8, ← hp]; simp
  have hq2p : q2 < p := by rw [← hp]; exact hlt2
  have h1p : w.heap.size < p := by rw [← hp]; exact hlt1
  have x1_w8 : Blk w8 w.heap.size #[.slice a l2 c, .int .i64 b2] 26 := by rw [← hw8]; exact ((((x1_w7.far ⟨q2, 0, none⟩ _ hne1).alloc _).alloc _).alloc _).alloc _
  have x2_w8 : Blk w8 q2 #[.int .i64 S] 3 := by rw [← hw8]; exact ((((x2_w7.set 0 _).alloc _).alloc _).alloc _).alloc _
  have xl_w8 : Blk w8 p #[.slice la n lc] 24 := by rw [← hw8, ← hp]; exact (((Blk.new _ _ _ (by simp)).alloc _).alloc _).alloc _
  have xd_w8 : Blk w8 (p + 1) #[.slice da n dc] 105 := by rw [← hw8, ← hp]; exact ((Blk.new _ _ _ (by simp)).alloc _).alloc _
  have xn_w8 : Blk w8 (p + 2) #[.int .i64 0] 3 := by rw [← hw8, ← hp]; exact (Blk.new _ _ _ (by simp)).alloc _
  have xo_w8 : Blk w8 (p + 3) #[.bool true] 4 := by rw [← hw8, ← hp]; exact Blk.new _ _ _ (by simp)
  rw [hw8]
  rw [hp]
  have B8 : Below w.heap.size w w8 := by
    rw [← hw8]
    exact ((((B7.setCell (p := ⟨q2, 0, none⟩) (by have := Hq2.out; simp; omega) _).alloc (by simp; exact B7.size) _).alloc (by simp; have := B7.size; omega) _).alloc (by simp; have := B7.size; omega) _).alloc (by simp; have := B7.size; omega) _
  have K78 : Keep (fun q => q < p ∧ q ≠ q2) w7 w8 := by
    rw [← hw8]; exact (((((Keep.refl _ _).setCell _ _ (fun h => h.2 rfl)).alloc _).alloc _).alloc _).alloc _
  have T8 := Lib.hid (Ht.out.bel B8)
  have hq2w := Hq2.out
  have L8 := Lib.hid ((L8x.out.weaken (F' := fun q => q < p ∧ q ≠ q2) (by decide) (fun q hq h => by rw [hp] at hq; exact ⟨hq, by omega⟩)).keep K78)
  have D8 := Lib.hid ((D8x.out.weaken (F' := fun q => q < p ∧ q ≠ q2) (by decide) (fun q hq h => by rw [hp] at hq; exact ⟨hq, by omega⟩)).keep K78)
  clear hw8 K78 x1_w7 x2_w7 T7 L8x D8x B7 hlt1 hlt2 hq2w hp
  refine ⟨trivial, (calls_wideF wide_self _ (to_any T8.out w8 (by rw [Hn.out]; omega) (Keep.refl _ _))).mono ?_⟩
  intro e w9 h
  obtain ⟨xs, xb, rfl, hX, hbx⟩ := h
  obtain ⟨xa, xc, rfl, rfl⟩ := hX.shape
  have X9 := Lib.hid (hX.weaken (F' := fun q => w8.heap.size ≤ q) (fun k hk h => h))
  clear hX
  obtain ⟨m, hm⟩ : ∃ m, t.args.length = m := ⟨_, rfl⟩
  obtain ⟨bb, hbb⟩ : ∃ m, t.base = m := ⟨_, rfl⟩
  rw [hm, hbb] at X9 ⊢
  clear hm hbb
  gi_wp2_with fail
  refine ⟨trivial, (each_k _ _ _ _ ⟨_, _, _, rfl⟩ ⟨_, rfl⟩).mono ?_⟩
  rintro e w' ⟨rfl, rfl⟩
  gi_wp2_with fail
  have hb9 : Below w8.heap.size w8 w9 := hbx
  obtain ⟨w5, hw5⟩ : ∃ w5, w9.alloc (.cells #[.slice xa m xc, .int .i64 bb] 40) = w5 := ⟨_, rfl⟩
  obtain ⟨Be, hBe⟩ : ∃ B, w9.heap.size = B := ⟨_, rfl⟩
  have hbx : Below w8.heap.size w8 w5 := by rw [← hw5]; exact hb9.alloc hb9.size _
  have ye : Blk w5 Be #[.slice xa m xc, .int .i64 bb] 40 := by rw [← hw5]; exact Blk.new _ _ _ hBe.symm
  have X5 : Hid (IsTy (fun q => p + 4 ≤ q) w5 (.slice xa m xc) (.int .i64 bb) t) := by rw [← hw5, ← hz8]; exact X9.out.keep ((Keep.refl _ _).alloc _)
  have hz5 : w5.heap.size = Be + 1 := by rw [← hw5, ← hBe]; simp
  have hz9 := hb9.size
  rw [hz8] at hz9
  rw [hBe] at hz9
  rw [hw5]
  try rw [hBe]
  clear hw5 X9 hb9
  have B5 := B8.trans (hbx.mono B8.size)
  have x1_w5 := x1_w8.below hbx
  have x2_w5 := x2_w8.below hbx
  have xl_w5 := xl_w8.below hbx
  have xd_w5 := xd_w8.below hbx
  have xn_w5 := xn_w8.below hbx
  have xo_w5 := xo_w8.below hbx
  have L5 := Lib.hid (L8.out.keep ((Keep.refl _ _).below hbx))
  have D5 := Lib.hid (D8.out.keep ((Keep.refl _ _).below hbx))
  have T5 := Lib.hid (T8.out.bel hbx)
  clear B8 x1_w8 x2_w8 xl_w8 xd_w8 xn_w8 xo_w8 L8 D8 T8 hbx hBe
  clear Ht
  obtain ⟨dl, hdl⟩ : ∃ dl, dpL (t.pre 1) = dl := ⟨_, rfl⟩
  obtain ⟨tl, htl⟩ : ∃ tl, tyL (t.pre 1) = tl := ⟨_, rfl⟩
  rename_i K0 hK0
  have rest : ∀ (D : Nat) (V : World), w5.heap.size ≤ D → V.heap[D]? = some (.deferred (some [])) → Below (p + 2) w5 V → Blk V (p + 1 + 1) #[.int .i64 (min S n)] 3 → Blk V (p + 1 + 1 + 1) #[.bool true] 4 →
      K0 { tmps := #[Value.agg #[Value.slice a l2 c, Value.int IntKind.i64 b2], Value.int IntKind.i64 st, Value.pointer (some { block := w.heap.size, off := 0 }), Value.pointer (some { block := q2, off := 0 }), Value.bool false, Value.pointer (some { block := p, off := 0 }), Value.pointer (some { block := p + 1, off := 0 }), Value.pointer (some { block := p + 1 + 1, off := 0 }), Value.pointer (some { block := p + 1 + 1 + 1, off := 0 }), undef, undef, undef, undef, undef, undef, undef, undef, undef, Value.agg #[Value.slice a l2 c, Value.int IntKind.i64 b2], Value.slice (some { block := q2 + 1, off := 0 }) 1 1, Value.bool true, Value.bool false, Value.bool false, Value.bool true, Value.bool false, Value.bool false, undef, Value.tuple #[Value.slice la n lc, Value.slice da n dc], Value.agg #[Value.slice a l2 c, Value.int IntKind.i64 b2], Value.tuple #[Value.slice la n lc, Value.slice da n dc], Value.slice la n lc, Value.slice da n dc, Value.int IntKind.i64 st, Value.int IntKind.u64 (IntKind.u64.wrap st), Value.int IntKind.u64 ((IntKind.u64.wrap st).tmod 150), Value.int IntKind.i64 (wrap64 ((IntKind.u64.wrap st).tmod 150)), Value.int IntKind.i64 S, Value.agg #[Value.slice a l2 c, Value.int IntKind.i64 b2], Value.agg #[Value.slice xa m xc, Value.int IntKind.i64 bb], Value.func (Fn.func 113) #[] #[Value.pointer (some { block := Be, off := 0 })], undef, undef, undef, undef, undef, undef, undef, undef, undef, undef, undef, undef, undef, undef, undef, undef, undef, undef, undef, undef, undef, undef, undef, undef, undef, undef, undef, undef, undef, undef, undef, undef, undef, undef, undef, undef, undef, undef, undef, undef, undef, undef, undef, undef, undef, undef, undef, undef, undef, undef, undef, undef, undef, undef, undef, undef, undef, undef, undef, undef, undef, undef, undef, undef, undef, undef, undef, undef, undef, undef, undef, undef, undef, undef, undef, undef, undef, undef, undef, undef, undef, undef, undef, undef, undef, undef, undef, undef, undef, undef, undef, undef, undef, undef, undef, undef, undef, undef, undef, undef, undef, undef, undef, undef, undef, undef, undef, undef, undef, undef, undef, undef, undef, undef, undef, undef, undef, undef, undef, undef, undef, undef, undef], defers := [{ target := .collected D, args := #[] }] } V := by
    intro D V hD hDm hbx xn_V xo_V
    refine hK0 _ _ ?_
    clear hK0
    have x1_V := blkB hbx x1_w5 (by omega)
    have x2_V := blkB hbx x2_w5 (by omega)
    have xl_V := blkB hbx xl_w5 (by omega)
    have T_V := Lib.hid ((T5.out.weaken (F' := fun q => q < w.heap.size) (fun _ _ h => h)).keep (keepB hbx (fun k hk => by omega)))
    have L_V := Lib.hid (L5.out.keep (keepB hbx (fun k hk => by omega)))
    have B_V := B5.trans (hbx.mono (by omega))
    clear L5 D5 T5 x1_w5 x2_w5 xl_w5 xd_w5 xn_w5 xo_w5 hbx ye X5
    obtain ⟨bs, hbs⟩ : ∃ bs, sortU (basesL [t, t]) = bs := ⟨_, rfl⟩
    have HB : Hid (∀ {F : Nat → Prop} {w : World} {v : Value}, IsSl rpTy F w v [t, t] → Calls Try.prog 72 #[v] w (FreshInts bs w)) := fun h => by
      rw [← hbs]; exact bases_k h (by simp) (fun u hu => by have := Hr.out; simp at hu; subst hu; omega)
    have H1 : Hid (∀ i (h : i < bs.length), ∃ x ∈ tl, x.base = bs[i]) := fun i h => by
      have hm : bs[i] ∈ sortU (basesL [t, t]) := by rw [hbs]; exact List.getElem_mem h
      rw [(sortU_spec _).2] at hm
      have : bs[i] ∈ basesP (t.pre 1) := by simpa [basesL] using hm
      obtain ⟨p, hp, he⟩ := List.mem_map.1 this
      exact ⟨p.2, by rw [← htl]; exact List.mem_map.2 ⟨p, hp, rfl⟩, he⟩
    have H2 : Hid (∀ k (h : k < tl.length), ∃ x ∈ bs, x = tl[k].base) := fun k h => by
      refine ⟨tl[k].base, ?_, rfl⟩
      rw [← hbs, (sortU_spec _).2]
      have hm : tl[k] ∈ tyL (t.pre 1) := by rw [htl]; exact List.getElem_mem h
      obtain ⟨p, hp, he⟩ := List.mem_map.1 hm
      have : tl[k].base ∈ basesP (t.pre 1) := List.mem_map.2 ⟨p, hp, by rw [← he]⟩
      simpa [basesL] using this
    have H3 : Hid (∀ i (h : i < bs.length), 0 < i → ¬ bs[i] ≤ bs[i - 1]'(by omega)) := fun i h h0 => by
      have hp := (sortU_spec (basesL [t, t])).1
      rw [hbs] at hp
      have := List.pairwise_iff_getElem.1 hp (i - 1) i (by omega) h (by omega)
      omega
    have Hln : Hid (tl.length = n) := by show _ = _; rw [← htl]; exact HLe.out
    rw [htl] at L_V
    clear hbs hdl htl HLe HDe
    gi_wp2_with fail
    refine wpIn_region_need (S := fun w' => w'.cell? ⟨w.heap.size, 0, none⟩ = some (.slice a l2 c) ∧ w'.cell? ⟨w.heap.size, 1, none⟩ = some (.int .i64 b2)) (wide_self) (by kernel_rfl) (by kernel_rfl) ?_
    have hS : (V.drew).cell? ⟨w.heap.size, 0, none⟩ = some (.slice a l2 c) ∧ (V.drew).cell? ⟨w.heap.size, 1, none⟩ = some (.int .i64 b2) := ⟨x1_V.drew.cell rfl, x1_V.drew.cell rfl⟩
    refine wpN_take (i := 0) (v := ?v1) rfl (by kernel_rfl) (fun _ _ _ h => h) hS (Or.inl ⟨by rfl, ?hy1⟩) ?hr1
    case hy1 => (intro wS hSw; (try dsimp only at hSw); go_simp; (try with_reducible rfl))
    try simp only [Act.put, List.setIfInBounds_toArray, List.set_cons_zero, List.set_cons_succ, List.getElem_toArray, List.getElem_cons_zero, List.getElem_cons_succ]
    refine wpN_take (i := 2) (v := ?v2) rfl (by kernel_rfl) (fun _ _ _ h => h) hS (Or.inl ⟨by rfl, ?hy2⟩) ?hr2
    case hy2 => (intro wS hSw; (try dsimp only at hSw); go_simp; (try with_reducible rfl))
    try simp only [Act.put, List.setIfInBounds_toArray, List.set_cons_zero, List.set_cons_succ, List.getElem_toArray, List.getElem_cons_zero, List.getElem_cons_succ]
    refine wpN_step (i := 1) (by kernel_rfl) rfl (fun K hK => ?_)
    go_simp
    refine (to_any T_V.out V.drew (by have := Hr.out; omega) (Keep.refl _ _).drew).mono ?_
    rintro e V1 ⟨os, ob, rfl, hO, hb1⟩
    have HO := Lib.hid hO; clear hO
    have hb1' : Below V.heap.size V V1 := (Below.refl _ _).drew.trans hb1
    have hS : (V1).cell? ⟨w.heap.size, 0, none⟩ = some (.slice a l2 c) ∧ (V1).cell? ⟨w.heap.size, 1, none⟩ = some (.int .i64 b2) := ⟨(x1_V.below hb1').cell rfl, (x1_V.below hb1').cell rfl⟩
    refine hK.out _ _ (fun _ => hS) ?_
    clear hK K
    try simp only [Act.put, List.setIfInBounds_toArray, List.set_cons_zero, List.set_cons_succ, List.getElem_toArray, List.getElem_cons_zero, List.getElem_cons_succ]
    refine wpN_step (i := 3) (by kernel_rfl) rfl (fun K hK => ?_)
    go_simp
    refine (to_any T_V.out V1 (by have := Hr.out; omega) ((Keep.refl _ _).below hb1')).mono ?_
    rintro e V2 ⟨ps, pb, rfl, hP, hb2⟩
    have HP := Lib.hid hP; clear hP
    have hb2' : Below V.heap.size V V2 := hb1'.trans (hb2.mono hb1'.size)
    have HO2 := Lib.hid (HO.out.bel hb2)
    have hS : (V2).cell? ⟨w.heap.size, 0, none⟩ = some (.slice a l2 c) ∧ (V2).cell? ⟨w.heap.size, 1, none⟩ = some (.int .i64 b2) := ⟨(x1_V.below hb2').cell rfl, (x1_V.below hb2').cell rfl⟩
    refine hK.out _ _ (fun _ => hS) ?_
    clear hK K
    try simp only [Act.put, List.setIfInBounds_toArray, List.set_cons_zero, List.set_cons_succ, List.getElem_toArray, List.getElem_cons_zero, List.getElem_cons_succ]
    refine wpN_step (i := 4) (by kernel_rfl) rfl (fun K hK => ?_)
    go_simp
    obtain ⟨oa, oc, rfl, rfl⟩ := HO2.out.shape
    obtain ⟨pa, pc, rfl, rfl⟩ := HP.out.shape
    obtain ⟨V3, hV3⟩ : ∃ V3, V2.alloc (.cells #[.slice oa t.args.length oc, .int .i64 t.base, .slice pa t.args.length pc, .int .i64 t.base] 40) = V3 := ⟨_, rfl⟩
    have hb3' : Below V.heap.size V V3 := by rw [← hV3]; exact hb2'.alloc hb2'.size _
    have hb23 : Below V2.heap.size V2 V3 := by rw [← hV3]; exact (Below.refl _ _).alloc (Nat.le_refl _) _
    have xv : Blk V3 V2.heap.size #[.slice oa t.args.length oc, .int .i64 t.base, .slice pa t.args.length pc, .int .i64 t.base] 40 := by rw [← hV3]; exact Blk.new _ _ _ rfl
    have HPP := Lib.hid (isSl_two xv ((HO2.out.bel hb23).weaken fun _ _ _ => trivial) ((HP.out.bel hb23).weaken fun _ _ _ => trivial))
    try rw [hV3]
    have hS : (V3).cell? ⟨w.heap.size, 0, none⟩ = some (.slice a l2 c) ∧ (V3).cell? ⟨w.heap.size, 1, none⟩ = some (.int .i64 b2) := ⟨(x1_V.below hb3').cell rfl, (x1_V.below hb3').cell rfl⟩
    refine hK.out _ _ (fun _ => hS) ?_
    clear hK K
    try simp only [Act.put, List.setIfInBounds_toArray, List.set_cons_zero, List.set_cons_succ, List.getElem_toArray, List.getElem_cons_zero, List.getElem_cons_succ]
    refine wpN_step (i := 5) (by kernel_rfl) rfl (fun K hK => ?_)
    go_simp
    refine (HB.out HPP.out).mono ?_
    rintro e V4 ⟨ba, bc, rfl, hbsl, hb4⟩
    have hb4' : Below V.heap.size V V4 := hb3'.trans (hb4.mono hb3'.size)
    obtain ⟨-, ⟨hm1, hm2⟩, fb, fo, hba, hbj⟩ := ints_cells hbsl
    clear hbsl HPP xv hV3 HO HP HO2 HB
    have hS : (V4).cell? ⟨w.heap.size, 0, none⟩ = some (.slice a l2 c) ∧ (V4).cell? ⟨w.heap.size, 1, none⟩ = some (.int .i64 b2) := ⟨(x1_V.below hb4').cell rfl, (x1_V.below hb4').cell rfl⟩
    refine hK.out _ _ (fun _ => hS) ?_
    clear hK K
    try simp only [Act.put, List.setIfInBounds_toArray, List.set_cons_zero, List.set_cons_succ, List.getElem_toArray, List.getElem_cons_zero, List.getElem_cons_succ]
    refine wpN_step (i := 6) (by kernel_rfl) rfl (fun K hK => ?_)
    go_simp
    refine hK.out _ _ (fun h => absurd h (by decide)) ?_
    clear hK K
    try simp only [Act.put, List.setIfInBounds_toArray, List.set_cons_zero, List.set_cons_succ, List.getElem_toArray, List.getElem_cons_zero, List.getElem_cons_succ]
    refine wpN_done (by kernel_rfl) ?_
    refine OnlyN.normal ?_
    have xl_4 := xl_V.below hb4'
    have xn_4 := xn_V.below hb4'
    have xo_4 := xo_V.below hb4'
    have x2_4 := x2_V.below hb4'
    have x1_4 := x1_V.below hb4'
    have L_4 := Lib.hid (L_V.out.keep ((Keep.refl _ _).below hb4'))
    have B_4 := B_V.trans (hb4'.mono B_V.size)
    have HD4 : Hid (V4.heap[D]? = some (.deferred (some []))) := (hb4'.block D (Array.getElem?_eq_some_iff.1 hDm).1).trans hDm
    have Hbj := Lib.hid hbj
    have Hba := Lib.hid hba
    clear hb1 hb2 hb3' hb4 hb1' hb2' hb23 hb4' hDm xl_V xn_V xo_V x2_V x1_V L_V T_V B_V B5 hbj hba
    obtain ⟨la', lc', hla, ⟨hm5, hm6⟩, bl, bo, hbl, hlj⟩ := tys_cells L_4.out
    have hla2 : la = la' ∧ lc = lc' := by injection hla with q1 q2 q3; exact ⟨q1, q3⟩
    obtain ⟨rfl, rfl⟩ := hla2
    have Hlj := Lib.hid hlj; have Hbl := Lib.hid hbl
    clear hla hlj hbl
    rw [Hln.out] at hm5 hm6
    obtain ⟨bn, hbn⟩ : ∃ bn, bs.length = bn := ⟨_, rfl⟩
    rw [hbn] at hm1 hm2 ⊢
    have Hbn := Lib.hid hbn; clear hbn
    have hm7 : bn ≤ 9223372036854775807 := hm1
    have cl : V4.cell? ⟨p, 0, none⟩ = some (.slice la n lc) := xl_4.cell rfl
    gi_wp2_with fail
    gi_loopw [12] (fun i wr => ∃ k : Nat, i = .int .i64 k ∧ k ≤ bn ∧ Below V4.heap.size V4 wr) (fun i _ => bn - (intOf i).toNat)
    case atStart => exact ⟨0, rfl, by omega, Below.refl _ _⟩
    case round =>
      obtain ⟨k, rfl, hk, hbr⟩ := hrel
      have clr : wr.cell? ⟨p, 0, none⟩ = some (.slice la n lc) := (xl_4.below hbr).cell rfl
      by_cases hlt : k < bn
      · have hltI : (k : Int) < bn := by omega
        obtain ⟨rfl, -⟩ := Hba.out (by rw [Hbn.out]; omega)
        have eb := Hbj.out k (by rw [Hbn.out]; exact hlt)
        obtain ⟨bk, hbk⟩ : ∃ bk, bs[k]'(by rw [Hbn.out]; exact hlt) = bk := ⟨_, rfl⟩
        rw [hbk] at eb
        have Hbk := Lib.hid hbk; clear hbk
        gi_wp2_with fail
        gi_loopw [13, 14] (fun iv jv wq => ∃ j : Nat, jv = .int .i64 j ∧ j ≤ n ∧ (∃ o, iv = .bool o ∧ Hid (o = true ↔ ∃ m, m < j ∧ ∃ h : m < tl.length, tl[m].base = bk)) ∧ Below V4.heap.size V4 wq) (fun _ jv _ => n - (intOf jv).toNat)
        case atStart => exact ⟨0, rfl, by omega, ⟨false, rfl, by simp [Hid]⟩, hbr⟩
        case round =>
          obtain ⟨j, rfl, hj, ⟨o, rfl, ho⟩, hbq⟩ := hrel
          have Kq := (Keep.refl (fun _ => True) V4).below hbq
          have clq : wr.cell? ⟨p, 0, none⟩ = some (.slice la n lc) := Kq _ _ _ trivial cl
          by_cases hlj : j < n
          · have hljI : (j : Int) < n := by omega
            obtain ⟨ls, lb, e1, e2, hty⟩ := Hlj.out j (by rw [Hln.out]; exact hlj)
            obtain ⟨_, _, rfl, rfl⟩ := hty.shape
            obtain ⟨rfl, -⟩ := Hbl.out (by rw [Hln.out]; omega)
            have Hst : Hid ((∃ m, m < j + 1 ∧ ∃ h : m < tl.length, tl[m].base = bk) ↔ ((∃ m, m < j ∧ ∃ h : m < tl.length, tl[m].base = bk) ∨ (tl[j]'(by rw [Hln.out]; exact hlj)).base = bk)) := by
              constructor
              · rintro ⟨m, hm, h, he⟩
                by_cases hmj : m < j
                · exact .inl ⟨m, hmj, h, he⟩
                · obtain rfl : m = j := by omega
                  exact .inr he
              · rintro (⟨m, hm, h, he⟩ | he)
                · exact ⟨m, by omega, h, he⟩
                · exact ⟨j, by omega, by rw [Hln.out]; exact hlj, he⟩
            have e2' := Kq _ _ _ trivial e2
            have eb' := Kq _ _ _ trivial eb
            obtain ⟨tb, htb⟩ : ∃ tb, (tl[j]'(by rw [Hln.out]; exact hlj)).base = tb := ⟨_, rfl⟩
            rw [htb] at Hst e2'
            clear e1 e2 hty htb
            gi_wp2_with fail
            have hz := hbq.size
            cases o
            · skip
              refine wpIn_region_need (S := fun w' => w'.cell? ⟨p, 0, none⟩ = some (.slice (some ⟨bl, bo, none⟩) n lc) ∧ w'.cell? ⟨bl, bo + j * 2 + 1, none⟩ = some (.int .i64 tb) ∧ w'.cell? ⟨fb, fo + k, none⟩ = some (.int .i64 bk)) (wide_self) (by kernel_rfl) (by kernel_rfl) ?_
              have hS : (wr.drew).cell? ⟨p, 0, none⟩ = some (.slice (some ⟨bl, bo, none⟩) n lc) ∧ (wr.drew).cell? ⟨bl, bo + j * 2 + 1, none⟩ = some (.int .i64 tb) ∧ (wr.drew).cell? ⟨fb, fo + k, none⟩ = some (.int .i64 bk) := ⟨clq, e2', eb'⟩
              refine wpN_take (i := 0) (v := ?v3) rfl (by kernel_rfl) (fun _ _ _ h => h) hS (Or.inl ⟨by rfl, ?hy3⟩) ?hr3
              case hy3 => (intro wS hSw; (try dsimp only at hSw); go_simp; (try with_reducible rfl))
              try simp only [Act.put, List.setIfInBounds_toArray, List.set_cons_zero, List.set_cons_succ, List.getElem_toArray, List.getElem_cons_zero, List.getElem_cons_succ]
              refine wpN_take (i := 1) (v := ?v4) rfl (by kernel_rfl) (fun _ _ _ h => h) hS (Or.inl ⟨by rfl, ?hy4⟩) ?hr4
              case hy4 => (intro wS hSw; (try dsimp only at hSw); go_simp; (try with_reducible rfl))
              try simp only [Act.put, List.setIfInBounds_toArray, List.set_cons_zero, List.set_cons_succ, List.getElem_toArray, List.getElem_cons_zero, List.getElem_cons_succ]
              refine wpN_take (i := 2) (v := ?v5) rfl (by kernel_rfl) (fun _ _ _ h => h) hS (Or.inl ⟨by rfl, ?hy5⟩) ?hr5
              case hy5 => (intro wS hSw; (try dsimp only at hSw); go_simp; (try with_reducible rfl))
              try simp only [Act.put, List.setIfInBounds_toArray, List.set_cons_zero, List.set_cons_succ, List.getElem_toArray, List.getElem_cons_zero, List.getElem_cons_succ]
              refine wpN_take (i := 3) (v := ?v6) rfl (by kernel_rfl) (fun _ _ _ h => h) hS (Or.inl ⟨by rfl, ?hy6⟩) ?hr6
              case hy6 => (intro wS hSw; (try dsimp only at hSw); go_simp; (try with_reducible rfl))
              try simp only [Act.put, List.setIfInBounds_toArray, List.set_cons_zero, List.set_cons_succ, List.getElem_toArray, List.getElem_cons_zero, List.getElem_cons_succ]
              refine wpN_take (i := 4) (v := ?v7) rfl (by kernel_rfl) (fun _ _ _ h => h) hS (Or.inl ⟨by rfl, ?hy7⟩) ?hr7
              case hy7 => (intro wS hSw; (try dsimp only at hSw); go_simp; (try with_reducible rfl))
              try simp only [Act.put, List.setIfInBounds_toArray, List.set_cons_zero, List.set_cons_succ, List.getElem_toArray, List.getElem_cons_zero, List.getElem_cons_succ]
              refine wpN_take (i := 5) (v := ?v8) rfl (by kernel_rfl) (fun _ _ _ h => h) hS (Or.inl ⟨by rfl, ?hy8⟩) ?hr8
              case hy8 => (intro wS hSw; (try dsimp only at hSw); go_simp; (try with_reducible rfl))
              try simp only [Act.put, List.setIfInBounds_toArray, List.set_cons_zero, List.set_cons_succ, List.getElem_toArray, List.getElem_cons_zero, List.getElem_cons_succ]
              refine wpN_take (i := 6) (v := ?v9) rfl (by kernel_rfl) (fun _ _ _ h => h) hS (Or.inl ⟨by rfl, ?hy9⟩) ?hr9
              case hy9 => (intro wS hSw; (try dsimp only at hSw); go_simp; (try with_reducible rfl))
              try simp only [Act.put, List.setIfInBounds_toArray, List.set_cons_zero, List.set_cons_succ, List.getElem_toArray, List.getElem_cons_zero, List.getElem_cons_succ]
              refine wpN_take (i := 7) (v := ?v10) rfl (by kernel_rfl) (fun _ _ _ h => h) hS (Or.inl ⟨by rfl, ?hy10⟩) ?hr10
              case hy10 => (intro wS hSw; (try dsimp only at hSw); go_simp; (try with_reducible rfl))
              try simp only [Act.put, List.setIfInBounds_toArray, List.set_cons_zero, List.set_cons_succ, List.getElem_toArray, List.getElem_cons_zero, List.getElem_cons_succ]
              refine wpN_take (i := 8) (v := ?v11) rfl (by kernel_rfl) (fun _ _ _ h => h) hS (Or.inl ⟨by rfl, ?hy11⟩) ?hr11
              case hy11 => (intro wS hSw; (try dsimp only at hSw); go_simp; (try with_reducible rfl))
              try simp only [Act.put, List.setIfInBounds_toArray, List.set_cons_zero, List.set_cons_succ, List.getElem_toArray, List.getElem_cons_zero, List.getElem_cons_succ]
              refine wpN_take (i := 9) (v := ?v12) rfl (by kernel_rfl) (fun _ _ _ h => h) hS (Or.inl ⟨by rfl, ?hy12⟩) ?hr12
              case hy12 => (intro wS hSw; (try dsimp only at hSw); go_simp; (try with_reducible rfl))
              try simp only [Act.put, List.setIfInBounds_toArray, List.set_cons_zero, List.set_cons_succ, List.getElem_toArray, List.getElem_cons_zero, List.getElem_cons_succ]
              refine wpN_take (i := 10) (v := ?v13) rfl (by kernel_rfl) (fun _ _ _ h => h) hS (Or.inl ⟨by rfl, ?hy13⟩) ?hr13
              case hy13 => (intro wS hSw; (try dsimp only at hSw); go_simp; (try with_reducible rfl))
              try simp only [Act.put, List.setIfInBounds_toArray, List.set_cons_zero, List.set_cons_succ, List.getElem_toArray, List.getElem_cons_zero, List.getElem_cons_succ]
              refine wpN_take (i := 11) (v := ?v14) rfl (by kernel_rfl) (fun _ _ _ h => h) hS (Or.inl ⟨by rfl, ?hy14⟩) ?hr14
              case hy14 => (intro wS hSw; (try dsimp only at hSw); go_simp; (try with_reducible rfl))
              try simp only [Act.put, List.setIfInBounds_toArray, List.set_cons_zero, List.set_cons_succ, List.getElem_toArray, List.getElem_cons_zero, List.getElem_cons_succ]
              refine wpN_take (i := 12) (v := ?v15) rfl (by kernel_rfl) (fun _ _ _ h => h) hS (Or.inl ⟨by rfl, ?hy15⟩) ?hr15
              case hy15 => (intro wS hSw; (try dsimp only at hSw); go_simp; (try with_reducible rfl))
              try simp only [Act.put, List.setIfInBounds_toArray, List.set_cons_zero, List.set_cons_succ, List.getElem_toArray, List.getElem_cons_zero, List.getElem_cons_succ]
              refine wpN_step (i := 13) (by kernel_rfl) rfl (fun K hK => ?_)
              go_simp
              refine hK.out _ _ (fun h => absurd h (by decide)) ?_
              clear hK K
              try simp only [Act.put, List.setIfInBounds_toArray, List.set_cons_zero, List.set_cons_succ, List.getElem_toArray, List.getElem_cons_zero, List.getElem_cons_succ]
              refine wpN_done (by kernel_rfl) ?_
              refine OnlyN.normal ?_
              have hbd : Below V4.heap.size V4 wr.drew := hbq.drew
              gi_wp2_with fail
              go_roundw
              case rel =>
                refine ⟨j + 1, by go_num, by omega, ⟨_, rfl, ?_⟩, hbd⟩
                show _ ↔ _
                rw [Hst.out]
                have hno := no_of ho.out
                simp [hno]
              case measure => simp [intOf]; omega
            · skip
              refine wpIn_region_need (S := fun w' => w'.cell? ⟨p, 0, none⟩ = some (.slice (some ⟨bl, bo, none⟩) n lc)) (wide_self) (by kernel_rfl) (by kernel_rfl) ?_
              have hS : (wr.drew).cell? ⟨p, 0, none⟩ = some (.slice (some ⟨bl, bo, none⟩) n lc) := clq
              refine wpN_take (i := 0) (v := ?v16) rfl (by kernel_rfl) (fun _ _ _ h => h) hS (Or.inl ⟨by rfl, ?hy16⟩) ?hr16
              case hy16 => (intro wS hSw; (try dsimp only at hSw); go_simp; (try with_reducible rfl))
              try simp only [Act.put, List.setIfInBounds_toArray, List.set_cons_zero, List.set_cons_succ, List.getElem_toArray, List.getElem_cons_zero, List.getElem_cons_succ]
              refine wpN_take (i := 1) (v := ?v17) rfl (by kernel_rfl) (fun _ _ _ h => h) hS (Or.inl ⟨by rfl, ?hy17⟩) ?hr17
              case hy17 => (intro wS hSw; (try dsimp only at hSw); go_simp; (try with_reducible rfl))
              try simp only [Act.put, List.setIfInBounds_toArray, List.set_cons_zero, List.set_cons_succ, List.getElem_toArray, List.getElem_cons_zero, List.getElem_cons_succ]
              refine wpN_pure (i := 2) (v := undef) rfl (by kernel_rfl) (fun _ _ _ h => h) (Or.inr ⟨by rfl, rfl⟩) ?_
              try simp only [Act.put, List.setIfInBounds_toArray, List.set_cons_zero, List.set_cons_succ, List.getElem_toArray, List.getElem_cons_zero, List.getElem_cons_succ]
              refine wpN_pure (i := 3) (v := undef) rfl (by kernel_rfl) (fun _ _ _ h => h) (Or.inr ⟨by rfl, rfl⟩) ?_
              try simp only [Act.put, List.setIfInBounds_toArray, List.set_cons_zero, List.set_cons_succ, List.getElem_toArray, List.getElem_cons_zero, List.getElem_cons_succ]
              refine wpN_pure (i := 4) (v := undef) rfl (by kernel_rfl) (fun _ _ _ h => h) (Or.inr ⟨by rfl, rfl⟩) ?_
              try simp only [Act.put, List.setIfInBounds_toArray, List.set_cons_zero, List.set_cons_succ, List.getElem_toArray, List.getElem_cons_zero, List.getElem_cons_succ]
              refine wpN_pure (i := 5) (v := undef) rfl (by kernel_rfl) (fun _ _ _ h => h) (Or.inr ⟨by rfl, rfl⟩) ?_
              try simp only [Act.put, List.setIfInBounds_toArray, List.set_cons_zero, List.set_cons_succ, List.getElem_toArray, List.getElem_cons_zero, List.getElem_cons_succ]
              refine wpN_pure (i := 6) (v := undef) rfl (by kernel_rfl) (fun _ _ _ h => h) (Or.inr ⟨by rfl, rfl⟩) ?_
              try simp only [Act.put, List.setIfInBounds_toArray, List.set_cons_zero, List.set_cons_succ, List.getElem_toArray, List.getElem_cons_zero, List.getElem_cons_succ]
              refine wpN_pure (i := 7) (v := undef) rfl (by kernel_rfl) (fun _ _ _ h => h) (Or.inr ⟨by rfl, rfl⟩) ?_
              try simp only [Act.put, List.setIfInBounds_toArray, List.set_cons_zero, List.set_cons_succ, List.getElem_toArray, List.getElem_cons_zero, List.getElem_cons_succ]
              refine wpN_pure (i := 8) (v := undef) rfl (by kernel_rfl) (fun _ _ _ h => h) (Or.inr ⟨by rfl, rfl⟩) ?_
              try simp only [Act.put, List.setIfInBounds_toArray, List.set_cons_zero, List.set_cons_succ, List.getElem_toArray, List.getElem_cons_zero, List.getElem_cons_succ]
              refine wpN_pure (i := 9) (v := undef) rfl (by kernel_rfl) (fun _ _ _ h => h) (Or.inr ⟨by rfl, rfl⟩) ?_
              try simp only [Act.put, List.setIfInBounds_toArray, List.set_cons_zero, List.set_cons_succ, List.getElem_toArray, List.getElem_cons_zero, List.getElem_cons_succ]
              refine wpN_pure (i := 10) (v := undef) rfl (by kernel_rfl) (fun _ _ _ h => h) (Or.inr ⟨by rfl, rfl⟩) ?_
              try simp only [Act.put, List.setIfInBounds_toArray, List.set_cons_zero, List.set_cons_succ, List.getElem_toArray, List.getElem_cons_zero, List.getElem_cons_succ]
              refine wpN_pure (i := 11) (v := undef) rfl (by kernel_rfl) (fun _ _ _ h => h) (Or.inr ⟨by rfl, rfl⟩) ?_
              try simp only [Act.put, List.setIfInBounds_toArray, List.set_cons_zero, List.set_cons_succ, List.getElem_toArray, List.getElem_cons_zero, List.getElem_cons_succ]
              refine wpN_pure (i := 12) (v := ?v18) rfl (by kernel_rfl) (fun _ _ _ h => h) (Or.inl ⟨by rfl, ?hy18⟩) ?hr18
              case hy18 => (intro wS hSw; go_simp; (try with_reducible rfl))
              try simp only [Act.put, List.setIfInBounds_toArray, List.set_cons_zero, List.set_cons_succ, List.getElem_toArray, List.getElem_cons_zero, List.getElem_cons_succ]
              refine wpN_step (i := 13) (by kernel_rfl) rfl (fun K hK => ?_)
              go_simp
              refine hK.out _ _ (fun h => absurd h (by decide)) ?_
              clear hK K
              try simp only [Act.put, List.setIfInBounds_toArray, List.set_cons_zero, List.set_cons_succ, List.getElem_toArray, List.getElem_cons_zero, List.getElem_cons_succ]
              refine wpN_done (by kernel_rfl) ?_
              refine OnlyN.normal ?_
              have hbd : Below V4.heap.size V4 wr.drew := hbq.drew
              gi_wp2_with fail
              go_roundw
              case rel =>
                refine ⟨j + 1, by go_num, by omega, ⟨_, rfl, ?_⟩, hbd⟩
                show _ ↔ _
                rw [Hst.out]
                have hyes := yes_of ho.out
                simp [hyes]
              case measure => simp [intOf]; omega
          · have ho1 : o = true := by
              obtain ⟨x, hx, he⟩ := H1.out k (by rw [Hbn.out]; exact hlt)
              obtain ⟨m, hm, rfl⟩ := List.getElem_of_mem hx
              exact ho.out.2 ⟨m, by have := Hln.out; omega, hm, he.trans Hbk.out⟩
            subst ho1
            gi_wp2_with fail
            have eb' := Kq _ _ _ trivial eb
            have hbd : Below V4.heap.size V4 wr.drew := hbq.drew
            by_cases hk0 : k = 0
            · subst hk0
              refine wpIn_region_need (S := fun w' => w'.cell? ⟨p, 0, none⟩ = some (.slice la n lc)) (wide_self) (by kernel_rfl) (by kernel_rfl) ?_
              have hS : (wr.drew).cell? ⟨p, 0, none⟩ = some (.slice la n lc) := clq
              refine wpN_take (i := 0) (v := ?v19) rfl (by kernel_rfl) (fun _ _ _ h => h) hS (Or.inl ⟨by rfl, ?hy19⟩) ?hr19
              case hy19 => (intro wS hSw; (try dsimp only at hSw); go_simp; (try with_reducible rfl))
              try simp only [Act.put, List.setIfInBounds_toArray, List.set_cons_zero, List.set_cons_succ, List.getElem_toArray, List.getElem_cons_zero, List.getElem_cons_succ]
              refine wpN_take (i := 1) (v := ?v20) rfl (by kernel_rfl) (fun _ _ _ h => h) hS (Or.inl ⟨by rfl, ?hy20⟩) ?hr20
              case hy20 => (intro wS hSw; (try dsimp only at hSw); go_simp; (try with_reducible rfl))
              try simp only [Act.put, List.setIfInBounds_toArray, List.set_cons_zero, List.set_cons_succ, List.getElem_toArray, List.getElem_cons_zero, List.getElem_cons_succ]
              refine wpN_take (i := 2) (v := ?v21) rfl (by kernel_rfl) (fun _ _ _ h => h) hS (Or.inl ⟨by rfl, ?hy21⟩) ?hr21
              case hy21 => (intro wS hSw; (try dsimp only at hSw); go_simp; (try with_reducible rfl))
              try simp only [Act.put, List.setIfInBounds_toArray, List.set_cons_zero, List.set_cons_succ, List.getElem_toArray, List.getElem_cons_zero, List.getElem_cons_succ]
              refine wpN_take (i := 3) (v := ?v22) rfl (by kernel_rfl) (fun _ _ _ h => h) hS (Or.inl ⟨by rfl, ?hy22⟩) ?hr22
              case hy22 => (intro wS hSw; (try dsimp only at hSw); go_simp; (try with_reducible rfl))
              try simp only [Act.put, List.setIfInBounds_toArray, List.set_cons_zero, List.set_cons_succ, List.getElem_toArray, List.getElem_cons_zero, List.getElem_cons_succ]
              refine wpN_take (i := 4) (v := ?v23) rfl (by kernel_rfl) (fun _ _ _ h => h) hS (Or.inl ⟨by rfl, ?hy23⟩) ?hr23
              case hy23 => (intro wS hSw; (try dsimp only at hSw); go_simp; (try with_reducible rfl))
              try simp only [Act.put, List.setIfInBounds_toArray, List.set_cons_zero, List.set_cons_succ, List.getElem_toArray, List.getElem_cons_zero, List.getElem_cons_succ]
              refine wpN_take (i := 5) (v := ?v24) rfl (by kernel_rfl) (fun _ _ _ h => h) hS (Or.inl ⟨by rfl, ?hy24⟩) ?hr24
              case hy24 => (intro wS hSw; (try dsimp only at hSw); go_simp; (try with_reducible rfl))
              try simp only [Act.put, List.setIfInBounds_toArray, List.set_cons_zero, List.set_cons_succ, List.getElem_toArray, List.getElem_cons_zero, List.getElem_cons_succ]
              refine wpN_pure (i := 6) (v := undef) rfl (by kernel_rfl) (fun _ _ _ h => h) (Or.inr ⟨by rfl, rfl⟩) ?_
              try simp only [Act.put, List.setIfInBounds_toArray, List.set_cons_zero, List.set_cons_succ, List.getElem_toArray, List.getElem_cons_zero, List.getElem_cons_succ]
              refine wpN_pure (i := 7) (v := undef) rfl (by kernel_rfl) (fun _ _ _ h => h) (Or.inr ⟨by rfl, rfl⟩) ?_
              try simp only [Act.put, List.setIfInBounds_toArray, List.set_cons_zero, List.set_cons_succ, List.getElem_toArray, List.getElem_cons_zero, List.getElem_cons_succ]
              refine wpN_pure (i := 8) (v := undef) rfl (by kernel_rfl) (fun _ _ _ h => h) (Or.inr ⟨by rfl, rfl⟩) ?_
              try simp only [Act.put, List.setIfInBounds_toArray, List.set_cons_zero, List.set_cons_succ, List.getElem_toArray, List.getElem_cons_zero, List.getElem_cons_succ]
              refine wpN_pure (i := 9) (v := undef) rfl (by kernel_rfl) (fun _ _ _ h => h) (Or.inr ⟨by rfl, rfl⟩) ?_
              try simp only [Act.put, List.setIfInBounds_toArray, List.set_cons_zero, List.set_cons_succ, List.getElem_toArray, List.getElem_cons_zero, List.getElem_cons_succ]
              refine wpN_pure (i := 10) (v := undef) rfl (by kernel_rfl) (fun _ _ _ h => h) (Or.inr ⟨by rfl, rfl⟩) ?_
              try simp only [Act.put, List.setIfInBounds_toArray, List.set_cons_zero, List.set_cons_succ, List.getElem_toArray, List.getElem_cons_zero, List.getElem_cons_succ]
              refine wpN_pure (i := 11) (v := undef) rfl (by kernel_rfl) (fun _ _ _ h => h) (Or.inr ⟨by rfl, rfl⟩) ?_
              try simp only [Act.put, List.setIfInBounds_toArray, List.set_cons_zero, List.set_cons_succ, List.getElem_toArray, List.getElem_cons_zero, List.getElem_cons_succ]
              refine wpN_pure (i := 12) (v := undef) rfl (by kernel_rfl) (fun _ _ _ h => h) (Or.inr ⟨by rfl, rfl⟩) ?_
              try simp only [Act.put, List.setIfInBounds_toArray, List.set_cons_zero, List.set_cons_succ, List.getElem_toArray, List.getElem_cons_zero, List.getElem_cons_succ]
              refine wpN_pure (i := 13) (v := undef) rfl (by kernel_rfl) (fun _ _ _ h => h) (Or.inr ⟨by rfl, rfl⟩) ?_
              try simp only [Act.put, List.setIfInBounds_toArray, List.set_cons_zero, List.set_cons_succ, List.getElem_toArray, List.getElem_cons_zero, List.getElem_cons_succ]
              refine wpN_pure (i := 14) (v := undef) rfl (by kernel_rfl) (fun _ _ _ h => h) (Or.inr ⟨by rfl, rfl⟩) ?_
              try simp only [Act.put, List.setIfInBounds_toArray, List.set_cons_zero, List.set_cons_succ, List.getElem_toArray, List.getElem_cons_zero, List.getElem_cons_succ]
              refine wpN_pure (i := 15) (v := undef) rfl (by kernel_rfl) (fun _ _ _ h => h) (Or.inr ⟨by rfl, rfl⟩) ?_
              try simp only [Act.put, List.setIfInBounds_toArray, List.set_cons_zero, List.set_cons_succ, List.getElem_toArray, List.getElem_cons_zero, List.getElem_cons_succ]
              refine wpN_pure (i := 16) (v := ?v25) rfl (by kernel_rfl) (fun _ _ _ h => h) (Or.inl ⟨by rfl, ?hy25⟩) ?hr25
              case hy25 => (intro wS hSw; go_simp; (try with_reducible rfl))
              try simp only [Act.put, List.setIfInBounds_toArray, List.set_cons_zero, List.set_cons_succ, List.getElem_toArray, List.getElem_cons_zero, List.getElem_cons_succ]
              refine wpN_pure (i := 17) (v := ?v26) rfl (by kernel_rfl) (fun _ _ _ h => h) (Or.inl ⟨by rfl, ?hy26⟩) ?hr26
              case hy26 => (intro wS hSw; go_simp; (try with_reducible rfl))
              try simp only [Act.put, List.setIfInBounds_toArray, List.set_cons_zero, List.set_cons_succ, List.getElem_toArray, List.getElem_cons_zero, List.getElem_cons_succ]
              refine wpN_done (by kernel_rfl) ?_
              refine OnlyN.normal ?_
              gi_wp2_with fail
              go_roundw
              case rel => exact ⟨0 + 1, by go_num, by omega, hbd⟩
              case measure => simp [intOf]; omega
            · have hk1 : (0 : Int) < k := by omega
              have ec := Kq _ _ _ trivial (Hbj.out (k - 1) (by rw [Hbn.out]; omega))
              obtain ⟨bc1, hbc1⟩ : ∃ b, bs[k - 1]'(by rw [Hbn.out]; omega) = b := ⟨_, rfl⟩
              rw [hbc1] at ec
              have hle : ¬ bk ≤ bc1 := by
                rw [← hbc1, ← Hbk.out]
                have := H3.out k (by rw [Hbn.out]; exact hlt) (by omega)
                omega
              have hle' : bc1 < bk := by omega
              obtain ⟨k, rfl⟩ : ∃ k', k = k' + 1 := ⟨k - 1, by omega⟩
              simp only [Nat.add_sub_cancel] at ec
              have i1 : (0 : Int) ≤ (k : Int) + 1 := by omega
              have i2 : (k : Int) + 1 < bn := by omega
              have i3 : (k : Int) < bn := by omega
              have i4 : (k : Int) + 1 - 1 = k := by omega
              have i5 : IntKind.i64.wrap (k : Int) = k := IntWalk.i64_in _ (by omega)
              refine wpIn_region_need (S := fun w' => w'.cell? ⟨fb, fo + (k + 1), none⟩ = some (.int .i64 bk) ∧ w'.cell? ⟨fb, fo + k, none⟩ = some (.int .i64 bc1)) (wide_self) (by kernel_rfl) (by kernel_rfl) ?_
              have hS : (wr.drew).cell? ⟨fb, fo + (k + 1), none⟩ = some (.int .i64 bk) ∧ (wr.drew).cell? ⟨fb, fo + k, none⟩ = some (.int .i64 bc1) := ⟨eb', ec⟩
              refine wpN_take (i := 0) (v := ?v27) rfl (by kernel_rfl) (fun _ _ _ h => h) hS (Or.inl ⟨by rfl, ?hy27⟩) ?hr27
              case hy27 => (intro wS hSw; (try dsimp only at hSw); go_simp; (try with_reducible rfl))
              try simp only [Act.put, List.setIfInBounds_toArray, List.set_cons_zero, List.set_cons_succ, List.getElem_toArray, List.getElem_cons_zero, List.getElem_cons_succ]
              refine wpN_take (i := 1) (v := ?v28) rfl (by kernel_rfl) (fun _ _ _ h => h) hS (Or.inl ⟨by rfl, ?hy28⟩) ?hr28
              case hy28 => (intro wS hSw; (try dsimp only at hSw); go_simp; (try with_reducible rfl))
              try simp only [Act.put, List.setIfInBounds_toArray, List.set_cons_zero, List.set_cons_succ, List.getElem_toArray, List.getElem_cons_zero, List.getElem_cons_succ]
              refine wpN_take (i := 2) (v := ?v29) rfl (by kernel_rfl) (fun _ _ _ h => h) hS (Or.inl ⟨by rfl, ?hy29⟩) ?hr29
              case hy29 => (intro wS hSw; (try dsimp only at hSw); go_simp; (try with_reducible rfl))
              try simp only [Act.put, List.setIfInBounds_toArray, List.set_cons_zero, List.set_cons_succ, List.getElem_toArray, List.getElem_cons_zero, List.getElem_cons_succ]
              refine wpN_take (i := 3) (v := ?v30) rfl (by kernel_rfl) (fun _ _ _ h => h) hS (Or.inl ⟨by rfl, ?hy30⟩) ?hr30
              case hy30 => (intro wS hSw; (try dsimp only at hSw); go_simp; (try with_reducible rfl))
              try simp only [Act.put, List.setIfInBounds_toArray, List.set_cons_zero, List.set_cons_succ, List.getElem_toArray, List.getElem_cons_zero, List.getElem_cons_succ]
              refine wpN_take (i := 4) (v := ?v31) rfl (by kernel_rfl) (fun _ _ _ h => h) hS (Or.inl ⟨by rfl, ?hy31⟩) ?hr31
              case hy31 => (intro wS hSw; (try dsimp only at hSw); go_simp; (try with_reducible rfl))
              try simp only [Act.put, List.setIfInBounds_toArray, List.set_cons_zero, List.set_cons_succ, List.getElem_toArray, List.getElem_cons_zero, List.getElem_cons_succ]
              refine wpN_take (i := 5) (v := ?v32) rfl (by kernel_rfl) (fun _ _ _ h => h) hS (Or.inl ⟨by rfl, ?hy32⟩) ?hr32
              case hy32 => (intro wS hSw; (try dsimp only at hSw); go_simp; (try with_reducible rfl))
              try simp only [Act.put, List.setIfInBounds_toArray, List.set_cons_zero, List.set_cons_succ, List.getElem_toArray, List.getElem_cons_zero, List.getElem_cons_succ]
              refine wpN_take (i := 6) (v := ?v33) rfl (by kernel_rfl) (fun _ _ _ h => h) hS (Or.inl ⟨by rfl, ?hy33⟩) ?hr33
              case hy33 => (intro wS hSw; (try dsimp only at hSw); go_simp; (try with_reducible rfl))
              try simp only [Act.put, List.setIfInBounds_toArray, List.set_cons_zero, List.set_cons_succ, List.getElem_toArray, List.getElem_cons_zero, List.getElem_cons_succ]
              refine wpN_take (i := 7) (v := ?v34) rfl (by kernel_rfl) (fun _ _ _ h => h) hS (Or.inl ⟨by rfl, ?hy34⟩) ?hr34
              case hy34 => (intro wS hSw; (try dsimp only at hSw); go_simp; (try with_reducible rfl))
              try simp only [Act.put, List.setIfInBounds_toArray, List.set_cons_zero, List.set_cons_succ, List.getElem_toArray, List.getElem_cons_zero, List.getElem_cons_succ]
              refine wpN_take (i := 8) (v := ?v35) rfl (by kernel_rfl) (fun _ _ _ h => h) hS (Or.inl ⟨by rfl, ?hy35⟩) ?hr35
              case hy35 => (intro wS hSw; (try dsimp only at hSw); go_simp; (try with_reducible rfl))
              try simp only [Act.put, List.setIfInBounds_toArray, List.set_cons_zero, List.set_cons_succ, List.getElem_toArray, List.getElem_cons_zero, List.getElem_cons_succ]
              refine wpN_take (i := 9) (v := ?v36) rfl (by kernel_rfl) (fun _ _ _ h => h) hS (Or.inl ⟨by rfl, ?hy36⟩) ?hr36
              case hy36 => (intro wS hSw; (try dsimp only at hSw); go_simp; (try with_reducible rfl))
              try simp only [Act.put, List.setIfInBounds_toArray, List.set_cons_zero, List.set_cons_succ, List.getElem_toArray, List.getElem_cons_zero, List.getElem_cons_succ]
              refine wpN_take (i := 10) (v := ?v37) rfl (by kernel_rfl) (fun _ _ _ h => h) hS (Or.inl ⟨by rfl, ?hy37⟩) ?hr37
              case hy37 => (intro wS hSw; (try dsimp only at hSw); go_simp; (try with_reducible rfl))
              try simp only [Act.put, List.setIfInBounds_toArray, List.set_cons_zero, List.set_cons_succ, List.getElem_toArray, List.getElem_cons_zero, List.getElem_cons_succ]
              refine wpN_take (i := 11) (v := ?v38) rfl (by kernel_rfl) (fun _ _ _ h => h) hS (Or.inl ⟨by rfl, ?hy38⟩) ?hr38
              case hy38 => (intro wS hSw; (try dsimp only at hSw); go_simp; (try with_reducible rfl))
              try simp only [Act.put, List.setIfInBounds_toArray, List.set_cons_zero, List.set_cons_succ, List.getElem_toArray, List.getElem_cons_zero, List.getElem_cons_succ]
              refine wpN_take (i := 12) (v := ?v39) rfl (by kernel_rfl) (fun _ _ _ h => h) hS (Or.inl ⟨by rfl, ?hy39⟩) ?hr39
              case hy39 => (intro wS hSw; (try dsimp only at hSw); go_simp; (try with_reducible rfl))
              try simp only [Act.put, List.setIfInBounds_toArray, List.set_cons_zero, List.set_cons_succ, List.getElem_toArray, List.getElem_cons_zero, List.getElem_cons_succ]
              refine wpN_take (i := 13) (v := ?v40) rfl (by kernel_rfl) (fun _ _ _ h => h) hS (Or.inl ⟨by rfl, ?hy40⟩) ?hr40
              case hy40 => (intro wS hSw; (try dsimp only at hSw); go_simp; (try with_reducible rfl))
              try simp only [Act.put, List.setIfInBounds_toArray, List.set_cons_zero, List.set_cons_succ, List.getElem_toArray, List.getElem_cons_zero, List.getElem_cons_succ]
              refine wpN_take (i := 14) (v := ?v41) rfl (by kernel_rfl) (fun _ _ _ h => h) hS (Or.inl ⟨by rfl, ?hy41⟩) ?hr41
              case hy41 => (intro wS hSw; (try dsimp only at hSw); go_simp; (try with_reducible rfl))
              try simp only [Act.put, List.setIfInBounds_toArray, List.set_cons_zero, List.set_cons_succ, List.getElem_toArray, List.getElem_cons_zero, List.getElem_cons_succ]
              refine wpN_take (i := 15) (v := ?v42) rfl (by kernel_rfl) (fun _ _ _ h => h) hS (Or.inl ⟨by rfl, ?hy42⟩) ?hr42
              case hy42 => (intro wS hSw; (try dsimp only at hSw); go_simp; (try with_reducible rfl))
              try simp only [Act.put, List.setIfInBounds_toArray, List.set_cons_zero, List.set_cons_succ, List.getElem_toArray, List.getElem_cons_zero, List.getElem_cons_succ]
              refine wpN_take (i := 16) (v := ?v43) rfl (by kernel_rfl) (fun _ _ _ h => h) hS (Or.inl ⟨by rfl, ?hy43⟩) ?hr43
              case hy43 => (intro wS hSw; (try dsimp only at hSw); go_simp; (try with_reducible rfl))
              try simp only [Act.put, List.setIfInBounds_toArray, List.set_cons_zero, List.set_cons_succ, List.getElem_toArray, List.getElem_cons_zero, List.getElem_cons_succ]
              refine wpN_take (i := 17) (v := ?v44) rfl (by kernel_rfl) (fun _ _ _ h => h) hS (Or.inl ⟨by rfl, ?hy44⟩) ?hr44
              case hy44 => (intro wS hSw; (try dsimp only at hSw); go_simp; (try with_reducible rfl))
              try simp only [Act.put, List.setIfInBounds_toArray, List.set_cons_zero, List.set_cons_succ, List.getElem_toArray, List.getElem_cons_zero, List.getElem_cons_succ]
              refine wpN_done (by kernel_rfl) ?_
              refine OnlyN.normal ?_
              gi_wp2_with fail
              go_roundw
              case rel => exact ⟨k + 1 + 1, by go_num, by omega, hbd⟩
              case measure => simp [intOf]; omega
      · gi_wp2_with fail
        have clr : wr.cell? ⟨p, 0, none⟩ = some (.slice la n lc) := (Keep.refl (fun _ => True) V4).below hbr _ _ _ trivial cl
        gi_loopw [15] (fun i wq => ∃ k : Nat, i = .int .i64 k ∧ k ≤ n ∧ Below V4.heap.size V4 wq) (fun i _ => n - (intOf i).toNat)
        case atStart => exact ⟨0, rfl, by omega, hbr⟩
        case round =>
          obtain ⟨j, rfl, hj, hbq⟩ := hrel
          have Kq := (Keep.refl (fun _ => True) V4).below hbq
          have clq : wr.cell? ⟨p, 0, none⟩ = some (.slice la n lc) := Kq _ _ _ trivial cl
          by_cases hlj : j < n
          · have hljI : (j : Int) < n := by omega
            obtain ⟨ls, lb, e1, e2, hty⟩ := Hlj.out j (by rw [Hln.out]; exact hlj)
            obtain ⟨_, _, rfl, rfl⟩ := hty.shape
            obtain ⟨rfl, -⟩ := Hbl.out (by rw [Hln.out]; omega)
            obtain ⟨tb, htb⟩ : ∃ tb, (tl[j]'(by rw [Hln.out]; exact hlj)).base = tb := ⟨_, rfl⟩
            rw [htb] at e2
            have Htb := Lib.hid htb
            clear e1 hty htb
            gi_wp2_with fail
            gi_loopw [16, 17] (fun iv kv wq => ∃ k : Nat, kv = .int .i64 k ∧ k ≤ bn ∧ (∃ o, iv = .bool o ∧ Hid (o = true ↔ ∃ m, m < k ∧ ∃ h : m < bs.length, tb = bs[m])) ∧ Below V4.heap.size V4 wq) (fun _ kv _ => bn - (intOf kv).toNat)
            case atStart => exact ⟨0, rfl, by omega, ⟨false, rfl, by simp [Hid]⟩, hbq⟩
            case round =>
              obtain ⟨k, rfl, hk, ⟨o, rfl, ho⟩, hbq⟩ := hrel
              have Kq := (Keep.refl (fun _ => True) V4).below hbq
              have clq := Kq _ _ _ trivial cl
              by_cases hlt : k < bn
              · have hltI : (k : Int) < bn := by omega
                obtain ⟨rfl, -⟩ := Hba.out (by rw [Hbn.out]; omega)
                have eb := Hbj.out k (by rw [Hbn.out]; exact hlt)
                obtain ⟨bk, hbk⟩ : ∃ bk, bs[k]'(by rw [Hbn.out]; exact hlt) = bk := ⟨_, rfl⟩
                rw [hbk] at eb
                have Hst : Hid ((∃ m, m < k + 1 ∧ ∃ h : m < bs.length, tb = bs[m]) ↔ ((∃ m, m < k ∧ ∃ h : m < bs.length, tb = bs[m]) ∨ tb = bk)) := by
                  constructor
                  · rintro ⟨m, hm, h, he⟩
                    by_cases hmj : m < k
                    · exact .inl ⟨m, hmj, h, he⟩
                    · obtain rfl : m = k := by omega
                      exact .inr (he.trans hbk)
                  · rintro (⟨m, hm, h, he⟩ | he)
                    · exact ⟨m, by omega, h, he⟩
                    · exact ⟨k, by omega, by rw [Hbn.out]; exact hlt, he.trans hbk.symm⟩
                have e2' := Kq _ _ _ trivial e2
                have eb' := Kq _ _ _ trivial eb
                clear hbk
                gi_wp2_with fail
                have hbd : Below V4.heap.size V4 wr.drew := hbq.drew
                cases o
                · skip
                  refine wpIn_region_need (S := fun w' => w'.cell? ⟨p, 0, none⟩ = some (.slice (some ⟨bl, bo, none⟩) n lc) ∧ w'.cell? ⟨bl, bo + j * 2 + 1, none⟩ = some (.int .i64 tb) ∧ w'.cell? ⟨fb, fo + k, none⟩ = some (.int .i64 bk)) (wide_self) (by kernel_rfl) (by kernel_rfl) ?_
                  have hS : (wr.drew).cell? ⟨p, 0, none⟩ = some (.slice (some ⟨bl, bo, none⟩) n lc) ∧ (wr.drew).cell? ⟨bl, bo + j * 2 + 1, none⟩ = some (.int .i64 tb) ∧ (wr.drew).cell? ⟨fb, fo + k, none⟩ = some (.int .i64 bk) := ⟨clq, e2', eb'⟩
                  refine wpN_take (i := 0) (v := ?v45) rfl (by kernel_rfl) (fun _ _ _ h => h) hS (Or.inl ⟨by rfl, ?hy45⟩) ?hr45
                  case hy45 => (intro wS hSw; (try dsimp only at hSw); go_simp; (try with_reducible rfl))
                  try simp only [Act.put, List.setIfInBounds_toArray, List.set_cons_zero, List.set_cons_succ, List.getElem_toArray, List.getElem_cons_zero, List.getElem_cons_succ]
                  refine wpN_take (i := 1) (v := ?v46) rfl (by kernel_rfl) (fun _ _ _ h => h) hS (Or.inl ⟨by rfl, ?hy46⟩) ?hr46
                  case hy46 => (intro wS hSw; (try dsimp only at hSw); go_simp; (try with_reducible rfl))
                  try simp only [Act.put, List.setIfInBounds_toArray, List.set_cons_zero, List.set_cons_succ, List.getElem_toArray, List.getElem_cons_zero, List.getElem_cons_succ]
                  refine wpN_take (i := 2) (v := ?v47) rfl (by kernel_rfl) (fun _ _ _ h => h) hS (Or.inl ⟨by rfl, ?hy47⟩) ?hr47
                  case hy47 => (intro wS hSw; (try dsimp only at hSw); go_simp; (try with_reducible rfl))
                  try simp only [Act.put, List.setIfInBounds_toArray, List.set_cons_zero, List.set_cons_succ, List.getElem_toArray, List.getElem_cons_zero, List.getElem_cons_succ]
                  refine wpN_take (i := 3) (v := ?v48) rfl (by kernel_rfl) (fun _ _ _ h => h) hS (Or.inl ⟨by rfl, ?hy48⟩) ?hr48
                  case hy48 => (intro wS hSw; (try dsimp only at hSw); go_simp; (try with_reducible rfl))
                  try simp only [Act.put, List.setIfInBounds_toArray, List.set_cons_zero, List.set_cons_succ, List.getElem_toArray, List.getElem_cons_zero, List.getElem_cons_succ]
                  refine wpN_take (i := 4) (v := ?v49) rfl (by kernel_rfl) (fun _ _ _ h => h) hS (Or.inl ⟨by rfl, ?hy49⟩) ?hr49
                  case hy49 => (intro wS hSw; (try dsimp only at hSw); go_simp; (try with_reducible rfl))
                  try simp only [Act.put, List.setIfInBounds_toArray, List.set_cons_zero, List.set_cons_succ, List.getElem_toArray, List.getElem_cons_zero, List.getElem_cons_succ]
                  refine wpN_take (i := 5) (v := ?v50) rfl (by kernel_rfl) (fun _ _ _ h => h) hS (Or.inl ⟨by rfl, ?hy50⟩) ?hr50
                  case hy50 => (intro wS hSw; (try dsimp only at hSw); go_simp; (try with_reducible rfl))
                  try simp only [Act.put, List.setIfInBounds_toArray, List.set_cons_zero, List.set_cons_succ, List.getElem_toArray, List.getElem_cons_zero, List.getElem_cons_succ]
                  refine wpN_take (i := 6) (v := ?v51) rfl (by kernel_rfl) (fun _ _ _ h => h) hS (Or.inl ⟨by rfl, ?hy51⟩) ?hr51
                  case hy51 => (intro wS hSw; (try dsimp only at hSw); go_simp; (try with_reducible rfl))
                  try simp only [Act.put, List.setIfInBounds_toArray, List.set_cons_zero, List.set_cons_succ, List.getElem_toArray, List.getElem_cons_zero, List.getElem_cons_succ]
                  refine wpN_take (i := 7) (v := ?v52) rfl (by kernel_rfl) (fun _ _ _ h => h) hS (Or.inl ⟨by rfl, ?hy52⟩) ?hr52
                  case hy52 => (intro wS hSw; (try dsimp only at hSw); go_simp; (try with_reducible rfl))
                  try simp only [Act.put, List.setIfInBounds_toArray, List.set_cons_zero, List.set_cons_succ, List.getElem_toArray, List.getElem_cons_zero, List.getElem_cons_succ]
                  refine wpN_take (i := 8) (v := ?v53) rfl (by kernel_rfl) (fun _ _ _ h => h) hS (Or.inl ⟨by rfl, ?hy53⟩) ?hr53
                  case hy53 => (intro wS hSw; (try dsimp only at hSw); go_simp; (try with_reducible rfl))
                  try simp only [Act.put, List.setIfInBounds_toArray, List.set_cons_zero, List.set_cons_succ, List.getElem_toArray, List.getElem_cons_zero, List.getElem_cons_succ]
                  refine wpN_take (i := 9) (v := ?v54) rfl (by kernel_rfl) (fun _ _ _ h => h) hS (Or.inl ⟨by rfl, ?hy54⟩) ?hr54
                  case hy54 => (intro wS hSw; (try dsimp only at hSw); go_simp; (try with_reducible rfl))
                  try simp only [Act.put, List.setIfInBounds_toArray, List.set_cons_zero, List.set_cons_succ, List.getElem_toArray, List.getElem_cons_zero, List.getElem_cons_succ]
                  refine wpN_take (i := 10) (v := ?v55) rfl (by kernel_rfl) (fun _ _ _ h => h) hS (Or.inl ⟨by rfl, ?hy55⟩) ?hr55
                  case hy55 => (intro wS hSw; (try dsimp only at hSw); go_simp; (try with_reducible rfl))
                  try simp only [Act.put, List.setIfInBounds_toArray, List.set_cons_zero, List.set_cons_succ, List.getElem_toArray, List.getElem_cons_zero, List.getElem_cons_succ]
                  refine wpN_take (i := 11) (v := ?v56) rfl (by kernel_rfl) (fun _ _ _ h => h) hS (Or.inl ⟨by rfl, ?hy56⟩) ?hr56
                  case hy56 => (intro wS hSw; (try dsimp only at hSw); go_simp; (try with_reducible rfl))
                  try simp only [Act.put, List.setIfInBounds_toArray, List.set_cons_zero, List.set_cons_succ, List.getElem_toArray, List.getElem_cons_zero, List.getElem_cons_succ]
                  refine wpN_take (i := 12) (v := ?v57) rfl (by kernel_rfl) (fun _ _ _ h => h) hS (Or.inl ⟨by rfl, ?hy57⟩) ?hr57
                  case hy57 => (intro wS hSw; (try dsimp only at hSw); go_simp; (try with_reducible rfl))
                  try simp only [Act.put, List.setIfInBounds_toArray, List.set_cons_zero, List.set_cons_succ, List.getElem_toArray, List.getElem_cons_zero, List.getElem_cons_succ]
                  refine wpN_step (i := 13) (by kernel_rfl) rfl (fun K hK => ?_)
                  go_simp
                  refine hK.out _ _ (fun h => absurd h (by decide)) ?_
                  clear hK K
                  try simp only [Act.put, List.setIfInBounds_toArray, List.set_cons_zero, List.set_cons_succ, List.getElem_toArray, List.getElem_cons_zero, List.getElem_cons_succ]
                  refine wpN_done (by kernel_rfl) ?_
                  refine OnlyN.normal ?_
                  gi_wp2_with fail
                  go_roundw
                  case rel =>
                    refine ⟨k + 1, by go_num, by omega, ⟨_, rfl, ?_⟩, hbd⟩
                    show _ ↔ _
                    rw [Hst.out]
                    have hno := no_of ho.out
                    simp [hno]
                  case measure => simp [intOf]; omega
                · skip
                  refine wpIn_region_need (S := fun w' => w'.cell? ⟨p, 0, none⟩ = some (.slice (some ⟨bl, bo, none⟩) n lc)) (wide_self) (by kernel_rfl) (by kernel_rfl) ?_
                  have hS : (wr.drew).cell? ⟨p, 0, none⟩ = some (.slice (some ⟨bl, bo, none⟩) n lc) := clq
                  refine wpN_take (i := 0) (v := ?v58) rfl (by kernel_rfl) (fun _ _ _ h => h) hS (Or.inl ⟨by rfl, ?hy58⟩) ?hr58
                  case hy58 => (intro wS hSw; (try dsimp only at hSw); go_simp; (try with_reducible rfl))
                  try simp only [Act.put, List.setIfInBounds_toArray, List.set_cons_zero, List.set_cons_succ, List.getElem_toArray, List.getElem_cons_zero, List.getElem_cons_succ]
                  refine wpN_take (i := 1) (v := ?v59) rfl (by kernel_rfl) (fun _ _ _ h => h) hS (Or.inl ⟨by rfl, ?hy59⟩) ?hr59
                  case hy59 => (intro wS hSw; (try dsimp only at hSw); go_simp; (try with_reducible rfl))
                  try simp only [Act.put, List.setIfInBounds_toArray, List.set_cons_zero, List.set_cons_succ, List.getElem_toArray, List.getElem_cons_zero, List.getElem_cons_succ]
                  refine wpN_pure (i := 2) (v := undef) rfl (by kernel_rfl) (fun _ _ _ h => h) (Or.inr ⟨by rfl, rfl⟩) ?_
                  try simp only [Act.put, List.setIfInBounds_toArray, List.set_cons_zero, List.set_cons_succ, List.getElem_toArray, List.getElem_cons_zero, List.getElem_cons_succ]
                  refine wpN_pure (i := 3) (v := undef) rfl (by kernel_rfl) (fun _ _ _ h => h) (Or.inr ⟨by rfl, rfl⟩) ?_
                  try simp only [Act.put, List.setIfInBounds_toArray, List.set_cons_zero, List.set_cons_succ, List.getElem_toArray, List.getElem_cons_zero, List.getElem_cons_succ]
                  refine wpN_pure (i := 4) (v := undef) rfl (by kernel_rfl) (fun _ _ _ h => h) (Or.inr ⟨by rfl, rfl⟩) ?_
                  try simp only [Act.put, List.setIfInBounds_toArray, List.set_cons_zero, List.set_cons_succ, List.getElem_toArray, List.getElem_cons_zero, List.getElem_cons_succ]
                  refine wpN_pure (i := 5) (v := undef) rfl (by kernel_rfl) (fun _ _ _ h => h) (Or.inr ⟨by rfl, rfl⟩) ?_
                  try simp only [Act.put, List.setIfInBounds_toArray, List.set_cons_zero, List.set_cons_succ, List.getElem_toArray, List.getElem_cons_zero, List.getElem_cons_succ]
                  refine wpN_pure (i := 6) (v := undef) rfl (by kernel_rfl) (fun _ _ _ h => h) (Or.inr ⟨by rfl, rfl⟩) ?_
                  try simp only [Act.put, List.setIfInBounds_toArray, List.set_cons_zero, List.set_cons_succ, List.getElem_toArray, List.getElem_cons_zero, List.getElem_cons_succ]
                  refine wpN_pure (i := 7) (v := undef) rfl (by kernel_rfl) (fun _ _ _ h => h) (Or.inr ⟨by rfl, rfl⟩) ?_
                  try simp only [Act.put, List.setIfInBounds_toArray, List.set_cons_zero, List.set_cons_succ, List.getElem_toArray, List.getElem_cons_zero, List.getElem_cons_succ]
                  refine wpN_pure (i := 8) (v := undef) rfl (by kernel_rfl) (fun _ _ _ h => h) (Or.inr ⟨by rfl, rfl⟩) ?_
                  try simp only [Act.put, List.setIfInBounds_toArray, List.set_cons_zero, List.set_cons_succ, List.getElem_toArray, List.getElem_cons_zero, List.getElem_cons_succ]
                  refine wpN_pure (i := 9) (v := undef) rfl (by kernel_rfl) (fun _ _ _ h => h) (Or.inr ⟨by rfl, rfl⟩) ?_
                  try simp only [Act.put, List.setIfInBounds_toArray, List.set_cons_zero, List.set_cons_succ, List.getElem_toArray, List.getElem_cons_zero, List.getElem_cons_succ]
                  refine wpN_pure (i := 10) (v := undef) rfl (by kernel_rfl) (fun _ _ _ h => h) (Or.inr ⟨by rfl, rfl⟩) ?_
                  try simp only [Act.put, List.setIfInBounds_toArray, List.set_cons_zero, List.set_cons_succ, List.getElem_toArray, List.getElem_cons_zero, List.getElem_cons_succ]
                  refine wpN_pure (i := 11) (v := undef) rfl (by kernel_rfl) (fun _ _ _ h => h) (Or.inr ⟨by rfl, rfl⟩) ?_
                  try simp only [Act.put, List.setIfInBounds_toArray, List.set_cons_zero, List.set_cons_succ, List.getElem_toArray, List.getElem_cons_zero, List.getElem_cons_succ]
                  refine wpN_pure (i := 12) (v := ?v60) rfl (by kernel_rfl) (fun _ _ _ h => h) (Or.inl ⟨by rfl, ?hy60⟩) ?hr60
                  case hy60 => (intro wS hSw; go_simp; (try with_reducible rfl))
                  try simp only [Act.put, List.setIfInBounds_toArray, List.set_cons_zero, List.set_cons_succ, List.getElem_toArray, List.getElem_cons_zero, List.getElem_cons_succ]
                  refine wpN_step (i := 13) (by kernel_rfl) rfl (fun K hK => ?_)
                  go_simp
                  refine hK.out _ _ (fun h => absurd h (by decide)) ?_
                  clear hK K
                  try simp only [Act.put, List.setIfInBounds_toArray, List.set_cons_zero, List.set_cons_succ, List.getElem_toArray, List.getElem_cons_zero, List.getElem_cons_succ]
                  refine wpN_done (by kernel_rfl) ?_
                  refine OnlyN.normal ?_
                  gi_wp2_with fail
                  go_roundw
                  case rel =>
                    refine ⟨k + 1, by go_num, by omega, ⟨_, rfl, ?_⟩, hbd⟩
                    show _ ↔ _
                    rw [Hst.out]
                    have hyes := yes_of ho.out
                    simp [hyes]
                  case measure => simp [intOf]; omega
              · have ho1 : o = true := by
                  obtain ⟨x, hx, he⟩ := H2.out j (by rw [Hln.out]; exact hlj)
                  obtain ⟨m, hm, rfl⟩ := List.getElem_of_mem hx
                  exact ho.out.2 ⟨m, by have := Hbn.out; omega, hm, by rw [he, Htb.out]⟩
                subst ho1
                gi_wp2_with fail
                go_roundw
                case rel => exact ⟨j + 1, by go_num, by omega, hbq⟩
                case measure => simp [intOf]; omega
          · gi_wp2_with fail
            have xn_q := xn_4.below hbq
            have xo_q := xo_4.below hbq
            have xl_q := xl_4.below hbq
            have x2_q := x2_4.below hbq
            refine ⟨trivial, (calls_wideF wide_self _ (known04 wr)).mono ?_⟩
            rintro e w9 ⟨rfl, hb9⟩
            have hB9 : Below w.heap.size w w9 := (B_4.trans (hbq.mono B_4.size)).trans (hb9.mono (by have := B_4.size; have := hbq.size; omega))
            have HD9 : Hid (w9.heap[D]? = some (.deferred (some []))) := by
              have h1 := HD4.out
              have hl : D < V4.heap.size := (Array.getElem?_eq_some_iff.1 h1).1
              have := hbq.size
              exact (hb9.block D (by omega)).trans ((hbq.block D hl).trans h1)
            have k1 : w9.cell? ⟨p, 0, none⟩ = some (.slice la n lc) := (xl_q.below hb9).cell rfl
            have k2 : w9.cell? ⟨p + 1 + 1, 0, none⟩ = some (.int .i64 (min S n)) := (xn_q.below hb9).cell rfl
            have k3 : w9.cell? ⟨p + 1 + 1 + 1, 0, none⟩ = some (.bool true) := (xo_q.below hb9).cell rfl
            have k4 : w9.cell? ⟨q2, 0, none⟩ = some (.int .i64 S) := (x2_q.below hb9).cell rfl
            clear hb9
            gi_wp2_with fail
            have hlw := hB9.size
            have hfin : Below w.heap.size w (w9.putObj D (.deferred none)) := hB9.trans (belowK_b (w := w) (Nat.le_refl _) w9 D _ _ (by omega) HD9.out rfl rfl)
            exact ⟨by simp, .inl ⟨_, _, rfl, run_takeDeferred HD9.out, ⟨_, results_tmp rfl _ _ _, rfl, hfin⟩⟩⟩
  refine wpIn_rangeFunc_ownH rfl (by omega) (gf := 113) (lb := #[.pointer (some ⟨Be, 0, none⟩)]) rfl trivial (enters_of Try.func113 (by kernel_rfl) rfl)
    (each_stops (But (p + 2) (p + 4)) (fun k _ hk _ => .inr hk) X5.out (by rw [Hn.out]; omega) (9 - 1) w5 (fun k _ hk _ => .inr (by omega)) (Keep.refl _ _) Be ye)
    (fun h h' => h.trans h') (fun W l o o' _ hl ho _ => KeepC.putObj _ W l o o' hl ho) (Below.refl _ _) (fun _ => rfl)
    (fun pre W => (Blk W (p + 1 + 1) #[.int .i64 (pre.length : Int)] 3 ∧ Blk W (p + 1 + 1 + 1) #[.bool true] 4) ∧ (KeepC (But (p + 2) (p + 4)) w5 W ∧ Below (p + 2) w5 W) ∧ (pre.length : Int) < S ∧ pre.map Hit.key <+: t.pre 1)
    (fun c pre W => (c = .exit 0 ∧ ∃ o, (Blk W (p + 1 + 1) #[.int .i64 (pre.length : Int)] 3 ∧ Blk W (p + 1 + 1 + 1) #[.bool o] 4) ∧ (pre.map Hit.key <+: t.pre 1 → o = true ∧ (pre.length : Int) = S)) ∧ (KeepC (But (p + 2) (p + 4)) w5 W ∧ Below (p + 2) w5 W))
    ?hI ?hIx ?h0
    (fun x a' W => ∃ Bx, (p + 4 ≤ Bx ∧ Blk W Bx #[.slice x.a x.n x.c, .int .i64 x.b] 40) ∧ a' = { tmps := #[Value.agg #[Value.slice a l2 c, Value.int IntKind.i64 b2], Value.int IntKind.i64 st, Value.pointer (some { block := w.heap.size, off := 0 }), Value.pointer (some { block := q2, off := 0 }), Value.bool false, Value.pointer (some { block := p, off := 0 }), Value.pointer (some { block := p + 1, off := 0 }), Value.pointer (some { block := p + 1 + 1, off := 0 }), Value.pointer (some { block := p + 1 + 1 + 1, off := 0 }), .int .i64 x.d, Value.pointer (some { block := Bx, off := 0 }), undef, undef, undef, undef, undef, undef, undef, Value.agg #[Value.slice a l2 c, Value.int IntKind.i64 b2], Value.slice (some { block := q2 + 1, off := 0 }) 1 1, Value.bool true, Value.bool false, Value.bool false, Value.bool true, Value.bool false, Value.bool false, undef, Value.tuple #[Value.slice la n lc, Value.slice da n dc], Value.agg #[Value.slice a l2 c, Value.int IntKind.i64 b2], Value.tuple #[Value.slice la n lc, Value.slice da n dc], Value.slice la n lc, Value.slice da n dc, Value.int IntKind.i64 st, Value.int IntKind.u64 (IntKind.u64.wrap st), Value.int IntKind.u64 ((IntKind.u64.wrap st).tmod 150), Value.int IntKind.i64 (wrap64 ((IntKind.u64.wrap st).tmod 150)), Value.int IntKind.i64 S, Value.agg #[Value.slice a l2 c, Value.int IntKind.i64 b2], Value.agg #[Value.slice xa m xc, Value.int IntKind.i64 bb], Value.func (Fn.func 113) #[] #[Value.pointer (some { block := Be, off := 0 })], .int .i64 x.d, .agg #[.slice x.a x.n x.c, .int .i64 x.b], undef, undef, undef, undef, undef, undef, undef, undef, undef, undef, undef, undef, undef, undef, undef, undef, undef, undef, undef, undef, undef, undef, undef, undef, undef, undef, undef, undef, undef, undef, undef, undef, undef, undef, undef, undef, undef, undef, undef, undef, undef, undef, undef, undef, undef, undef, undef, undef, undef, undef, undef, undef, undef, undef, undef, undef, undef, undef, undef, undef, undef, undef, undef, undef, undef, undef, undef, undef, undef, undef, undef, undef, undef, undef, undef, undef, undef, undef, undef, undef, undef, undef, undef, undef, undef, undef, undef, undef, undef, undef, undef, undef, undef, undef, undef, undef, undef, undef, undef, undef, undef, undef, undef, undef, undef, undef, undef, undef, undef, undef, undef, undef, undef, undef, undef, undef, undef, undef, undef, undef, undef], defers := [] })
    ?hAx ?assign ?body ?done ?stop
  case hI =>
    rintro pre A B row ⟨⟨h1, h2⟩, ⟨h3, h4⟩, h5⟩ hg hr
    exact ⟨⟨blk_kept h1 hg (fun r e => (hr r e).2), blk_kept h2 hg (fun r e => (hr r e).2)⟩, ⟨keepC_own h3 hg (fun r e => (hr r e).2), h4.grown hg (by have := h4.size; omega) (fun k e => by have := (hr k e).1; omega)⟩, h5⟩
  case hIx =>
    rintro c pre A B row ⟨⟨hc, o, ⟨h1, h2⟩, h5⟩, ⟨h3, h4⟩⟩ hg hr
    exact ⟨⟨hc, o, ⟨blk_kept h1 hg (fun r e => (hr r e).2), blk_kept h2 hg (fun r e => (hr r e).2)⟩, h5⟩, ⟨keepC_own h3 hg (fun r e => (hr r e).2), h4.grown hg (by have := h4.size; omega) (fun k e => by have := (hr k e).1; omega)⟩⟩
  case h0 => exact ⟨⟨xn_w5, xo_w5⟩, ⟨KeepC.refl _ _, Below.refl _ _⟩, by have := HS.out; simp; omega, by simp⟩
  case hAx =>
    rintro x a' u A B row ⟨Bx, ⟨h1, h2⟩, h3⟩ hg hr
    exact ⟨Bx, ⟨h1, blk_kept h2 hg (fun r e => (hr r e).2)⟩, h3⟩
  case assign =>
    rintro l pre x V K ⟨⟨h1, h2⟩, ⟨h3, h4⟩, h5, h6⟩ hK
    have HK := Lib.hid hK; clear hK
    have H6 := Lib.hid h6; clear h6
    have hz := h4.size
    simp only [Hit.enc] at *
    gi_wp2
    exact HK.out _ _ ((KeepsOthers.alloc _ _).from _) ((KeepC.refl _ V).alloc _) ⟨⟨h1.alloc _, h2.alloc _⟩, ⟨h3.alloc _, h4.alloc (by omega) _⟩, h5, H6.out⟩ ⟨V.heap.size, ⟨by omega, Blk.new _ _ _ rfl⟩, rfl⟩
  case body =>
    rintro l' pre x a' V hl' ⟨r, hr⟩ ⟨⟨h1, h2⟩, ⟨h3, h4⟩, h5, h6⟩ ⟨Bx, ⟨hBx, bX⟩, rfl⟩ hlt'
    have H6 := Lib.hid h6; clear h6 hr
    have hxp : pre.length < n := by rw [← Hn.out]; exact hlt'
    have xl := blkB h4 xl_w5 (by omega)
    have xd := blkB h4 xd_w5 (by omega)
    have xS := blkB h4 x2_w5 (by omega)
    have TX := Lib.hid (x.ok.keep (h3.keep (F := fun q => p + 4 ≤ q) fun k _ hk _ => .inr hk))
    have Hxs := Lib.hid x.sz
    obtain ⟨la', lc', hla, ⟨hm1, hm2⟩, bl, bo, hbl, hlj⟩ := tys_cells (L5.out.keep (h3.keep (F := fun q => q < p ∧ q ≠ q2) fun k _ hk _ => .inl (by omega)))
    have hla2 : la = la' ∧ lc = lc' := by injection hla with q1 q2 q3; exact ⟨q1, q3⟩
    obtain ⟨rfl, rfl⟩ := hla2
    clear hla
    obtain ⟨hda, ⟨hm3, hm4⟩, dbl, dbo, hdbl, hdj⟩ := ints_cells (D5.out.keep (h3.keep (F := fun q => q < p ∧ q ≠ q2) fun k _ hk _ => .inl (by omega)))
    clear hda
    obtain ⟨ls, lb, e1, e2, hlt2⟩ := hlj pre.length (by rw [HLe.out]; exact hxp)
    have e3 := hdj pre.length (by rw [HDe.out]; exact hxp)
    have Tl := Lib.hid hlt2; clear hlt2 hlj hdj
    obtain ⟨rfl, hbl⟩ := hbl (by rw [HLe.out]; omega)
    obtain ⟨rfl, hdbl⟩ := hdbl (by rw [HDe.out]; omega)
    rw [HLe.out] at hm1 hm2
    rw [HDe.out] at hm3 hm4
    obtain ⟨ld, hld⟩ : ∃ ld, (dpL (t.pre 1))[pre.length]'(by rw [HDe.out]; exact hxp) = ld := ⟨_, rfl⟩
    obtain ⟨lt, hlt⟩ : ∃ lt, (tyL (t.pre 1))[pre.length]'(by rw [HLe.out]; exact hxp) = lt := ⟨_, rfl⟩
    rw [hld] at e3
    rw [hlt] at Tl
    have fin : ∀ (o : Bool) (V1 W' : World), Below V.heap.size V V1 → W' = (V1.setCell ⟨p + 1 + 1 + 1, 0, none⟩ (.bool o)).setCell ⟨p + 1 + 1, 0, none⟩ (.int .i64 ((pre.length : Int) + 1)) →
        (∀ B0, KeepsFrom B0 V W') ∧ KeepC (But (p + 2) (p + 4)) V W' ∧ (Blk W' (p + 1 + 1) #[.int .i64 (((pre ++ [x]).length : Nat) : Int)] 3 ∧ Blk W' (p + 1 + 1 + 1) #[.bool o] 4) ∧ (KeepC (But (p + 2) (p + 4)) w5 W' ∧ Below (p + 2) w5 W') := by
      rintro o V1 W' hb rfl
      have k1 : KeepC (But (p + 2) (p + 4)) V ((V1.setCell ⟨p + 1 + 1 + 1, 0, none⟩ (.bool o)).setCell ⟨p + 1 + 1, 0, none⟩ (.int .i64 ((pre.length : Int) + 1))) :=
        (((KeepC.refl _ V).below hb).setCell _ _ (by simp [But])).setCell _ _ (by simp [But])
      have hz := h4.size
      refine ⟨fun B0 => ((⟨hb.size, fun k o hk _ => (hb.block k (Array.getElem?_eq_some_iff.1 hk).1).trans hk⟩ : KeepsOthers V V1).trans ((KeepsOthers.setCell _ _ _).trans (KeepsOthers.setCell _ _ _))).from _, k1, ⟨?_, ?_⟩, h3.trans k1, ?_⟩
      · have := ((h1.below hb).far ⟨p + 1 + 1 + 1, 0, none⟩ (.bool o) (by simp)).set 0 (.int .i64 ((pre.length : Int) + 1))
        simpa using this
      · have := ((h2.below hb).set 0 (.bool o)).far ⟨p + 1 + 1, 0, none⟩ (.int .i64 ((pre.length : Int) + 1)) (by simp)
        simpa using this
      · exact ((h4.trans (hb.mono (by omega))).setCell (p := ⟨p + 1 + 1 + 1, 0, none⟩) (by simp) _).setCell (p := ⟨p + 1 + 1, 0, none⟩) (by simp) _
    have Fin := Lib.hid fin; clear fin
    have hk1 : pre.length < (t.pre 1).length := by rw [Ty.pre_length, Hn.out]; exact hxp
    have hkey : ((pre ++ [x]).map Hit.key <+: t.pre 1) ↔ ((x.d : Int) = ld ∧ x.t = lt) := by
      rw [← hld, ← hlt]
      simp only [List.map_append, List.map_cons, List.map_nil, dpL, tyL, List.getElem_map]
      have h6 := H6.out
      rw [prefix_snoc h6 (by simpa using hk1)]
      simp only [List.length_map, Hit.key, Prod.ext_iff]
      constructor
      · rintro ⟨h1, h2⟩; rw [h1, h2]; simp
      · rintro ⟨h1, h2⟩; exact ⟨by omega, h2⟩
    have Hkey := Lib.hid hkey; clear hkey hk1 hld hlt
    have hn1' : (pre.length : Int) < n := by omega
    have hn2 : (pre.length : Int) ≤ 100 := by omega
    gi_wp2_with fail
    by_cases hd : (x.d : Int) = ld
    · skip
      refine wpIn_region_need (S := fun w' => w'.cell? ⟨p + 1 + 1 + 1, 0, none⟩ = some (.bool true) ∧ w'.cell? ⟨p + 1 + 1, 0, none⟩ = some (.int .i64 (pre.length : Int)) ∧ w'.cell? ⟨p, 0, none⟩ = some (.slice (some ⟨bl, bo, none⟩) n lc) ∧ w'.cell? ⟨p + 1, 0, none⟩ = some (.slice (some ⟨dbl, dbo, none⟩) n dc) ∧ w'.cell? ⟨dbl, dbo + pre.length, none⟩ = some (.int .i64 ld) ∧ w'.cell? ⟨Bx, 0, none⟩ = some (.slice x.a x.n x.c) ∧ w'.cell? ⟨Bx, 1, none⟩ = some (.int .i64 x.b) ∧ w'.cell? ⟨bl, bo + pre.length * 2, none⟩ = some ls ∧ w'.cell? ⟨bl, bo + pre.length * 2 + 1, none⟩ = some lb) (wide_round _) (by kernel_rfl) (by kernel_rfl) ?_
      have hS : (V.drew).cell? ⟨p + 1 + 1 + 1, 0, none⟩ = some (.bool true) ∧ (V.drew).cell? ⟨p + 1 + 1, 0, none⟩ = some (.int .i64 (pre.length : Int)) ∧ (V.drew).cell? ⟨p, 0, none⟩ = some (.slice (some ⟨bl, bo, none⟩) n lc) ∧ (V.drew).cell? ⟨p + 1, 0, none⟩ = some (.slice (some ⟨dbl, dbo, none⟩) n dc) ∧ (V.drew).cell? ⟨dbl, dbo + pre.length, none⟩ = some (.int .i64 ld) ∧ (V.drew).cell? ⟨Bx, 0, none⟩ = some (.slice x.a x.n x.c) ∧ (V.drew).cell? ⟨Bx, 1, none⟩ = some (.int .i64 x.b) ∧ (V.drew).cell? ⟨bl, bo + pre.length * 2, none⟩ = some ls ∧ (V.drew).cell? ⟨bl, bo + pre.length * 2 + 1, none⟩ = some lb := ⟨h2.drew.cell rfl, h1.drew.cell rfl, xl.drew.cell rfl, xd.drew.cell rfl, e3, bX.drew.cell rfl, bX.drew.cell rfl, e1, e2⟩
      refine wpN_take (i := 0) (v := ?v61) rfl (by kernel_rfl) (fun _ _ _ h => h) hS (Or.inl ⟨by rfl, ?hy61⟩) ?hr61
      case hy61 => (intro wS hSw; (try dsimp only at hSw); go_simp; (try with_reducible rfl))
      try simp only [Act.put, List.setIfInBounds_toArray, List.set_cons_zero, List.set_cons_succ, List.getElem_toArray, List.getElem_cons_zero, List.getElem_cons_succ]
      refine wpN_take (i := 1) (v := ?v62) rfl (by kernel_rfl) (fun _ _ _ h => h) hS (Or.inl ⟨by rfl, ?hy62⟩) ?hr62
      case hy62 => (intro wS hSw; (try dsimp only at hSw); go_simp; (try with_reducible rfl))
      try simp only [Act.put, List.setIfInBounds_toArray, List.set_cons_zero, List.set_cons_succ, List.getElem_toArray, List.getElem_cons_zero, List.getElem_cons_succ]
      refine wpN_take (i := 2) (v := ?v63) rfl (by kernel_rfl) (fun _ _ _ h => h) hS (Or.inl ⟨by rfl, ?hy63⟩) ?hr63
      case hy63 => (intro wS hSw; (try dsimp only at hSw); go_simp; (try with_reducible rfl))
      try simp only [Act.put, List.setIfInBounds_toArray, List.set_cons_zero, List.set_cons_succ, List.getElem_toArray, List.getElem_cons_zero, List.getElem_cons_succ]
      refine wpN_take (i := 3) (v := ?v64) rfl (by kernel_rfl) (fun _ _ _ h => h) hS (Or.inl ⟨by rfl, ?hy64⟩) ?hr64
      case hy64 => (intro wS hSw; (try dsimp only at hSw); go_simp; (try with_reducible rfl))
      try simp only [Act.put, List.setIfInBounds_toArray, List.set_cons_zero, List.set_cons_succ, List.getElem_toArray, List.getElem_cons_zero, List.getElem_cons_succ]
      refine wpN_take (i := 4) (v := ?v65) rfl (by kernel_rfl) (fun _ _ _ h => h) hS (Or.inl ⟨by rfl, ?hy65⟩) ?hr65
      case hy65 => (intro wS hSw; (try dsimp only at hSw); go_simp; (try with_reducible rfl))
      try simp only [Act.put, List.setIfInBounds_toArray, List.set_cons_zero, List.set_cons_succ, List.getElem_toArray, List.getElem_cons_zero, List.getElem_cons_succ]
      refine wpN_take (i := 5) (v := ?v66) rfl (by kernel_rfl) (fun _ _ _ h => h) hS (Or.inl ⟨by rfl, ?hy66⟩) ?hr66
      case hy66 => (intro wS hSw; (try dsimp only at hSw); go_simp; (try with_reducible rfl))
      try simp only [Act.put, List.setIfInBounds_toArray, List.set_cons_zero, List.set_cons_succ, List.getElem_toArray, List.getElem_cons_zero, List.getElem_cons_succ]
      refine wpN_take (i := 6) (v := ?v67) rfl (by kernel_rfl) (fun _ _ _ h => h) hS (Or.inl ⟨by rfl, ?hy67⟩) ?hr67
      case hy67 => (intro wS hSw; (try dsimp only at hSw); go_simp; (try with_reducible rfl))
      try simp only [Act.put, List.setIfInBounds_toArray, List.set_cons_zero, List.set_cons_succ, List.getElem_toArray, List.getElem_cons_zero, List.getElem_cons_succ]
      refine wpN_take (i := 7) (v := ?v68) rfl (by kernel_rfl) (fun _ _ _ h => h) hS (Or.inl ⟨by rfl, ?hy68⟩) ?hr68
      case hy68 => (intro wS hSw; (try dsimp only at hSw); go_simp; (try with_reducible rfl))
      try simp only [Act.put, List.setIfInBounds_toArray, List.set_cons_zero, List.set_cons_succ, List.getElem_toArray, List.getElem_cons_zero, List.getElem_cons_succ]
      refine wpN_take (i := 8) (v := ?v69) rfl (by kernel_rfl) (fun _ _ _ h => h) hS (Or.inl ⟨by rfl, ?hy69⟩) ?hr69
      case hy69 => (intro wS hSw; (try dsimp only at hSw); go_simp; (try with_reducible rfl))
      try simp only [Act.put, List.setIfInBounds_toArray, List.set_cons_zero, List.set_cons_succ, List.getElem_toArray, List.getElem_cons_zero, List.getElem_cons_succ]
      refine wpN_take (i := 9) (v := ?v70) rfl (by kernel_rfl) (fun _ _ _ h => h) hS (Or.inl ⟨by rfl, ?hy70⟩) ?hr70
      case hy70 => (intro wS hSw; (try dsimp only at hSw); go_simp; (try with_reducible rfl))
      try simp only [Act.put, List.setIfInBounds_toArray, List.set_cons_zero, List.set_cons_succ, List.getElem_toArray, List.getElem_cons_zero, List.getElem_cons_succ]
      refine wpN_take (i := 10) (v := ?v71) rfl (by kernel_rfl) (fun _ _ _ h => h) hS (Or.inl ⟨by rfl, ?hy71⟩) ?hr71
      case hy71 => (intro wS hSw; (try dsimp only at hSw); go_simp; (try with_reducible rfl))
      try simp only [Act.put, List.setIfInBounds_toArray, List.set_cons_zero, List.set_cons_succ, List.getElem_toArray, List.getElem_cons_zero, List.getElem_cons_succ]
      refine wpN_take (i := 11) (v := ?v72) rfl (by kernel_rfl) (fun _ _ _ h => h) hS (Or.inl ⟨by rfl, ?hy72⟩) ?hr72
      case hy72 => (intro wS hSw; (try dsimp only at hSw); go_simp; (try with_reducible rfl))
      try simp only [Act.put, List.setIfInBounds_toArray, List.set_cons_zero, List.set_cons_succ, List.getElem_toArray, List.getElem_cons_zero, List.getElem_cons_succ]
      refine wpN_take (i := 12) (v := ?v73) rfl (by kernel_rfl) (fun _ _ _ h => h) hS (Or.inl ⟨by rfl, ?hy73⟩) ?hr73
      case hy73 => (intro wS hSw; (try dsimp only at hSw); go_simp; (try with_reducible rfl))
      try simp only [Act.put, List.setIfInBounds_toArray, List.set_cons_zero, List.set_cons_succ, List.getElem_toArray, List.getElem_cons_zero, List.getElem_cons_succ]
      refine wpN_take (i := 13) (v := ?v74) rfl (by kernel_rfl) (fun _ _ _ h => h) hS (Or.inl ⟨by rfl, ?hy74⟩) ?hr74
      case hy74 => (intro wS hSw; (try dsimp only at hSw); go_simp; (try with_reducible rfl))
      try simp only [Act.put, List.setIfInBounds_toArray, List.set_cons_zero, List.set_cons_succ, List.getElem_toArray, List.getElem_cons_zero, List.getElem_cons_succ]
      refine wpN_take (i := 14) (v := ?v75) rfl (by kernel_rfl) (fun _ _ _ h => h) hS (Or.inl ⟨by rfl, ?hy75⟩) ?hr75
      case hy75 => (intro wS hSw; (try dsimp only at hSw); go_simp; (try with_reducible rfl))
      try simp only [Act.put, List.setIfInBounds_toArray, List.set_cons_zero, List.set_cons_succ, List.getElem_toArray, List.getElem_cons_zero, List.getElem_cons_succ]
      refine wpN_take (i := 15) (v := ?v76) rfl (by kernel_rfl) (fun _ _ _ h => h) hS (Or.inl ⟨by rfl, ?hy76⟩) ?hr76
      case hy76 => (intro wS hSw; (try dsimp only at hSw); go_simp; (try with_reducible rfl))
      try simp only [Act.put, List.setIfInBounds_toArray, List.set_cons_zero, List.set_cons_succ, List.getElem_toArray, List.getElem_cons_zero, List.getElem_cons_succ]
      refine wpN_take (i := 16) (v := ?v77) rfl (by kernel_rfl) (fun _ _ _ h => h) hS (Or.inl ⟨by rfl, ?hy77⟩) ?hr77
      case hy77 => (intro wS hSw; (try dsimp only at hSw); go_simp; (try with_reducible rfl))
      try simp only [Act.put, List.setIfInBounds_toArray, List.set_cons_zero, List.set_cons_succ, List.getElem_toArray, List.getElem_cons_zero, List.getElem_cons_succ]
      refine wpN_take (i := 18) (v := ?v78) rfl (by kernel_rfl) (fun _ _ _ h => h) hS (Or.inl ⟨by rfl, ?hy78⟩) ?hr78
      case hy78 => (intro wS hSw; (try dsimp only at hSw); go_simp; (try with_reducible rfl))
      try simp only [Act.put, List.setIfInBounds_toArray, List.set_cons_zero, List.set_cons_succ, List.getElem_toArray, List.getElem_cons_zero, List.getElem_cons_succ]
      refine wpN_take (i := 19) (v := ?v79) rfl (by kernel_rfl) (fun _ _ _ h => h) hS (Or.inl ⟨by rfl, ?hy79⟩) ?hr79
      case hy79 => (intro wS hSw; (try dsimp only at hSw); go_simp; (try with_reducible rfl))
      try simp only [Act.put, List.setIfInBounds_toArray, List.set_cons_zero, List.set_cons_succ, List.getElem_toArray, List.getElem_cons_zero, List.getElem_cons_succ]
      refine wpN_take (i := 20) (v := ?v80) rfl (by kernel_rfl) (fun _ _ _ h => h) hS (Or.inl ⟨by rfl, ?hy80⟩) ?hr80
      case hy80 => (intro wS hSw; (try dsimp only at hSw); go_simp; (try with_reducible rfl))
      try simp only [Act.put, List.setIfInBounds_toArray, List.set_cons_zero, List.set_cons_succ, List.getElem_toArray, List.getElem_cons_zero, List.getElem_cons_succ]
      refine wpN_take (i := 21) (v := ?v81) rfl (by kernel_rfl) (fun _ _ _ h => h) hS (Or.inl ⟨by rfl, ?hy81⟩) ?hr81
      case hy81 => (intro wS hSw; (try dsimp only at hSw); go_simp; (try with_reducible rfl))
      try simp only [Act.put, List.setIfInBounds_toArray, List.set_cons_zero, List.set_cons_succ, List.getElem_toArray, List.getElem_cons_zero, List.getElem_cons_succ]
      refine wpN_step (i := 17) (by kernel_rfl) rfl (fun K hK => ?_)
      go_simp
      refine (of_any TX.out V.drew Hxs.out (Keep.refl _ _).drew).mono ?_
      rintro e V1 ⟨os, ob, rfl, hO, hb1⟩
      have HO := Lib.hid hO; clear hO
      have hb1' : Below V.heap.size V V1 := (Below.refl _ _).drew.trans hb1
      have hS : (V1).cell? ⟨p + 1 + 1 + 1, 0, none⟩ = some (.bool true) ∧ (V1).cell? ⟨p + 1 + 1, 0, none⟩ = some (.int .i64 (pre.length : Int)) ∧ (V1).cell? ⟨p, 0, none⟩ = some (.slice (some ⟨bl, bo, none⟩) n lc) ∧ (V1).cell? ⟨p + 1, 0, none⟩ = some (.slice (some ⟨dbl, dbo, none⟩) n dc) ∧ (V1).cell? ⟨dbl, dbo + pre.length, none⟩ = some (.int .i64 ld) ∧ (V1).cell? ⟨Bx, 0, none⟩ = some (.slice x.a x.n x.c) ∧ (V1).cell? ⟨Bx, 1, none⟩ = some (.int .i64 x.b) ∧ (V1).cell? ⟨bl, bo + pre.length * 2, none⟩ = some ls ∧ (V1).cell? ⟨bl, bo + pre.length * 2 + 1, none⟩ = some lb := ⟨(h2.below hb1').cell rfl, (h1.below hb1').cell rfl, (xl.below hb1').cell rfl, (xd.below hb1').cell rfl, (Keep.refl (fun _ => True) V).below hb1' _ _ _ trivial e3, (bX.below hb1').cell rfl, (bX.below hb1').cell rfl, (Keep.refl (fun _ => True) V).below hb1' _ _ _ trivial e1, (Keep.refl (fun _ => True) V).below hb1' _ _ _ trivial e2⟩
      refine hK.out _ _ (fun _ => hS) ?_
      clear hK K
      try simp only [Act.put, List.setIfInBounds_toArray, List.set_cons_zero, List.set_cons_succ, List.getElem_toArray, List.getElem_cons_zero, List.getElem_cons_succ]
      refine wpN_step (i := 22) (by kernel_rfl) rfl (fun K hK => ?_)
      go_simp
      refine (same_r HO.out Tl.out V1 (Keep.refl _ _) ((Keep.refl _ _).below hb1')).mono ?_
      intro e V2 h
      obtain ⟨o, Ho, rfl, hb2⟩ := of_retB' h
      clear h
      have hb2' : Below V.heap.size V V2 := hb1'.trans (hb2.mono hb1'.size)
      have hS : (V2).cell? ⟨p + 1 + 1 + 1, 0, none⟩ = some (.bool true) ∧ (V2).cell? ⟨p + 1 + 1, 0, none⟩ = some (.int .i64 (pre.length : Int)) ∧ (V2).cell? ⟨p, 0, none⟩ = some (.slice (some ⟨bl, bo, none⟩) n lc) ∧ (V2).cell? ⟨p + 1, 0, none⟩ = some (.slice (some ⟨dbl, dbo, none⟩) n dc) ∧ (V2).cell? ⟨dbl, dbo + pre.length, none⟩ = some (.int .i64 ld) ∧ (V2).cell? ⟨Bx, 0, none⟩ = some (.slice x.a x.n x.c) ∧ (V2).cell? ⟨Bx, 1, none⟩ = some (.int .i64 x.b) ∧ (V2).cell? ⟨bl, bo + pre.length * 2, none⟩ = some ls ∧ (V2).cell? ⟨bl, bo + pre.length * 2 + 1, none⟩ = some lb := ⟨(h2.below hb2').cell rfl, (h1.below hb2').cell rfl, (xl.below hb2').cell rfl, (xd.below hb2').cell rfl, (Keep.refl (fun _ => True) V).below hb2' _ _ _ trivial e3, (bX.below hb2').cell rfl, (bX.below hb2').cell rfl, (Keep.refl (fun _ => True) V).below hb2' _ _ _ trivial e1, (Keep.refl (fun _ => True) V).below hb2' _ _ _ trivial e2⟩
      refine hK.out _ _ (fun _ => hS) ?_
      clear hK K
      try simp only [Act.put, List.setIfInBounds_toArray, List.set_cons_zero, List.set_cons_succ, List.getElem_toArray, List.getElem_cons_zero, List.getElem_cons_succ]
      refine wpN_pure (i := 23) (v := ?v82) rfl (by kernel_rfl) (fun _ _ _ h => h) (Or.inl ⟨by rfl, ?hy82⟩) ?hr82
      case hy82 => (intro wS hSw; go_simp; (try with_reducible rfl))
      try simp only [Act.put, List.setIfInBounds_toArray, List.set_cons_zero, List.set_cons_succ, List.getElem_toArray, List.getElem_cons_zero, List.getElem_cons_succ]
      have f2 := (h2.below hb2').free 0
      refine wpN_step (i := 24) (by kernel_rfl) rfl (fun K hK => ?_)
      go_simp
      refine hK.out _ _ (fun h => absurd h (by decide)) ?_
      clear hK K
      try simp only [Act.put, List.setIfInBounds_toArray, List.set_cons_zero, List.set_cons_succ, List.getElem_toArray, List.getElem_cons_zero, List.getElem_cons_succ]
      refine wpN_done (by kernel_rfl) ?_
      refine OnlyN.normal ?_
      have z1 := ((h1.below hb2').far ⟨p + 1 + 1 + 1, 0, none⟩ (.bool o) (by simp))
      have z2 := (h2.below hb2').set 0 (.bool o)
      have zS := (xS.below hb2').far ⟨p + 1 + 1 + 1, 0, none⟩ (.bool o) (by simp; omega)
      have FIN := Lib.hid (Fin.out o V2 _ hb2' rfl)
      obtain ⟨V3, hV3⟩ : ∃ V3, V2.setCell ⟨p + 1 + 1 + 1, 0, none⟩ (.bool o) = V3 := ⟨_, rfl⟩
      rw [hV3] at z1 z2 zS FIN ⊢
      clear hV3 f2 hb1 hb2 hb1' hb2'
      have n0 := z1.cell (i := 0) rfl
      have f0 := z1.free 0
      have n2 : V3.cell? ⟨p + 1 + 1 + 1, 0, none⟩ = some (.bool o) := z2.cell rfl
      have n3 : V3.cell? ⟨q2, 0, none⟩ = some (.int .i64 S) := zS.cell rfl
      have d1 : ¬ (q2 = p + 1 + 1) := by omega
      have d2 : ¬ (p + 1 + 1 = q2) := by omega
      by_cases hSS : (pre.length : Int) + 1 = S
      · have hSS' : ((pre.length : Int) + 1 == S) = true := by simpa using hSS
        have HSS := Lib.hid hSS; clear hSS
        cases o
        · gi_wp2_with fail
          exact ⟨FIN.out.1 _, ⟨rfl, false, FIN.out.2.2.1, fun h => absurd (Hkey.out.1 h).2 (no_of Ho.out)⟩, FIN.out.2.2.2⟩
        · gi_wp2_with fail
          first | exact ⟨FIN.out.1 _, ⟨rfl, true, FIN.out.2.2.1, fun _ => ⟨rfl, by simpa using HSS.out⟩⟩, FIN.out.2.2.2⟩ | exact ⟨FIN.out.1 _, ⟨rfl, .inr ⟨FIN.out.2.2.1, fun _ => by simpa using HSS.out⟩⟩, FIN.out.2.2.2⟩
      · have hSS' : ((pre.length : Int) + 1 == S) = false := by simpa using hSS
        cases o
        · gi_wp2_with fail
          exact ⟨FIN.out.1 _, ⟨rfl, false, FIN.out.2.2.1, fun h => absurd (Hkey.out.1 h).2 (no_of Ho.out)⟩, FIN.out.2.2.2⟩
        · have Hp := Lib.hid (Hkey.out.2 ⟨hd, yes_of Ho.out⟩)
          gi_wp2_with fail
          exact ⟨FIN.out.1 _, FIN.out.2.1, FIN.out.2.2.1, FIN.out.2.2.2, by simp; omega, Hp.out⟩
    · have hd' : ((x.d : Int) == ld) = false := by simpa using hd
      refine wpIn_region_need (S := fun w' => w'.cell? ⟨p + 1 + 1 + 1, 0, none⟩ = some (.bool true) ∧ w'.cell? ⟨p + 1 + 1, 0, none⟩ = some (.int .i64 (pre.length : Int)) ∧ w'.cell? ⟨p, 0, none⟩ = some (.slice (some ⟨bl, bo, none⟩) n lc) ∧ w'.cell? ⟨p + 1, 0, none⟩ = some (.slice (some ⟨dbl, dbo, none⟩) n dc) ∧ w'.cell? ⟨dbl, dbo + pre.length, none⟩ = some (.int .i64 ld)) (wide_round _) (by kernel_rfl) (by kernel_rfl) ?_
      have hS : (V.drew).cell? ⟨p + 1 + 1 + 1, 0, none⟩ = some (.bool true) ∧ (V.drew).cell? ⟨p + 1 + 1, 0, none⟩ = some (.int .i64 (pre.length : Int)) ∧ (V.drew).cell? ⟨p, 0, none⟩ = some (.slice (some ⟨bl, bo, none⟩) n lc) ∧ (V.drew).cell? ⟨p + 1, 0, none⟩ = some (.slice (some ⟨dbl, dbo, none⟩) n dc) ∧ (V.drew).cell? ⟨dbl, dbo + pre.length, none⟩ = some (.int .i64 ld) := ⟨h2.drew.cell rfl, h1.drew.cell rfl, xl.drew.cell rfl, xd.drew.cell rfl, e3⟩
      obtain ⟨Vd, hVd⟩ : ∃ Vd, V.drew = Vd := ⟨_, rfl⟩
      rw [hVd] at hS ⊢
      have hb2' : Below V.heap.size V Vd := by rw [← hVd]; exact (Below.refl _ _).drew
      clear hVd
      refine wpN_take (i := 0) (v := ?v83) rfl (by kernel_rfl) (fun _ _ _ h => h) hS (Or.inl ⟨by rfl, ?hy83⟩) ?hr83
      case hy83 => (intro wS hSw; (try dsimp only at hSw); go_simp; (try with_reducible rfl))
      try simp only [Act.put, List.setIfInBounds_toArray, List.set_cons_zero, List.set_cons_succ, List.getElem_toArray, List.getElem_cons_zero, List.getElem_cons_succ]
      refine wpN_take (i := 1) (v := ?v84) rfl (by kernel_rfl) (fun _ _ _ h => h) hS (Or.inl ⟨by rfl, ?hy84⟩) ?hr84
      case hy84 => (intro wS hSw; (try dsimp only at hSw); go_simp; (try with_reducible rfl))
      try simp only [Act.put, List.setIfInBounds_toArray, List.set_cons_zero, List.set_cons_succ, List.getElem_toArray, List.getElem_cons_zero, List.getElem_cons_succ]
      refine wpN_take (i := 2) (v := ?v85) rfl (by kernel_rfl) (fun _ _ _ h => h) hS (Or.inl ⟨by rfl, ?hy85⟩) ?hr85
      case hy85 => (intro wS hSw; (try dsimp only at hSw); go_simp; (try with_reducible rfl))
      try simp only [Act.put, List.setIfInBounds_toArray, List.set_cons_zero, List.set_cons_succ, List.getElem_toArray, List.getElem_cons_zero, List.getElem_cons_succ]
      refine wpN_take (i := 3) (v := ?v86) rfl (by kernel_rfl) (fun _ _ _ h => h) hS (Or.inl ⟨by rfl, ?hy86⟩) ?hr86
      case hy86 => (intro wS hSw; (try dsimp only at hSw); go_simp; (try with_reducible rfl))
      try simp only [Act.put, List.setIfInBounds_toArray, List.set_cons_zero, List.set_cons_succ, List.getElem_toArray, List.getElem_cons_zero, List.getElem_cons_succ]
      refine wpN_take (i := 4) (v := ?v87) rfl (by kernel_rfl) (fun _ _ _ h => h) hS (Or.inl ⟨by rfl, ?hy87⟩) ?hr87
      case hy87 => (intro wS hSw; (try dsimp only at hSw); go_simp; (try with_reducible rfl))
      try simp only [Act.put, List.setIfInBounds_toArray, List.set_cons_zero, List.set_cons_succ, List.getElem_toArray, List.getElem_cons_zero, List.getElem_cons_succ]
      refine wpN_take (i := 5) (v := ?v88) rfl (by kernel_rfl) (fun _ _ _ h => h) hS (Or.inl ⟨by rfl, ?hy88⟩) ?hr88
      case hy88 => (intro wS hSw; (try dsimp only at hSw); go_simp; (try with_reducible rfl))
      try simp only [Act.put, List.setIfInBounds_toArray, List.set_cons_zero, List.set_cons_succ, List.getElem_toArray, List.getElem_cons_zero, List.getElem_cons_succ]
      refine wpN_take (i := 6) (v := ?v89) rfl (by kernel_rfl) (fun _ _ _ h => h) hS (Or.inl ⟨by rfl, ?hy89⟩) ?hr89
      case hy89 => (intro wS hSw; (try dsimp only at hSw); go_simp; (try with_reducible rfl))
      try simp only [Act.put, List.setIfInBounds_toArray, List.set_cons_zero, List.set_cons_succ, List.getElem_toArray, List.getElem_cons_zero, List.getElem_cons_succ]
      refine wpN_take (i := 7) (v := ?v90) rfl (by kernel_rfl) (fun _ _ _ h => h) hS (Or.inl ⟨by rfl, ?hy90⟩) ?hr90
      case hy90 => (intro wS hSw; (try dsimp only at hSw); go_simp; (try with_reducible rfl))
      try simp only [Act.put, List.setIfInBounds_toArray, List.set_cons_zero, List.set_cons_succ, List.getElem_toArray, List.getElem_cons_zero, List.getElem_cons_succ]
      refine wpN_take (i := 8) (v := ?v91) rfl (by kernel_rfl) (fun _ _ _ h => h) hS (Or.inl ⟨by rfl, ?hy91⟩) ?hr91
      case hy91 => (intro wS hSw; (try dsimp only at hSw); go_simp; (try with_reducible rfl))
      try simp only [Act.put, List.setIfInBounds_toArray, List.set_cons_zero, List.set_cons_succ, List.getElem_toArray, List.getElem_cons_zero, List.getElem_cons_succ]
      refine wpN_take (i := 9) (v := ?v92) rfl (by kernel_rfl) (fun _ _ _ h => h) hS (Or.inl ⟨by rfl, ?hy92⟩) ?hr92
      case hy92 => (intro wS hSw; (try dsimp only at hSw); go_simp; (try with_reducible rfl))
      try simp only [Act.put, List.setIfInBounds_toArray, List.set_cons_zero, List.set_cons_succ, List.getElem_toArray, List.getElem_cons_zero, List.getElem_cons_succ]
      refine wpN_take (i := 10) (v := ?v93) rfl (by kernel_rfl) (fun _ _ _ h => h) hS (Or.inl ⟨by rfl, ?hy93⟩) ?hr93
      case hy93 => (intro wS hSw; (try dsimp only at hSw); go_simp; (try with_reducible rfl))
      try simp only [Act.put, List.setIfInBounds_toArray, List.set_cons_zero, List.set_cons_succ, List.getElem_toArray, List.getElem_cons_zero, List.getElem_cons_succ]
      refine wpN_take (i := 11) (v := ?v94) rfl (by kernel_rfl) (fun _ _ _ h => h) hS (Or.inl ⟨by rfl, ?hy94⟩) ?hr94
      case hy94 => (intro wS hSw; (try dsimp only at hSw); go_simp; (try with_reducible rfl))
      try simp only [Act.put, List.setIfInBounds_toArray, List.set_cons_zero, List.set_cons_succ, List.getElem_toArray, List.getElem_cons_zero, List.getElem_cons_succ]
      refine wpN_take (i := 12) (v := ?v95) rfl (by kernel_rfl) (fun _ _ _ h => h) hS (Or.inl ⟨by rfl, ?hy95⟩) ?hr95
      case hy95 => (intro wS hSw; (try dsimp only at hSw); go_simp; (try with_reducible rfl))
      try simp only [Act.put, List.setIfInBounds_toArray, List.set_cons_zero, List.set_cons_succ, List.getElem_toArray, List.getElem_cons_zero, List.getElem_cons_succ]
      refine wpN_take (i := 13) (v := ?v96) rfl (by kernel_rfl) (fun _ _ _ h => h) hS (Or.inl ⟨by rfl, ?hy96⟩) ?hr96
      case hy96 => (intro wS hSw; (try dsimp only at hSw); go_simp; (try with_reducible rfl))
      try simp only [Act.put, List.setIfInBounds_toArray, List.set_cons_zero, List.set_cons_succ, List.getElem_toArray, List.getElem_cons_zero, List.getElem_cons_succ]
      refine wpN_pure (i := 14) (v := ?v97) rfl (by kernel_rfl) (fun _ _ _ h => h) (Or.inl ⟨by rfl, ?hy97⟩) ?hr97
      case hy97 => (intro wS hSw; go_simp; (try with_reducible rfl))
      try simp only [Act.put, List.setIfInBounds_toArray, List.set_cons_zero, List.set_cons_succ, List.getElem_toArray, List.getElem_cons_zero, List.getElem_cons_succ]
      refine wpN_pure (i := 15) (v := ?v98) rfl (by kernel_rfl) (fun _ _ _ h => h) (Or.inl ⟨by rfl, ?hy98⟩) ?hr98
      case hy98 => (intro wS hSw; go_simp; (try with_reducible rfl))
      try simp only [Act.put, List.setIfInBounds_toArray, List.set_cons_zero, List.set_cons_succ, List.getElem_toArray, List.getElem_cons_zero, List.getElem_cons_succ]
      refine wpN_pure (i := 16) (v := undef) rfl (by kernel_rfl) (fun _ _ _ h => h) (Or.inr ⟨by rfl, rfl⟩) ?_
      try simp only [Act.put, List.setIfInBounds_toArray, List.set_cons_zero, List.set_cons_succ, List.getElem_toArray, List.getElem_cons_zero, List.getElem_cons_succ]
      refine wpN_pure (i := 17) (v := undef) rfl (by kernel_rfl) (fun _ _ _ h => h) (Or.inr ⟨by rfl, rfl⟩) ?_
      try simp only [Act.put, List.setIfInBounds_toArray, List.set_cons_zero, List.set_cons_succ, List.getElem_toArray, List.getElem_cons_zero, List.getElem_cons_succ]
      refine wpN_pure (i := 18) (v := undef) rfl (by kernel_rfl) (fun _ _ _ h => h) (Or.inr ⟨by rfl, rfl⟩) ?_
      try simp only [Act.put, List.setIfInBounds_toArray, List.set_cons_zero, List.set_cons_succ, List.getElem_toArray, List.getElem_cons_zero, List.getElem_cons_succ]
      refine wpN_pure (i := 19) (v := undef) rfl (by kernel_rfl) (fun _ _ _ h => h) (Or.inr ⟨by rfl, rfl⟩) ?_
      try simp only [Act.put, List.setIfInBounds_toArray, List.set_cons_zero, List.set_cons_succ, List.getElem_toArray, List.getElem_cons_zero, List.getElem_cons_succ]
      refine wpN_pure (i := 20) (v := undef) rfl (by kernel_rfl) (fun _ _ _ h => h) (Or.inr ⟨by rfl, rfl⟩) ?_
      try simp only [Act.put, List.setIfInBounds_toArray, List.set_cons_zero, List.set_cons_succ, List.getElem_toArray, List.getElem_cons_zero, List.getElem_cons_succ]
      refine wpN_pure (i := 21) (v := undef) rfl (by kernel_rfl) (fun _ _ _ h => h) (Or.inr ⟨by rfl, rfl⟩) ?_
      try simp only [Act.put, List.setIfInBounds_toArray, List.set_cons_zero, List.set_cons_succ, List.getElem_toArray, List.getElem_cons_zero, List.getElem_cons_succ]
      refine wpN_pure (i := 22) (v := undef) rfl (by kernel_rfl) (fun _ _ _ h => h) (Or.inr ⟨by rfl, rfl⟩) ?_
      try simp only [Act.put, List.setIfInBounds_toArray, List.set_cons_zero, List.set_cons_succ, List.getElem_toArray, List.getElem_cons_zero, List.getElem_cons_succ]
      refine wpN_pure (i := 23) (v := ?v99) rfl (by kernel_rfl) (fun _ _ _ h => h) (Or.inl ⟨by rfl, ?hy99⟩) ?hr99
      case hy99 => (intro wS hSw; go_simp; (try with_reducible rfl))
      try simp only [Act.put, List.setIfInBounds_toArray, List.set_cons_zero, List.set_cons_succ, List.getElem_toArray, List.getElem_cons_zero, List.getElem_cons_succ]
      have f2 := (h2.below hb2').free 0
      refine wpN_step (i := 24) (by kernel_rfl) rfl (fun K hK => ?_)
      go_simp
      refine hK.out _ _ (fun h => absurd h (by decide)) ?_
      clear hK K
      try simp only [Act.put, List.setIfInBounds_toArray, List.set_cons_zero, List.set_cons_succ, List.getElem_toArray, List.getElem_cons_zero, List.getElem_cons_succ]
      refine wpN_done (by kernel_rfl) ?_
      refine OnlyN.normal ?_
      obtain ⟨o, ho⟩ : ∃ o, false = o := ⟨_, rfl⟩
      rw [ho]
      have Ho : Hid (o = true ↔ x.t = lt ∧ (x.d : Int) = ld) := by show _ ↔ _; rw [← ho]; simp [hd]
      have z1 := ((h1.below hb2').far ⟨p + 1 + 1 + 1, 0, none⟩ (.bool o) (by simp))
      have z2 := (h2.below hb2').set 0 (.bool o)
      have zS := (xS.below hb2').far ⟨p + 1 + 1 + 1, 0, none⟩ (.bool o) (by simp; omega)
      have FIN := Lib.hid (Fin.out o Vd _ hb2' rfl)
      obtain ⟨V3, hV3⟩ : ∃ V3, Vd.setCell ⟨p + 1 + 1 + 1, 0, none⟩ (.bool o) = V3 := ⟨_, rfl⟩
      rw [hV3] at z1 z2 zS FIN
      try rw [hV3]
      clear hV3 f2 hb2'
      have n0 := z1.cell (i := 0) rfl
      have f0 := z1.free 0
      have n2 : V3.cell? ⟨p + 1 + 1 + 1, 0, none⟩ = some (.bool o) := z2.cell rfl
      have n3 : V3.cell? ⟨q2, 0, none⟩ = some (.int .i64 S) := zS.cell rfl
      have d1 : ¬ (q2 = p + 1 + 1) := by omega
      have d2 : ¬ (p + 1 + 1 = q2) := by omega
      subst ho
      by_cases hSS : (pre.length : Int) + 1 = S
      · have hSS' : ((pre.length : Int) + 1 == S) = true := by simpa using hSS
        have HSS := Lib.hid hSS; clear hSS
        gi_wp2_with fail
        exact ⟨FIN.out.1 _, ⟨rfl, false, FIN.out.2.2.1, fun h => absurd (Hkey.out.1 h).1 hd⟩, FIN.out.2.2.2⟩
      · have hSS' : ((pre.length : Int) + 1 == S) = false := by simpa using hSS
        gi_wp2_with fail
        exact ⟨FIN.out.1 _, ⟨rfl, false, FIN.out.2.2.1, fun h => absurd (Hkey.out.1 h).1 hd⟩, FIN.out.2.2.2⟩
  case done =>
    rintro D ys V hD hys ⟨⟨h1, h2⟩, ⟨h3, h4⟩, h5, h6⟩ hK
    refine rest D V hD hK h4 ?_ h2
    have hl : ys.length = n := by rw [← Hn.out, ← Ty.pre_length t 1, ← hys, List.length_map]
    rw [hl] at h1 h5
    rw [Int.min_eq_right (by omega)]
    exact h1
  case stop =>
    rintro D c pre V hD hp ⟨⟨rfl, o, ⟨h1, h2⟩, h5⟩, ⟨h3, h4⟩⟩ hK
    obtain ⟨rfl, h6⟩ := h5 hp
    have hl : pre.length ≤ n := by
      have := hp.length_le
      rwa [List.length_map, Ty.pre_length, Hn.out] at this
    gi_wp2_with fail
    refine rest D V hD hK h4 ?_ h2
    rw [h6] at h1
    rw [Int.min_eq_left (by omega)]
    exact h1
end Go.Proofs.Ytejpgifofkiofaa

