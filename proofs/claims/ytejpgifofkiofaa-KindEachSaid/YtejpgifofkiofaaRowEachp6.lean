/-
  kind.Of, kind.Arrow, kind.Rest: types that are made. A type's text: the reference's, and the program's. The chapter's example of the kinds' laws, kind.Text, and whether some types are few. Terms: whether they are few; copied cell by cell, there and back.
-/
import Derived.Test.YtejpgifofkiofaaRowEachp5
import Derived.Test.YtejpgifofkiofaaRowEachp3
import Derived.Test.YtejpgifofkiofaaRowEachp4
set_option linter.unusedVariables false
set_option linter.unusedSimpArgs false
namespace Go.Proofs.Ytejpgifofkiofaa
open Go.RowKit

theorem size_mk_le {l : List Ty} {b : Int} {n : Nat} (h : Ty.sizes l + 1 ≤ n) : (Ty.mk l b).size ≤ n := by rw [Ty.size_eq]; exact h

set_option maxHeartbeats 400000 in
theorem of_k {F : Nat → Prop} {w : World} {v : Value} {l : List Ty} (b : Int) (h : IsSl rpTy F w v l) (hl : Ty.sizes l + 1 ≤ 100000) :
    Calls Try.prog 45 #[.int .i64 b, v] w (FreshTy (.mk l b) w) := by
  have Ht := Lib.hid (isTy_mk h b)
  obtain ⟨a, c, rfl⟩ := isSl_shape h
  clear h
  go_enter Try.func45, Try.ntmps45
  go_wp2_with fail
  refine (copied_k Ht.out _ (size_mk_le hl) ((Keep.refl _ _).alloc _)).mono ?_
  rintro e w1 ⟨s', b', rfl, hr1, hb1⟩
  obtain ⟨a', c', rfl, rfl⟩ := hr1.shape
  have hx := (Blk.new w #[.slice none 0 0, .int .i64 0] 40 rfl).below hb1
  have r0 : w1.cell? ⟨w.heap.size, 0, none⟩ = some (.slice none 0 0) := hx.cell rfl
  have r1 : w1.cell? ⟨w.heap.size, 1, none⟩ = some (.int .i64 0) := hx.cell rfl
  have f0 := hx.free 0
  have f1 := hx.free 1
  go_wp2_with fail
  refine bodyPost_ret (v := .agg #[.slice a' l.length c', .int .i64 b]) (by simp [results, Try.results45, go_sem, r0, r1, Ty.args, Ty.base]) rfl ?_
  have hn : ¬ (w.heap.size + 1 ≤ w.heap.size) := by omega
  refine ⟨_, _, rfl, ((hr1.weaken fun q _ hq => ?_).keep (((Keep.refl _ _).setCell _ _ ?_).setCell _ _ ?_)).weaken (F := fun q => w.heap.size + 1 ≤ q) fun q _ hq => Nat.le_of_succ_le hq, (((((Below.refl _ _).alloc (Nat.le_refl _) _).trans (hb1.mono (by simp))).setCell (by simp) _).setCell (by simp) _)⟩
  · simpa using hq
  · simp
  · simp

set_option maxRecDepth 100000 in
set_option maxHeartbeats 1000000 in
theorem arrow_k {F : Nat → Prop} {w : World} {s b v : Value} {t : Ty} {l : List Ty} (ht : IsTy F w s b t) (h : IsSl rpTy F w v l) (hl : Ty.sizes l + t.size ≤ 100000) :
    Calls Try.prog 46 #[.agg #[s, b], v] w (FreshTy (.mk (l ++ t.args) t.base) w) := by
  obtain ⟨_, hsl⟩ := ht.inv
  obtain ⟨a2, c2, rfl, rfl⟩ := ht.shape
  obtain ⟨a1, c1, rfl⟩ := isSl_shape h
  clear ht
  have H1 := Lib.hid h; clear h
  have H2 := Lib.hid hsl; clear hsl
  have hlen : l.length + t.args.length ≤ 100000 := by
    have := Ty.le_sizes l; have := Ty.le_sizes t.args; cases t; simp [Ty.size, Ty.args] at *; omega
  have Hsz : Hid ((Ty.mk (l ++ t.args) t.base).size ≤ 100000) := by
    show _ ≤ _
    cases t; simp [Ty.size, Ty.args, Ty.sizes_append] at *; omega
  obtain ⟨l2, hl2⟩ : ∃ l2, t.args = l2 := ⟨_, rfl⟩
  obtain ⟨b2, hb2⟩ : ∃ b2, t.base = b2 := ⟨_, rfl⟩
  rw [hl2] at H2 hlen Hsz ⊢
  rw [hb2] at Hsz ⊢
  clear hl2 hb2 hl
  obtain ⟨l3, hl3⟩ : ∃ l3, l ++ l2 = l3 := ⟨_, rfl⟩
  rw [hl3] at Hsz ⊢
  have Hl3 := Lib.hid hl3; clear hl3
  go_enter Try.func46, Try.ntmps46
  go_wp2_with fail
  obtain ⟨wa, hwa⟩ : ∃ wa, (w.alloc (.cells #[.slice a2 l2.length c2, .int .i64 b2] 40)).alloc (.cells #[.slice none 0 0, .int .i64 0] 40) = wa := ⟨_, rfl⟩
  have ba : Below w.heap.size w wa := by rw [← hwa]; exact ((Below.refl _ _).alloc (Nat.le_refl _) _).alloc (by simp) _
  have xa : Blk wa w.heap.size #[.slice a2 l2.length c2, .int .i64 b2] 40 := by rw [← hwa]; exact (Blk.new _ _ _ rfl).alloc _
  have ra : Blk wa (w.heap.size + 1) #[.slice none 0 0, .int .i64 0] 40 := by rw [← hwa]; exact Blk.new _ _ _ (by simp)
  have Ka : Hid (Keep F w wa) := ((Keep.refl _ _).below ba)
  rw [hwa]
  clear hwa
  have hsz := ra.lt
  refine wp_region_noPanic (wp_region_need (S := fun w' => w'.cell? ⟨w.heap.size, 0, none⟩ = some (.slice a2 l2.length c2) ∧ w'.cell? ⟨w.heap.size, 1, none⟩ = some (.int .i64 b2)) (by kernel_rfl) ?_)
  have hS : (wa.drew).cell? ⟨w.heap.size, 0, none⟩ = some (.slice a2 l2.length c2) ∧ (wa.drew).cell? ⟨w.heap.size, 1, none⟩ = some (.int .i64 b2) := ⟨xa.drew.cell rfl, xa.drew.cell rfl⟩
  refine wpN_take (i := 0) (v := ?v1) rfl (by kernel_rfl) (fun _ _ _ h => h) hS (Or.inl ⟨by rfl, ?hy1⟩) ?hr1
  case hy1 => (intro wS hSw; (try dsimp only at hSw); go_simp; (try with_reducible rfl))
  try simp only [Act.put, List.setIfInBounds_toArray, List.set_cons_zero, List.set_cons_succ]
  refine wpN_take (i := 1) (v := ?v2) rfl (by kernel_rfl) (fun _ _ _ h => h) hS (Or.inl ⟨by rfl, ?hy2⟩) ?hr2
  case hy2 => (intro wS hSw; (try dsimp only at hSw); go_simp; (try with_reducible rfl))
  try simp only [Act.put, List.setIfInBounds_toArray, List.set_cons_zero, List.set_cons_succ]
  refine wpN_take (i := 2) (v := ?v3) rfl (by kernel_rfl) (fun _ _ _ h => h) hS (Or.inl ⟨by rfl, ?hy3⟩) ?hr3
  case hy3 => (intro wS hSw; (try dsimp only at hSw); go_simp; (try with_reducible rfl))
  try simp only [Act.put, List.setIfInBounds_toArray, List.set_cons_zero, List.set_cons_succ]
  refine wpN_take (i := 5) (v := ?v4) rfl (by kernel_rfl) (fun _ _ _ h => h) hS (Or.inl ⟨by rfl, ?hy4⟩) ?hr4
  case hy4 => (intro wS hSw; (try dsimp only at hSw); go_simp; (try with_reducible rfl))
  try simp only [Act.put, List.setIfInBounds_toArray, List.set_cons_zero, List.set_cons_succ]
  refine wpN_take (i := 6) (v := ?v5) rfl (by kernel_rfl) (fun _ _ _ h => h) hS (Or.inl ⟨by rfl, ?hy5⟩) ?hr5
  case hy5 => (intro wS hSw; (try dsimp only at hSw); go_simp; (try with_reducible rfl))
  try simp only [Act.put, List.setIfInBounds_toArray, List.set_cons_zero, List.set_cons_succ]
  refine wpN_step (i := 3) (by kernel_rfl) rfl (fun K hK => ?_)
  go_simp
  have bb : Below w.heap.size w (wa.alloc (.cells #[.slice a1 l.length c1, .slice a2 l2.length c2] 33)).drew := (ba.alloc (by omega) _).drew
  have xb : Blk (wa.alloc (.cells #[.slice a1 l.length c1, .slice a2 l2.length c2] 33)).drew w.heap.size #[.slice a2 l2.length c2, .int .i64 b2] 40 := (xa.alloc _).drew
  have rb : Blk (wa.alloc (.cells #[.slice a1 l.length c1, .slice a2 l2.length c2] 33)).drew (w.heap.size + 1) #[.slice none 0 0, .int .i64 0] 40 := (ra.alloc _).drew
  have vb : Blk (wa.alloc (.cells #[.slice a1 l.length c1, .slice a2 l2.length c2] 33)).drew wa.heap.size #[.slice a1 l.length c1, .slice a2 l2.length c2] 33 := (Blk.new _ _ _ rfl).drew
  have Kb : Hid (Keep F w (wa.alloc (.cells #[.slice a1 l.length c1, .slice a2 l2.length c2] 33)).drew) := (Ka.out.alloc _).drew
  have hS : ((wa.alloc (.cells #[.slice a1 l.length c1, .slice a2 l2.length c2] 33)).drew).cell? ⟨w.heap.size, 0, none⟩ = some (.slice a2 l2.length c2) ∧ ((wa.alloc (.cells #[.slice a1 l.length c1, .slice a2 l2.length c2] 33)).drew).cell? ⟨w.heap.size, 1, none⟩ = some (.int .i64 b2) := ⟨xb.cell rfl, xb.cell rfl⟩
  refine hK.out _ _ (fun _ => hS) ?_
  clear hK K
  try simp only [Act.put, List.setIfInBounds_toArray, List.set_cons_zero, List.set_cons_succ]
  refine wpN_step (i := 4) (by kernel_rfl) rfl (fun K hK => ?_)
  go_simp
  have hcc := concat_any vb (H1.out.keep Kb.out) (H2.out.keep Kb.out) hlen
  rw [Hl3.out] at hcc
  refine hcc.mono ?_
  clear hcc
  rintro e w1 ⟨a3, c3, rfl, hs3, hb1⟩
  have H3 := Lib.hid hs3; clear hs3
  have b1 := bb.trans (hb1.mono bb.size)
  have x1 := xb.below hb1
  have r1' := rb.below hb1
  have hS : (w1).cell? ⟨w.heap.size, 0, none⟩ = some (.slice a2 l2.length c2) ∧ (w1).cell? ⟨w.heap.size, 1, none⟩ = some (.int .i64 b2) := ⟨x1.cell rfl, x1.cell rfl⟩
  refine hK.out _ _ (fun _ => hS) ?_
  clear hK K
  try simp only [Act.put, List.setIfInBounds_toArray, List.set_cons_zero, List.set_cons_succ]
  refine wpN_take (i := 7) (v := ?v6) rfl (by kernel_rfl) (fun _ _ _ h => h) hS (Or.inl ⟨by rfl, ?hy6⟩) ?hr6
  case hy6 => (intro wS hSw; (try dsimp only at hSw); go_simp; (try with_reducible rfl))
  try simp only [Act.put, List.setIfInBounds_toArray, List.set_cons_zero, List.set_cons_succ]
  refine wpN_step (i := 8) (by kernel_rfl) rfl (fun K hK => ?_)
  go_simp
  refine (copied_k (isTy_mk H3.out b2) _ Hsz.out (Keep.refl _ _)).mono ?_
  rintro e w2 ⟨s', b', rfl, hr2, hb2⟩
  obtain ⟨a', c', rfl, rfl⟩ := hr2.shape
  have Hr2 := Lib.hid hr2; clear hr2
  have x2 := x1.below hb2
  have hx := r1'.below hb2
  have hS : (w2).cell? ⟨w.heap.size, 0, none⟩ = some (.slice a2 l2.length c2) ∧ (w2).cell? ⟨w.heap.size, 1, none⟩ = some (.int .i64 b2) := ⟨x2.cell rfl, x2.cell rfl⟩
  have r0 : w2.cell? ⟨w.heap.size + 1, 0, none⟩ = some (.slice none 0 0) := hx.cell rfl
  have r1 : w2.cell? ⟨w.heap.size + 1, 1, none⟩ = some (.int .i64 0) := hx.cell rfl
  have f0 := hx.free 0
  have f1 := hx.free 1
  refine hK.out _ _ (fun _ => hS) ?_
  clear hK K
  try simp only [Act.put, List.setIfInBounds_toArray, List.set_cons_zero, List.set_cons_succ]
  refine wpN_step (i := 9) (by kernel_rfl) rfl (fun K hK => ?_)
  go_simp
  refine hK.out _ _ (fun h => absurd h (by decide)) ?_
  clear hK K
  try simp only [Act.put, List.setIfInBounds_toArray, List.set_cons_zero, List.set_cons_succ]
  refine wpN_done (by kernel_rfl) ?_
  refine NoPanic.normal ?_
  go_wp2_with fail
  refine bodyPost_ret (v := .agg #[.slice a' l3.length c', .int .i64 b2]) (by simp [results, Try.results46, go_sem, r0, r1, Ty.args, Ty.base]) rfl ?_
  have hle := b1.size
  have hlt : w.heap.size + 1 < w1.heap.size := r1'.lt
  refine ⟨_, _, rfl, (((Hr2.out.keep ((Keep.refl _ _).setCell ⟨w.heap.size + 1, 0, none⟩ _ ?_)).keep ((Keep.refl _ _).setCell ⟨w.heap.size + 1, 1, none⟩ _ ?_)).weaken fun q _ hq => Nat.le_trans hle hq), (((b1.trans (hb2.mono hle)).setCell (by simp) _).setCell (by simp) _)⟩
  · simp; omega
  · simp; omega
end Go.Proofs.Ytejpgifofkiofaa

namespace Go.Proofs.Ytejpgifofkiofaa
open Go.RowKit

def rpStr : Rp ByteArray where
  n := 1
  R _ _ x s := x = [.string s]
  len := by rintro F w x a rfl; rfl
  one := by rintro F w x a rfl u hu; simp at hu; subst hu; rfl
  keep := by intro F w w' x a h _; exact h
  weaken := by intro F F' w x a h _; exact h

theorem isSl_str {F : Nat → Prop} {w : World} {v : Value} {l : List ByteArray} (h : IsSl rpStr F w v l) : ∃ a c bl off, v = .slice a l.length c ∧ (l.length ≤ maxLen ∧ l.length ≤ c) ∧ (0 < l.length → a = some ⟨bl, off, none⟩ ∧ F bl) ∧ ∀ i (h : i < l.length), w.cell? ⟨bl, off + i, none⟩ = some (.string l[i]) := by
  obtain ⟨a, c, bl, off, X, hv, hm, ha, h1, h2⟩ := h
  refine ⟨a, c, bl, off, hv, hm, ha, fun i hi => ?_⟩
  have hx : X i = [.string l[i]] := h2 i hi
  have := h1 i 0 (.string l[i]) hi (by rw [hx]; rfl)
  simpa [rpStr] using this

def RetS (l : List UInt8) (w : World) (e : Ending) (w' : World) : Prop := ∃ s : ByteArray, e = .returned (.string s) ∧ s.data.toList = l ∧ Below w.heap.size w w'

namespace Ty
mutual
def text (names : List ByteArray) : Ty → List UInt8
  | .mk l b => texts names l ++ (names.getD b.toNat default).data.toList
def texts (names : List ByteArray) : List Ty → List UInt8
  | [] => []
  | t :: l => (if t.args = [] then text names t else 40 :: text names t ++ [41]) ++ [32, 45, 62, 32] ++ texts names l
end
def part (names : List ByteArray) (t : Ty) : List UInt8 := if t.args = [] then text names t else 40 :: text names t ++ [41]
theorem texts_append (names : List ByteArray) (l r : List Ty) : texts names (l ++ r) = texts names l ++ texts names r := by
  induction l with
  | nil => simp [texts]
  | cons t l ih => simp [texts, ih]
theorem texts_take (names : List ByteArray) (l : List Ty) (i : Nat) (h : i < l.length) : texts names (l.take (i + 1)) = texts names (l.take i) ++ part names l[i] ++ [32, 45, 62, 32] := by
  rw [List.take_succ_eq_append_getElem h, texts_append]; simp [texts, part]
theorem text_len (names : List ByteArray) (M : Nat) (hM : ∀ s ∈ names, s.size ≤ M) (t : Ty) : (text names t).length + 6 ≤ t.size * (M + 12) := by
  induction t using Ty.ind with
  | h args base ih =>
    have : ∀ l : List Ty, (∀ t ∈ l, (text names t).length + 6 ≤ t.size * (M + 12)) → (texts names l).length ≤ sizes l * (M + 12) := by
      intro l
      induction l with
      | nil => intro _; simp [texts]
      | cons t l ih2 =>
        intro h
        have h1 := h t (by simp)
        have h2 := ih2 (fun t ht => h t (by simp [ht]))
        simp only [texts, sizes, Nat.add_mul, List.length_append]
        split
        · simp; omega
        · simp; omega
    have h1 := this args ih
    have h2 : (names.getD base.toNat default).data.toList.length ≤ M := by
      rw [List.getD_eq_getElem?_getD]
      cases hx : names[base.toNat]? with
      | none => simp; show (default : ByteArray).data.size ≤ M; exact Nat.zero_le _
      | some x => simp; exact hM x (List.mem_of_getElem? hx)
    simp only [text, size, Nat.add_mul, List.length_append]; omega
theorem texts_len (names : List ByteArray) (M : Nat) (hM : ∀ s ∈ names, s.size ≤ M) (l : List Ty) : (texts names l).length ≤ sizes l * (M + 12) := by
  have h := text_len names M hM (.mk l 0)
  simp only [text, size, Nat.add_mul, List.length_append] at h
  induction l with
  | nil => simp [texts]
  | cons t l ih =>
    have h1 := text_len names M hM t
    have h2 := text_len names M hM (.mk l 0)
    simp only [text, size, Nat.add_mul, List.length_append] at h2
    have h3 := ih h2
    simp only [texts, sizes, Nat.add_mul, List.length_append]
    split
    · simp; omega
    · simp; omega
end Ty

set_option maxHeartbeats 1000000 in
theorem text_r {F F2 : Nat → Prop} {w0 : World} {s b : Value} {t : Ty} (ht : IsTy F w0 s b t) {nv : Value} {names : List ByteArray} (hn : IsSl rpStr F2 w0 nv names) (hM : ∀ s ∈ names, s.size ≤ 1048576) : ∀ w : World, t.size ≤ 1000 → Ty.Low names.length t → Keep F w0 w → Keep F2 w0 w →
    Calls Try.prog 43 #[.agg #[s, b], nv] w (RetS (t.text names) w) := by
  obtain ⟨na, nc, nbl, noff, rfl, hnm, hna, hnc⟩ := isSl_str hn
  clear hn
  induction ht with
  | mk a n c b args bl off A N' C B hn hm ha h1 h2 h3 ih =>
  intro w hsz hlow hw hw2
  rw [Ty.low_iff] at hlow
  obtain ⟨hb0, hb1, hlow⟩ := hlow
  have Hlow := Lib.hid hlow; clear hlow
  have hargs : Hid (∀ i (h : i < args.length), args[i].args.length = N' i) := fun i h => by
    obtain ⟨a', c', e1, _⟩ := (h3 i h).shape; exact (Value.slice.inj e1).2.1.symm
  have Hlen : Hid (∀ i (h : i < args.length), (Ty.text names args[i]).length ≤ 1100000000) := fun i h => by
    have h1 := Ty.text_len names _ hM args[i]; have h2 := Ty.size_get (b := b) i h
    have : args[i].size * (1048576 + 12) ≤ 1000 * (1048576 + 12) := Nat.mul_le_mul_right _ (by omega)
    omega
  have Hlens : Hid (∀ k, (Ty.texts names (args.take k)).length ≤ 1100000000) := fun k => by
    have h1 := Ty.texts_len names _ hM (args.take k); have h2 := Ty.sizes_take_le args k
    have : Ty.sizes (args.take k) * (1048576 + 12) ≤ 1000 * (1048576 + 12) := Nat.mul_le_mul_right _ (by rw [Ty.size_eq] at hsz; omega)
    omega
  clear h3 hm
  subst hn
  have hlen : args.length ≤ 1000 := by have := Ty.length_lt (l := args) (b := b); omega
  have Hsz : Hid (∀ i (h : i < args.length), args[i].size ≤ 1000) := fun i h => by
    have := Ty.size_get (b := b) i h; omega
  have Hih := Lib.hid ih; clear ih hsz
  have HM := Lib.hid hM; clear hM
  obtain ⟨k0, hk0⟩ : ∃ k0 : Nat, b = k0 := ⟨b.toNat, by omega⟩
  subst hk0
  have hk1 : k0 < names.length := by omega
  obtain ⟨rfl, hnF⟩ := hna (by omega)
  have cn : w.cell? ⟨nbl, noff + k0, none⟩ = some (.string names[k0]) := hw2 _ _ _ hnF (hnc k0 hk1)
  have Hend : Hid ((Ty.mk args (k0 : Int)).text names = Ty.texts names args ++ names[k0].data.toList) := by
    show _ = _
    simp [Ty.text, List.getElem?_eq_getElem hk1]
  unfold maxLen at hnm
  go_enter Try.func43, Try.ntmps43
  go_wp2_with fail
  go_loopw [5, 6, 7] (fun x i y wr => ∃ (k : Nat) (s : ByteArray), i = .int .i64 k ∧ x = .string s ∧ Hid (s.data.toList = Ty.texts names (args.take k)) ∧ k ≤ args.length ∧ Below w.heap.size w wr ∧ Blk wr w.heap.size #[.slice a args.length c, .int .i64 (k0 : Int)] 26) (fun _ i _ _ => args.length - (intOf i).toNat)
  case atStart => exact ⟨0, _, rfl, rfl, by show _ = _; simp [Ty.texts], by omega, (Below.refl _ _).alloc (Nat.le_refl _) _, Blk.new _ _ _ rfl⟩
  case round =>
    obtain ⟨k, s, rfl, rfl, hs, hk, hb, hbox⟩ := hrel
    have c0 : wr.cell? ⟨w.heap.size, 0, none⟩ = some (.slice a args.length c) := hbox.cell rfl
    have c1 : wr.cell? ⟨w.heap.size, 1, none⟩ = some (.int .i64 (k0 : Int)) := hbox.cell rfl
    have hlt0 := hbox.lt
    have hss : s.size ≤ 1100000000 := by have := Hlens.out k; rw [← hs.out] at this; simpa using this
    by_cases hlt : k < args.length
    · obtain ⟨rfl, hF⟩ := ha (by omega)
      have e1 : wr.cell? ⟨bl, off + k * 2, none⟩ = some (.slice (A k) (N' k) (C k)) := (hw.below hb) _ _ _ hF (h1 k hlt)
      have e2 : wr.cell? ⟨bl, off + k * 2 + 1, none⟩ = some (.int .i64 (B k)) := (hw.below hb) _ _ _ hF (h2 k hlt)
      go_wp2_with fail
      refine (Hih.out k hlt _ (Hsz.out k hlt) (Hlow.out _ (List.getElem_mem hlt)) (hw.below hb) (hw2.below hb)).mono ?_
      rintro e w1 ⟨s1, rfl, hs1, hb1⟩
      have hss1 : s1.size ≤ 1100000000 := by have := Hlen.out k hlt; rw [← hs1] at this; simpa using this
      have Hs1 := Lib.hid hs1; clear hs1
      have f1 : w1.cell? ⟨bl, off + k * 2, none⟩ = some (.slice (A k) (N' k) (C k)) := ((hw.below hb).below hb1) _ _ _ hF (h1 k hlt)
      have x1 := hbox.below hb1
      have d0 : w1.cell? ⟨w.heap.size, 0, none⟩ = some (.slice (some ⟨bl, off, none⟩) args.length c) := x1.cell rfl
      by_cases hN : N' k = 0
      · have hnil : Hid (args[k].args = []) := List.eq_nil_of_length_eq_zero (by rw [hargs.out k hlt]; exact hN)
        go_wp2_with fail
        go_roundw
        case rel => exact ⟨k + 1, _, by go_num, rfl, by show _ = _; rw [Ty.texts_take _ _ _ hlt]; simp [hs.out, Hs1.out, Ty.part, hnil.out, ByteArray.data_append], by omega, hb.trans (hb1.mono (by omega)), x1⟩
        case measure => simp [intOf]; omega
      · have hnil : Hid (args[k].args ≠ []) := fun h => hN (by rw [← hargs.out k hlt, h]; rfl)
        go_wp2_with fail
        go_roundw
        case rel => exact ⟨k + 1, _, by go_num, rfl, by show _ = _; rw [Ty.texts_take _ _ _ hlt]; simp [hs.out, Hs1.out, Ty.part, hnil.out, ByteArray.data_append], by omega, hb.trans (hb1.mono (by omega)), x1⟩
        case measure => simp [intOf]; omega
    · have cn1 : wr.cell? ⟨nbl, noff + k0, none⟩ = some (.string names[k0]) := (hw2.below hb) _ _ _ hnF (hnc k0 hk1)
      have hss2 : names[k0].size ≤ 1048576 := HM.out _ (List.getElem_mem hk1)
      go_wp2_with fail
      go_ret
      have h := hs.out
      rw [List.take_of_length_le (by omega)] at h
      exact ⟨s ++ names[k0], rfl, by rw [Hend.out, ByteArray.data_append, Array.toList_append, h], hb⟩

theorem infoStr : (Try.prog.info? 9).map (fun i => (i.zero, i.size, i.bytes)) = some (some (.string ⟨#[]⟩), 1, 16) := by kernel_rfl

theorem acc_cap {α : Type} {r : Rp α} {E : TypeId} {base : Nat} {F : Nat → Prop} {w : World} {a : Option Addr} {n c : Nat} {l : List α} (h : Acc r E base F w (.slice a n c) l) : n = l.length ∧ n ≤ c := by
  obtain ⟨X, h1, h2, h3⟩ := h
  rcases h2.2 with ⟨h, h0⟩ | ⟨g, cap, cur, hv, _, _, hn, _⟩
  · cases h; exact ⟨by omega, by omega⟩
  · cases hv; exact ⟨rfl, hn⟩

theorem intercalate_snoc {α : Type} (sep : List α) (l : List (List α)) (x : List α) : sep.intercalate (l ++ [x]) = (l.map (· ++ sep)).flatten ++ x := by
  induction l with
  | nil => simp [List.intercalate]
  | cons a l ih =>
    cases l with
    | nil => simp [List.intercalate]
    | cons b l =>
      have e : ∀ m : List (List α), sep.intercalate (a :: b :: m) = a ++ sep ++ sep.intercalate (b :: m) := fun m => by simp [List.intercalate]
      rw [List.cons_append, List.cons_append, e, ← List.cons_append, ih]; simp
theorem Ty.texts_eq (names : List ByteArray) (l : List Ty) : Ty.texts names l = ((l.map (Ty.part names)).map (· ++ [32, 45, 62, 32])).flatten := by
  induction l with
  | nil => simp [Ty.texts]
  | cons t l ih => simp [Ty.texts, ih, Ty.part]

set_option maxRecDepth 100000 in
set_option maxHeartbeats 1000000 in
theorem text_k {F F2 : Nat → Prop} {w0 : World} {s b : Value} {t : Ty} (ht : IsTy F w0 s b t) {nv : Value} {names : List ByteArray} (hn : IsSl rpStr F2 w0 nv names) (hM : ∀ s ∈ names, s.size ≤ 1048576) : ∀ w : World, t.size ≤ 1000 → Ty.Low names.length t → Keep F w0 w → Keep F2 w0 w →
    Calls Try.prog 96 #[.agg #[s, b], nv] w (RetS (t.text names) w) := by
  obtain ⟨na, nc, nbl, noff, rfl, hnm, hna, hnc⟩ := isSl_str hn
  clear hn
  induction ht with
  | mk a n c b args bl off A N' C B hn hm ha h1 h2 h3 ih =>
  intro w hsz hlow hw hw2
  rw [Ty.low_iff] at hlow
  obtain ⟨hb0, hb1, hlow⟩ := hlow
  have Hlow := Lib.hid hlow; clear hlow
  have hargs : Hid (∀ i (h : i < args.length), args[i].args.length = N' i) := fun i h => by
    obtain ⟨a', c', e1, _⟩ := (h3 i h).shape; exact (Value.slice.inj e1).2.1.symm
  have Hlen : Hid (∀ i (h : i < args.length), (Ty.text names args[i]).length ≤ 1100000000) := fun i h => by
    have h1 := Ty.text_len names _ hM args[i]; have h2 := Ty.size_get (b := b) i h
    have : args[i].size * (1048576 + 12) ≤ 1000 * (1048576 + 12) := Nat.mul_le_mul_right _ (by omega)
    omega
  have Hall : Hid ((Ty.text names (.mk args b)).length ≤ 1100000000) := by
    have h1 := Ty.text_len names _ hM (.mk args b)
    have : (Ty.mk args b).size * (1048576 + 12) ≤ 1000 * (1048576 + 12) := Nat.mul_le_mul_right _ (by omega)
    show _ ≤ _
    omega
  clear h3 hm
  subst hn
  have hlen : args.length ≤ 1000 := by have := Ty.length_lt (l := args) (b := b); omega
  have Hsz : Hid (∀ i (h : i < args.length), args[i].size ≤ 1000) := fun i h => by
    have := Ty.size_get (b := b) i h; omega
  have Hih := Lib.hid ih; clear ih hsz
  have HM := Lib.hid hM; clear hM
  obtain ⟨k0, hk0⟩ : ∃ k0 : Nat, b = k0 := ⟨b.toNat, by omega⟩
  subst hk0
  have hk1 : k0 < names.length := by omega
  obtain ⟨rfl, hnF⟩ := hna (by omega)
  have Hend : Hid ((Ty.mk args (k0 : Int)).text names = Ty.texts names args ++ names[k0].data.toList) := by
    show _ = _
    simp [Ty.text, List.getElem?_eq_getElem hk1]
  unfold maxLen at hnm
  obtain ⟨i0, hi0, hz0, hz1, hz2⟩ := info_parts infoStr
  go_enter Try.func96, Try.ntmps96
  go_wp2_with fail
  go_loopw [5, 7, 8, 12] (fun x _ _ i wr => ∃ (k : Nat) (v : Value) (ps : List ByteArray), i = .int .i64 k ∧ x = v ∧ Hid (ps.map (·.data.toList) = (args.take k).map (Ty.part names)) ∧ k ≤ args.length ∧ Below w.heap.size w wr ∧ Blk wr w.heap.size #[.slice a args.length c, .int .i64 (k0 : Int)] 40 ∧ Acc rpStr 9 (w.heap.size + 1) (fun _ => True) wr v ps) (fun _ _ _ i _ => args.length - (intOf i).toNat)
  case atStart => exact ⟨0, _, [], rfl, rfl, by show _ = _; simp, by omega, (Below.refl _ _).alloc (Nat.le_refl _) _, Blk.new _ _ _ rfl, Acc.nil _ _ _ _ _⟩
  case round =>
    obtain ⟨k, v, ps, rfl, hv, hps, hk, hb, hbox, hacc⟩ := hrel
    subst hv
    have Hacc := Lib.hid hacc; clear hacc
    have c0 : wr.cell? ⟨w.heap.size, 0, none⟩ = some (.slice a args.length c) := hbox.cell rfl
    have c1 : wr.cell? ⟨w.heap.size, 1, none⟩ = some (.int .i64 (k0 : Int)) := hbox.cell rfl
    have hlt0 := hbox.lt
    have hpl : Hid (ps.length = k) := by
      show _ = _
      have := congrArg List.length hps.out
      simp at this; omega
    by_cases hlt : k < args.length
    · obtain ⟨rfl, hF⟩ := ha (by omega)
      have e1 : wr.cell? ⟨bl, off + k * 2, none⟩ = some (.slice (A k) (N' k) (C k)) := (hw.below hb) _ _ _ hF (h1 k hlt)
      have e2 : wr.cell? ⟨bl, off + k * 2 + 1, none⟩ = some (.int .i64 (B k)) := (hw.below hb) _ _ _ hF (h2 k hlt)
      go_wp2_with fail
      refine (Hih.out k hlt _ (Hsz.out k hlt) (Hlow.out _ (List.getElem_mem hlt)) ((hw.below hb).alloc _) ((hw2.below hb).alloc _)).mono ?_
      rintro e w1 ⟨s1, rfl, hs1, hb1⟩
      have hss1 : s1.size ≤ 1100000000 := by have := Hlen.out k hlt; rw [← hs1] at this; simpa using this
      have Hs1 := Lib.hid hs1; clear hs1
      have hB1 : Below w.heap.size w w1 := (hb.alloc (by omega) _).trans (hb1.mono (by simp; omega))
      have hsz1 : wr.heap.size < w1.heap.size := by have := hb1.size; simp at this; omega
      have x1 := (hbox.alloc (.cells #[.slice (A k) (N' k) (C k), .int .i64 (B k)] 40)).below hb1
      have xa : w1.cell? ⟨wr.heap.size, 0, none⟩ = some (.slice (A k) (N' k) (C k)) := ((Blk.new wr #[.slice (A k) (N' k) (C k), .int .i64 (B k)] 40 rfl).below hb1).cell rfl
      have A1 := Lib.hid ((Hacc.out.alloc (.cells #[.slice (A k) (N' k) (C k), .int .i64 (B k)] 40)).below hb1)
      have hne : Hid (u5.ownBlock ≠ some w.heap.size) := fun e => by have := (A1.out.base_le _ e).1; omega
      by_cases hN : N' k = 0
      · have hnil : Hid (args[k].args = []) := List.eq_nil_of_length_eq_zero (by rw [hargs.out k hlt]; exact hN)
        go_wp2_with (at_builtin; refine wpList_push rpStr (by decide) rfl _ _ _ rfl (w.heap.size + 1) 9 i0 _ 16 Try.underlying66 hi0 hz0 hz1 hz2 rfl (by decide) (fun _ => True) u5 ps rfl (A1.out.alloc _) (by rw [hpl.out]; omega) w1.heap.size _ [.string s1] s1 rfl (heap_alloc_new _ _) rfl (by simp; omega) ?_; intro g cap w2 hacc2 hgrow hat hlt2)
        have Hacc2 := Lib.hid hacc2; clear hacc2
        go_roundw
        case rel => exact ⟨k + 1, _, ps ++ [s1], by go_num, rfl, by show _ = _; rw [List.map_append, hps.out, List.take_succ_eq_append_getElem hlt, List.map_append]; simp [Hs1.out, Ty.part, hnil.out], by omega, (hB1.alloc (by omega) _).grown hgrow (by simp; omega) (fun q hq => by have := (A1.out.base_le q hq).1; omega), (x1.alloc _).grown hgrow hne.out, by simpa using Hacc2.out⟩
        case measure => simp [intOf]; omega
      · have hnil : Hid (args[k].args ≠ []) := fun h => hN (by rw [← hargs.out k hlt, h]; rfl)
        go_wp2_with (at_builtin; refine wpList_push rpStr (by decide) rfl _ _ _ rfl (w.heap.size + 1) 9 i0 _ 16 Try.underlying66 hi0 hz0 hz1 hz2 rfl (by decide) (fun _ => True) u5 ps rfl (A1.out.alloc _) (by rw [hpl.out]; omega) w1.heap.size _ [.string (ByteArray.mk #[40] ++ s1 ++ ByteArray.mk #[41])] (ByteArray.mk #[40] ++ s1 ++ ByteArray.mk #[41]) rfl (heap_alloc_new _ _) rfl (by simp; omega) ?_; intro g cap w2 hacc2 hgrow hat hlt2)
        have Hacc2 := Lib.hid hacc2; clear hacc2
        go_roundw
        case rel => exact ⟨k + 1, _, ps ++ [ByteArray.mk #[40] ++ s1 ++ ByteArray.mk #[41]], by go_num, rfl, by show _ = _; rw [List.map_append, hps.out, List.take_succ_eq_append_getElem hlt, List.map_append]; simp [Hs1.out, Ty.part, hnil.out, ByteArray.data_append], by omega, (hB1.alloc (by omega) _).grown hgrow (by simp; omega) (fun q hq => by have := (A1.out.base_le q hq).1; omega), (x1.alloc _).grown hgrow hne.out, by simpa using Hacc2.out⟩
        case measure => simp [intOf]; omega
    · have cn1 : wr.cell? ⟨nbl, noff + k0, none⟩ = some (.string names[k0]) := (hw2.below hb) _ _ _ hnF (hnc k0 hk1)
      have i0' : (0 : Int) ≤ (k0 : Int) := by omega
      have hk1' : (k0 : Int) < (names.length : Int) := by omega
      go_wp2_with (at_builtin; refine wpList_push rpStr (by decide) rfl _ _ _ rfl (w.heap.size + 1) 9 i0 _ 16 Try.underlying66 hi0 hz0 hz1 hz2 rfl (by decide) (fun _ => True) u5 ps rfl (Hacc.out.alloc _) (by rw [hpl.out]; omega) wr.heap.size _ [.string names[k0]] names[k0] rfl (heap_alloc_new _ _) rfl (by simp; omega) ?_; intro g cap w2 hacc2 hgrow hat hlt2)
      have hsl := hacc2.sl (F' := fun _ => True) (fun _ _ _ => trivial) (fun _ _ => trivial)
      have hcap := (acc_cap hacc2).2
      obtain ⟨_, _, bl', off', hv, _, hg, hcell⟩ := isSl_str hsl
      have hlx : (ps ++ [names[k0]]).length = ps.length + 1 := by simp
      obtain ⟨he, _⟩ := hg (by omega)
      have hv1 := (Value.slice.inj hv).1
      rw [he] at hv1
      cases hv1
      have hjoin : Lib.join ((ps ++ [names[k0]]).map (·.data.toList)) [32, 45, 62, 32] = (Ty.mk args (k0 : Int)).text names := by
        have h := hps.out
        rw [List.take_of_length_le (by omega)] at h
        unfold Lib.join
        rw [List.map_append, List.map_cons, List.map_nil, intercalate_snoc, h, Hend.out, Ty.texts_eq]
      have hj := Try.strings_Join g 0 cap (ps ++ [names[k0]]) ⟨#[32, 45, 62, 32]⟩ w2 (fun j x hx => by
        have hj : j < (ps ++ [names[k0]]).length := (List.getElem?_eq_some_iff.1 hx).1
        rw [hcell j hj]; congr 2; exact (List.getElem?_eq_some_iff.1 hx).2) hlt2 (by have := hpl.out; omega) (by omega) (by
          show (Lib.join ((ps ++ [names[k0]]).map (·.data.toList)) [32, 45, 62, 32]).length ≤ _
          rw [hjoin]; have := Hall.out; omega)
      rw [hlx] at hj
      refine hj.mono ?_
      clear hj
      rintro e w3 ⟨rfl, hb3⟩
      have Hjoin := Lib.hid hjoin; clear hjoin
      go_wp2_with fail
      go_ret
      have hB2 : Below w.heap.size w w2 := (hb.alloc (by omega) _).grown hgrow (by simp; omega) (fun q hq => by have := (Hacc.out.base_le q hq).1; omega)
      exact ⟨_, rfl, by have h := Hjoin.out; simpa using h, hB2.trans (hb3.mono hB2.size)⟩
end Go.Proofs.Ytejpgifofkiofaa

namespace Go.Proofs.Ytejpgifofkiofaa
open Go.RowKit

theorem isSl_nil {α : Type} (r : Rp α) (F : Nat → Prop) (w : World) : IsSl r F w (.slice none 0 0) [] :=
  ⟨none, 0, 0, 0, fun _ => [], rfl, ⟨Nat.zero_le _, Nat.le_refl _⟩, fun h => absurd h (by simp), fun _ _ _ h => absurd h (by simp), fun _ h => absurd h (by simp)⟩

theorem isSl_blk {α : Type} {r : Rp α} {w : World} {B : Nat} {E : TypeId} {cs : Array Value} (X : List (List Value)) {l : List α} (hB : Blk w B cs E) (hcs : cs = X.flatten.toArray) (hX : X.length = l.length) (hm : l.length ≤ maxLen)
    (h : ∀ i (h : i < l.length), ∃ x, X[i]? = some x ∧ r.R (fun _ => True) w x l[i]) : IsSl r (fun _ => True) w (.slice (some ⟨B, 0, none⟩) l.length l.length) l := by
  have hl : X.flatten.length = l.length * r.n := by
    have hx : ∀ y ∈ X, y.length = r.n := fun y hy => by
      obtain ⟨i, hi, rfl⟩ := List.getElem_of_mem hy
      obtain ⟨x, hx, hr⟩ := h i (by omega)
      rw [List.getElem?_eq_getElem hi] at hx; cases hx
      exact r.len hr
    rw [← hX]
    clear h hcs hX hB
    induction X with
    | nil => simp
    | cons y X ih => rw [List.flatten_cons, List.length_append, hx y (by simp), ih (fun y hy => hx y (by simp [hy])), List.length_cons, Nat.succ_mul]; omega
  have hacc : Acc r E 0 (fun k => k ≠ B) w (.slice (some ⟨B, 0, none⟩) l.length l.length) l ∨ True := .inr trivial
  clear hacc
  obtain ⟨bl, hbl⟩ : ∃ bl, bl = B := ⟨_, rfl⟩
  refine ⟨some ⟨B, 0, none⟩, l.length, B, 0, fun i => X.getD i [], rfl, ⟨hm, Nat.le_refl _⟩, fun _ => ⟨rfl, trivial⟩, fun i j u hi hu => ?_, fun i hi => ?_⟩
  · subst hcs
    refine hB.cell ?_
    have key : ∀ (Y : List (List Value)), (∀ i, i < Y.length → (Y.getD i []).length = r.n) → ∀ i j u, i < Y.length → (Y.getD i [])[j]? = some u → Y.flatten[i * r.n + j]? = some u := by
      intro Y
      induction Y with
      | nil => intro _ i j u hi; simp at hi
      | cons y Y ih =>
        intro hY i j u hi hu
        have hy : y.length = r.n := by have := hY 0 (by simp); simpa using this
        rw [List.flatten_cons]
        cases i with
        | zero =>
          simp at hu
          have : j < y.length := by
            rcases Nat.lt_or_ge j y.length with h | h
            · exact h
            · rw [List.getElem?_eq_none h] at hu; cases hu
          rw [List.getElem?_append_left (by omega)]; simpa using hu
        | succ i =>
          rw [List.getElem?_append_right (by rw [hy, Nat.succ_mul]; omega)]
          have := ih (fun i hi => by have := hY (i + 1) (by simpa using hi); simpa using this) i j u (by simpa using hi) (by simpa using hu)
          rw [← this]; congr 1; rw [hy, Nat.succ_mul]; omega
    have := key X (fun i hi => by
      obtain ⟨x, hx, hr⟩ := h i (by omega)
      rw [List.getD_eq_getElem?_getD, hx]; exact r.len hr) i j u (by omega) hu
    simpa using this
  · obtain ⟨x, hx, hr⟩ := h i hi
    have : X.getD i [] = x := by rw [List.getD_eq_getElem?_getD, hx]; rfl
    simp only [this]; exact hr

theorem isSl_one {w : World} {B : Nat} {E : TypeId} {s b : Value} {t : Ty} (hB : Blk w B #[s, b] E) (ht : IsTy (fun _ => True) w s b t) : IsSl rpTy (fun _ => True) w (.slice (some ⟨B, 0, none⟩) 1 1) [t] :=
  isSl_blk (l := [t]) [[s, b]] hB rfl rfl (by simp [maxLen]) (fun i hi => by
    have : i = 0 := by simp at hi; omega
    subst this; exact ⟨_, rfl, _, _, rfl, ht⟩)
theorem isSl_two {w : World} {B : Nat} {E : TypeId} {s b s' b' : Value} {t t' : Ty} (hB : Blk w B #[s, b, s', b'] E) (ht : IsTy (fun _ => True) w s b t) (ht' : IsTy (fun _ => True) w s' b' t') : IsSl rpTy (fun _ => True) w (.slice (some ⟨B, 0, none⟩) 2 2) [t, t'] :=
  isSl_blk (l := [t, t']) [[s, b], [s', b']] hB rfl rfl (by simp [maxLen]) (fun i hi => by
    have : i = 0 ∨ i = 1 := by simp at hi; omega
    rcases this with rfl | rfl
    · exact ⟨_, rfl, _, _, rfl, ht⟩
    · exact ⟨_, rfl, _, _, rfl, ht'⟩)

theorem FreshTy.all {t : Ty} {w : World} {e : Ending} {w' : World} (h : FreshTy t w e w') : ∃ a c, e = .returned (.agg #[.slice a t.args.length c, .int .i64 t.base]) ∧ IsTy (fun _ => True) w' (.slice a t.args.length c) (.int .i64 t.base) t ∧ Below w.heap.size w w' := by
  obtain ⟨s, b, rfl, h, hb⟩ := h
  obtain ⟨a, c, rfl, rfl⟩ := h.shape
  exact ⟨a, c, rfl, h.weaken fun _ _ _ => trivial, hb⟩
theorem IsTy.bel {F : Nat → Prop} {w w' : World} {s b : Value} {t : Ty} (h : IsTy F w s b t) (hb : Below w.heap.size w w') : IsTy F w' s b t := h.keep ((Keep.refl _ _).below hb)

def TextPost (t : Ty) (names : List ByteArray) (w : World) (e : Ending) (w' : World) : Prop :=
  ((t.size ≤ 1000 ∧ t.depth ≤ 60 ∧ Ty.Low names.length t) ∧ ∃ s : ByteArray, e = .returned (.tuple #[.string s, .int .i64 0]) ∧ s.data.toList = t.text names ∧ Below w.heap.size w w') ∨
  (¬ (t.size ≤ 1000 ∧ t.depth ≤ 60 ∧ Ty.Low names.length t) ∧ e = .returned (.tuple #[.string ⟨#[]⟩, .int .i64 1]) ∧ Below w.heap.size w w')

set_option maxHeartbeats 1000000 in
theorem Text_k {F F2 : Nat → Prop} {w : World} {s b : Value} {t : Ty} (ht : IsTy F w s b t) {nv : Value} {names : List ByteArray} (hn : IsSl rpStr F2 w nv names) (hM : ∀ s ∈ names, s.size ≤ 1048576) (hsz : t.size ≤ 500000) :
    Calls Try.prog 42 #[.agg #[s, b], nv] w (TextPost t names w) := by
  obtain ⟨a, c, rfl, rfl⟩ := ht.shape
  have Ht := Lib.hid ht; clear ht
  have Hn := Lib.hid hn
  obtain ⟨na, nc, rfl⟩ := isSl_shape hn
  clear hn
  have HM := Lib.hid hM; clear hM
  obtain ⟨l2, hl2⟩ : ∃ l2, t.args.length = l2 := ⟨_, rfl⟩
  obtain ⟨b2, hb2⟩ : ∃ b2, t.base = b2 := ⟨_, rfl⟩
  rw [hl2, hb2] at Ht ⊢
  clear hl2 hb2
  go_enter Try.func42, Try.ntmps42
  go_wp2_with fail
  refine (right_k (Ht.out.keep ((Keep.refl _ _).alloc _)) names.length hsz).mono ?_
  rintro e w1 ⟨r, hr, rfl, hb1⟩
  have hB1 : Below w.heap.size w w1 := ((Below.refl _ _).alloc (Nat.le_refl _) _).trans (hb1.mono (by simp))
  have x1 := (Blk.new w #[.slice a l2 c, .int .i64 b2] 40 rfl).below hb1
  have c0 : w1.cell? ⟨w.heap.size, 0, none⟩ = some (.slice a l2 c) := x1.cell rfl
  have c1 : w1.cell? ⟨w.heap.size, 1, none⟩ = some (.int .i64 b2) := x1.cell rfl
  cases r
  · have Hr := Lib.hid (no_of hr); clear hr
    go_wp2_with fail
    go_ret2
    exact .inr ⟨Hr.out, rfl, hB1⟩
  · have Hr := Lib.hid (yes_of hr); clear hr
    go_wp2_with fail
    refine (text_k Ht.out Hn.out HM.out _ Hr.out.1 Hr.out.2.2 (((Keep.refl _ _).alloc _).below hb1) (((Keep.refl _ _).alloc _).below hb1)).mono ?_
    rintro e w2 ⟨s, rfl, hs, hb2⟩
    have Hs := Lib.hid hs; clear hs
    go_wp2_with fail
    go_ret2
    exact .inl ⟨Hr.out, s, rfl, Hs.out, hB1.trans (hb2.mono hB1.size)⟩

def aArr : Ty := .mk [] 0
def exTy : Ty := .mk [.mk [] 0, .mk [.mk [] 0] 1] 1

set_option maxRecDepth 100000 in
set_option maxHeartbeats 2000000 in
theorem known04 (w : World) : Calls Try.prog 31 #[] w fun e w' => e = .returned (.bool true) ∧ Below w.heap.size w w' := by
  go_enter Try.func31, Try.ntmps31
  go_wp2_with fail
  refine (of_k (w := w) 0 (isSl_nil rpTy (fun _ => True) w) (by simp [Ty.sizes])).mono ?_
  intro e w1 h
  obtain ⟨a1, c1, rfl, h1, hb1⟩ := h.all
  have H1 := Lib.hid h1; clear h1 h
  simp only [Ty.args, Ty.base, List.length_nil] at H1 ⊢
  go_wp2_with fail
  refine (of_k (w := w1) 0 (isSl_nil rpTy (fun _ => True) w1) (by simp [Ty.sizes])).mono ?_
  intro e w2 h
  obtain ⟨a2, c2, rfl, h2, hb2⟩ := h.all
  have H1 := Lib.hid (H1.out.bel hb2)
  have H2 := Lib.hid h2; clear h2 h
  simp only [Ty.args, Ty.base, List.length_nil] at H2 ⊢
  have hB2 := hb1.trans (hb2.mono hb1.size)
  go_wp2_with fail
  refine (of_k 1 (isSl_one (Blk.new _ _ _ rfl) (H2.out.bel ((Below.refl _ _).alloc (Nat.le_refl _) _))) (by simp [Ty.sizes, Ty.size])).mono ?_
  intro e w3 h
  obtain ⟨a3, c3, rfl, h3, hb3⟩ := h.all
  have H3 := Lib.hid h3; clear h3 h
  have H1 := Lib.hid ((H1.out.bel ((Below.refl _ _).alloc (Nat.le_refl _) _)).bel hb3)
  simp only [Ty.args, Ty.base, List.length_cons, List.length_nil] at H3 ⊢
  have hB3 := (hB2.alloc hB2.size _).trans (hb3.mono (by have := hB2.size; simp; omega))
  go_wp2_with fail
  refine (of_k 1 (isSl_two (Blk.new _ _ _ rfl) (H1.out.bel ((Below.refl _ _).alloc (Nat.le_refl _) _)) (H3.out.bel ((Below.refl _ _).alloc (Nat.le_refl _) _))) (by simp [Ty.sizes, Ty.size])).mono ?_
  intro e w4 h
  obtain ⟨a4, c4, rfl, h4, hb4⟩ := h.all
  have H4 := Lib.hid h4; clear h4 h
  simp only [Ty.args, Ty.base, List.length_cons, List.length_nil] at H4 ⊢
  have hB4 := (hB3.alloc hB3.size _).trans (hb4.mono (by have := hB3.size; simp; omega))
  clear hb1 hb2 hb3 hb4 hB2 hB3
  have hsz4 := hB4.size
  go_wp2_with fail
  obtain ⟨w5, hw5⟩ : ∃ w5, (w4.alloc (.cells #[.slice a4 2 c4, .int .i64 1] 40)).alloc (.cells #[.string ⟨#[97]⟩, .string ⟨#[98]⟩] 9) = w5 := ⟨_, rfl⟩
  have x5 : Blk w5 w4.heap.size #[.slice a4 2 c4, .int .i64 1] 40 := by rw [← hw5]; exact (Blk.new _ _ _ rfl).alloc _
  have n5 : Blk w5 (w4.heap.size + 1) #[.string ⟨#[97]⟩, .string ⟨#[98]⟩] 9 := by rw [← hw5]; exact Blk.new _ _ _ (by simp)
  have b5 : Below w4.heap.size w4 w5 := by rw [← hw5]; exact ((Below.refl _ _).alloc (Nat.le_refl _) _).alloc (by simp) _
  rw [hw5]
  clear hw5
  have H5 := Lib.hid (H4.out.bel b5)
  have hn : Hid (IsSl rpStr (fun _ => True) w5 (.slice (some ⟨w4.heap.size + 1, 0, none⟩) 2 2) [⟨#[97]⟩, ⟨#[98]⟩]) :=
    isSl_blk (r := rpStr) (l := [⟨#[97]⟩, ⟨#[98]⟩]) [[.string ⟨#[97]⟩], [.string ⟨#[98]⟩]] n5 rfl rfl (by simp [maxLen]) (fun i hi => by
      have : i = 0 ∨ i = 1 := by simp at hi; omega
      rcases this with rfl | rfl
      · exact ⟨_, rfl, rfl⟩
      · exact ⟨_, rfl, rfl⟩)
  refine (Text_k H5.out hn.out (by intro s hs; simp at hs; rcases hs with rfl | rfl <;> decide) (by simp [Ty.size, Ty.sizes])).mono ?_
  have hlow : Hid (Ty.Low 2 (.mk [.mk [] 0, .mk [.mk [] 0] 1] 1)) := by
    show Ty.Low _ _
    refine .mk _ _ (by omega) (by omega) fun t ht => ?_
    simp at ht
    rcases ht with rfl | rfl
    · exact .mk _ _ (by omega) (by omega) (by simp)
    · exact .mk _ _ (by omega) (by omega) (by simp; exact .mk _ _ (by omega) (by omega) (by simp))
  rintro e w6 (⟨_, s, rfl, hs, hb6⟩ | ⟨hbad, _⟩)
  rotate_left
  · exact absurd ⟨by simp [Ty.size, Ty.sizes], by simp [Ty.depth, Ty.depths], hlow.out⟩ hbad
  obtain rfl : s = ⟨#[97, 32, 45, 62, 32, 40, 97, 32, 45, 62, 32, 98, 41, 32, 45, 62, 32, 98]⟩ := by
    have : s.data.toList = [97, 32, 45, 62, 32, 40, 97, 32, 45, 62, 32, 98, 41, 32, 45, 62, 32, 98] := by rw [hs]; simp [Ty.text, Ty.texts, Ty.args]
    cases s; simp at this ⊢; exact Array.toList_inj.1 this
  clear hs
  have x6 := x5.below hb6
  have d0 : w6.cell? ⟨w4.heap.size, 0, none⟩ = some (.slice a4 2 c4) := x6.cell rfl
  have d1 : w6.cell? ⟨w4.heap.size, 1, none⟩ = some (.int .i64 1) := x6.cell rfl
  have H6 := Lib.hid (H5.out.bel hb6)
  go_wp2_with fail
  have hs : Calls Try.prog 34 #[.agg #[.slice a4 2 c4, .int .i64 1]] w6 (RetI 4 w6) := by simpa [Ty.size, Ty.sizes] using size_k H6.out (by simp [Ty.size, Ty.sizes])
  refine hs.mono ?_
  clear hs
  rintro e w7 ⟨rfl, hb7⟩
  have x7 := x6.below hb7
  have d0 : w7.cell? ⟨w4.heap.size, 0, none⟩ = some (.slice a4 2 c4) := x7.cell rfl
  have d1 : w7.cell? ⟨w4.heap.size, 1, none⟩ = some (.int .i64 1) := x7.cell rfl
  have H7 := Lib.hid (H6.out.bel hb7)
  go_wp2_with fail
  have hs : Calls Try.prog 36 #[.agg #[.slice a4 2 c4, .int .i64 1]] w7 (RetI 2 w7) := by simpa [Ty.order, Ty.orders] using order_k H7.out w7 (by simp [Ty.size, Ty.sizes]) (Keep.refl _ _)
  refine hs.mono ?_
  clear hs
  rintro e w8 ⟨rfl, hb8⟩
  have x8 := x7.below hb8
  have d0 : w8.cell? ⟨w4.heap.size, 0, none⟩ = some (.slice a4 2 c4) := x8.cell rfl
  have d1 : w8.cell? ⟨w4.heap.size, 1, none⟩ = some (.int .i64 1) := x8.cell rfl
  have H8 := Lib.hid (H7.out.bel hb8)
  go_wp2_with fail
  have hs : Calls Try.prog 38 #[.agg #[.slice a4 2 c4, .int .i64 1]] w8 (RetI 3 w8) := by simpa [Ty.depth, Ty.depths] using depth_k H8.out (by simp [Ty.size, Ty.sizes])
  refine hs.mono ?_
  clear hs
  rintro e w9 ⟨rfl, hb9⟩
  go_wp2_with fail
  go_ret
  have q6 := b5.trans (hb6.mono b5.size)
  have q7 := q6.trans (hb7.mono q6.size)
  have q8 := q7.trans (hb8.mono q7.size)
  have q9 := q8.trans (hb9.mono q8.size)
  exact ⟨rfl, hB4.trans (q9.mono hsz4)⟩

set_option maxHeartbeats 1000000 in
theorem few04 {F : Nat → Prop} {w : World} {v : Value} {l : List Ty} (h : IsSl rpTy F w v l) (hl : l.length ≤ 1000000) :
    Calls Try.prog 30 #[v] w (RetB (∀ t ∈ l, t.size ≤ 100 ∧ t.depth ≤ 70) w) := by
  obtain ⟨a, c, bl, off, X, rfl, hm, ha, h1, h2⟩ := h
  have H2 : Hid (∀ i (h : i < l.length), ∃ A N C B, X i = [.slice A N C, .int .i64 B] ∧ IsTy F w (.slice A N C) (.int .i64 B) l[i]) := fun i hi => by
    obtain ⟨s, b, hx, ht⟩ := h2 i hi
    obtain ⟨a', c', rfl, rfl⟩ := ht.shape
    exact ⟨_, _, _, _, hx, ht⟩
  have H1 := Lib.hid h1; clear h1 h2 hm
  go_enter Try.func30, Try.ntmps30
  go_wp2_with fail
  go_loopw [3] (fun i wr => ∃ k : Nat, i = .int .i64 k ∧ k ≤ l.length ∧ Hid (∀ t ∈ l.take k, t.size ≤ 100 ∧ t.depth ≤ 70) ∧ Below w.heap.size w wr) (fun i _ => l.length - (intOf i).toNat)
  case atStart => exact ⟨0, rfl, by omega, by simp [Hid], Below.refl _ _⟩
  case round =>
    obtain ⟨k, rfl, hk, hall, hb⟩ := hrel
    by_cases hlt : k < l.length
    · obtain ⟨rfl, hF⟩ := ha (by omega)
      obtain ⟨A, N, C, B, hx, ht⟩ := H2.out k hlt
      have e1 : wr.cell? ⟨bl, off + k * 2, none⟩ = some (.slice A N C) := ((Keep.refl F w).below hb) _ _ _ hF (H1.out k 0 _ hlt (by rw [hx]; rfl))
      have e2 : wr.cell? ⟨bl, off + k * 2 + 1, none⟩ = some (.int .i64 B) := ((Keep.refl F w).below hb) _ _ _ hF (H1.out k 1 _ hlt (by rw [hx]; rfl))
      have Ht := Lib.hid ht; clear ht hx
      go_wp2_with fail
      refine (Few_any (Ht.out.bel hb) 100 70 (by omega) (by omega) (by omega) (by omega)).mono ?_
      rintro e w1 ⟨r, hr, rfl, hb1⟩
      cases r
      · have Hr := Lib.hid (no_of hr); clear hr
        go_wp2_with fail
        go_ret
        refine ⟨false, ?_, rfl, hb.trans (hb1.mono hb.size)⟩
        simp only [Bool.false_eq_true, false_iff]
        intro h
        have := h _ (List.getElem_mem hlt)
        exact Hr.out ⟨by omega, by omega⟩
      · have Hr := Lib.hid (yes_of hr); clear hr
        go_wp2_with fail
        go_roundw
        case rel => exact ⟨k + 1, by go_num, by omega, Ty.forall_take_succ hlt hall.out (by have := Hr.out; omega), hb.trans (hb1.mono hb.size)⟩
        case measure => simp [intOf]; omega
    · go_wp2_with fail
      go_ret
      refine ⟨true, ?_, rfl, hb⟩
      have h := hall.out
      rw [List.take_of_length_le (by omega)] at h
      simpa using h
end Go.Proofs.Ytejpgifofkiofaa

namespace Go.Proofs.Ytejpgifofkiofaa
open Go.RowKit

theorem infoT : (Try.prog.info? 37).map (fun i => (i.zero, i.size, i.bytes)) = some (some (.agg #[.slice none 0 0, .int .i64 0, .int .i64 0, .slice none 0 0]), 4, 64) := by kernel_rfl
theorem infoM : (Try.prog.info? 29).map (fun i => (i.zero, i.size, i.bytes)) = some (some (.agg #[.slice none 0 0, .int .i64 0, .int .i64 0, .slice none 0 0]), 4, 64) := by kernel_rfl

theorem sl_cells6 {F : Nat → Prop} {w : World} {a : Option Addr} {n c : Nat} {l : List Tm} (h : IsSl rpTm F w (.slice a n c) l) : n = l.length ∧ (l.length ≤ maxLen ∧ l.length ≤ c) ∧ ∃ (bl off : Nat) (PA A : Nat → Option Addr) (PN PC N C : Nat → Nat) (K I : Nat → Int),
    (0 < l.length → a = some ⟨bl, off, none⟩ ∧ F bl) ∧ (∀ i, i < l.length → w.cell? ⟨bl, off + i * 4, none⟩ = some (.slice (PA i) (PN i) (PC i))) ∧ (∀ i, i < l.length → w.cell? ⟨bl, off + i * 4 + 1, none⟩ = some (.int .i64 (K i))) ∧
    (∀ i, i < l.length → w.cell? ⟨bl, off + i * 4 + 2, none⟩ = some (.int .i64 (I i))) ∧ (∀ i, i < l.length → w.cell? ⟨bl, off + i * 4 + 3, none⟩ = some (.slice (A i) (N i) (C i))) ∧
    ∀ i (h : i < l.length), IsTm F w (.slice (PA i) (PN i) (PC i)) (.int .i64 (K i)) (.int .i64 (I i)) (.slice (A i) (N i) (C i)) l[i] := by
  have ht := isTm_mk (isSl_nil rpTy F w) h 0 0
  cases ht with
  | mk bv k i a n c binds args bl off PA A PN PC N C K I hb hn hm ha h1 h2 h3 h4 h5 =>
  subst hn
  exact ⟨rfl, hm, bl, off, PA, A, PN, PC, N, C, K, I, ha, h1, h2, h3, h4, h5⟩

def RetY (p : Prop) (w : World) (e : Ending) (w' : World) : Prop := ∃ r : Bool, Hid (r = true → p) ∧ e = .returned (.bool r) ∧ Below w.heap.size w w'

set_option maxHeartbeats 400000 in
theorem Few6_any {F : Nat → Prop} {w : World} {b k i a : Value} {t : Tm} (ht : IsTm F w b k i a t) (most depth : Int) (hm0 : 1 ≤ most) (hm1 : most ≤ 1000) (hd1 : depth ≤ 1000) (hd0 : -1000 ≤ depth) :
    Calls Try.prog 83 #[.agg #[b, k, i, a], .int .i64 most, .int .i64 depth] w (RetY ((t.full : Int) ≤ most ∧ (t.depth : Int) ≤ depth) w) := by
  obtain ⟨pa, pc, qa, qc, rfl, rfl, rfl, rfl⟩ := ht.shape
  have Ht := Lib.hid ht; clear ht
  obtain ⟨x1, hx1⟩ : ∃ x, t.binds.length = x := ⟨_, rfl⟩
  obtain ⟨x2, hx2⟩ : ∃ x, t.args.length = x := ⟨_, rfl⟩
  obtain ⟨x3, hx3⟩ : ∃ x, t.kind = x := ⟨_, rfl⟩
  obtain ⟨x4, hx4⟩ : ∃ x, t.index = x := ⟨_, rfl⟩
  rw [hx1, hx2, hx3, hx4] at Ht ⊢
  clear hx1 hx2 hx3 hx4
  go_enter Try.func83, Try.ntmps83
  go_wp2_with fail
  refine (few6_any Ht.out most depth _ hm0 hm1 hd1 hd0 ((Keep.refl _ _).alloc _)).mono ?_
  rintro e w1 ⟨r, hf, rfl, hb1⟩
  go_wp2_with fail
  go_ret
  refine ⟨decide (r ≤ most), fun h => ?_, rfl, ((Below.refl _ _).alloc (Nat.le_refl _) _).trans (hb1.mono (by simp))⟩
  have h := of_decide_eq_true h
  have := hf.2.2 h
  omega

theorem Tm.forall_take_succ {p : Tm → Prop} {l : List Tm} {k : Nat} (hk : k < l.length) (h : ∀ t ∈ l.take k, p t) (h' : p l[k]) : ∀ t ∈ l.take (k + 1), p t := by
  intro t ht
  rw [List.take_succ_eq_append_getElem hk] at ht
  rcases List.mem_append.1 ht with ht | ht
  · exact h t ht
  · simp at ht; subst ht; exact h'

theorem IsTm.bel {F : Nat → Prop} {w w' : World} {b k i a : Value} {t : Tm} (h : IsTm F w b k i a t) (hb : Below w.heap.size w w') : IsTm F w' b k i a t := h.keep ((Keep.refl _ _).below hb)

set_option maxHeartbeats 1000000 in
theorem few06 {F : Nat → Prop} {w : World} {v : Value} {l : List Tm} (h : IsSl rpTm F w v l) (hl : l.length ≤ 1000000) :
    Calls Try.prog 14 #[v] w (RetY (∀ t ∈ l, t.full ≤ 150 ∧ t.depth ≤ 70) w) := by
  obtain ⟨a, c, rfl⟩ := h.shape
  obtain ⟨_, hm, bl, off, PA, A, PN, PC, N, C, K, I, ha, h1, h2, h3, h4, h5⟩ := sl_cells6 h
  clear h hm
  have H5 := Lib.hid h5; clear h5
  go_enter Try.func14, Try.ntmps14
  go_wp2_with fail
  go_loopw [3] (fun i wr => ∃ k : Nat, i = .int .i64 k ∧ k ≤ l.length ∧ Hid (∀ t ∈ l.take k, t.full ≤ 150 ∧ t.depth ≤ 70) ∧ Below w.heap.size w wr) (fun i _ => l.length - (intOf i).toNat)
  case atStart => exact ⟨0, rfl, by omega, by simp [Hid], Below.refl _ _⟩
  case round =>
    obtain ⟨k, rfl, hk, hall, hb⟩ := hrel
    by_cases hlt : k < l.length
    · obtain ⟨rfl, hF⟩ := ha (by omega)
      have hkp : Keep F w wr := (Keep.refl F w).below hb
      have e1 := hkp _ _ _ hF (h1 k hlt)
      have e2 := hkp _ _ _ hF (h2 k hlt)
      have e3 := hkp _ _ _ hF (h3 k hlt)
      have e4 := hkp _ _ _ hF (h4 k hlt)
      go_wp2_with fail
      refine (Few6_any ((H5.out k hlt).bel hb) 150 70 (by omega) (by omega) (by omega) (by omega)).mono ?_
      rintro e w1 ⟨r, hr, rfl, hb1⟩
      cases r
      · clear hr
        go_wp2_with fail
        go_ret
        exact ⟨false, fun h => absurd h (by decide), rfl, hb.trans (hb1.mono hb.size)⟩
      · have Hr := Lib.hid (hr.out rfl); clear hr
        go_wp2_with fail
        go_roundw
        case rel => exact ⟨k + 1, by go_num, by omega, Tm.forall_take_succ hlt hall.out (by have := Hr.out; omega), hb.trans (hb1.mono hb.size)⟩
        case measure => simp [intOf]; omega
    · go_wp2_with fail
      go_ret
      refine ⟨true, fun _ => ?_, rfl, hb⟩
      have h := hall.out
      rw [List.take_of_length_le (by omega)] at h
      exact h

def FreshTys (l : List Ty) (w : World) (e : Ending) (w' : World) : Prop := ∃ a c, e = .returned (.slice a l.length c) ∧ IsSl rpTy (fun q => w.heap.size ≤ q) w' (.slice a l.length c) l ∧ Below w.heap.size w w'

set_option maxRecDepth 100000 in
set_option maxHeartbeats 1600000 in
theorem types_any {F : Nat → Prop} {w0 : World} {v : Value} {l : List Ty} (h : IsSl rpTy F w0 v l) (w : World) (hw : Keep F w0 w) (hsz : Ty.sizes l ≤ 1000000) :
    Calls Try.prog 58 #[v] w (FreshTys l w) := by
  obtain ⟨a, c, rfl⟩ := h.shape
  obtain ⟨_, hm, bl, off, A, N, C, B, ha, h1, h2, h3⟩ := sl_cells' h
  clear h hm
  have H3 := Lib.hid h3; clear h3
  have hl : l.length ≤ 1000000 := by have := Ty.le_sizes l; omega
  have Hsz : Hid (∀ i (h : i < l.length), l[i].size ≤ 1000000) := fun i h => by have := Ty.size_mem (List.getElem_mem h); omega
  clear hsz
  obtain ⟨i0, hi0, hz0, hz1, hz2⟩ := info_parts infoK
  go_enter Try.func58, Try.ntmps58
  go_wp2_with fail
  go_loopw [3, 4] (fun v i wr => ∃ (k : Nat) (a' : Option Addr) (c' : Nat), i = .int .i64 k ∧ v = .slice a' k c' ∧ k ≤ l.length ∧ Below w.heap.size w wr ∧
      Acc rpTy 40 w.heap.size (fun q => w.heap.size ≤ q) wr v (l.take k)) (fun _ i _ => l.length - (intOf i).toNat)
  case atStart => exact ⟨0, none, 0, rfl, rfl, by omega, Below.refl _ _, Acc.nil _ _ _ _ _⟩
  case round =>
    obtain ⟨k, a', c', rfl, rfl, hk, hb, hacc⟩ := hrel
    have Hacc := Lib.hid hacc; clear hacc
    by_cases hlt : k < l.length
    · obtain ⟨rfl, hF⟩ := ha (by omega)
      have hkp : Keep F w0 wr := hw.below hb
      have e1 := hkp _ _ _ hF (h1 k hlt)
      have e2 := hkp _ _ _ hF (h2 k hlt)
      have hltl : (k : Int) < (l.length : Int) := by omega
      have hk0 : (0 : Int) ≤ (k : Int) := by omega
      have Hl : Hid ((l.take k).length = k) := by show _ = _; simp; omega
      go_wp2_with fail
      refine (to_any (H3.out k hlt) wr (Hsz.out k hlt) hkp).mono ?_
      rintro e w1 ⟨s', b', rfl, hr1, hb1⟩
      obtain ⟨a1, c1, rfl, rfl⟩ := hr1.shape
      have A1 := Lib.hid (Hacc.out.below hb1)
      have hB1 := hb.trans (hb1.mono hb.size)
      have Hr1 := Lib.hid hr1; clear hr1
      have Hb1 := Lib.hid hb1; clear hb1
      have hsz1 := hB1.size
      go_wp2_with (at_builtin; refine wpList_push rpTy (by decide) rfl _ _ _ rfl w.heap.size 40 i0 _ 32 Try.underlying33 hi0 hz0 hz1 hz2 rfl (by decide) (fun q => w.heap.size ≤ q) (.slice a' k c') (l.take k) rfl (A1.out.alloc _) (by rw [Hl.out]; omega) w1.heap.size _ [.slice a1 l[k].args.length c1, .int .i64 l[k].base] l[k] rfl (heap_alloc_new _ _) ⟨_, _, rfl, (Hr1.out.weaken (fun q _ hq => ⟨Nat.le_trans hb.size hq, fun e => by have := (Hacc.out.base_le q e).2; exact absurd this (Nat.not_lt.2 hq)⟩)).keep ((Keep.refl _ _).alloc _)⟩ (by simp; omega) ?_; intro g cap w2 hacc2 hgrow hat hlt2)
      go_roundw
      case rel =>
        refine ⟨k + 1, _, _, by go_num, rfl, by omega, (hB1.alloc hsz1 _).grown hgrow (by simp; omega) (fun q hq => (A1.out.base_le q hq).1), ?_⟩
        rw [Hl.out, ← List.take_succ_eq_append_getElem hlt] at hacc2
        exact hacc2
      case measure => simp [intOf]; omega
    · have hk' : k = l.length := by omega
      subst hk'
      go_wp2_with fail
      go_ret
      have h := Hacc.out
      rw [List.take_of_length_le (by omega)] at h
      exact ⟨_, _, rfl, h.sl (fun _ _ h => h) (fun _ h => h), hb⟩
set_option maxRecDepth 100000 in
set_option maxHeartbeats 1600000 in
theorem ofTypes_any {F : Nat → Prop} {w0 : World} {v : Value} {l : List Ty} (h : IsSl rpTy F w0 v l) (w : World) (hw : Keep F w0 w) (hsz : Ty.sizes l ≤ 1000000) :
    Calls Try.prog 86 #[v] w (FreshTys l w) := by
  obtain ⟨a, c, rfl⟩ := h.shape
  obtain ⟨_, hm, bl, off, A, N, C, B, ha, h1, h2, h3⟩ := sl_cells' h
  clear h hm
  have H3 := Lib.hid h3; clear h3
  have hl : l.length ≤ 1000000 := by have := Ty.le_sizes l; omega
  have Hsz : Hid (∀ i (h : i < l.length), l[i].size ≤ 1000000) := fun i h => by have := Ty.size_mem (List.getElem_mem h); omega
  clear hsz
  obtain ⟨i0, hi0, hz0, hz1, hz2⟩ := info_parts infoR
  go_enter Try.func86, Try.ntmps86
  go_wp2_with fail
  go_loopw [3, 4] (fun v i wr => ∃ (k : Nat) (a' : Option Addr) (c' : Nat), i = .int .i64 k ∧ v = .slice a' k c' ∧ k ≤ l.length ∧ Below w.heap.size w wr ∧
      Acc rpTy 26 w.heap.size (fun q => w.heap.size ≤ q) wr v (l.take k)) (fun _ i _ => l.length - (intOf i).toNat)
  case atStart => exact ⟨0, none, 0, rfl, rfl, by omega, Below.refl _ _, Acc.nil _ _ _ _ _⟩
  case round =>
    obtain ⟨k, a', c', rfl, rfl, hk, hb, hacc⟩ := hrel
    have Hacc := Lib.hid hacc; clear hacc
    by_cases hlt : k < l.length
    · obtain ⟨rfl, hF⟩ := ha (by omega)
      have hkp : Keep F w0 wr := hw.below hb
      have e1 := hkp _ _ _ hF (h1 k hlt)
      have e2 := hkp _ _ _ hF (h2 k hlt)
      have hltl : (k : Int) < (l.length : Int) := by omega
      have hk0 : (0 : Int) ≤ (k : Int) := by omega
      have Hl : Hid ((l.take k).length = k) := by show _ = _; simp; omega
      go_wp2_with fail
      refine (of_any (H3.out k hlt) wr (Hsz.out k hlt) hkp).mono ?_
      rintro e w1 ⟨s', b', rfl, hr1, hb1⟩
      obtain ⟨a1, c1, rfl, rfl⟩ := hr1.shape
      have A1 := Lib.hid (Hacc.out.below hb1)
      have hB1 := hb.trans (hb1.mono hb.size)
      have Hr1 := Lib.hid hr1; clear hr1
      have Hb1 := Lib.hid hb1; clear hb1
      have hsz1 := hB1.size
      go_wp2_with (at_builtin; refine wpList_push rpTy (by decide) rfl _ _ _ rfl w.heap.size 26 i0 _ 32 Try.underlying24 hi0 hz0 hz1 hz2 rfl (by decide) (fun q => w.heap.size ≤ q) (.slice a' k c') (l.take k) rfl (A1.out.alloc _) (by rw [Hl.out]; omega) w1.heap.size _ [.slice a1 l[k].args.length c1, .int .i64 l[k].base] l[k] rfl (heap_alloc_new _ _) ⟨_, _, rfl, (Hr1.out.weaken (fun q _ hq => ⟨Nat.le_trans hb.size hq, fun e => by have := (Hacc.out.base_le q e).2; exact absurd this (Nat.not_lt.2 hq)⟩)).keep ((Keep.refl _ _).alloc _)⟩ (by simp; omega) ?_; intro g cap w2 hacc2 hgrow hat hlt2)
      go_roundw
      case rel =>
        refine ⟨k + 1, _, _, by go_num, rfl, by omega, (hB1.alloc hsz1 _).grown hgrow (by simp; omega) (fun q hq => (A1.out.base_le q hq).1), ?_⟩
        rw [Hl.out, ← List.take_succ_eq_append_getElem hlt] at hacc2
        exact hacc2
      case measure => simp [intOf]; omega
    · have hk' : k = l.length := by omega
      subst hk'
      go_wp2_with fail
      go_ret
      have h := Hacc.out
      rw [List.take_of_length_le (by omega)] at h
      exact ⟨_, _, rfl, h.sl (fun _ _ h => h) (fun _ h => h), hb⟩
end Go.Proofs.Ytejpgifofkiofaa

