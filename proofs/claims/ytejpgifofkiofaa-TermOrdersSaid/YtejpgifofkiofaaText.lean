/-
  A type's text: the reference's, and the program's.
-/
import Derived.Test.YtejpgifofkiofaaEachRight
import Derived.Test.YtejpgifofkiofaaKind2
import Derived.Test.YtejpgifofkiofaaShelf
namespace Go.Proofs.Ytejpgifofkiofaa
open Go.RowKit

def rpStr : Rp ByteArray where
  n := 1
  R _ _ x s := x = [.string s]
  len := by rintro F w x a rfl; rfl
  one := by rintro F w x a rfl u hu; simp at hu; subst hu; rfl
  keep := by intro F w w' x a h _; exact h
  weaken := by intro F F' w x a h _; exact h

/-- cell i of a slice of strings -/
theorem isSl_str {F : Nat → Prop} {w : World} {v : Value} {l : List ByteArray} (h : IsSl rpStr F w v l) : ∃ a c bl off, v = .slice a l.length c ∧ (l.length ≤ maxLen ∧ l.length ≤ c) ∧ (0 < l.length → a = some ⟨bl, off, none⟩ ∧ F bl) ∧ ∀ i (h : i < l.length), w.cell? ⟨bl, off + i, none⟩ = some (.string l[i]) := by
  obtain ⟨a, c, bl, off, X, hv, hm, ha, h1, h2⟩ := h
  refine ⟨a, c, bl, off, hv, hm, ha, fun i hi => ?_⟩
  have hx : X i = [.string l[i]] := h2 i hi
  have := h1 i 0 (.string l[i]) hi (by rw [hx]; rfl)
  simpa [rpStr] using this

def RetS (l : List UInt8) (w : World) (e : Ending) (w' : World) : Prop := ∃ s : ByteArray, e = .returned (.string s) ∧ s.data.toList = l ∧ Below w.heap.size w w'

namespace Ty
mutual
def text (names : List ByteArray) : Ty → List UInt8
  | .mk l b => texts names l ++ (names.getD b.toNat default).data.toList
def texts (names : List ByteArray) : List Ty → List UInt8
  | [] => []
  | t :: l => (if t.args = [] then text names t else 40 :: text names t ++ [41]) ++ [32, 45, 62, 32] ++ texts names l
end
def part (names : List ByteArray) (t : Ty) : List UInt8 := if t.args = [] then text names t else 40 :: text names t ++ [41]
theorem texts_append (names : List ByteArray) (l r : List Ty) : texts names (l ++ r) = texts names l ++ texts names r := by
  induction l with
  | nil => simp [texts]
  | cons t l ih => simp [texts, ih]
theorem texts_take (names : List ByteArray) (l : List Ty) (i : Nat) (h : i < l.length) : texts names (l.take (i + 1)) = texts names (l.take i) ++ part names l[i] ++ [32, 45, 62, 32] := by
  rw [List.take_succ_eq_append_getElem h, texts_append]; simp [texts, part]
theorem text_len (names : List ByteArray) (M : Nat) (hM : ∀ s ∈ names, s.size ≤ M) (t : Ty) : (text names t).length + 6 ≤ t.size * (M + 12) := by
  induction t using Ty.ind with
  | h args base ih =>
    have : ∀ l : List Ty, (∀ t ∈ l, (text names t).length + 6 ≤ t.size * (M + 12)) → (texts names l).length ≤ sizes l * (M + 12) := by
      intro l
      induction l with
      | nil => intro _; simp [texts]
      | cons t l ih2 =>
        intro h
        have h1 := h t (by simp)
        have h2 := ih2 (fun t ht => h t (by simp [ht]))
        simp only [texts, sizes, Nat.add_mul, List.length_append]
        split
        · simp; omega
        · simp; omega
    have h1 := this args ih
    have h2 : (names.getD base.toNat default).data.toList.length ≤ M := by
      rw [List.getD_eq_getElem?_getD]
      cases hx : names[base.toNat]? with
      | none => simp; show (default : ByteArray).data.size ≤ M; exact Nat.zero_le _
      | some x => simp; exact hM x (List.mem_of_getElem? hx)
    simp only [text, size, Nat.add_mul, List.length_append]; omega
theorem texts_len (names : List ByteArray) (M : Nat) (hM : ∀ s ∈ names, s.size ≤ M) (l : List Ty) : (texts names l).length ≤ sizes l * (M + 12) := by
  have h := text_len names M hM (.mk l 0)
  simp only [text, size, Nat.add_mul, List.length_append] at h
  induction l with
  | nil => simp [texts]
  | cons t l ih =>
    have h1 := text_len names M hM t
    have h2 := text_len names M hM (.mk l 0)
    simp only [text, size, Nat.add_mul, List.length_append] at h2
    have h3 := ih h2
    simp only [texts, sizes, Nat.add_mul, List.length_append]
    split
    · simp; omega
    · simp; omega
end Ty

set_option maxHeartbeats 1000000 in
theorem text_r {F F2 : Nat → Prop} {w0 : World} {s b : Value} {t : Ty} (ht : IsTy F w0 s b t) {nv : Value} {names : List ByteArray} (hn : IsSl rpStr F2 w0 nv names) (hM : ∀ s ∈ names, s.size ≤ 1048576) : ∀ w : World, t.size ≤ 1000 → Ty.Low names.length t → Keep F w0 w → Keep F2 w0 w →
    Calls Try.prog 43 #[.agg #[s, b], nv] w (RetS (t.text names) w) := by
  obtain ⟨na, nc, nbl, noff, rfl, hnm, hna, hnc⟩ := isSl_str hn
  clear hn
  induction ht with
  | mk a n c b args bl off A N' C B hn hm ha h1 h2 h3 ih =>
  intro w hsz hlow hw hw2
  rw [Ty.low_iff] at hlow
  obtain ⟨hb0, hb1, hlow⟩ := hlow
  have Hlow := Lib.hid hlow; clear hlow
  have hargs : Hid (∀ i (h : i < args.length), args[i].args.length = N' i) := fun i h => by
    obtain ⟨a', c', e1, _⟩ := (h3 i h).shape; exact (Value.slice.inj e1).2.1.symm
  have Hlen : Hid (∀ i (h : i < args.length), (Ty.text names args[i]).length ≤ 1100000000) := fun i h => by
    have h1 := Ty.text_len names _ hM args[i]; have h2 := Ty.size_get (b := b) i h
    have : args[i].size * (1048576 + 12) ≤ 1000 * (1048576 + 12) := Nat.mul_le_mul_right _ (by omega)
    omega
  have Hlens : Hid (∀ k, (Ty.texts names (args.take k)).length ≤ 1100000000) := fun k => by
    have h1 := Ty.texts_len names _ hM (args.take k); have h2 := Ty.sizes_take_le args k
    have : Ty.sizes (args.take k) * (1048576 + 12) ≤ 1000 * (1048576 + 12) := Nat.mul_le_mul_right _ (by rw [Ty.size_eq] at hsz; omega)
    omega
  clear h3 hm
  subst hn
  have hlen : args.length ≤ 1000 := by have := Ty.length_lt (l := args) (b := b); omega
  have Hsz : Hid (∀ i (h : i < args.length), args[i].size ≤ 1000) := fun i h => by
    have := Ty.size_get (b := b) i h; omega
  have Hih := Lib.hid ih; clear ih hsz
  have HM := Lib.hid hM; clear hM
  obtain ⟨k0, hk0⟩ : ∃ k0 : Nat, b = k0 := ⟨b.toNat, by omega⟩
  subst hk0
  have hk1 : k0 < names.length := by omega
  obtain ⟨rfl, hnF⟩ := hna (by omega)
  have cn : w.cell? ⟨nbl, noff + k0, none⟩ = some (.string names[k0]) := hw2 _ _ _ hnF (hnc k0 hk1)
  have Hend : Hid ((Ty.mk args (k0 : Int)).text names = Ty.texts names args ++ names[k0].data.toList) := by
    show _ = _
    simp [Ty.text, List.getElem?_eq_getElem hk1]
  unfold maxLen at hnm
  go_enter Try.func43, Try.ntmps43
  go_wp2_with fail
  go_loopw [5, 6, 7] (fun x i y wr => ∃ (k : Nat) (s : ByteArray), i = .int .i64 k ∧ x = .string s ∧ Hid (s.data.toList = Ty.texts names (args.take k)) ∧ k ≤ args.length ∧ Below w.heap.size w wr ∧ Blk wr w.heap.size #[.slice a args.length c, .int .i64 (k0 : Int)] 26) (fun _ i _ _ => args.length - (intOf i).toNat)
  case atStart => exact ⟨0, _, rfl, rfl, by show _ = _; simp [Ty.texts], by omega, (Below.refl _ _).alloc (Nat.le_refl _) _, Blk.new _ _ _ rfl⟩
  case round =>
    obtain ⟨k, s, rfl, rfl, hs, hk, hb, hbox⟩ := hrel
    have c0 : wr.cell? ⟨w.heap.size, 0, none⟩ = some (.slice a args.length c) := hbox.cell rfl
    have c1 : wr.cell? ⟨w.heap.size, 1, none⟩ = some (.int .i64 (k0 : Int)) := hbox.cell rfl
    have hlt0 := hbox.lt
    have hss : s.size ≤ 1100000000 := by have := Hlens.out k; rw [← hs.out] at this; simpa using this
    by_cases hlt : k < args.length
    · obtain ⟨rfl, hF⟩ := ha (by omega)
      have e1 : wr.cell? ⟨bl, off + k * 2, none⟩ = some (.slice (A k) (N' k) (C k)) := (hw.below hb) _ _ _ hF (h1 k hlt)
      have e2 : wr.cell? ⟨bl, off + k * 2 + 1, none⟩ = some (.int .i64 (B k)) := (hw.below hb) _ _ _ hF (h2 k hlt)
      go_wp2_with fail
      refine (Hih.out k hlt _ (Hsz.out k hlt) (Hlow.out _ (List.getElem_mem hlt)) (hw.below hb) (hw2.below hb)).mono ?_
      rintro e w1 ⟨s1, rfl, hs1, hb1⟩
      have hss1 : s1.size ≤ 1100000000 := by have := Hlen.out k hlt; rw [← hs1] at this; simpa using this
      have Hs1 := Lib.hid hs1; clear hs1
      have f1 : w1.cell? ⟨bl, off + k * 2, none⟩ = some (.slice (A k) (N' k) (C k)) := ((hw.below hb).below hb1) _ _ _ hF (h1 k hlt)
      have x1 := hbox.below hb1
      have d0 : w1.cell? ⟨w.heap.size, 0, none⟩ = some (.slice (some ⟨bl, off, none⟩) args.length c) := x1.cell rfl
      by_cases hN : N' k = 0
      · have hnil : Hid (args[k].args = []) := List.eq_nil_of_length_eq_zero (by rw [hargs.out k hlt]; exact hN)
        go_wp2_with fail
        go_roundw
        case rel => exact ⟨k + 1, _, by go_num, rfl, by show _ = _; rw [Ty.texts_take _ _ _ hlt]; simp [hs.out, Hs1.out, Ty.part, hnil.out, ByteArray.data_append], by omega, hb.trans (hb1.mono (by omega)), x1⟩
        case measure => simp [intOf]; omega
      · have hnil : Hid (args[k].args ≠ []) := fun h => hN (by rw [← hargs.out k hlt, h]; rfl)
        go_wp2_with fail
        go_roundw
        case rel => exact ⟨k + 1, _, by go_num, rfl, by show _ = _; rw [Ty.texts_take _ _ _ hlt]; simp [hs.out, Hs1.out, Ty.part, hnil.out, ByteArray.data_append], by omega, hb.trans (hb1.mono (by omega)), x1⟩
        case measure => simp [intOf]; omega
    · have cn1 : wr.cell? ⟨nbl, noff + k0, none⟩ = some (.string names[k0]) := (hw2.below hb) _ _ _ hnF (hnc k0 hk1)
      have hss2 : names[k0].size ≤ 1048576 := HM.out _ (List.getElem_mem hk1)
      go_wp2_with fail
      go_ret
      have h := hs.out
      rw [List.take_of_length_le (by omega)] at h
      exact ⟨s ++ names[k0], rfl, by rw [Hend.out, ByteArray.data_append, Array.toList_append, h], hb⟩

theorem infoStr : (Try.prog.info? 9).map (fun i => (i.zero, i.size, i.bytes)) = some (some (.string ⟨#[]⟩), 1, 16) := by kernel_rfl

theorem acc_cap {α : Type} {r : Rp α} {E : TypeId} {base : Nat} {F : Nat → Prop} {w : World} {a : Option Addr} {n c : Nat} {l : List α} (h : Acc r E base F w (.slice a n c) l) : n = l.length ∧ n ≤ c := by
  obtain ⟨X, h1, h2, h3⟩ := h
  rcases h2.2 with ⟨h, h0⟩ | ⟨g, cap, cur, hv, _, _, hn, _⟩
  · cases h; exact ⟨by omega, by omega⟩
  · cases hv; exact ⟨rfl, hn⟩

theorem intercalate_snoc {α : Type} (sep : List α) (l : List (List α)) (x : List α) : sep.intercalate (l ++ [x]) = (l.map (· ++ sep)).flatten ++ x := by
  induction l with
  | nil => simp [List.intercalate]
  | cons a l ih =>
    cases l with
    | nil => simp [List.intercalate]
    | cons b l =>
      have e : ∀ m : List (List α), sep.intercalate (a :: b :: m) = a ++ sep ++ sep.intercalate (b :: m) := fun m => by simp [List.intercalate]
      rw [List.cons_append, List.cons_append, e, ← List.cons_append, ih]; simp
theorem Ty.texts_eq (names : List ByteArray) (l : List Ty) : Ty.texts names l = ((l.map (Ty.part names)).map (· ++ [32, 45, 62, 32])).flatten := by
  induction l with
  | nil => simp [Ty.texts]
  | cons t l ih => simp [Ty.texts, ih, Ty.part]

set_option maxRecDepth 100000 in
set_option maxHeartbeats 1000000 in
theorem text_k {F F2 : Nat → Prop} {w0 : World} {s b : Value} {t : Ty} (ht : IsTy F w0 s b t) {nv : Value} {names : List ByteArray} (hn : IsSl rpStr F2 w0 nv names) (hM : ∀ s ∈ names, s.size ≤ 1048576) : ∀ w : World, t.size ≤ 1000 → Ty.Low names.length t → Keep F w0 w → Keep F2 w0 w →
    Calls Try.prog 96 #[.agg #[s, b], nv] w (RetS (t.text names) w) := by
  obtain ⟨na, nc, nbl, noff, rfl, hnm, hna, hnc⟩ := isSl_str hn
  clear hn
  induction ht with
  | mk a n c b args bl off A N' C B hn hm ha h1 h2 h3 ih =>
  intro w hsz hlow hw hw2
  rw [Ty.low_iff] at hlow
  obtain ⟨hb0, hb1, hlow⟩ := hlow
  have Hlow := Lib.hid hlow; clear hlow
  have hargs : Hid (∀ i (h : i < args.length), args[i].args.length = N' i) := fun i h => by
    obtain ⟨a', c', e1, _⟩ := (h3 i h).shape; exact (Value.slice.inj e1).2.1.symm
  have Hlen : Hid (∀ i (h : i < args.length), (Ty.text names args[i]).length ≤ 1100000000) := fun i h => by
    have h1 := Ty.text_len names _ hM args[i]; have h2 := Ty.size_get (b := b) i h
    have : args[i].size * (1048576 + 12) ≤ 1000 * (1048576 + 12) := Nat.mul_le_mul_right _ (by omega)
    omega
  have Hall : Hid ((Ty.text names (.mk args b)).length ≤ 1100000000) := by
    have h1 := Ty.text_len names _ hM (.mk args b)
    have : (Ty.mk args b).size * (1048576 + 12) ≤ 1000 * (1048576 + 12) := Nat.mul_le_mul_right _ (by omega)
    show _ ≤ _
    omega
  clear h3 hm
  subst hn
  have hlen : args.length ≤ 1000 := by have := Ty.length_lt (l := args) (b := b); omega
  have Hsz : Hid (∀ i (h : i < args.length), args[i].size ≤ 1000) := fun i h => by
    have := Ty.size_get (b := b) i h; omega
  have Hih := Lib.hid ih; clear ih hsz
  have HM := Lib.hid hM; clear hM
  obtain ⟨k0, hk0⟩ : ∃ k0 : Nat, b = k0 := ⟨b.toNat, by omega⟩
  subst hk0
  have hk1 : k0 < names.length := by omega
  obtain ⟨rfl, hnF⟩ := hna (by omega)
  have Hend : Hid ((Ty.mk args (k0 : Int)).text names = Ty.texts names args ++ names[k0].data.toList) := by
    show _ = _
    simp [Ty.text, List.getElem?_eq_getElem hk1]
  unfold maxLen at hnm
  obtain ⟨i0, hi0, hz0, hz1, hz2⟩ := info_parts infoStr
  go_enter Try.func96, Try.ntmps96
  go_wp2_with fail
  go_loopw [5, 7, 8, 12] (fun x _ _ i wr => ∃ (k : Nat) (v : Value) (ps : List ByteArray), i = .int .i64 k ∧ x = v ∧ Hid (ps.map (·.data.toList) = (args.take k).map (Ty.part names)) ∧ k ≤ args.length ∧ Below w.heap.size w wr ∧ Blk wr w.heap.size #[.slice a args.length c, .int .i64 (k0 : Int)] 40 ∧ Acc rpStr 9 (w.heap.size + 1) (fun _ => True) wr v ps) (fun _ _ _ i _ => args.length - (intOf i).toNat)
  case atStart => exact ⟨0, _, [], rfl, rfl, by show _ = _; simp, by omega, (Below.refl _ _).alloc (Nat.le_refl _) _, Blk.new _ _ _ rfl, Acc.nil _ _ _ _ _⟩
  case round =>
    obtain ⟨k, v, ps, rfl, hv, hps, hk, hb, hbox, hacc⟩ := hrel
    subst hv
    have Hacc := Lib.hid hacc; clear hacc
    have c0 : wr.cell? ⟨w.heap.size, 0, none⟩ = some (.slice a args.length c) := hbox.cell rfl
    have c1 : wr.cell? ⟨w.heap.size, 1, none⟩ = some (.int .i64 (k0 : Int)) := hbox.cell rfl
    have hlt0 := hbox.lt
    have hpl : Hid (ps.length = k) := by
      show _ = _
      have := congrArg List.length hps.out
      simp at this; omega
    by_cases hlt : k < args.length
    · obtain ⟨rfl, hF⟩ := ha (by omega)
      have e1 : wr.cell? ⟨bl, off + k * 2, none⟩ = some (.slice (A k) (N' k) (C k)) := (hw.below hb) _ _ _ hF (h1 k hlt)
      have e2 : wr.cell? ⟨bl, off + k * 2 + 1, none⟩ = some (.int .i64 (B k)) := (hw.below hb) _ _ _ hF (h2 k hlt)
      go_wp2_with fail
      refine (Hih.out k hlt _ (Hsz.out k hlt) (Hlow.out _ (List.getElem_mem hlt)) ((hw.below hb).alloc _) ((hw2.below hb).alloc _)).mono ?_
      rintro e w1 ⟨s1, rfl, hs1, hb1⟩
      have hss1 : s1.size ≤ 1100000000 := by have := Hlen.out k hlt; rw [← hs1] at this; simpa using this
      have Hs1 := Lib.hid hs1; clear hs1
      have hB1 : Below w.heap.size w w1 := (hb.alloc (by omega) _).trans (hb1.mono (by simp; omega))
      have hsz1 : wr.heap.size < w1.heap.size := by have := hb1.size; simp at this; omega
      have x1 := (hbox.alloc (.cells #[.slice (A k) (N' k) (C k), .int .i64 (B k)] 40)).below hb1
      have xa : w1.cell? ⟨wr.heap.size, 0, none⟩ = some (.slice (A k) (N' k) (C k)) := ((Blk.new wr #[.slice (A k) (N' k) (C k), .int .i64 (B k)] 40 rfl).below hb1).cell rfl
      have A1 := Lib.hid ((Hacc.out.alloc (.cells #[.slice (A k) (N' k) (C k), .int .i64 (B k)] 40)).below hb1)
      have hne : Hid (u5.ownBlock ≠ some w.heap.size) := fun e => by have := (A1.out.base_le _ e).1; omega
      by_cases hN : N' k = 0
      · have hnil : Hid (args[k].args = []) := List.eq_nil_of_length_eq_zero (by rw [hargs.out k hlt]; exact hN)
        go_wp2_with (at_builtin; refine wpList_push rpStr (by decide) rfl _ _ _ rfl (w.heap.size + 1) 9 i0 _ 16 Try.underlying66 hi0 hz0 hz1 hz2 rfl (by decide) (fun _ => True) u5 ps rfl (A1.out.alloc _) (by rw [hpl.out]; omega) w1.heap.size _ [.string s1] s1 rfl (heap_alloc_new _ _) rfl (by simp; omega) ?_; intro g cap w2 hacc2 hgrow hat hlt2)
        have Hacc2 := Lib.hid hacc2; clear hacc2
        go_roundw
        case rel => exact ⟨k + 1, _, ps ++ [s1], by go_num, rfl, by show _ = _; rw [List.map_append, hps.out, List.take_succ_eq_append_getElem hlt, List.map_append]; simp [Hs1.out, Ty.part, hnil.out], by omega, (hB1.alloc (by omega) _).grown hgrow (by simp; omega) (fun q hq => by have := (A1.out.base_le q hq).1; omega), (x1.alloc _).grown hgrow hne.out, by simpa using Hacc2.out⟩
        case measure => simp [intOf]; omega
      · have hnil : Hid (args[k].args ≠ []) := fun h => hN (by rw [← hargs.out k hlt, h]; rfl)
        go_wp2_with (at_builtin; refine wpList_push rpStr (by decide) rfl _ _ _ rfl (w.heap.size + 1) 9 i0 _ 16 Try.underlying66 hi0 hz0 hz1 hz2 rfl (by decide) (fun _ => True) u5 ps rfl (A1.out.alloc _) (by rw [hpl.out]; omega) w1.heap.size _ [.string (ByteArray.mk #[40] ++ s1 ++ ByteArray.mk #[41])] (ByteArray.mk #[40] ++ s1 ++ ByteArray.mk #[41]) rfl (heap_alloc_new _ _) rfl (by simp; omega) ?_; intro g cap w2 hacc2 hgrow hat hlt2)
        have Hacc2 := Lib.hid hacc2; clear hacc2
        go_roundw
        case rel => exact ⟨k + 1, _, ps ++ [ByteArray.mk #[40] ++ s1 ++ ByteArray.mk #[41]], by go_num, rfl, by show _ = _; rw [List.map_append, hps.out, List.take_succ_eq_append_getElem hlt, List.map_append]; simp [Hs1.out, Ty.part, hnil.out, ByteArray.data_append], by omega, (hB1.alloc (by omega) _).grown hgrow (by simp; omega) (fun q hq => by have := (A1.out.base_le q hq).1; omega), (x1.alloc _).grown hgrow hne.out, by simpa using Hacc2.out⟩
        case measure => simp [intOf]; omega
    · have cn1 : wr.cell? ⟨nbl, noff + k0, none⟩ = some (.string names[k0]) := (hw2.below hb) _ _ _ hnF (hnc k0 hk1)
      have i0' : (0 : Int) ≤ (k0 : Int) := by omega
      have hk1' : (k0 : Int) < (names.length : Int) := by omega
      go_wp2_with (at_builtin; refine wpList_push rpStr (by decide) rfl _ _ _ rfl (w.heap.size + 1) 9 i0 _ 16 Try.underlying66 hi0 hz0 hz1 hz2 rfl (by decide) (fun _ => True) u5 ps rfl (Hacc.out.alloc _) (by rw [hpl.out]; omega) wr.heap.size _ [.string names[k0]] names[k0] rfl (heap_alloc_new _ _) rfl (by simp; omega) ?_; intro g cap w2 hacc2 hgrow hat hlt2)
      have hsl := hacc2.sl (F' := fun _ => True) (fun _ _ _ => trivial) (fun _ _ => trivial)
      have hcap := (acc_cap hacc2).2
      obtain ⟨_, _, bl', off', hv, _, hg, hcell⟩ := isSl_str hsl
      have hlx : (ps ++ [names[k0]]).length = ps.length + 1 := by simp
      obtain ⟨he, _⟩ := hg (by omega)
      have hv1 := (Value.slice.inj hv).1
      rw [he] at hv1
      cases hv1
      have hjoin : Lib.join ((ps ++ [names[k0]]).map (·.data.toList)) [32, 45, 62, 32] = (Ty.mk args (k0 : Int)).text names := by
        have h := hps.out
        rw [List.take_of_length_le (by omega)] at h
        unfold Lib.join
        rw [List.map_append, List.map_cons, List.map_nil, intercalate_snoc, h, Hend.out, Ty.texts_eq]
      have hj := Try.strings_Join g 0 cap (ps ++ [names[k0]]) ⟨#[32, 45, 62, 32]⟩ w2 (fun j x hx => by
        have hj : j < (ps ++ [names[k0]]).length := (List.getElem?_eq_some_iff.1 hx).1
        rw [hcell j hj]; congr 2; exact (List.getElem?_eq_some_iff.1 hx).2) hlt2 (by have := hpl.out; omega) (by omega) (by
          show (Lib.join ((ps ++ [names[k0]]).map (·.data.toList)) [32, 45, 62, 32]).length ≤ _
          rw [hjoin]; have := Hall.out; omega)
      rw [hlx] at hj
      refine hj.mono ?_
      clear hj
      rintro e w3 ⟨rfl, hb3⟩
      have Hjoin := Lib.hid hjoin; clear hjoin
      go_wp2_with fail
      go_ret
      have hB2 : Below w.heap.size w w2 := (hb.alloc (by omega) _).grown hgrow (by simp; omega) (fun q hq => by have := (Hacc.out.base_le q hq).1; omega)
      exact ⟨_, rfl, by have h := Hjoin.out; simpa using h, hB2.trans (hb3.mono hB2.size)⟩
end Go.Proofs.Ytejpgifofkiofaa
