/-
  The verifier's all: copies of at most twenty types.
-/
import Derived.Test.YtejpgifofkiofaaTexts
namespace Go.Proofs.Ytejpgifofkiofaa
open Go.RowKit

/-- a fresh slice of types -/
def FreshSl (l : List Ty) (w : World) (e : Ending) (w' : World) : Prop := ∃ a c, e = .returned (.slice a l.length c) ∧ IsSl rpTy (fun _ => True) w' (.slice a l.length c) l ∧ Below w.heap.size w w'

set_option maxRecDepth 100000 in
set_option maxHeartbeats 1600000 in
theorem all_any {F : Nat → Prop} {w : World} {v : Value} {l : List Ty} (h : IsSl rpTy F w v l) (hl : l.length ≤ 20) (hsz : ∀ t ∈ l, t.size ≤ 1000) :
    Calls Try.prog 44 #[v] w (FreshSl l w) := by
  obtain ⟨a, c, bl, off, X, rfl, hm, ha, h1, h2⟩ := h
  have H2 : Hid (∀ i (h : i < l.length), ∃ A N C B, X i = [.slice A N C, .int .i64 B] ∧ IsTy F w (.slice A N C) (.int .i64 B) l[i]) := fun i hi => by
    obtain ⟨s, b, hx, ht⟩ := h2 i hi
    obtain ⟨a', c', rfl, rfl⟩ := ht.shape
    exact ⟨_, _, _, _, hx, ht⟩
  have H1 := Lib.hid h1; clear h1 h2 hm
  have Hsz := Lib.hid hsz; clear hsz
  obtain ⟨i0, hi0, hz0, hz1, hz2⟩ := info_parts infoK
  go_enter Try.func44, Try.ntmps44
  go_wp2_with fail
  go_loopw [3, 4] (fun v i wr => ∃ (k : Nat) (a' : Option Addr) (c' : Nat), i = .int .i64 k ∧ v = .slice a' k c' ∧ k ≤ l.length ∧ Below w.heap.size w wr ∧
      Acc rpTy 40 w.heap.size (fun q => w.heap.size ≤ q) wr v (l.take k)) (fun _ i _ => l.length - (intOf i).toNat)
  case atStart => exact ⟨0, none, 0, rfl, rfl, by omega, Below.refl _ _, Acc.nil _ _ _ _ _⟩
  case round =>
    obtain ⟨k, a', c', rfl, rfl, hk, hb, hacc⟩ := hrel
    have Hacc := Lib.hid hacc; clear hacc
    by_cases hlt : k < l.length
    · obtain ⟨rfl, hF⟩ := ha (by omega)
      obtain ⟨A, N, C, B, hx, ht⟩ := H2.out k hlt
      have e1 : wr.cell? ⟨bl, off + k * 2, none⟩ = some (.slice A N C) := ((Keep.refl F w).below hb) _ _ _ hF (H1.out k 0 _ hlt (by rw [hx]; rfl))
      have e2 : wr.cell? ⟨bl, off + k * 2 + 1, none⟩ = some (.int .i64 B) := ((Keep.refl F w).below hb) _ _ _ hF (H1.out k 1 _ hlt (by rw [hx]; rfl))
      have Ht := Lib.hid ht; clear ht hx
      have hlt20 : (k : Int) < 20 := by omega
      have hltl : (k : Int) < (l.length : Int) := by omega
      have hk0 : (0 : Int) ≤ (k : Int) := by omega
      have Hl : Hid ((l.take k).length = k) := by show _ = _; simp; omega
      go_wp2_with fail
      refine (to_any (Ht.out.bel hb) wr (by have := Hsz.out _ (List.getElem_mem hlt); omega) (Keep.refl _ _)).mono ?_
      rintro e w1 ⟨s', b', rfl, hr1, hb1⟩
      obtain ⟨a1, c1, rfl, rfl⟩ := hr1.shape
      have A1 := Lib.hid (Hacc.out.below hb1)
      have hB1 := hb.trans (hb1.mono hb.size)
      have Hr1 := Lib.hid hr1; clear hr1
      have Hb1 := Lib.hid hb1; clear hb1
      have hsz1 := hB1.size
      go_wp2_with (at_builtin; refine wpList_push rpTy (by decide) rfl _ _ _ rfl w.heap.size 40 i0 _ 32 Try.underlying33 hi0 hz0 hz1 hz2 rfl (by decide) (fun q => w.heap.size ≤ q) (.slice a' k c') (l.take k) rfl (A1.out.alloc _) (by rw [Hl.out]; omega) w1.heap.size _ [.slice a1 l[k].args.length c1, .int .i64 l[k].base] l[k] rfl (heap_alloc_new _ _) ⟨_, _, rfl, (Hr1.out.weaken (fun q _ hq => ⟨Nat.le_trans hb.size hq, fun e => by have := (Hacc.out.base_le q e).2; exact absurd this (Nat.not_lt.2 hq)⟩)).keep ((Keep.refl _ _).alloc _)⟩ (by simp; omega) ?_; intro g cap w2 hacc2 hgrow hat hlt2)
      go_roundw
      case rel =>
        refine ⟨k + 1, _, _, by go_num, rfl, by omega, (hB1.alloc hsz1 _).grown hgrow (by simp; omega) (fun q hq => (A1.out.base_le q hq).1), ?_⟩
        rw [Hl.out, ← List.take_succ_eq_append_getElem hlt] at hacc2
        exact hacc2
      case measure => simp [intOf]; omega
    · have hk' : k = l.length := by omega
      subst hk'
      go_wp2_with fail
      go_ret
      have h := Hacc.out
      rw [List.take_of_length_le (by omega)] at h
      exact ⟨_, _, rfl, h.sl (fun _ _ _ => trivial) (fun _ _ => trivial), hb⟩
end Go.Proofs.Ytejpgifofkiofaa
