/-
  The law QueueOnce, whatever the slices' lengths.
-/
import Derived.Test.YtplfbdkljnblmaaRowQOncep14
import Derived.Test.YtplfbdkljnblmaaRowQOncep15
import Derived.Test.YtplfbdkljnblmaaRowQOncep16
import Derived.Test.YtplfbdkljnblmaaRowQOncep17
set_option linter.unusedVariables false
set_option linter.unusedSimpArgs false
namespace Go.Proofs.Ytplfbdkljnblmaa
open Go.RowKit

theorem intsList {w : World} {a : Option Addr} {n c : Nat} {l : List Int} (h : IsSl rpI (fun _ => True) w (.slice a n c) l) : n = l.length ∧ n ≤ c ∧ n ≤ maxLen ∧ ∀ i (hi : i < l.length), ∃ bl o, a = some ⟨bl, o, none⟩ ∧ w.cell? ⟨bl, o + i, none⟩ = some (.int .i64 l[i]) := by
  obtain ⟨a', c', bl, off, X, hv, hm, ha, h1, h2⟩ := h
  injection hv with q1 q2 q3
  subst q1 q2 q3
  refine ⟨rfl, hm.2, hm.1, fun i hi => ⟨bl, off, (ha (by omega)).1, ?_⟩⟩
  have hx : X i = [.int .i64 l[i]] := h2 i hi
  have := h1 i 0 (.int .i64 l[i]) hi (by rw [hx]; rfl)
  simpa [rpI] using this

theorem queueOnce_walk {w : World} {a a2 : Option Addr} {n c n2 c2 : Nat} (pd : Int) {l l2 : List Int} (h : IsSl rpI (fun _ => True) w (.slice a n c) l) (h2 : IsSl rpI (fun _ => True) w (.slice a2 n2 c2) l2) (hW : ∀ k ∈ l2, W64 k) :
    Calls Try.prog 4 #[.int .i64 pd, .slice a n c, .slice a2 n2 c2] w fun e w' => e = .returned (.bool true) ∧ Below w.heap.size w w' := by
  obtain ⟨hn, hc, hm, hI⟩ := intsList h
  obtain ⟨hn2, hc2, hm2, hI2⟩ := intsList h2
  have hI' : ∀ i, i < n → ∃ bl o, a = some ⟨bl, o, none⟩ ∧ w.cell? ⟨bl, o + i, none⟩ = some (.int .i64 ((fun j => l.getD j 0) i)) := fun i hi => by
    obtain ⟨bl, o, e1, e2⟩ := hI i (by omega)
    refine ⟨bl, o, e1, ?_⟩
    rw [e2]
    simp [List.getD_eq_getElem?_getD, List.getElem?_eq_getElem (show i < l.length by omega)]
  by_cases k1 : n ≤ 60 <;> by_cases k2 : n2 ≤ 20
  · exact once1 pd hc hm hI' hc2 hm2 hn2.symm hI2 hW k1 k2
  · exact once3 pd hc hm hI' hc2 hm2 hn2.symm hI2 hW k1 (by omega)
  · exact once2 pd hc hm hI' hc2 hm2 hn2.symm hI2 hW (by omega) k2
  · exact once4 pd hc hm hI' hc2 hm2 hn2.symm hI2 hW (by omega) (by omega)
end Go.Proofs.Ytplfbdkljnblmaa

