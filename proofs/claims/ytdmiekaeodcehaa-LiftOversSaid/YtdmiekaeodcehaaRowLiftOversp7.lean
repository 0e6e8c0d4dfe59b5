/-
  The document's Metas. Which of two types is less: by size, by how many arguments, argument by argument, by base; and what that order promises. Which of two terms is less: the plain law. sign, cmp.Compare and cmp.Or of ints. The document's order of types. The document's order of terms. The type of a head: the program's and the document's. The type of a head: the document's. Whether a term is of a type: the plain law. A context with more binders: the program's and the document's. term.is: whether a term is of a type. The document's Is: whether a term is of a type. The document's Depth, Right, Check; term.Check. The document's answer of layer 22: lifted, Over, Closed. LiftOvers, walked in the deep way.
-/
import Derived.Test.YtdmiekaeodcehaaRowLiftOversp6
import Derived.Test.YtdmiekaeodcehaaRowLiftOversp1
import Derived.Deep.QuietTactic
import Derived.BigQuiet
import Derived.WalkSmall
import Derived.Test.YtdmiekaeodcehaaRowLiftOversp4
set_option maxRecDepth 100000
set_option maxHeartbeats 1000000
set_option linter.unusedVariables false
set_option linter.unusedSimpArgs false
namespace Go.Proofs.Ytdmiekaeodcehaa
open Go.RowKit

def Rises (out S : List Int) : Prop := out.Pairwise (· < ·) ∧ (∀ y, y ∈ out ↔ y ∈ S) ∧ out.length ≤ S.length
theorem rises_nil : Rises [] [] := ⟨.nil, by simp, by simp⟩
theorem Rises.skip {out S : List Int} {x : Int} (h : Rises out S) (hx : x ∈ out) : Rises out (S ++ [x]) :=
  ⟨h.1, fun y => by
    rw [h.2.1, List.mem_append]
    constructor
    · exact .inl
    · rintro (h' | h')
      · exact h'
      · simp at h'; subst h'; exact (h.2.1 _).1 hx, by have := h.2.2; simp; omega⟩
theorem Rises.put {out S : List Int} {x : Int} {a : Nat} (h : Rises out S) (ha : a ≤ out.length) (hlt : ∀ k (hk : k < a), out[k] < x) (hge : ∀ h' : a < out.length, ¬ out[a] < x ∧ out[a] ≠ x) : Rises (out.take a ++ [x] ++ out.drop a) (S ++ [x]) := by
  have h1 := List.pairwise_iff_getElem.1 h.1
  have hT : ∀ y ∈ out.take a, y < x := fun y hy => by
    obtain ⟨k, hk, e⟩ := List.getElem_of_mem hy
    have hk' : k < a := by simp at hk; omega
    rw [← e, List.getElem_take]; exact hlt k hk'
  have hD : ∀ y ∈ out.drop a, x < y := fun y hy => by
    obtain ⟨k, hk, e⟩ := List.getElem_of_mem hy
    have hk' : a + k < out.length := by simp at hk; omega
    rw [← e, List.getElem_drop]
    have h2 := hge (by omega)
    by_cases hk0 : k = 0
    · subst hk0; simp only [Nat.add_zero]; omega
    · have := h1 a (a + k) (by omega) hk' (by omega); omega
  refine ⟨?_, fun y => ?_, ?_⟩
  · have hp : (out.take a ++ out.drop a).Pairwise (· < ·) := by rw [List.take_append_drop]; exact h.1
    rw [List.pairwise_append] at hp
    rw [List.append_assoc, List.pairwise_append, List.singleton_append, List.pairwise_cons]
    refine ⟨hp.1, ⟨hD, hp.2.1⟩, fun y hy z hz => ?_⟩
    rcases List.mem_cons.1 hz with rfl | hz
    · exact hT y hy
    · exact hp.2.2 y hy z hz
  · rw [List.mem_append, List.mem_append, List.mem_append, ← h.2.1]
    have : y ∈ out ↔ y ∈ out.take a ∨ y ∈ out.drop a := by rw [← List.mem_append, List.take_append_drop]
    rw [this]
    constructor
    · rintro ((h' | h') | h')
      · exact .inl (.inl h')
      · exact .inr h'
      · exact .inl (.inr h')
    · rintro ((h' | h') | h')
      · exact .inl (.inl h')
      · exact .inr h'
      · exact .inl (.inr h')
  · have := h.2.2; simp; omega
theorem Rises.eq {out S : List Int} (h : Rises out S) : out = sortU S := rises_eq h.1 (sortU_spec S).1 fun x => by rw [h.2.1, (sortU_spec S).2]

theorem metasH_take (l : List (Int × Int)) (j : Nat) (h : j < l.length) : metasH (l.take (j + 1)) = metasH (l.take j) ++ if l[j].1 = 2 then [l[j].2] else [] := by
  rw [List.take_succ_eq_append_getElem h]
  unfold metasH
  rw [List.filterMap_append]
  congr 1
  by_cases hk : l[j].1 = 2
  · simp [hk]
  · simp [hk]
def metasT (l : List Tm) : List Int := l.flatMap fun t => metasH (t.heads 0)
theorem metasT_take (l : List Tm) (j : Nat) (h : j < l.length) : metasT (l.take (j + 1)) = metasT (l.take j) ++ metasH (l[j].heads 0) := by
  rw [List.take_succ_eq_append_getElem h]; unfold metasT; rw [List.flatMap_append]; simp
theorem metasT_len (l : List Tm) (m : Nat) (h : ∀ t ∈ l, t.full ≤ m) : (metasT l).length ≤ l.length * m := by
  induction l with
  | nil => simp [metasT]
  | cons t l ih =>
    have h1 := h t (by simp)
    have h2 := ih (fun u hu => h u (by simp [hu]))
    have h3 : (metasT (t :: l)).length = (metasH (t.heads 0)).length + (metasT l).length := by simp [metasT]
    have h4 : (metasH (t.heads 0)).length ≤ (t.heads 0).length := List.length_filterMap_le _ _
    have h5 := Tm.heads_len t 0
    rw [h3, List.length_cons, Nat.succ_mul]; omega

theorem IsSl.takeI {F : Nat → Prop} {w : World} {a : Option Addr} {n c : Nat} {l : List Int} (h : IsSl rpInt F w (.slice a n c) l) (k : Nat) (hk : k ≤ l.length) : IsSl rpInt F w (.slice a k c) (l.take k) := by
  obtain ⟨a', c', bl, off, X, hv, hm, ha, h1, h2⟩ := h
  cases hv
  have hl : (l.take k).length = k := by simp; omega
  refine ⟨_, _, bl, off, X, by rw [hl], by rw [hl]; omega, fun h0 => ha (by omega), fun i j u hi hu => h1 i j u (by omega) hu, fun i hi => ?_⟩
  rw [List.getElem_take]
  exact h2 i (by omega)
theorem IsSl.dropI00 {F : Nat → Prop} {w : World} {l : List Int} {p : Nat} (h : ¬ p < l.length) (a' : Option Addr) (c' : Nat) : IsSl rpInt F w (.slice a' 0 c') (l.drop p) := by
  rw [List.drop_eq_nil_of_le (by omega)]
  exact ⟨a', c', 0, 0, fun _ => [], rfl, by simp, fun h => absurd h (by simp), fun i _ _ hi => absurd hi (by simp), fun i hi => absurd hi (by simp)⟩
theorem IsSl.dropI01 {F : Nat → Prop} {w : World} {l : List Int} {p : Nat} (h : ¬ p < l.length) {a' : Option Addr} {n c' : Nat} (hn : n = 0) : IsSl rpInt F w (.slice a' n c') (l.drop p) := by
  subst hn; exact IsSl.dropI00 h _ _
theorem IsSl.dropI {F : Nat → Prop} {w : World} {b o n c : Nat} {l : List Int} (h : IsSl rpInt F w (.slice (some ⟨b, o, none⟩) n c) l) (k : Nat) (hk : k ≤ l.length) : IsSl rpInt F w (.slice (some ⟨b, o + k, none⟩) (n - k) (c - k)) (l.drop k) := by
  obtain ⟨a', c', bl, off, X, hv, hm, ha, h1, h2⟩ := h
  cases hv
  have hl : (l.drop k).length = l.length - k := by simp
  refine ⟨_, _, b, o + k, fun i => X (k + i), by rw [hl], by rw [hl]; omega, fun h0 => ?_, fun i j u hi hu => ?_, fun i hi => ?_⟩
  · have := ha (by omega)
    refine ⟨rfl, ?_⟩
    cases this.1; exact this.2
  · have h3 := ha (by omega)
    cases h3.1
    have := h1 (k + i) j u (by omega) hu
    rw [show o + k + i * rpInt.n + j = o + (k + i) * rpInt.n + j from by show o + k + i * 1 + j = o + (k + i) * 1 + j; omega]
    exact this
  · rw [List.getElem_drop]; exact h2 (k + i) (by omega)

theorem keep_of_below {B : Nat} {w w' : World} (h : Below B w w') : Keep (fun q => q < B) w w' := fun k o v hk hv => by
  rw [h.cell (p := ⟨k, o, none⟩) hk]; exact hv
theorem Acc.shape2 {α : Type} {r : Rp α} {E : TypeId} {base : Nat} {F : Nat → Prop} {w : World} {v : Value} {l : List α} (h : Acc r E base F w v l) : ∃ a c, v = .slice a l.length c ∧ (a = none ∨ ∃ g, a = some ⟨g, 0, none⟩) := by
  obtain ⟨X, h1, h2, h3⟩ := h
  rcases h2.2 with ⟨rfl, h0⟩ | ⟨g, cap, cur, hv, _⟩
  · exact ⟨none, 0, by rw [h0], .inl rfl⟩
  · exact ⟨_, _, hv, .inr ⟨g, rfl⟩⟩
theorem acc_empty {w : World} {base : Nat} {F : Nat → Prop} (hb : base ≤ w.heap.size) : Acc rpInt 3 base F (w.alloc (.cells #[] 3)) (.slice (some ⟨w.heap.size, 0, none⟩) 0 0) [] :=
  ⟨[], rfl, World.ownsRow_made w #[] 0 hb (by simp) rfl, fun i h => absurd h (by simp)⟩
theorem ints_sl2 {G F : Nat → Prop} {w : World} {v : Value} {l : List Int} (h : IsSl rpInt G w v l) : IsSl2 rpInt G F w v l := by
  obtain ⟨a, c, bl, off, X, hv, hm, ha, h1, h2⟩ := IsSl2.of h
  exact ⟨a, c, bl, off, X, hv, hm, ha, h1, fun i hi => h2 i hi⟩

set_option maxRecDepth 100000 in
set_option maxHeartbeats 8000000 in
theorem Metas_r {F : Nat → Prop} {w0 : World} {v : Value} {l : List Tm} (h : IsSl rpTm F w0 v l) (w : World) (hw : Keep F w0 w) (hl : l.length ≤ 9) (hsz : ∀ t ∈ l, t.full ≤ 90000) (hfit : ∀ t ∈ l, t.Fit) :
    Calls Try.prog 17 #[v] w (FreshInts (sortU (metasT l)) w) := by
  obtain ⟨a, c, rfl, hm, bl, off, ha, hc⟩ := tms_cells h
  have Hm := Lib.hid hm; have Hc := Lib.hid hc; have Hsz := Lib.hid hsz; have Hfit := Lib.hid hfit; have Hw := Lib.hid hw
  clear h hm hc hsz hfit hw
  obtain ⟨ll, hll⟩ : ∃ x, l.length = x := ⟨_, rfl⟩
  rw [hll] at ha hl ⊢
  obtain ⟨i2, hi2, hz0, hz1, hz2⟩ := info_parts infoI
  go_enter Try.func17, Try.ntmps17
  go_wp2_with fail
  go_loopw [3, 4] (fun out ii wr => ∃ (i : Nat) (oa : Option Addr) (oc : Nat) (o : List Int), ii = .int .i64 i ∧ out = .slice oa o.length oc ∧ i ≤ ll ∧ Hid (oa = none ∨ ∃ g, oa = some ⟨g, 0, none⟩) ∧ Hid (Rises o (metasT (l.take i))) ∧ Hid (IsSl rpInt (fun q => w.heap.size ≤ q) wr (.slice oa o.length oc) o) ∧ Below w.heap.size w wr) (fun _ ii _ => ll - (intOf ii).toNat)
  case atStart =>
    refine ⟨0, none, 0, [], rfl, rfl, by omega, .inl rfl, by show Rises _ _; simpa [metasT] using rises_nil, ?_, Below.refl _ _⟩
    exact ⟨none, 0, 0, 0, fun _ => [], rfl, by simp, by simp, fun i _ _ hi => absurd hi (by simp), fun i hi => absurd hi (by simp)⟩
  case round =>
    obtain ⟨i, oa, oc, o, rfl, rfl, hi, Hoa, HR, HO, hb⟩ := hrel
    have hi0 : (0 : Int) ≤ (i : Int) := Int.natCast_nonneg _
    by_cases hlt : i < ll
    · have hi1 : (i : Int) < (ll : Int) := by omega
      obtain ⟨rfl, hF⟩ := ha (by omega)
      obtain ⟨vb, vk, vi, vs, e1, e2, e3, e4, hty⟩ := Hc.out i (by omega)
      have hkp : Keep F w0 wr := Hw.out.below hb
      have e1 := hkp _ _ _ hF e1
      have e2 := hkp _ _ _ hF e2
      have e3 := hkp _ _ _ hF e3
      have e4 := hkp _ _ _ hF e4
      have Htk := Lib.hid (metasT_take l i (by omega))
      have hts := Hsz.out l[i] (List.getElem_mem _)
      have htf := Hfit.out l[i] (List.getElem_mem _)
      have Hh := Lib.hid (Heads_r hty wr hkp hts htf)
      obtain ⟨hs, hhs⟩ : ∃ hs, l[i].heads 0 = hs := ⟨_, rfl⟩
      have hhl : hs.length ≤ 90000 := by rw [← hhs]; exact Nat.le_trans (Tm.heads_len _ 0) hts
      rw [hhs] at Htk Hh
      obtain ⟨pa, pc, qa, qc, rfl, rfl, rfl, rfl⟩ := hty.shape
      clear hty hts htf hhs
      go_wp2_with fail
      refine (Hh.out).mono ?_
      intro e w1 hpost
      obtain ⟨ra, rc, rfl, hT, hb1⟩ := hpost
      have HO1 := Lib.hid (HO.out.keep ((Keep.refl _ _).below hb1))
      have hbw1 := hb.trans (hb1.mono hb.size)
      obtain ⟨_, hm1, b1, o1, ha1, hc1⟩ := hds_cells hT
      have Hc1 := Lib.hid hc1
      clear Hh HO hb hb1 hT hc1 e1 e2 e3 e4 hkp
      go_wp2_with fail
      go_loopw [3, 6] (fun out kk wr => ∃ (k : Nat) (oa : Option Addr) (oc : Nat) (o : List Int), kk = .int .i64 k ∧ out = .slice oa o.length oc ∧ k ≤ hs.length ∧ Hid (oa = none ∨ ∃ g, oa = some ⟨g, 0, none⟩) ∧ Hid (Rises o (metasT (l.take i) ++ metasH (hs.take k))) ∧ Hid (IsSl rpInt (fun q => w.heap.size ≤ q) wr (.slice oa o.length oc) o) ∧ Below w1.heap.size w1 wr) (fun _ kk _ => hs.length - (intOf kk).toNat)
      case atStart => exact ⟨0, _, _, o, rfl, rfl, by omega, Hoa, by show Rises _ _; simpa [metasH] using HR.out, HO1, Below.refl _ _⟩
      case round =>
        clear HO1 HR Hoa
        obtain ⟨k, oa, oc, o, rfl, rfl, hk, Hoa, HR, HO, hb⟩ := hrel
        have hk0 : (0 : Int) ≤ (k : Int) := Int.natCast_nonneg _
        by_cases hkl : k < hs.length
        · have hk1 : (k : Int) < (hs.length : Int) := by omega
          obtain ⟨rfl, _⟩ := ha1 (by omega)
          obtain ⟨e1, e2⟩ := Hc1.out k hkl
          have e1 := ((Keep.refl (fun _ => True) _).below hb) _ _ _ trivial e1
          have e2 := ((Keep.refl (fun _ => True) _).below hb) _ _ _ trivial e2
          have Htk2 := Lib.hid (metasH_take hs k hkl)
          obtain ⟨hd, hhd⟩ : ∃ x, hs[k].1 = x := ⟨_, rfl⟩
          obtain ⟨ix, hix⟩ : ∃ x, hs[k].2 = x := ⟨_, rfl⟩
          rw [hhd] at e1 Htk2
          rw [hix] at e2 Htk2
          clear hhd hix
          by_cases hm2 : hd = 2
          · subst hm2
            have HR2 : Hid (metasT (l.take i) ++ metasH (hs.take (k + 1)) = (metasT (l.take i) ++ metasH (hs.take k)) ++ [ix]) := by show _ = _; rw [Htk2.out, if_pos rfl, List.append_assoc]
            have holen : o.length ≤ 900000 := by
              have h1 := HR.out.2.2
              have h2 := metasT_len (l.take i) 90000 (fun t ht => Hsz.out t (List.mem_of_mem_take ht))
              have h3 : (metasH (hs.take k)).length ≤ (hs.take k).length := List.length_filterMap_le _ _
              have h4 : (l.take i).length ≤ 8 := by simp; omega
              have h5 : (metasT (l.take i)).length ≤ 720000 := Nat.le_trans h2 (Nat.le_trans (Nat.mul_le_mul_right 90000 h4) (by decide))
              have h6 : (hs.take k).length ≤ 90000 := by simp; omega
              rw [List.length_append] at h1
              omega
            obtain ⟨_, hmo, bo, oo, hao, hco⟩ := ints_cells HO.out
            have Hco := Lib.hid hco; clear hco
            go_wp2_with fail
            obtain ⟨W2, rfl⟩ : ∃ W2, W2 = wr := ⟨_, rfl⟩
            go_loopw [7] (fun at_ wr2 => ∃ (p : Nat), at_ = .int .i64 p ∧ p ≤ o.length ∧ Hid (∀ q (hq : q < p) (h : q < o.length), o[q] < ix) ∧ Below W2.heap.size W2 wr2) (fun at_ _ => o.length - (intOf at_).toNat)
            case atStart => exact ⟨0, rfl, by omega, fun q hq => absurd hq (by omega), Below.refl _ _⟩
            case round =>
              obtain ⟨p, rfl, hp, Hlt, hb2⟩ := hrel
              have hp0 : (0 : Int) ≤ (p : Int) := Int.natCast_nonneg _
              have e2 := ((Keep.refl (fun _ => True) _).below hb2) _ _ _ trivial e2
              clear e1
              by_cases hpl : p < o.length
              · have hp1 : (p : Int) < (o.length : Int) := by omega
                obtain ⟨rfl, _⟩ := hao (by omega)
                have e3 := ((Keep.refl (fun _ => True) _).below hb2) _ _ _ trivial (Hco.out p hpl)
                obtain ⟨z, hz⟩ : ∃ z, o[p] = z := ⟨_, rfl⟩
                rw [hz] at e3
                go_wp2_with fail
                refine wp_region_noPanic (wp_region_need (S := fun w' => w'.cell? ⟨bo, oo + p, none⟩ = some (.int .i64 z) ∧ w'.cell? ⟨b1, o1 + k * 2 + 1, none⟩ = some (.int .i64 ix)) (by kernel_rfl) ?_)
                have hS : (wr.drew).cell? ⟨bo, oo + p, none⟩ = some (.int .i64 z) ∧ (wr.drew).cell? ⟨b1, o1 + k * 2 + 1, none⟩ = some (.int .i64 ix) := ⟨e3, e2⟩
                refine wpN_take (i := 0) (v := ?v1) rfl (by kernel_rfl) (fun _ _ _ h => h) hS (Or.inl ⟨by rfl, ?hy1⟩) ?hr1
                case hy1 => (intro wS hSw; (try dsimp only at hSw); go_simp; (try with_reducible rfl))
                try simp only [Act.put, List.setIfInBounds_toArray, List.set_cons_zero, List.set_cons_succ, List.getElem_toArray, List.getElem_cons_zero, List.getElem_cons_succ]
                refine wpN_take (i := 1) (v := ?v2) rfl (by kernel_rfl) (fun _ _ _ h => h) hS (Or.inl ⟨by rfl, ?hy2⟩) ?hr2
                case hy2 => (intro wS hSw; (try dsimp only at hSw); go_simp; (try with_reducible rfl))
                try simp only [Act.put, List.setIfInBounds_toArray, List.set_cons_zero, List.set_cons_succ, List.getElem_toArray, List.getElem_cons_zero, List.getElem_cons_succ]
                refine wpN_take (i := 2) (v := ?v3) rfl (by kernel_rfl) (fun _ _ _ h => h) hS (Or.inl ⟨by rfl, ?hy3⟩) ?hr3
                case hy3 => (intro wS hSw; (try dsimp only at hSw); go_simp; (try with_reducible rfl))
                try simp only [Act.put, List.setIfInBounds_toArray, List.set_cons_zero, List.set_cons_succ, List.getElem_toArray, List.getElem_cons_zero, List.getElem_cons_succ]
                refine wpN_take (i := 3) (v := ?v4) rfl (by kernel_rfl) (fun _ _ _ h => h) hS (Or.inl ⟨by rfl, ?hy4⟩) ?hr4
                case hy4 => (intro wS hSw; (try dsimp only at hSw); go_simp; (try with_reducible rfl))
                try simp only [Act.put, List.setIfInBounds_toArray, List.set_cons_zero, List.set_cons_succ, List.getElem_toArray, List.getElem_cons_zero, List.getElem_cons_succ]
                refine wpN_take (i := 4) (v := ?v5) rfl (by kernel_rfl) (fun _ _ _ h => h) hS (Or.inl ⟨by rfl, ?hy5⟩) ?hr5
                case hy5 => (intro wS hSw; (try dsimp only at hSw); go_simp; (try with_reducible rfl))
                try simp only [Act.put, List.setIfInBounds_toArray, List.set_cons_zero, List.set_cons_succ, List.getElem_toArray, List.getElem_cons_zero, List.getElem_cons_succ]
                refine wpN_take (i := 5) (v := ?v6) rfl (by kernel_rfl) (fun _ _ _ h => h) hS (Or.inl ⟨by rfl, ?hy6⟩) ?hr6
                case hy6 => (intro wS hSw; (try dsimp only at hSw); go_simp; (try with_reducible rfl))
                try simp only [Act.put, List.setIfInBounds_toArray, List.set_cons_zero, List.set_cons_succ, List.getElem_toArray, List.getElem_cons_zero, List.getElem_cons_succ]
                refine wpN_take (i := 6) (v := ?v7) rfl (by kernel_rfl) (fun _ _ _ h => h) hS (Or.inl ⟨by rfl, ?hy7⟩) ?hr7
                case hy7 => (intro wS hSw; (try dsimp only at hSw); go_simp; (try with_reducible rfl))
                try simp only [Act.put, List.setIfInBounds_toArray, List.set_cons_zero, List.set_cons_succ, List.getElem_toArray, List.getElem_cons_zero, List.getElem_cons_succ]
                refine wpN_take (i := 7) (v := ?v8) rfl (by kernel_rfl) (fun _ _ _ h => h) hS (Or.inl ⟨by rfl, ?hy8⟩) ?hr8
                case hy8 => (intro wS hSw; (try dsimp only at hSw); go_simp; (try with_reducible rfl))
                try simp only [Act.put, List.setIfInBounds_toArray, List.set_cons_zero, List.set_cons_succ, List.getElem_toArray, List.getElem_cons_zero, List.getElem_cons_succ]
                refine wpN_take (i := 8) (v := ?v9) rfl (by kernel_rfl) (fun _ _ _ h => h) hS (Or.inl ⟨by rfl, ?hy9⟩) ?hr9
                case hy9 => (intro wS hSw; (try dsimp only at hSw); go_simp; (try with_reducible rfl))
                try simp only [Act.put, List.setIfInBounds_toArray, List.set_cons_zero, List.set_cons_succ, List.getElem_toArray, List.getElem_cons_zero, List.getElem_cons_succ]
                refine wpN_take (i := 9) (v := ?v10) rfl (by kernel_rfl) (fun _ _ _ h => h) hS (Or.inl ⟨by rfl, ?hy10⟩) ?hr10
                case hy10 => (intro wS hSw; (try dsimp only at hSw); go_simp; (try with_reducible rfl))
                try simp only [Act.put, List.setIfInBounds_toArray, List.set_cons_zero, List.set_cons_succ, List.getElem_toArray, List.getElem_cons_zero, List.getElem_cons_succ]
                refine wpN_take (i := 10) (v := ?v11) rfl (by kernel_rfl) (fun _ _ _ h => h) hS (Or.inl ⟨by rfl, ?hy11⟩) ?hr11
                case hy11 => (intro wS hSw; (try dsimp only at hSw); go_simp; (try with_reducible rfl))
                try simp only [Act.put, List.setIfInBounds_toArray, List.set_cons_zero, List.set_cons_succ, List.getElem_toArray, List.getElem_cons_zero, List.getElem_cons_succ]
                refine wpN_take (i := 11) (v := ?v12) rfl (by kernel_rfl) (fun _ _ _ h => h) hS (Or.inl ⟨by rfl, ?hy12⟩) ?hr12
                case hy12 => (intro wS hSw; (try dsimp only at hSw); go_simp; (try with_reducible rfl))
                try simp only [Act.put, List.setIfInBounds_toArray, List.set_cons_zero, List.set_cons_succ, List.getElem_toArray, List.getElem_cons_zero, List.getElem_cons_succ]
                refine wpN_take (i := 12) (v := ?v13) rfl (by kernel_rfl) (fun _ _ _ h => h) hS (Or.inl ⟨by rfl, ?hy13⟩) ?hr13
                case hy13 => (intro wS hSw; (try dsimp only at hSw); go_simp; (try with_reducible rfl))
                try simp only [Act.put, List.setIfInBounds_toArray, List.set_cons_zero, List.set_cons_succ, List.getElem_toArray, List.getElem_cons_zero, List.getElem_cons_succ]
                refine wpN_take (i := 13) (v := ?v14) rfl (by kernel_rfl) (fun _ _ _ h => h) hS (Or.inl ⟨by rfl, ?hy14⟩) ?hr14
                case hy14 => (intro wS hSw; (try dsimp only at hSw); go_simp; (try with_reducible rfl))
                try simp only [Act.put, List.setIfInBounds_toArray, List.set_cons_zero, List.set_cons_succ, List.getElem_toArray, List.getElem_cons_zero, List.getElem_cons_succ]
                by_cases hzi : z < ix
                · skip
                  refine wpN_take (i := 14) (v := ?v15) rfl (by kernel_rfl) (fun _ _ _ h => h) hS (Or.inl ⟨by rfl, ?hy15⟩) ?hr15
                  case hy15 => (intro wS hSw; (try dsimp only at hSw); go_simp; (try with_reducible rfl))
                  try simp only [Act.put, List.setIfInBounds_toArray, List.set_cons_zero, List.set_cons_succ, List.getElem_toArray, List.getElem_cons_zero, List.getElem_cons_succ]
                  refine wpN_take (i := 15) (v := ?v16) rfl (by kernel_rfl) (fun _ _ _ h => h) hS (Or.inl ⟨by rfl, ?hy16⟩) ?hr16
                  case hy16 => (intro wS hSw; (try dsimp only at hSw); go_simp; (try with_reducible rfl))
                  try simp only [Act.put, List.setIfInBounds_toArray, List.set_cons_zero, List.set_cons_succ, List.getElem_toArray, List.getElem_cons_zero, List.getElem_cons_succ]
                  refine wpN_done (by kernel_rfl) ?_
                  refine NoPanic.normal ?_
                  go_wp2_with fail
                  go_roundw
                  case rel =>
                    refine ⟨p + 1, by go_num, by omega, fun q hq h => ?_, below_drewN hb2 _⟩
                    by_cases hqp : q = p
                    · subst hqp; omega
                    · exact Hlt.out q (by omega) h
                  case measure => simp [intOf]; omega
                · have hzi' : ix ≤ z := by omega
                  refine wpN_take (i := 14) (v := ?v17) rfl (by kernel_rfl) (fun _ _ _ h => h) hS (Or.inl ⟨by rfl, ?hy17⟩) ?hr17
                  case hy17 => (intro wS hSw; (try dsimp only at hSw); go_simp; (try with_reducible rfl))
                  try simp only [Act.put, List.setIfInBounds_toArray, List.set_cons_zero, List.set_cons_succ, List.getElem_toArray, List.getElem_cons_zero, List.getElem_cons_succ]
                  refine wpN_take (i := 15) (v := ?v18) rfl (by kernel_rfl) (fun _ _ _ h => h) hS (Or.inl ⟨by rfl, ?hy18⟩) ?hr18
                  case hy18 => (intro wS hSw; (try dsimp only at hSw); go_simp; (try with_reducible rfl))
                  try simp only [Act.put, List.setIfInBounds_toArray, List.set_cons_zero, List.set_cons_succ, List.getElem_toArray, List.getElem_cons_zero, List.getElem_cons_succ]
                  refine wpN_done (by kernel_rfl) ?_
                  refine NoPanic.normal ?_
                  go_wp2_with fail
                  refine wp_region_noPanic (wp_region_need (S := fun w' => w'.cell? ⟨bo, oo + p, none⟩ = some (.int .i64 z) ∧ w'.cell? ⟨b1, o1 + k * 2 + 1, none⟩ = some (.int .i64 ix)) (by kernel_rfl) ?_)
                  have hS : (wr.drew.drew).cell? ⟨bo, oo + p, none⟩ = some (.int .i64 z) ∧ (wr.drew.drew).cell? ⟨b1, o1 + k * 2 + 1, none⟩ = some (.int .i64 ix) := ⟨e3, e2⟩
                  refine wpN_take (i := 0) (v := ?v19) rfl (by kernel_rfl) (fun _ _ _ h => h) hS (Or.inl ⟨by rfl, ?hy19⟩) ?hr19
                  case hy19 => (intro wS hSw; (try dsimp only at hSw); go_simp; (try with_reducible rfl))
                  try simp only [Act.put, List.setIfInBounds_toArray, List.set_cons_zero, List.set_cons_succ, List.getElem_toArray, List.getElem_cons_zero, List.getElem_cons_succ]
                  refine wpN_take (i := 1) (v := ?v20) rfl (by kernel_rfl) (fun _ _ _ h => h) hS (Or.inl ⟨by rfl, ?hy20⟩) ?hr20
                  case hy20 => (intro wS hSw; (try dsimp only at hSw); go_simp; (try with_reducible rfl))
                  try simp only [Act.put, List.setIfInBounds_toArray, List.set_cons_zero, List.set_cons_succ, List.getElem_toArray, List.getElem_cons_zero, List.getElem_cons_succ]
                  refine wpN_take (i := 2) (v := ?v21) rfl (by kernel_rfl) (fun _ _ _ h => h) hS (Or.inl ⟨by rfl, ?hy21⟩) ?hr21
                  case hy21 => (intro wS hSw; (try dsimp only at hSw); go_simp; (try with_reducible rfl))
                  try simp only [Act.put, List.setIfInBounds_toArray, List.set_cons_zero, List.set_cons_succ, List.getElem_toArray, List.getElem_cons_zero, List.getElem_cons_succ]
                  refine wpN_take (i := 3) (v := ?v22) rfl (by kernel_rfl) (fun _ _ _ h => h) hS (Or.inl ⟨by rfl, ?hy22⟩) ?hr22
                  case hy22 => (intro wS hSw; (try dsimp only at hSw); go_simp; (try with_reducible rfl))
                  try simp only [Act.put, List.setIfInBounds_toArray, List.set_cons_zero, List.set_cons_succ, List.getElem_toArray, List.getElem_cons_zero, List.getElem_cons_succ]
                  refine wpN_take (i := 4) (v := ?v23) rfl (by kernel_rfl) (fun _ _ _ h => h) hS (Or.inl ⟨by rfl, ?hy23⟩) ?hr23
                  case hy23 => (intro wS hSw; (try dsimp only at hSw); go_simp; (try with_reducible rfl))
                  try simp only [Act.put, List.setIfInBounds_toArray, List.set_cons_zero, List.set_cons_succ, List.getElem_toArray, List.getElem_cons_zero, List.getElem_cons_succ]
                  refine wpN_take (i := 5) (v := ?v24) rfl (by kernel_rfl) (fun _ _ _ h => h) hS (Or.inl ⟨by rfl, ?hy24⟩) ?hr24
                  case hy24 => (intro wS hSw; (try dsimp only at hSw); go_simp; (try with_reducible rfl))
                  try simp only [Act.put, List.setIfInBounds_toArray, List.set_cons_zero, List.set_cons_succ, List.getElem_toArray, List.getElem_cons_zero, List.getElem_cons_succ]
                  refine wpN_take (i := 6) (v := ?v25) rfl (by kernel_rfl) (fun _ _ _ h => h) hS (Or.inl ⟨by rfl, ?hy25⟩) ?hr25
                  case hy25 => (intro wS hSw; (try dsimp only at hSw); go_simp; (try with_reducible rfl))
                  try simp only [Act.put, List.setIfInBounds_toArray, List.set_cons_zero, List.set_cons_succ, List.getElem_toArray, List.getElem_cons_zero, List.getElem_cons_succ]
                  refine wpN_take (i := 7) (v := ?v26) rfl (by kernel_rfl) (fun _ _ _ h => h) hS (Or.inl ⟨by rfl, ?hy26⟩) ?hr26
                  case hy26 => (intro wS hSw; (try dsimp only at hSw); go_simp; (try with_reducible rfl))
                  try simp only [Act.put, List.setIfInBounds_toArray, List.set_cons_zero, List.set_cons_succ, List.getElem_toArray, List.getElem_cons_zero, List.getElem_cons_succ]
                  refine wpN_take (i := 8) (v := ?v27) rfl (by kernel_rfl) (fun _ _ _ h => h) hS (Or.inl ⟨by rfl, ?hy27⟩) ?hr27
                  case hy27 => (intro wS hSw; (try dsimp only at hSw); go_simp; (try with_reducible rfl))
                  try simp only [Act.put, List.setIfInBounds_toArray, List.set_cons_zero, List.set_cons_succ, List.getElem_toArray, List.getElem_cons_zero, List.getElem_cons_succ]
                  refine wpN_take (i := 9) (v := ?v28) rfl (by kernel_rfl) (fun _ _ _ h => h) hS (Or.inl ⟨by rfl, ?hy28⟩) ?hr28
                  case hy28 => (intro wS hSw; (try dsimp only at hSw); go_simp; (try with_reducible rfl))
                  try simp only [Act.put, List.setIfInBounds_toArray, List.set_cons_zero, List.set_cons_succ, List.getElem_toArray, List.getElem_cons_zero, List.getElem_cons_succ]
                  refine wpN_take (i := 10) (v := ?v29) rfl (by kernel_rfl) (fun _ _ _ h => h) hS (Or.inl ⟨by rfl, ?hy29⟩) ?hr29
                  case hy29 => (intro wS hSw; (try dsimp only at hSw); go_simp; (try with_reducible rfl))
                  try simp only [Act.put, List.setIfInBounds_toArray, List.set_cons_zero, List.set_cons_succ, List.getElem_toArray, List.getElem_cons_zero, List.getElem_cons_succ]
                  refine wpN_take (i := 11) (v := ?v30) rfl (by kernel_rfl) (fun _ _ _ h => h) hS (Or.inl ⟨by rfl, ?hy30⟩) ?hr30
                  case hy30 => (intro wS hSw; (try dsimp only at hSw); go_simp; (try with_reducible rfl))
                  try simp only [Act.put, List.setIfInBounds_toArray, List.set_cons_zero, List.set_cons_succ, List.getElem_toArray, List.getElem_cons_zero, List.getElem_cons_succ]
                  refine wpN_take (i := 12) (v := ?v31) rfl (by kernel_rfl) (fun _ _ _ h => h) hS (Or.inl ⟨by rfl, ?hy31⟩) ?hr31
                  case hy31 => (intro wS hSw; (try dsimp only at hSw); go_simp; (try with_reducible rfl))
                  try simp only [Act.put, List.setIfInBounds_toArray, List.set_cons_zero, List.set_cons_succ, List.getElem_toArray, List.getElem_cons_zero, List.getElem_cons_succ]
                  refine wpN_take (i := 13) (v := ?v32) rfl (by kernel_rfl) (fun _ _ _ h => h) hS (Or.inl ⟨by rfl, ?hy32⟩) ?hr32
                  case hy32 => (intro wS hSw; (try dsimp only at hSw); go_simp; (try with_reducible rfl))
                  try simp only [Act.put, List.setIfInBounds_toArray, List.set_cons_zero, List.set_cons_succ, List.getElem_toArray, List.getElem_cons_zero, List.getElem_cons_succ]
                  by_cases hzx : z = ix
                  · skip
                    refine wpN_take (i := 14) (v := ?v33) rfl (by kernel_rfl) (fun _ _ _ h => h) hS (Or.inl ⟨by rfl, ?hy33⟩) ?hr33
                    case hy33 => (intro wS hSw; (try dsimp only at hSw); go_simp; (try with_reducible rfl))
                    try simp only [Act.put, List.setIfInBounds_toArray, List.set_cons_zero, List.set_cons_succ, List.getElem_toArray, List.getElem_cons_zero, List.getElem_cons_succ]
                    refine wpN_take (i := 15) (v := ?v34) rfl (by kernel_rfl) (fun _ _ _ h => h) hS (Or.inl ⟨by rfl, ?hy34⟩) ?hr34
                    case hy34 => (intro wS hSw; (try dsimp only at hSw); go_simp; (try with_reducible rfl))
                    try simp only [Act.put, List.setIfInBounds_toArray, List.set_cons_zero, List.set_cons_succ, List.getElem_toArray, List.getElem_cons_zero, List.getElem_cons_succ]
                    refine wpN_done (by kernel_rfl) ?_
                    refine NoPanic.normal ?_
                    go_wp2_with fail
                    go_roundw
                    case rel =>
                      refine ⟨k + 1, _, _, o, by go_num, rfl, by omega, Hoa, ?_, Lib.hid (HO.out.keep ((Keep.refl _ _).below hb2.drew.drew)), hb.trans (hb2.drew.drew.mono hb.size)⟩
                      show Rises _ _
                      rw [HR2.out]
                      exact HR.out.skip (by rw [← hzx, ← hz]; exact List.getElem_mem _)
                    case measure => simp [intOf]; omega
                  · skip
                    refine wpN_take (i := 14) (v := ?v35) rfl (by kernel_rfl) (fun _ _ _ h => h) hS (Or.inl ⟨by rfl, ?hy35⟩) ?hr35
                    case hy35 => (intro wS hSw; (try dsimp only at hSw); go_simp; (try with_reducible rfl))
                    try simp only [Act.put, List.setIfInBounds_toArray, List.set_cons_zero, List.set_cons_succ, List.getElem_toArray, List.getElem_cons_zero, List.getElem_cons_succ]
                    refine wpN_take (i := 15) (v := ?v36) rfl (by kernel_rfl) (fun _ _ _ h => h) hS (Or.inl ⟨by rfl, ?hy36⟩) ?hr36
                    case hy36 => (intro wS hSw; (try dsimp only at hSw); go_simp; (try with_reducible rfl))
                    try simp only [Act.put, List.setIfInBounds_toArray, List.set_cons_zero, List.set_cons_succ, List.getElem_toArray, List.getElem_cons_zero, List.getElem_cons_succ]
                    refine wpN_done (by kernel_rfl) ?_
                    refine NoPanic.normal ?_
                    obtain ⟨W5, hW5⟩ : ∃ W5, wr.drew.drew = W5 := ⟨_, rfl⟩
                    have hb5 : Below W2.heap.size W2 W5 := by rw [← hW5]; exact hb2.drew.drew
                    have e5 : W5.cell? ⟨b1, o1 + k * 2 + 1, none⟩ = some (.int .i64 ix) := by rw [← hW5]; exact e2
                    have hlt5 : b1 < W5.heap.size := Keep.lt e5
                    have hne5 : ¬ (b1 = W5.heap.size) := by omega
                    have HO5 := Lib.hid ((HO.out.weaken (F' := fun q => q < W2.heap.size) (by decide) fun q hq _ => hq).keep (keep_of_below hb5))
                    try rw [hW5]
                    clear hW5 e2 hb2
                    go_wp2_with (first
                      | (at_builtin; refine wpList_push_sl rpInt (by decide) rfl _ _ _ rfl W2.heap.size 3 i2 _ 8 Try.underlying43 hi2 hz0 hz1 hz2 rfl (by decide) (fun q => W2.heap.size ≤ q) _ [] rfl (acc_empty hb5.size) _ (o.take p) rfl (ints_sl2 ((HO5.out.takeI p (by omega)).keep ((Keep.refl _ _).alloc _))) (by simp; omega) (by have := hb5.size; simp; omega) ?_
                         intro v6 W6 hacc6 hgrow6' hat6
                         have hgrow6 : World.grownBy (W5.alloc (.cells #[] 3)) W6 (some W5.heap.size) := hgrow6'
                         have hB6 : Below W2.heap.size W2 W6 := (hb5.alloc hb5.size _).grown hgrow6 (by have := hb5.size; simp; omega) (fun q hq => by cases hq; exact hb5.size)
                         have HA6 := Lib.hid hacc6
                         have HO6 := Lib.hid ((HO.out.weaken (F' := fun q => q < W2.heap.size) (by decide) fun q hq _ => hq).keep (keep_of_below hB6))
                         have e6 : W6.cell? ⟨b1, o1 + k * 2 + 1, none⟩ = some (.int .i64 ix) := hgrow6.cell (((Keep.refl (fun _ => True) _).alloc _) _ _ _ trivial e5) (by simpa using hne5)
                         clear HO5 hacc6 hgrow6 hgrow6' hat6 e5 hlt5 hne5)
                      | (at_builtin; refine wpList_push rpInt (by decide) rfl _ _ _ rfl W2.heap.size 3 i2 _ 8 Try.underlying43 hi2 hz0 hz1 hz2 rfl (by decide) (fun q => W2.heap.size ≤ q) v6 ([] ++ o.take p) rfl (HA6.out.alloc _) (by simp; omega) W6.heap.size _ [.int .i64 ix] ix rfl (Blk.new _ #[.int .i64 ix] _ rfl) rfl (by have := hB6.size; simp; omega) ?_
                         intro g7 cap7 W7 hacc7 hgrow7 hat7 hlt7
                         have hln7 : ([] ++ o.take p).length = p := by simp; omega
                         rw [hln7] at hacc7
                         clear hln7
                         have hB7 : Below W2.heap.size W2 W7 := (hB6.alloc hB6.size _).grown hgrow7 (by have := hB6.size; simp; omega) (fun q hq => (HA6.out.base_le q hq).1)
                         have HA7 := Lib.hid hacc7
                         have HO7 := Lib.hid ((HO.out.weaken (F' := fun q => q < W2.heap.size) (by decide) fun q hq _ => hq).keep (keep_of_below hB7))
                         clear HO6 HA6 hacc7 hgrow7 hat7 hlt7 hB6 e6)
                      | (at_builtin; refine wpList_push_sl rpInt (by decide) rfl _ _ _ rfl W2.heap.size 3 i2 _ 8 Try.underlying43 hi2 hz0 hz1 hz2 rfl (by decide) (fun q => W2.heap.size ≤ q) _ ([] ++ o.take p ++ [ix]) rfl HA7.out _ (o.drop p) rfl (ints_sl2 (HO7.out.dropI p (by omega))) (by simp; omega) hB7.size ?_
                         intro v8 W8 hacc8 hgrow8 hat8))
                    have hB8 : Below W2.heap.size W2 W8 := hB7.grown hgrow8 hB7.size (fun q hq => (HA7.out.base_le q hq).1)
                    obtain ⟨oa8, oc8, rfl, hoa8⟩ := hacc8.shape2
                    have HS8 := Lib.hid (hacc8.sl (F' := fun q => w.heap.size ≤ q) (fun q _ hq => by have := hbw1.size; have := hb.size; omega) (fun q hq => by have := hbw1.size; have := hb.size; omega))
                    clear hacc8 hgrow8 hat8 HA7 HO7
                    go_roundw
                    case rel =>
                      refine ⟨k + 1, oa8, oc8, _, by go_num, rfl, by omega, hoa8, ?_, HS8, hb.trans (hB8.mono hb.size)⟩
                      show Rises _ _
                      rw [HR2.out]
                      exact HR.out.put (a := p) (by omega) (fun q hq => Hlt.out q hq (by omega)) (fun h' => ⟨by rw [hz]; omega, by rw [hz]; exact hzx⟩)
                    case measure => simp [intOf]; omega
              · have hpe : p = o.length := by omega
                rcases Hoa.out with rfl | ⟨og, rfl⟩
                · have ho0 : o = [] := by
                    cases o with
                    | nil => rfl
                    | cons z zs => exact absurd (hao (by simp)).1 (by simp)
                  subst ho0
                  have hp00 : p = 0 := by rw [hpe]; rfl
                  subst hp00
                  clear hpe
                  go_wp2_with fail
                  refine wp_region_noPanic (wp_region_need (S := fun w' => w'.cell? ⟨b1, o1 + k * 2 + 1, none⟩ = some (.int .i64 ix)) (by kernel_rfl) ?_)
                  have hS : (wr.drew).cell? ⟨b1, o1 + k * 2 + 1, none⟩ = some (.int .i64 ix) := e2
                  refine wpN_take (i := 0) (v := ?v37) rfl (by kernel_rfl) (fun _ _ _ h => h) hS (Or.inl ⟨by rfl, ?hy37⟩) ?hr37
                  case hy37 => (intro wS hSw; (try dsimp only at hSw); go_simp; (try with_reducible rfl))
                  try simp only [Act.put, List.setIfInBounds_toArray, List.set_cons_zero, List.set_cons_succ, List.getElem_toArray, List.getElem_cons_zero, List.getElem_cons_succ]
                  refine wpN_take (i := 1) (v := ?v38) rfl (by kernel_rfl) (fun _ _ _ h => h) hS (Or.inl ⟨by rfl, ?hy38⟩) ?hr38
                  case hy38 => (intro wS hSw; (try dsimp only at hSw); go_simp; (try with_reducible rfl))
                  try simp only [Act.put, List.setIfInBounds_toArray, List.set_cons_zero, List.set_cons_succ, List.getElem_toArray, List.getElem_cons_zero, List.getElem_cons_succ]
                  refine wpN_take (i := 2) (v := ?v39) rfl (by kernel_rfl) (fun _ _ _ h => h) hS (Or.inl ⟨by rfl, ?hy39⟩) ?hr39
                  case hy39 => (intro wS hSw; (try dsimp only at hSw); go_simp; (try with_reducible rfl))
                  try simp only [Act.put, List.setIfInBounds_toArray, List.set_cons_zero, List.set_cons_succ, List.getElem_toArray, List.getElem_cons_zero, List.getElem_cons_succ]
                  refine wpN_take (i := 3) (v := ?v40) rfl (by kernel_rfl) (fun _ _ _ h => h) hS (Or.inl ⟨by rfl, ?hy40⟩) ?hr40
                  case hy40 => (intro wS hSw; (try dsimp only at hSw); go_simp; (try with_reducible rfl))
                  try simp only [Act.put, List.setIfInBounds_toArray, List.set_cons_zero, List.set_cons_succ, List.getElem_toArray, List.getElem_cons_zero, List.getElem_cons_succ]
                  refine wpN_take (i := 4) (v := ?v41) rfl (by kernel_rfl) (fun _ _ _ h => h) hS (Or.inl ⟨by rfl, ?hy41⟩) ?hr41
                  case hy41 => (intro wS hSw; (try dsimp only at hSw); go_simp; (try with_reducible rfl))
                  try simp only [Act.put, List.setIfInBounds_toArray, List.set_cons_zero, List.set_cons_succ, List.getElem_toArray, List.getElem_cons_zero, List.getElem_cons_succ]
                  refine wpN_pure (i := 5) (v := undef) rfl (by kernel_rfl) (fun _ _ _ h => h) (Or.inr ⟨by rfl, rfl⟩) ?_
                  try simp only [Act.put, List.setIfInBounds_toArray, List.set_cons_zero, List.set_cons_succ, List.getElem_toArray, List.getElem_cons_zero, List.getElem_cons_succ]
                  refine wpN_pure (i := 6) (v := undef) rfl (by kernel_rfl) (fun _ _ _ h => h) (Or.inr ⟨by rfl, rfl⟩) ?_
                  try simp only [Act.put, List.setIfInBounds_toArray, List.set_cons_zero, List.set_cons_succ, List.getElem_toArray, List.getElem_cons_zero, List.getElem_cons_succ]
                  refine wpN_pure (i := 7) (v := undef) rfl (by kernel_rfl) (fun _ _ _ h => h) (Or.inr ⟨by rfl, rfl⟩) ?_
                  try simp only [Act.put, List.setIfInBounds_toArray, List.set_cons_zero, List.set_cons_succ, List.getElem_toArray, List.getElem_cons_zero, List.getElem_cons_succ]
                  refine wpN_pure (i := 8) (v := undef) rfl (by kernel_rfl) (fun _ _ _ h => h) (Or.inr ⟨by rfl, rfl⟩) ?_
                  try simp only [Act.put, List.setIfInBounds_toArray, List.set_cons_zero, List.set_cons_succ, List.getElem_toArray, List.getElem_cons_zero, List.getElem_cons_succ]
                  refine wpN_pure (i := 9) (v := undef) rfl (by kernel_rfl) (fun _ _ _ h => h) (Or.inr ⟨by rfl, rfl⟩) ?_
                  try simp only [Act.put, List.setIfInBounds_toArray, List.set_cons_zero, List.set_cons_succ, List.getElem_toArray, List.getElem_cons_zero, List.getElem_cons_succ]
                  refine wpN_pure (i := 10) (v := undef) rfl (by kernel_rfl) (fun _ _ _ h => h) (Or.inr ⟨by rfl, rfl⟩) ?_
                  try simp only [Act.put, List.setIfInBounds_toArray, List.set_cons_zero, List.set_cons_succ, List.getElem_toArray, List.getElem_cons_zero, List.getElem_cons_succ]
                  refine wpN_pure (i := 11) (v := undef) rfl (by kernel_rfl) (fun _ _ _ h => h) (Or.inr ⟨by rfl, rfl⟩) ?_
                  try simp only [Act.put, List.setIfInBounds_toArray, List.set_cons_zero, List.set_cons_succ, List.getElem_toArray, List.getElem_cons_zero, List.getElem_cons_succ]
                  refine wpN_pure (i := 12) (v := undef) rfl (by kernel_rfl) (fun _ _ _ h => h) (Or.inr ⟨by rfl, rfl⟩) ?_
                  try simp only [Act.put, List.setIfInBounds_toArray, List.set_cons_zero, List.set_cons_succ, List.getElem_toArray, List.getElem_cons_zero, List.getElem_cons_succ]
                  refine wpN_pure (i := 13) (v := undef) rfl (by kernel_rfl) (fun _ _ _ h => h) (Or.inr ⟨by rfl, rfl⟩) ?_
                  try simp only [Act.put, List.setIfInBounds_toArray, List.set_cons_zero, List.set_cons_succ, List.getElem_toArray, List.getElem_cons_zero, List.getElem_cons_succ]
                  refine wpN_pure (i := 14) (v := undef) rfl (by kernel_rfl) (fun _ _ _ h => h) (Or.inr ⟨by rfl, rfl⟩) ?_
                  try simp only [Act.put, List.setIfInBounds_toArray, List.set_cons_zero, List.set_cons_succ, List.getElem_toArray, List.getElem_cons_zero, List.getElem_cons_succ]
                  refine wpN_take (i := 15) (v := ?v42) rfl (by kernel_rfl) (fun _ _ _ h => h) hS (Or.inl ⟨by rfl, ?hy42⟩) ?hr42
                  case hy42 => (intro wS hSw; (try dsimp only at hSw); go_simp; (try with_reducible rfl))
                  try simp only [Act.put, List.setIfInBounds_toArray, List.set_cons_zero, List.set_cons_succ, List.getElem_toArray, List.getElem_cons_zero, List.getElem_cons_succ]
                  refine wpN_done (by kernel_rfl) ?_
                  refine NoPanic.normal ?_
                  go_wp2_with fail
                  refine wp_region_noPanic (wp_region_need (S := fun w' => w'.cell? ⟨b1, o1 + k * 2 + 1, none⟩ = some (.int .i64 ix)) (by kernel_rfl) ?_)
                  have hS : (wr.drew.drew).cell? ⟨b1, o1 + k * 2 + 1, none⟩ = some (.int .i64 ix) := e2
                  refine wpN_take (i := 0) (v := ?v43) rfl (by kernel_rfl) (fun _ _ _ h => h) hS (Or.inl ⟨by rfl, ?hy43⟩) ?hr43
                  case hy43 => (intro wS hSw; (try dsimp only at hSw); go_simp; (try with_reducible rfl))
                  try simp only [Act.put, List.setIfInBounds_toArray, List.set_cons_zero, List.set_cons_succ, List.getElem_toArray, List.getElem_cons_zero, List.getElem_cons_succ]
                  refine wpN_take (i := 1) (v := ?v44) rfl (by kernel_rfl) (fun _ _ _ h => h) hS (Or.inl ⟨by rfl, ?hy44⟩) ?hr44
                  case hy44 => (intro wS hSw; (try dsimp only at hSw); go_simp; (try with_reducible rfl))
                  try simp only [Act.put, List.setIfInBounds_toArray, List.set_cons_zero, List.set_cons_succ, List.getElem_toArray, List.getElem_cons_zero, List.getElem_cons_succ]
                  refine wpN_take (i := 2) (v := ?v45) rfl (by kernel_rfl) (fun _ _ _ h => h) hS (Or.inl ⟨by rfl, ?hy45⟩) ?hr45
                  case hy45 => (intro wS hSw; (try dsimp only at hSw); go_simp; (try with_reducible rfl))
                  try simp only [Act.put, List.setIfInBounds_toArray, List.set_cons_zero, List.set_cons_succ, List.getElem_toArray, List.getElem_cons_zero, List.getElem_cons_succ]
                  refine wpN_take (i := 3) (v := ?v46) rfl (by kernel_rfl) (fun _ _ _ h => h) hS (Or.inl ⟨by rfl, ?hy46⟩) ?hr46
                  case hy46 => (intro wS hSw; (try dsimp only at hSw); go_simp; (try with_reducible rfl))
                  try simp only [Act.put, List.setIfInBounds_toArray, List.set_cons_zero, List.set_cons_succ, List.getElem_toArray, List.getElem_cons_zero, List.getElem_cons_succ]
                  refine wpN_take (i := 4) (v := ?v47) rfl (by kernel_rfl) (fun _ _ _ h => h) hS (Or.inl ⟨by rfl, ?hy47⟩) ?hr47
                  case hy47 => (intro wS hSw; (try dsimp only at hSw); go_simp; (try with_reducible rfl))
                  try simp only [Act.put, List.setIfInBounds_toArray, List.set_cons_zero, List.set_cons_succ, List.getElem_toArray, List.getElem_cons_zero, List.getElem_cons_succ]
                  refine wpN_pure (i := 5) (v := undef) rfl (by kernel_rfl) (fun _ _ _ h => h) (Or.inr ⟨by rfl, rfl⟩) ?_
                  try simp only [Act.put, List.setIfInBounds_toArray, List.set_cons_zero, List.set_cons_succ, List.getElem_toArray, List.getElem_cons_zero, List.getElem_cons_succ]
                  refine wpN_pure (i := 6) (v := undef) rfl (by kernel_rfl) (fun _ _ _ h => h) (Or.inr ⟨by rfl, rfl⟩) ?_
                  try simp only [Act.put, List.setIfInBounds_toArray, List.set_cons_zero, List.set_cons_succ, List.getElem_toArray, List.getElem_cons_zero, List.getElem_cons_succ]
                  refine wpN_pure (i := 7) (v := undef) rfl (by kernel_rfl) (fun _ _ _ h => h) (Or.inr ⟨by rfl, rfl⟩) ?_
                  try simp only [Act.put, List.setIfInBounds_toArray, List.set_cons_zero, List.set_cons_succ, List.getElem_toArray, List.getElem_cons_zero, List.getElem_cons_succ]
                  refine wpN_pure (i := 8) (v := undef) rfl (by kernel_rfl) (fun _ _ _ h => h) (Or.inr ⟨by rfl, rfl⟩) ?_
                  try simp only [Act.put, List.setIfInBounds_toArray, List.set_cons_zero, List.set_cons_succ, List.getElem_toArray, List.getElem_cons_zero, List.getElem_cons_succ]
                  refine wpN_pure (i := 9) (v := undef) rfl (by kernel_rfl) (fun _ _ _ h => h) (Or.inr ⟨by rfl, rfl⟩) ?_
                  try simp only [Act.put, List.setIfInBounds_toArray, List.set_cons_zero, List.set_cons_succ, List.getElem_toArray, List.getElem_cons_zero, List.getElem_cons_succ]
                  refine wpN_pure (i := 10) (v := undef) rfl (by kernel_rfl) (fun _ _ _ h => h) (Or.inr ⟨by rfl, rfl⟩) ?_
                  try simp only [Act.put, List.setIfInBounds_toArray, List.set_cons_zero, List.set_cons_succ, List.getElem_toArray, List.getElem_cons_zero, List.getElem_cons_succ]
                  refine wpN_pure (i := 11) (v := undef) rfl (by kernel_rfl) (fun _ _ _ h => h) (Or.inr ⟨by rfl, rfl⟩) ?_
                  try simp only [Act.put, List.setIfInBounds_toArray, List.set_cons_zero, List.set_cons_succ, List.getElem_toArray, List.getElem_cons_zero, List.getElem_cons_succ]
                  refine wpN_pure (i := 12) (v := undef) rfl (by kernel_rfl) (fun _ _ _ h => h) (Or.inr ⟨by rfl, rfl⟩) ?_
                  try simp only [Act.put, List.setIfInBounds_toArray, List.set_cons_zero, List.set_cons_succ, List.getElem_toArray, List.getElem_cons_zero, List.getElem_cons_succ]
                  refine wpN_pure (i := 13) (v := undef) rfl (by kernel_rfl) (fun _ _ _ h => h) (Or.inr ⟨by rfl, rfl⟩) ?_
                  try simp only [Act.put, List.setIfInBounds_toArray, List.set_cons_zero, List.set_cons_succ, List.getElem_toArray, List.getElem_cons_zero, List.getElem_cons_succ]
                  refine wpN_pure (i := 14) (v := undef) rfl (by kernel_rfl) (fun _ _ _ h => h) (Or.inr ⟨by rfl, rfl⟩) ?_
                  try simp only [Act.put, List.setIfInBounds_toArray, List.set_cons_zero, List.set_cons_succ, List.getElem_toArray, List.getElem_cons_zero, List.getElem_cons_succ]
                  refine wpN_take (i := 15) (v := ?v48) rfl (by kernel_rfl) (fun _ _ _ h => h) hS (Or.inl ⟨by rfl, ?hy48⟩) ?hr48
                  case hy48 => (intro wS hSw; (try dsimp only at hSw); go_simp; (try with_reducible rfl))
                  try simp only [Act.put, List.setIfInBounds_toArray, List.set_cons_zero, List.set_cons_succ, List.getElem_toArray, List.getElem_cons_zero, List.getElem_cons_succ]
                  refine wpN_done (by kernel_rfl) ?_
                  refine NoPanic.normal ?_
                  obtain ⟨W5, hW5⟩ : ∃ W5, wr.drew.drew = W5 := ⟨_, rfl⟩
                  have hb5 : Below W2.heap.size W2 W5 := by rw [← hW5]; exact hb2.drew.drew
                  have e5 : W5.cell? ⟨b1, o1 + k * 2 + 1, none⟩ = some (.int .i64 ix) := by rw [← hW5]; exact e2
                  have hlt5 : b1 < W5.heap.size := Keep.lt e5
                  have hne5 : ¬ (b1 = W5.heap.size) := by omega
                  have HO5 := Lib.hid ((HO.out.weaken (F' := fun q => q < W2.heap.size) (by decide) fun q hq _ => hq).keep (keep_of_below hb5))
                  try rw [hW5]
                  clear hW5 e2 hb2
                  go_wp2_with (first
                    | (at_builtin; refine wpList_push_sl rpInt (by decide) rfl _ _ _ rfl W2.heap.size 3 i2 _ 8 Try.underlying43 hi2 hz0 hz1 hz2 rfl (by decide) (fun q => W2.heap.size ≤ q) _ [] rfl (acc_empty hb5.size) _ (([] : List Int).take 0) rfl (ints_sl2 ((HO5.out.takeI 0 (by simp)).keep ((Keep.refl _ _).alloc _))) (by simp <;> omega) (by have := hb5.size; simp <;> omega) ?_
                       intro v6 W6 hacc6 hgrow6' hat6
                       have hgrow6 : World.grownBy (W5.alloc (.cells #[] 3)) W6 (some W5.heap.size) := hgrow6'
                       have hB6 : Below W2.heap.size W2 W6 := (hb5.alloc hb5.size _).grown hgrow6 (by have := hb5.size; simp <;> omega) (fun q hq => by cases hq; exact hb5.size)
                       have HA6 := Lib.hid hacc6
                       have HO6 := Lib.hid ((HO.out.weaken (F' := fun q => q < W2.heap.size) (by decide) fun q hq _ => hq).keep (keep_of_below hB6))
                       have e6 : W6.cell? ⟨b1, o1 + k * 2 + 1, none⟩ = some (.int .i64 ix) := hgrow6.cell (((Keep.refl (fun _ => True) _).alloc _) _ _ _ trivial e5) (by simpa using hne5)
                       clear HO5 hacc6 hgrow6 hgrow6' hat6 e5 hlt5 hne5)
                    | (at_builtin; refine wpList_push rpInt (by decide) rfl _ _ _ rfl W2.heap.size 3 i2 _ 8 Try.underlying43 hi2 hz0 hz1 hz2 rfl (by decide) (fun q => W2.heap.size ≤ q) v6 ([] ++ ([] : List Int).take 0) rfl (HA6.out.alloc _) (by simp <;> omega) W6.heap.size _ [.int .i64 ix] ix rfl (Blk.new _ #[.int .i64 ix] _ rfl) rfl (by have := hB6.size; simp <;> omega) ?_
                       intro g7 cap7 W7 hacc7 hgrow7 hat7 hlt7
                       have hln7 : ([] ++ ([] : List Int).take 0).length = 0 := by simp <;> omega
                       rw [hln7] at hacc7
                       clear hln7
                       have hB7 : Below W2.heap.size W2 W7 := (hB6.alloc hB6.size _).grown hgrow7 (by have := hB6.size; simp <;> omega) (fun q hq => (HA6.out.base_le q hq).1)
                       have HA7 := Lib.hid hacc7
                       have HO7 := Lib.hid ((HO.out.weaken (F' := fun q => q < W2.heap.size) (by decide) fun q hq _ => hq).keep (keep_of_below hB7))
                       clear HO6 HA6 hacc7 hgrow7 hat7 hlt7 hB6 e6)
                    | (at_builtin; refine wpList_push_sl rpInt (by decide) rfl _ _ _ rfl W2.heap.size 3 i2 _ 8 Try.underlying43 hi2 hz0 hz1 hz2 rfl (by decide) (fun q => W2.heap.size ≤ q) _ ([] ++ ([] : List Int).take 0 ++ [ix]) rfl HA7.out _ (([] : List Int).drop 0) rfl (ints_sl2 (G := fun q => q < W2.heap.size) (IsSl.dropI00 (l := []) (p := 0) (by simp) _ _)) (by simp <;> omega) hB7.size ?_
                       intro v8 W8 hacc8 hgrow8 hat8))
                  have hB8 : Below W2.heap.size W2 W8 := hB7.grown hgrow8 hB7.size (fun q hq => (HA7.out.base_le q hq).1)
                  obtain ⟨oa8, oc8, rfl, hoa8⟩ := hacc8.shape2
                  have HS8 := Lib.hid (hacc8.sl (F' := fun q => w.heap.size ≤ q) (fun q _ hq => by have := hbw1.size; have := hb.size; omega) (fun q hq => by have := hbw1.size; have := hb.size; omega))
                  clear hacc8 hgrow8 hat8 HA7 HO7
                  go_roundw
                  case rel =>
                    refine ⟨k + 1, oa8, oc8, _, by go_num, rfl, by omega, hoa8, ?_, HS8, hb.trans (hB8.mono hb.size)⟩
                    show Rises _ _
                    rw [HR2.out]
                    exact HR.out.put (a := 0) (by omega) (fun q hq => absurd hq (by omega)) (fun h' => absurd h' (by simp))
                  case measure => simp [intOf]; omega
                · clear hpe
                  go_wp2_with fail
                  refine wp_region_noPanic (wp_region_need (S := fun w' => w'.cell? ⟨b1, o1 + k * 2 + 1, none⟩ = some (.int .i64 ix)) (by kernel_rfl) ?_)
                  have hS : (wr.drew).cell? ⟨b1, o1 + k * 2 + 1, none⟩ = some (.int .i64 ix) := e2
                  refine wpN_take (i := 0) (v := ?v49) rfl (by kernel_rfl) (fun _ _ _ h => h) hS (Or.inl ⟨by rfl, ?hy49⟩) ?hr49
                  case hy49 => (intro wS hSw; (try dsimp only at hSw); go_simp; (try with_reducible rfl))
                  try simp only [Act.put, List.setIfInBounds_toArray, List.set_cons_zero, List.set_cons_succ, List.getElem_toArray, List.getElem_cons_zero, List.getElem_cons_succ]
                  refine wpN_take (i := 1) (v := ?v50) rfl (by kernel_rfl) (fun _ _ _ h => h) hS (Or.inl ⟨by rfl, ?hy50⟩) ?hr50
                  case hy50 => (intro wS hSw; (try dsimp only at hSw); go_simp; (try with_reducible rfl))
                  try simp only [Act.put, List.setIfInBounds_toArray, List.set_cons_zero, List.set_cons_succ, List.getElem_toArray, List.getElem_cons_zero, List.getElem_cons_succ]
                  refine wpN_take (i := 2) (v := ?v51) rfl (by kernel_rfl) (fun _ _ _ h => h) hS (Or.inl ⟨by rfl, ?hy51⟩) ?hr51
                  case hy51 => (intro wS hSw; (try dsimp only at hSw); go_simp; (try with_reducible rfl))
                  try simp only [Act.put, List.setIfInBounds_toArray, List.set_cons_zero, List.set_cons_succ, List.getElem_toArray, List.getElem_cons_zero, List.getElem_cons_succ]
                  refine wpN_take (i := 3) (v := ?v52) rfl (by kernel_rfl) (fun _ _ _ h => h) hS (Or.inl ⟨by rfl, ?hy52⟩) ?hr52
                  case hy52 => (intro wS hSw; (try dsimp only at hSw); go_simp; (try with_reducible rfl))
                  try simp only [Act.put, List.setIfInBounds_toArray, List.set_cons_zero, List.set_cons_succ, List.getElem_toArray, List.getElem_cons_zero, List.getElem_cons_succ]
                  refine wpN_take (i := 4) (v := ?v53) rfl (by kernel_rfl) (fun _ _ _ h => h) hS (Or.inl ⟨by rfl, ?hy53⟩) ?hr53
                  case hy53 => (intro wS hSw; (try dsimp only at hSw); go_simp; (try with_reducible rfl))
                  try simp only [Act.put, List.setIfInBounds_toArray, List.set_cons_zero, List.set_cons_succ, List.getElem_toArray, List.getElem_cons_zero, List.getElem_cons_succ]
                  refine wpN_pure (i := 5) (v := undef) rfl (by kernel_rfl) (fun _ _ _ h => h) (Or.inr ⟨by rfl, rfl⟩) ?_
                  try simp only [Act.put, List.setIfInBounds_toArray, List.set_cons_zero, List.set_cons_succ, List.getElem_toArray, List.getElem_cons_zero, List.getElem_cons_succ]
                  refine wpN_pure (i := 6) (v := undef) rfl (by kernel_rfl) (fun _ _ _ h => h) (Or.inr ⟨by rfl, rfl⟩) ?_
                  try simp only [Act.put, List.setIfInBounds_toArray, List.set_cons_zero, List.set_cons_succ, List.getElem_toArray, List.getElem_cons_zero, List.getElem_cons_succ]
                  refine wpN_pure (i := 7) (v := undef) rfl (by kernel_rfl) (fun _ _ _ h => h) (Or.inr ⟨by rfl, rfl⟩) ?_
                  try simp only [Act.put, List.setIfInBounds_toArray, List.set_cons_zero, List.set_cons_succ, List.getElem_toArray, List.getElem_cons_zero, List.getElem_cons_succ]
                  refine wpN_pure (i := 8) (v := undef) rfl (by kernel_rfl) (fun _ _ _ h => h) (Or.inr ⟨by rfl, rfl⟩) ?_
                  try simp only [Act.put, List.setIfInBounds_toArray, List.set_cons_zero, List.set_cons_succ, List.getElem_toArray, List.getElem_cons_zero, List.getElem_cons_succ]
                  refine wpN_pure (i := 9) (v := undef) rfl (by kernel_rfl) (fun _ _ _ h => h) (Or.inr ⟨by rfl, rfl⟩) ?_
                  try simp only [Act.put, List.setIfInBounds_toArray, List.set_cons_zero, List.set_cons_succ, List.getElem_toArray, List.getElem_cons_zero, List.getElem_cons_succ]
                  refine wpN_pure (i := 10) (v := undef) rfl (by kernel_rfl) (fun _ _ _ h => h) (Or.inr ⟨by rfl, rfl⟩) ?_
                  try simp only [Act.put, List.setIfInBounds_toArray, List.set_cons_zero, List.set_cons_succ, List.getElem_toArray, List.getElem_cons_zero, List.getElem_cons_succ]
                  refine wpN_pure (i := 11) (v := undef) rfl (by kernel_rfl) (fun _ _ _ h => h) (Or.inr ⟨by rfl, rfl⟩) ?_
                  try simp only [Act.put, List.setIfInBounds_toArray, List.set_cons_zero, List.set_cons_succ, List.getElem_toArray, List.getElem_cons_zero, List.getElem_cons_succ]
                  refine wpN_pure (i := 12) (v := undef) rfl (by kernel_rfl) (fun _ _ _ h => h) (Or.inr ⟨by rfl, rfl⟩) ?_
                  try simp only [Act.put, List.setIfInBounds_toArray, List.set_cons_zero, List.set_cons_succ, List.getElem_toArray, List.getElem_cons_zero, List.getElem_cons_succ]
                  refine wpN_pure (i := 13) (v := undef) rfl (by kernel_rfl) (fun _ _ _ h => h) (Or.inr ⟨by rfl, rfl⟩) ?_
                  try simp only [Act.put, List.setIfInBounds_toArray, List.set_cons_zero, List.set_cons_succ, List.getElem_toArray, List.getElem_cons_zero, List.getElem_cons_succ]
                  refine wpN_pure (i := 14) (v := undef) rfl (by kernel_rfl) (fun _ _ _ h => h) (Or.inr ⟨by rfl, rfl⟩) ?_
                  try simp only [Act.put, List.setIfInBounds_toArray, List.set_cons_zero, List.set_cons_succ, List.getElem_toArray, List.getElem_cons_zero, List.getElem_cons_succ]
                  refine wpN_take (i := 15) (v := ?v54) rfl (by kernel_rfl) (fun _ _ _ h => h) hS (Or.inl ⟨by rfl, ?hy54⟩) ?hr54
                  case hy54 => (intro wS hSw; (try dsimp only at hSw); go_simp; (try with_reducible rfl))
                  try simp only [Act.put, List.setIfInBounds_toArray, List.set_cons_zero, List.set_cons_succ, List.getElem_toArray, List.getElem_cons_zero, List.getElem_cons_succ]
                  refine wpN_done (by kernel_rfl) ?_
                  refine NoPanic.normal ?_
                  go_wp2_with fail
                  refine wp_region_noPanic (wp_region_need (S := fun w' => w'.cell? ⟨b1, o1 + k * 2 + 1, none⟩ = some (.int .i64 ix)) (by kernel_rfl) ?_)
                  have hS : (wr.drew.drew).cell? ⟨b1, o1 + k * 2 + 1, none⟩ = some (.int .i64 ix) := e2
                  refine wpN_take (i := 0) (v := ?v55) rfl (by kernel_rfl) (fun _ _ _ h => h) hS (Or.inl ⟨by rfl, ?hy55⟩) ?hr55
                  case hy55 => (intro wS hSw; (try dsimp only at hSw); go_simp; (try with_reducible rfl))
                  try simp only [Act.put, List.setIfInBounds_toArray, List.set_cons_zero, List.set_cons_succ, List.getElem_toArray, List.getElem_cons_zero, List.getElem_cons_succ]
                  refine wpN_take (i := 1) (v := ?v56) rfl (by kernel_rfl) (fun _ _ _ h => h) hS (Or.inl ⟨by rfl, ?hy56⟩) ?hr56
                  case hy56 => (intro wS hSw; (try dsimp only at hSw); go_simp; (try with_reducible rfl))
                  try simp only [Act.put, List.setIfInBounds_toArray, List.set_cons_zero, List.set_cons_succ, List.getElem_toArray, List.getElem_cons_zero, List.getElem_cons_succ]
                  refine wpN_take (i := 2) (v := ?v57) rfl (by kernel_rfl) (fun _ _ _ h => h) hS (Or.inl ⟨by rfl, ?hy57⟩) ?hr57
                  case hy57 => (intro wS hSw; (try dsimp only at hSw); go_simp; (try with_reducible rfl))
                  try simp only [Act.put, List.setIfInBounds_toArray, List.set_cons_zero, List.set_cons_succ, List.getElem_toArray, List.getElem_cons_zero, List.getElem_cons_succ]
                  refine wpN_take (i := 3) (v := ?v58) rfl (by kernel_rfl) (fun _ _ _ h => h) hS (Or.inl ⟨by rfl, ?hy58⟩) ?hr58
                  case hy58 => (intro wS hSw; (try dsimp only at hSw); go_simp; (try with_reducible rfl))
                  try simp only [Act.put, List.setIfInBounds_toArray, List.set_cons_zero, List.set_cons_succ, List.getElem_toArray, List.getElem_cons_zero, List.getElem_cons_succ]
                  refine wpN_take (i := 4) (v := ?v59) rfl (by kernel_rfl) (fun _ _ _ h => h) hS (Or.inl ⟨by rfl, ?hy59⟩) ?hr59
                  case hy59 => (intro wS hSw; (try dsimp only at hSw); go_simp; (try with_reducible rfl))
                  try simp only [Act.put, List.setIfInBounds_toArray, List.set_cons_zero, List.set_cons_succ, List.getElem_toArray, List.getElem_cons_zero, List.getElem_cons_succ]
                  refine wpN_pure (i := 5) (v := undef) rfl (by kernel_rfl) (fun _ _ _ h => h) (Or.inr ⟨by rfl, rfl⟩) ?_
                  try simp only [Act.put, List.setIfInBounds_toArray, List.set_cons_zero, List.set_cons_succ, List.getElem_toArray, List.getElem_cons_zero, List.getElem_cons_succ]
                  refine wpN_pure (i := 6) (v := undef) rfl (by kernel_rfl) (fun _ _ _ h => h) (Or.inr ⟨by rfl, rfl⟩) ?_
                  try simp only [Act.put, List.setIfInBounds_toArray, List.set_cons_zero, List.set_cons_succ, List.getElem_toArray, List.getElem_cons_zero, List.getElem_cons_succ]
                  refine wpN_pure (i := 7) (v := undef) rfl (by kernel_rfl) (fun _ _ _ h => h) (Or.inr ⟨by rfl, rfl⟩) ?_
                  try simp only [Act.put, List.setIfInBounds_toArray, List.set_cons_zero, List.set_cons_succ, List.getElem_toArray, List.getElem_cons_zero, List.getElem_cons_succ]
                  refine wpN_pure (i := 8) (v := undef) rfl (by kernel_rfl) (fun _ _ _ h => h) (Or.inr ⟨by rfl, rfl⟩) ?_
                  try simp only [Act.put, List.setIfInBounds_toArray, List.set_cons_zero, List.set_cons_succ, List.getElem_toArray, List.getElem_cons_zero, List.getElem_cons_succ]
                  refine wpN_pure (i := 9) (v := undef) rfl (by kernel_rfl) (fun _ _ _ h => h) (Or.inr ⟨by rfl, rfl⟩) ?_
                  try simp only [Act.put, List.setIfInBounds_toArray, List.set_cons_zero, List.set_cons_succ, List.getElem_toArray, List.getElem_cons_zero, List.getElem_cons_succ]
                  refine wpN_pure (i := 10) (v := undef) rfl (by kernel_rfl) (fun _ _ _ h => h) (Or.inr ⟨by rfl, rfl⟩) ?_
                  try simp only [Act.put, List.setIfInBounds_toArray, List.set_cons_zero, List.set_cons_succ, List.getElem_toArray, List.getElem_cons_zero, List.getElem_cons_succ]
                  refine wpN_pure (i := 11) (v := undef) rfl (by kernel_rfl) (fun _ _ _ h => h) (Or.inr ⟨by rfl, rfl⟩) ?_
                  try simp only [Act.put, List.setIfInBounds_toArray, List.set_cons_zero, List.set_cons_succ, List.getElem_toArray, List.getElem_cons_zero, List.getElem_cons_succ]
                  refine wpN_pure (i := 12) (v := undef) rfl (by kernel_rfl) (fun _ _ _ h => h) (Or.inr ⟨by rfl, rfl⟩) ?_
                  try simp only [Act.put, List.setIfInBounds_toArray, List.set_cons_zero, List.set_cons_succ, List.getElem_toArray, List.getElem_cons_zero, List.getElem_cons_succ]
                  refine wpN_pure (i := 13) (v := undef) rfl (by kernel_rfl) (fun _ _ _ h => h) (Or.inr ⟨by rfl, rfl⟩) ?_
                  try simp only [Act.put, List.setIfInBounds_toArray, List.set_cons_zero, List.set_cons_succ, List.getElem_toArray, List.getElem_cons_zero, List.getElem_cons_succ]
                  refine wpN_pure (i := 14) (v := undef) rfl (by kernel_rfl) (fun _ _ _ h => h) (Or.inr ⟨by rfl, rfl⟩) ?_
                  try simp only [Act.put, List.setIfInBounds_toArray, List.set_cons_zero, List.set_cons_succ, List.getElem_toArray, List.getElem_cons_zero, List.getElem_cons_succ]
                  refine wpN_take (i := 15) (v := ?v60) rfl (by kernel_rfl) (fun _ _ _ h => h) hS (Or.inl ⟨by rfl, ?hy60⟩) ?hr60
                  case hy60 => (intro wS hSw; (try dsimp only at hSw); go_simp; (try with_reducible rfl))
                  try simp only [Act.put, List.setIfInBounds_toArray, List.set_cons_zero, List.set_cons_succ, List.getElem_toArray, List.getElem_cons_zero, List.getElem_cons_succ]
                  refine wpN_done (by kernel_rfl) ?_
                  refine NoPanic.normal ?_
                  obtain ⟨W5, hW5⟩ : ∃ W5, wr.drew.drew = W5 := ⟨_, rfl⟩
                  have hb5 : Below W2.heap.size W2 W5 := by rw [← hW5]; exact hb2.drew.drew
                  have e5 : W5.cell? ⟨b1, o1 + k * 2 + 1, none⟩ = some (.int .i64 ix) := by rw [← hW5]; exact e2
                  have hlt5 : b1 < W5.heap.size := Keep.lt e5
                  have hne5 : ¬ (b1 = W5.heap.size) := by omega
                  have HO5 := Lib.hid ((HO.out.weaken (F' := fun q => q < W2.heap.size) (by decide) fun q hq _ => hq).keep (keep_of_below hb5))
                  try rw [hW5]
                  clear hW5 e2 hb2
                  go_wp2_with (first
                    | (at_builtin; refine wpList_push_sl rpInt (by decide) rfl _ _ _ rfl W2.heap.size 3 i2 _ 8 Try.underlying43 hi2 hz0 hz1 hz2 rfl (by decide) (fun q => W2.heap.size ≤ q) _ [] rfl (acc_empty hb5.size) _ (o.take p) rfl (ints_sl2 ((HO5.out.takeI p (by omega)).keep ((Keep.refl _ _).alloc _))) (by simp <;> omega) (by have := hb5.size; simp <;> omega) ?_
                       intro v6 W6 hacc6 hgrow6' hat6
                       have hgrow6 : World.grownBy (W5.alloc (.cells #[] 3)) W6 (some W5.heap.size) := hgrow6'
                       have hB6 : Below W2.heap.size W2 W6 := (hb5.alloc hb5.size _).grown hgrow6 (by have := hb5.size; simp <;> omega) (fun q hq => by cases hq; exact hb5.size)
                       have HA6 := Lib.hid hacc6
                       have HO6 := Lib.hid ((HO.out.weaken (F' := fun q => q < W2.heap.size) (by decide) fun q hq _ => hq).keep (keep_of_below hB6))
                       have e6 : W6.cell? ⟨b1, o1 + k * 2 + 1, none⟩ = some (.int .i64 ix) := hgrow6.cell (((Keep.refl (fun _ => True) _).alloc _) _ _ _ trivial e5) (by simpa using hne5)
                       clear HO5 hacc6 hgrow6 hgrow6' hat6 e5 hlt5 hne5)
                    | (at_builtin; refine wpList_push rpInt (by decide) rfl _ _ _ rfl W2.heap.size 3 i2 _ 8 Try.underlying43 hi2 hz0 hz1 hz2 rfl (by decide) (fun q => W2.heap.size ≤ q) v6 ([] ++ o.take p) rfl (HA6.out.alloc _) (by simp <;> omega) W6.heap.size _ [.int .i64 ix] ix rfl (Blk.new _ #[.int .i64 ix] _ rfl) rfl (by have := hB6.size; simp <;> omega) ?_
                       intro g7 cap7 W7 hacc7 hgrow7 hat7 hlt7
                       have hln7 : ([] ++ o.take p).length = p := by simp <;> omega
                       rw [hln7] at hacc7
                       clear hln7
                       have hB7 : Below W2.heap.size W2 W7 := (hB6.alloc hB6.size _).grown hgrow7 (by have := hB6.size; simp <;> omega) (fun q hq => (HA6.out.base_le q hq).1)
                       have HA7 := Lib.hid hacc7
                       have HO7 := Lib.hid ((HO.out.weaken (F' := fun q => q < W2.heap.size) (by decide) fun q hq _ => hq).keep (keep_of_below hB7))
                       clear HO6 HA6 hacc7 hgrow7 hat7 hlt7 hB6 e6)
                    | (at_builtin; refine wpList_push_sl rpInt (by decide) rfl _ _ _ rfl W2.heap.size 3 i2 _ 8 Try.underlying43 hi2 hz0 hz1 hz2 rfl (by decide) (fun q => W2.heap.size ≤ q) _ ([] ++ o.take p ++ [ix]) rfl HA7.out _ (o.drop p) rfl (ints_sl2 (G := fun q => q < W2.heap.size) (IsSl.dropI01 hpl (by omega))) (by simp <;> omega) hB7.size ?_
                       intro v8 W8 hacc8 hgrow8 hat8))
                  have hB8 : Below W2.heap.size W2 W8 := hB7.grown hgrow8 hB7.size (fun q hq => (HA7.out.base_le q hq).1)
                  obtain ⟨oa8, oc8, rfl, hoa8⟩ := hacc8.shape2
                  have HS8 := Lib.hid (hacc8.sl (F' := fun q => w.heap.size ≤ q) (fun q _ hq => by have := hbw1.size; have := hb.size; omega) (fun q hq => by have := hbw1.size; have := hb.size; omega))
                  clear hacc8 hgrow8 hat8 HA7 HO7
                  go_roundw
                  case rel =>
                    refine ⟨k + 1, oa8, oc8, _, by go_num, rfl, by omega, hoa8, ?_, HS8, hb.trans (hB8.mono hb.size)⟩
                    show Rises _ _
                    rw [HR2.out]
                    exact HR.out.put (a := p) (by omega) (fun q hq => Hlt.out q hq (by omega)) (fun h' => absurd h' hpl)
                  case measure => simp [intOf]; omega
          · have hm2' : (hd == 2) = false := by simpa using hm2
            have HR2 : Hid (metasT (l.take i) ++ metasH (hs.take (k + 1)) = (metasT (l.take i) ++ metasH (hs.take k))) := by show _ = _; rw [Htk2.out, if_neg hm2, List.append_nil]
            go_wp2_with fail
            go_roundw
            case rel => exact ⟨k + 1, _, _, o, by go_num, rfl, by omega, Hoa, by show Rises _ _; rw [HR2.out]; exact HR.out, HO, hb⟩
            case measure => simp [intOf]; omega
        · have hkk : k = hs.length := by omega
          have HR2 : Hid (Rises o (metasT (l.take (i + 1)))) := by show Rises _ _; rw [Htk.out]; have := HR.out; rw [show hs.take k = hs from List.take_of_length_le (by omega)] at this; exact this
          go_wp2_with fail
          go_roundw
          case rel => exact ⟨i + 1, _, _, o, by go_num, rfl, by omega, Hoa, HR2, HO, hbw1.trans (hb.mono hbw1.size)⟩
          case measure => simp [intOf]; omega
    · have HR2 := HR.out
      rw [List.take_of_length_le (by omega)] at HR2
      have he := HR2.eq
      go_wp2_with fail
      go_ret
      rw [← he]
      exact ⟨oa, oc, rfl, HO.out, hb⟩
end Go.Proofs.Ytdmiekaeodcehaa

namespace Go.Proofs.Ytdmiekaeodcehaa
open Go.RowKit

def sgn (x y : Int) : Int := if x < y then -1 else if y < x then 1 else 0
def orl (a b : Int) : Int := if a = 0 then b else a
@[simp] theorem orl_zero (b : Int) : orl 0 b = b := by simp [orl]
@[simp] theorem orl_zero_right (a : Int) : orl a 0 = a := by unfold orl; split <;> simp_all
namespace Ty
mutual
def cmp : Ty → Ty → Int
  | .mk l b, .mk l' b' => orl (orl (orl (sgn (Ty.sizes l + 1 : Nat) (Ty.sizes l' + 1 : Nat)) (sgn (l.length : Nat) (l'.length : Nat))) (cmps l l')) (sgn b b')
def cmps : List Ty → List Ty → Int
  | [], _ => 0
  | _ :: _, [] => 0
  | t :: l, u :: l' => orl (cmp t u) (cmps l l')
end
@[simp] theorem cmps_nil (l : List Ty) : cmps [] l = 0 := by rw [cmps]

end Ty
end Go.Proofs.Ytdmiekaeodcehaa

namespace Go.Proofs.Ytdmiekaeodcehaa
open Go.RowKit

namespace Tm
def cmpB (l l' : List Ty) : Int := orl (sgn (l.length : Nat) (l'.length : Nat)) (Ty.cmps l l')
mutual
def cmp : Tm → Tm → Int
  | .mk b k i a, .mk b' k' i' a' => orl (sgn (Tm.sizes a + 1 : Nat) (Tm.sizes a' + 1 : Nat)) (orl (cmpB b b') (orl (sgn k k') (orl (sgn i i') (orl (sgn (a.length : Nat) (a'.length : Nat)) (cmps a a')))))
def cmps : List Tm → List Tm → Int
  | [], _ => 0
  | _ :: _, [] => 0
  | t :: l, u :: l' => orl (cmp t u) (cmps l l')
end
@[simp] theorem cmps_nil (l : List Tm) : cmps [] l = 0 := by rw [cmps]
end Tm
end Go.Proofs.Ytdmiekaeodcehaa

namespace Go.Proofs.Ytdmiekaeodcehaa
open Go.RowKit

end Go.Proofs.Ytdmiekaeodcehaa

namespace Go.Proofs.Ytdmiekaeodcehaa
open Go.RowKit

namespace Ty
end Ty

end Go.Proofs.Ytdmiekaeodcehaa

namespace Go.Proofs.Ytdmiekaeodcehaa
open Go.RowKit

set_option maxRecDepth 100000 in
theorem size6_r : ∀ t : Tm, ∀ {F : Nat → Prop} {w0 : World} {b k i a : Value} (_ : IsTm F w0 b k i a t) (w : World), t.size ≤ 1000000 → Keep F w0 w → Calls Try.prog 163 #[.agg #[b, k, i, a]] w (RetI t.size w) := Tm.ind fun binds k0 i0 args ih => by
  intro F w0 b k i a ht w hsz hw
  obtain ⟨pa, pc, qa, qc, rfl, rfl, rfl, rfl⟩ := ht.shape
  simp only [Tm.binds, Tm.kind, Tm.index, Tm.args] at ht ⊢
  obtain ⟨_, _, _, hsl⟩ := ht.inv
  simp only [Tm.args] at hsl
  obtain ⟨_, hm, bl, off, PA, A, PN, PC, N', C, Kd, Ix, ha, h1, h2, h3, h4, h5⟩ := sl_cells6 hsl
  clear ht hsl hm
  have hlen : args.length ≤ 1000000 := by have := Tm.len_sizes args; rw [Tm.size_eq] at hsz; omega
  have Hsz : Hid (∀ i (h : i < args.length), args[i].size ≤ 1000000 ∧ Tm.sizes (args.take i) + args[i].size ≤ 1000000) := fun i h => by
    have := Tm.sizes_take args i h; have := Tm.sizes_take_le args (i + 1); rw [Tm.size_eq] at hsz; omega
  have Hend : Hid ((Tm.mk binds k0 i0 args).size = Tm.sizes args + 1) := Tm.size_eq _ _ _ _
  have Hih := Lib.hid ih; clear ih hsz
  go_enter Try.func163, Try.ntmps163
  go_wp2_with fail
  go_loopw [3, 4] (fun x i wr => ∃ k : Nat, i = .int .i64 k ∧ x = .int .i64 ((Tm.sizes (args.take k) : Int) + 1) ∧ k ≤ args.length ∧ Below w.heap.size w wr ∧ Blk wr w.heap.size #[.slice pa binds.length pc, .int .i64 k0, .int .i64 i0, .slice qa args.length qc] 27) (fun _ i _ => args.length - (intOf i).toNat)
  case atStart => exact ⟨0, rfl, rfl, by omega, (Below.refl _ _).alloc (Nat.le_refl _) _, Blk.new _ _ _ rfl⟩
  case round =>
    obtain ⟨k, rfl, rfl, hk, hb, hbox⟩ := hrel
    have c0 : wr.cell? ⟨w.heap.size, 3, none⟩ = some (.slice qa args.length qc) := hbox.cell rfl
    have hlt0 := hbox.lt
    by_cases hlt : k < args.length
    · obtain ⟨rfl, hF⟩ := ha (by omega)
      have e1 := (hw.below hb) _ _ _ hF (h1 k hlt)
      have e2 := (hw.below hb) _ _ _ hF (h2 k hlt)
      have e3 := (hw.below hb) _ _ _ hF (h3 k hlt)
      have e4 := (hw.below hb) _ _ _ hF (h4 k hlt)
      have hs : Tm.sizes (args.take k) ≤ 1000000 ∧ args[k].size ≤ 1000000 := by have := Hsz.out k hlt; omega
      go_wp2_with fail
      refine (Hih.out _ (List.getElem_mem hlt) (h5 k hlt) _ (Hsz.out k hlt).1 (hw.below hb)).mono ?_
      rintro e w1 ⟨rfl, hb1⟩
      go_wp2_with fail
      go_roundw
      case rel => exact ⟨k + 1, by go_num, by rw [Tm.sizes_take _ _ hlt]; go_num, by omega, hb.trans (hb1.mono (by omega)), hbox.below hb1⟩
      case measure => simp [intOf]; omega
    · go_wp2_with fail
      go_ret
      refine ⟨?_, hb⟩
      rw [Hend.out, List.take_of_length_le (by omega)]; rfl

end Go.Proofs.Ytdmiekaeodcehaa

namespace Go.Proofs.Ytdmiekaeodcehaa
open Go.RowKit

def headTy (C M X : List Ty) (k i : Int) : Option Ty :=
  if i < 0 then none else if k = 0 then X.reverse[i.toNat]? else if k = 1 then C[i.toNat]? else if k = 2 then M[i.toNat]? else none
end Go.Proofs.Ytdmiekaeodcehaa

namespace Go.Proofs.Ytdmiekaeodcehaa
open Go.RowKit

end Go.Proofs.Ytdmiekaeodcehaa

namespace Go.Proofs.Ytdmiekaeodcehaa
open Go.RowKit

mutual
def IsOf (C M : List Ty) : Tm → List Ty → Ty → Prop
  | .mk b k i a, X, u => b = u.args ∧ ∃ h, headTy C M (X ++ b) k i = some h ∧ h.base = u.base ∧ IsOfs C M a (X ++ b) h.args
def IsOfs (C M : List Ty) : List Tm → List Ty → List Ty → Prop
  | [], _, [] => True
  | [], _, _ :: _ => False
  | _ :: _, _, [] => False
  | t :: l, X, u :: l' => IsOf C M t X u ∧ IsOfs C M l X l'
end
end Go.Proofs.Ytdmiekaeodcehaa

namespace Go.Proofs.Ytdmiekaeodcehaa
open Go.RowKit

end Go.Proofs.Ytdmiekaeodcehaa

namespace Go.Proofs.Ytdmiekaeodcehaa
open Go.RowKit

end Go.Proofs.Ytdmiekaeodcehaa

namespace Go.Proofs.Ytdmiekaeodcehaa
open Go.RowKit

end Go.Proofs.Ytdmiekaeodcehaa

namespace Go.Proofs.Ytdmiekaeodcehaa
open Go.RowKit

set_option maxRecDepth 100000 in
theorem depth6_r : ∀ t : Tm, ∀ {F : Nat → Prop} {w0 : World} {b k i a : Value} (_ : IsTm F w0 b k i a t) (w : World), t.size ≤ 1000000 → Keep F w0 w → Calls Try.prog 164 #[.agg #[b, k, i, a]] w (RetI t.depth w) := Tm.ind fun binds k0 i0 args ih => by
  intro F w0 b k i a ht w hsz hw
  obtain ⟨pa, pc, qa, qc, rfl, rfl, rfl, rfl⟩ := ht.shape
  simp only [Tm.binds, Tm.kind, Tm.index, Tm.args] at ht ⊢
  obtain ⟨_, _, _, hsl⟩ := ht.inv
  simp only [Tm.args] at hsl
  obtain ⟨_, hm, bl, off, PA, A, PN, PC, N', C, Kd, Ix, ha, h1, h2, h3, h4, h5⟩ := sl_cells6 hsl
  clear ht hsl hm
  have hlen : args.length ≤ 1000000 := by have := Tm.len_sizes args; rw [Tm.size_eq] at hsz; omega
  have Hsz : Hid (∀ i (h : i < args.length), args[i].size ≤ 1000000 ∧ args[i].depth ≤ 1000000 ∧ Tm.depths (args.take i) ≤ 1000000) := fun i h => by
    have := Tm.size_mem (List.getElem_mem h); rw [Tm.size_eq] at hsz
    have := Tm.depth_le_size args[i]
    have := Tm.depths_take_le args i
    have := Tm.depth_le_size (.mk binds k0 i0 args)
    rw [Tm.depth_eq, Tm.size_eq] at this
    omega
  have Hend : Hid ((Tm.mk binds k0 i0 args).depth = Tm.depths args + 1) := Tm.depth_eq _ _ _ _
  have Hend2 : Hid (Tm.depths args ≤ 1000000) := by show _ ≤ _; have := Tm.depth_le_size (.mk binds k0 i0 args); rw [Tm.depth_eq] at this; omega
  have Hih := Lib.hid ih; clear ih hsz
  go_enter Try.func164, Try.ntmps164
  go_wp2_with fail
  go_loopw [3, 4, 5] (fun x i _ wr => ∃ k : Nat, i = .int .i64 k ∧ x = .int .i64 (Tm.depths (args.take k) : Int) ∧ k ≤ args.length ∧ Below w.heap.size w wr ∧ Blk wr w.heap.size #[.slice pa binds.length pc, .int .i64 k0, .int .i64 i0, .slice qa args.length qc] 27) (fun _ i _ _ => args.length - (intOf i).toNat)
  case atStart => exact ⟨0, rfl, rfl, by omega, (Below.refl _ _).alloc (Nat.le_refl _) _, Blk.new _ _ _ rfl⟩
  case round =>
    obtain ⟨k, rfl, rfl, hk, hb, hbox⟩ := hrel
    have c0 : wr.cell? ⟨w.heap.size, 3, none⟩ = some (.slice qa args.length qc) := hbox.cell rfl
    have hlt0 := hbox.lt
    by_cases hlt : k < args.length
    · obtain ⟨rfl, hF⟩ := ha (by omega)
      have e1 := (hw.below hb) _ _ _ hF (h1 k hlt)
      have e2 := (hw.below hb) _ _ _ hF (h2 k hlt)
      have e3 := (hw.below hb) _ _ _ hF (h3 k hlt)
      have e4 := (hw.below hb) _ _ _ hF (h4 k hlt)
      have Ht := Lib.hid (Tm.depths_take args k hlt)
      go_wp2_with fail
      refine (Hih.out _ (List.getElem_mem hlt) (h5 k hlt) _ (Hsz.out k hlt).1 (hw.below hb)).mono ?_
      rintro e w1 ⟨rfl, hb1⟩
      by_cases hg : (args[k].depth : Int) > (Tm.depths (args.take k) : Int)
      · go_wp2_with fail
        go_roundw
        case rel => exact ⟨k + 1, by go_num, by rw [Ht.out, Nat.max_eq_right (by omega)], by omega, hb.trans (hb1.mono (by omega)), hbox.below hb1⟩
        case measure => simp [intOf]; omega
      · go_wp2_with fail
        go_roundw
        case rel => exact ⟨k + 1, by go_num, by rw [Ht.out, Nat.max_eq_left (by omega)], by omega, hb.trans (hb1.mono (by omega)), hbox.below hb1⟩
        case measure => simp [intOf]; omega
    · have Hd : Hid (Tm.depths (args.take k) = Tm.depths args) := by show _ = _; rw [List.take_of_length_le (by omega)]
      have hd2 : (Tm.depths (args.take k) : Int) ≤ 1000000 := by have := Hd.out; have := Hend2.out; omega
      go_wp2_with fail
      go_ret
      refine ⟨?_, hb⟩
      rw [Hend.out, ← Hd.out]; rfl

set_option maxRecDepth 100000 in
theorem Right_r {F : Nat → Prop} {w : World} {b k i a : Value} {t : Tm} (ht : IsTm F w b k i a t) (hz : t.size ≤ 1000000) : Calls Try.prog 138 #[.agg #[b, k, i, a]] w (RetB (t.size ≤ 5000 ∧ t.depth ≤ 60) w) := by
  have Hs := Lib.hid fun (w' : World) (hb : Below w.heap.size w w') => size6_r t ht w' hz ((Keep.refl _ _).below hb)
  have Hd := Lib.hid fun (w' : World) (hb : Below w.heap.size w w') => depth6_r t ht w' hz ((Keep.refl _ _).below hb)
  obtain ⟨t_pa, t_pc, t_qa, t_qc, rfl, rfl, rfl, rfl⟩ := ht.shape
  obtain ⟨t_n, ht_n⟩ : ∃ x, t.binds.length = x := ⟨_, rfl⟩
  obtain ⟨t_m, ht_m⟩ : ∃ x, t.args.length = x := ⟨_, rfl⟩
  obtain ⟨t_k, ht_k⟩ : ∃ x, t.kind = x := ⟨_, rfl⟩
  obtain ⟨t_i, ht_i⟩ : ∃ x, t.index = x := ⟨_, rfl⟩
  rw [ht_n, ht_m, ht_k, ht_i] at ht ⊢
  have Et_n := Lib.hid ht_n
  have Et_m := Lib.hid ht_m
  have Et_k := Lib.hid ht_k
  have Et_i := Lib.hid ht_i
  clear ht_n ht_m ht_k ht_i
  clear ht
  obtain ⟨z, hzz⟩ : ∃ z, t.size = z := ⟨_, rfl⟩
  obtain ⟨d, hdd⟩ : ∃ d, t.depth = d := ⟨_, rfl⟩
  rw [hzz] at Hs ⊢
  rw [hdd] at Hd ⊢
  rw [Et_n.out, Et_m.out, Et_k.out, Et_i.out] at Hs Hd
  clear hzz hdd hz
  go_enter Try.func138, Try.ntmps138
  go_wp2_with fail
  have hb1 : Below w.heap.size w (w.alloc (.cells #[.slice t_pa t_n t_pc, .int .i64 t_k, .int .i64 t_i, .slice t_qa t_m t_qc] 27)) := (Below.refl _ _).alloc (Nat.le_refl _) _
  have x1 : Blk (w.alloc (.cells #[.slice t_pa t_n t_pc, .int .i64 t_k, .int .i64 t_i, .slice t_qa t_m t_qc] 27)) w.heap.size #[.slice t_pa t_n t_pc, .int .i64 t_k, .int .i64 t_i, .slice t_qa t_m t_qc] 27 := Blk.new _ _ _ rfl
  refine (Hs.out _ hb1).mono ?_
  rintro e w1 ⟨rfl, hb2⟩
  have B1 := hb1.trans (hb2.mono hb1.size)
  have x2 := x1.below hb2
  clear hb1 hb2 x1
  by_cases h : z ≤ 5000
  · have h' : (z : Int) ≤ 5000 := by omega
    have c0 : w1.cell? ⟨w.heap.size, 0, none⟩ = some (.slice t_pa t_n t_pc) := x2.cell rfl
    have c1 : w1.cell? ⟨w.heap.size, 1, none⟩ = some (.int .i64 t_k) := x2.cell rfl
    have c2 : w1.cell? ⟨w.heap.size, 2, none⟩ = some (.int .i64 t_i) := x2.cell rfl
    have c3 : w1.cell? ⟨w.heap.size, 3, none⟩ = some (.slice t_qa t_m t_qc) := x2.cell rfl
    have l0 := x2.lt
    go_wp2_with fail
    refine (Hd.out _ B1).mono ?_
    rintro e w2 ⟨rfl, hb3⟩
    go_wp2_with fail
    go_ret
    exact ⟨_, by simp; omega, rfl, B1.trans (hb3.mono B1.size)⟩
  · have h' : ¬ (z : Int) ≤ 5000 := by omega
    have h2 : decide ((z : Int) ≤ 5000) = false := by simpa using h'
    go_wp2_with fail
    go_ret
    exact ⟨_, by simp; omega, rfl, B1⟩

end Go.Proofs.Ytdmiekaeodcehaa

namespace Go.Proofs.Ytdmiekaeodcehaa
open Go.RowKit
def TLD_71 : TI := ⟨9, true, [Value.slice none 0 0, Value.int IntKind.i64 0, Value.int IntKind.i64 0, Value.slice none 0 0, Value.slice none 0 0, Value.int IntKind.i64 0, Value.int IntKind.i64 0, Value.slice none 0 0, Value.slice none 0 0], [(0, 4, true), (4, 4, true), (8, 1, false)], none, 152, 6, none, false⟩
theorem TLD_71_ok : TypOk Try.prog 71 TLD_71 := ⟨by kernel_rfl, by kernel_rfl, by kernel_rfl, by kernel_rfl, by kernel_rfl⟩
def TLD_27 : TI := ⟨4, true, [Value.slice none 0 0, Value.int IntKind.i64 0, Value.int IntKind.i64 0, Value.slice none 0 0], [(0, 1, false), (1, 2, true), (3, 1, false)], none, 64, 6, none, false⟩
theorem TLD_27_ok : TypOk Try.prog 27 TLD_27 := ⟨by kernel_rfl, by kernel_rfl, by kernel_rfl, by kernel_rfl, by kernel_rfl⟩
def TLD_22 : TI := ⟨1, false, [Value.slice none 0 0], [], some 146, 24, 5, none, false⟩
theorem TLD_22_ok : TypOk Try.prog 22 TLD_22 := ⟨by kernel_rfl, by kernel_rfl, by kernel_rfl, by kernel_rfl, by kernel_rfl⟩
def TLD_3 : TI := ⟨1, false, [Value.int IntKind.i64 0], [], none, 8, 2, none, false⟩
theorem TLD_3_ok : TypOk Try.prog 3 TLD_3 := ⟨by kernel_rfl, by kernel_rfl, by kernel_rfl, by kernel_rfl, by kernel_rfl⟩
def TLD_25 : TI := ⟨1, false, [Value.slice none 0 0], [], some 27, 24, 5, none, false⟩
theorem TLD_25_ok : TypOk Try.prog 25 TLD_25 := ⟨by kernel_rfl, by kernel_rfl, by kernel_rfl, by kernel_rfl, by kernel_rfl⟩
def TLD_43 : TI := ⟨1, false, [Value.slice none 0 0], [], some 3, 24, 5, none, false⟩
theorem TLD_43_ok : TypOk Try.prog 43 TLD_43 := ⟨by kernel_rfl, by kernel_rfl, by kernel_rfl, by kernel_rfl, by kernel_rfl⟩
def TLD_24 : TI := ⟨2, true, [Value.int IntKind.i64 0, Value.int IntKind.i64 0], [(0, 1, false), (1, 1, false)], none, 16, 6, none, true⟩
theorem TLD_24_ok : TypOk Try.prog 24 TLD_24 := ⟨by kernel_rfl, by kernel_rfl, by kernel_rfl, by kernel_rfl, by kernel_rfl⟩
def TLD_146 : TI := ⟨2, true, [Value.slice none 0 0, Value.int IntKind.i64 0], [(0, 1, false), (1, 1, false)], none, 32, 6, none, false⟩
theorem TLD_146_ok : TypOk Try.prog 146 TLD_146 := ⟨by kernel_rfl, by kernel_rfl, by kernel_rfl, by kernel_rfl, by kernel_rfl⟩
def TLD : List (Nat × TI) := [(71, TLD_71), (27, TLD_27), (22, TLD_22), (3, TLD_3), (25, TLD_25), (43, TLD_43), (24, TLD_24), (146, TLD_146)]
theorem TLD_ok : TabOk Try.prog TLD := (((((((((TabOk.nil _).cons TLD_146_ok).cons TLD_24_ok).cons TLD_43_ok).cons TLD_25_ok).cons TLD_3_ok).cons TLD_22_ok).cons TLD_27_ok).cons TLD_71_ok)

theorem rRight_d (t : Tm) (hz : t.size ≤ 1000000) : PureC Try.prog 138 [.ag (eTm t)] (.v (.bool (Li.rt t))) := by
  refine pure_below (by kernel_rfl) fun m Im w vs hv => ?_
  match vs, hv with
  | [x], hv =>
    obtain ⟨b, k, i, a, rfl, ht⟩ := agTm hv.1
    refine (Right_r ht hz).mono ?_
    rintro e w' ⟨b, hb, rfl, h2⟩
    have : b = Li.rt t := by
      unfold Li.rt
      by_cases hp : t.size ≤ 5000 ∧ t.depth ≤ 60
      · rw [hb.2 hp]; simp [hp]
      · have : b = false := by
          cases b with
          | false => rfl
          | true => exact absurd (hb.1 rfl) hp
        rw [this]; simp [hp]
    subst this
    exact ⟨_, rfl, h2, fun Im' _ hI => .v _⟩
theorem metasT_L (l : List Tm) (h : ∀ t ∈ l, t.Fit) : metasT l = metasL l := by
  unfold metasT metasL
  induction l with
  | nil => rfl
  | cons t l ih =>
    rw [List.flatMap_cons, List.flatMap_cons, ih fun u hu => h u (by simp [hu]), metasH_pre t (h t (by simp))]
theorem rmetas_d (l : List Tm) (hl : l.length ≤ 9) (hz : ∀ t ∈ l, t.full ≤ 90000) (hf : ∀ t ∈ l, t.Fit) : PureC Try.prog 17 [.sl 4 (eTms l) none] (.sl 1 (eIs (sortU (metasL l))) none) := by
  refine pure_below (by kernel_rfl) fun m Im w vs hv => ?_
  match vs, hv with
  | [x], hv =>
    have hs : IsSl rpTm (fun _ => True) w x l := (sl_of_rel (r := rpTm) (e := eTm) eTm_len (fun x t hx _ => tm_of_rel t hx) (by decide) (by rw [eTms_map] at hv; exact hv.1)).weaken (by decide) fun _ _ _ => trivial
    refine (Metas_r hs w (Keep.refl _ _) hl hz hf).mono ?_
    rw [metasT_L l hf]
    rintro e w' ⟨a, c, rfl, h1, h2⟩
    refine ⟨_, rfl, h2, fun Im' _ hI => ?_⟩
    exact rel_of_sl (r := rpInt) (e := fun i => [.v (.int .i64 i)]) (fun b o v hq hc => hI b o v hq hc) (fun _ => rfl) (fun x a h => by
      have : x = [.int .i64 a] := h
      subst this; exact ⟨.v _, trivial⟩) h1
theorem vars_snoc (B : List Ty) (n : Int) (j : Nat) (h : j < B.length) : eTms ((Li.vars B n).take j) ++ [[.sl 2 (eTys (Ty.Eta B[j] 0 (n + B.length - 1 - j)).binds) none, .v (.int .i64 (Ty.Eta B[j] 0 (n + B.length - 1 - j)).kind), .v (.int .i64 (Ty.Eta B[j] 0 (n + B.length - 1 - j)).index), .sl 4 (eTms (Ty.Eta B[j] 0 (n + B.length - 1 - j)).args) none]] = eTms ((Li.vars B n).take (j + 1)) := by
  have h2 : j < (Li.vars B n).length := by rw [Li.vars_len]; exact h
  rw [← eTms_snoc _ j h2, Li.vars_get B n j h]
theorem lifs_snoc4 (V : List Tm) (B : List Ty) (l : List Tm) (n : Int) (j : Nat) (h : j < l.length) : eTms (V ++ (Li.lifs B l n).take j) ++ [[.sl 2 (eTys (Li.lif B l[j] n).binds) none, .v (.int .i64 (Li.lif B l[j] n).kind), .v (.int .i64 (Li.lif B l[j] n).index), .sl 4 (eTms (Li.lif B l[j] n).args) none]] = eTms (V ++ (Li.lifs B l n).take (j + 1)) := by
  have h2 : j < (Li.lifs B l n).length := by rw [Li.lifs_len]; exact h
  rw [eTms_append, eTms_append, List.append_assoc, ← eTms_snoc _ j h2]
  congr 2
  simp only [Li.lifs_map, List.getElem_map]
set_option maxHeartbeats 2000000 in
theorem rlifted_d (B : List Ty) (hl : B.length ≤ 900) (hB : ∀ b ∈ B, b.size ≤ 1000) : ∀ (t : Tm) (n : Int), 0 ≤ n → n + t.full ≤ 700000 → PureC Try.prog 93 [.ag (eTm t), .sl 2 (eTys B) none, .v (.int .i64 n)] (.ag (eTm (Li.lif B t n))) := by
 intro t
 induction t using Tm.ind with
 | h b k i a ih =>
 intro n h0 hz
 rw [Tm.full_eq] at hz
 have hbl := Ty.le_sizes b
 have hal := cFulls_len a
 obtain ⟨n', hn⟩ : ∃ n' : Int, n' = n + b.length := ⟨_, rfl⟩
 rw [Li.lif_eq, ← hn]
 have hl0 := Li.lifs_len B a n'
 have hsn := fun V => lifs_snoc4 V B a n'
 have hvl := Li.vars_len B n'
 have hvs := vars_snoc B n'
 have hE : ∀ j (h : j < B.length), PureC Try.prog 139 [.ag [.v (.int .i64 0), .v (.int .i64 (n' + B.length - 1 - j))], .ag (eTy B[j])] (.ag (eTm (Ty.Eta B[j] 0 (n' + B.length - 1 - j)))) := fun j h => rEta_d B[j] 0 _ (by have := hB _ (List.getElem_mem h); omega)
 have hI : ∀ j (h : j < a.length), PureC Try.prog 93 [.ag (eTm a[j]), .sl 2 (eTys B) none, .v (.int .i64 n')] (.ag (eTm (Li.lif B a[j] n'))) := fun j h => ih _ (List.getElem_mem h) n' (by omega) (by have := Tm.full_mem (List.getElem_mem h); omega)
 obtain ⟨r, hr⟩ : ∃ r, Li.lifs B a n' = r := ⟨_, rfl⟩
 obtain ⟨v, hv⟩ : ∃ v, Li.vars B n' = v := ⟨_, rfl⟩
 rw [hr] at hl0 hsn ⊢
 rw [hv] at hvl hvs ⊢
 clear hv hr
 rw [eTm_eq, eTm_eq]
 simp only [bindsT, kindT, indexT, argsTm]
 by_cases hk : k = 2
 ·rw [if_pos hk]
  refine calldw 0 70 [ResultVar.cell 6 27] TLD_ok Try.func93 rfl Try.ntmps93 rfl fun cx hnt hn0 => ?_
  ·skip
   refine dw_seq ?_; refine dwk [] TLD_ok hnt fun K hK => ?_; refine hK _ _ ?_; clear hK K; refine dw_seq ?_; refine dwk [(14, .v (.int .i64 (↑b.length))), (15, .v (.int .i64 (n')))] TLD_ok hnt fun K hK => ?_; refine And.intro (dintE (by rw [eTys_len])) ?_; refine And.intro (dintE (by rw [IntWalk.i64_in _ (by omega)]; omega)) ?_; refine hK _ _ ?_; clear hK K; refine dw_seq ?_; refine dwk [] TLD_ok hnt fun K hK => ?_
   refine hK _ _ ?_; clear hK K
   refine DW.vs (VS.row (k := 13) (off := 3) 27 4 rfl) ?_
   refine dw_seq ?_; refine dw_seq ?_; refine dwk [(24, .v (.bool true))] TLD_ok hnt fun K hK => ?_; refine And.intro (beqT hk) ?_; refine hK _ _ ?_; clear hK K; refine dw_cond (t := true) rfl ?_; rw [if_pos rfl]; refine dw_seq ?_; refine dwk [] TLD_ok hnt fun K hK => ?_; refine hK _ _ ?_; clear hK K; refine dw_block ?_
   refine dw_loop (ι := { j : Nat // j ≤ B.length }) (fun j => [(.t 1, .sl 2 (eTys B) none), (.t 3, .p 0 0), (.t 6, .p 1 0), (.t 7, .v (.int .i64 n')), (.t 8, .p 13 0), (.t 9, .v (.int .i64 ↑j.1)), (.c 0 0, .sl 2 (eTys b) none), (.c 0 1, .v (.int .i64 k)), (.c 0 2, .v (.int .i64 i)), (.c 0 3, .sl 4 (eTms a) none), (.c 1 0, .v (.slice none 0 0)), (.c 1 1, .v (.int .i64 0)), (.c 1 2, .v (.int .i64 0)), (.c 1 3, .v (.slice none 0 0)), (.c 13 0, .sl 2 (eTys b) none), (.c 13 1, .v (.int .i64 k)), (.c 13 2, .v (.int .i64 i)), (.c 13 3, .sl 4 (eTms (v.take j.1)) (some 15)), (.r 15, .rw 27 4 j.1)]) 16 (fun j => B.length - j.1) (⟨0, Nat.zero_le _⟩) (VS.toA) fun j => ?_
   obtain ⟨j, hj⟩ := j
   dsimp only
   by_cases hlt : j < B.length
   ·have hc := hE j hlt
    have hs := hvs j hlt
    rw [eTm_eq, eTy_eq] at hc
    have hlq : (eTms (v.take j)).length = j := by rw [eTms_len, List.length_take]; omega
    refine dw_seq ?_; refine dw_seq ?_; refine dwk [(27, .v (.int .i64 (↑B.length))), (28, .v (.bool true))] TLD_ok hnt fun K hK => ?_; refine And.intro (dintE (by rw [eTys_len])) ?_; refine And.intro auT ?_; refine hK _ _ ?_; clear hK K; refine dw_cond (t := true) rfl ?_; rw [if_pos rfl]; refine dw_skip ?_; refine dw_seq ?_; refine dw_block ?_; refine dwkD [(35, .v (.int .i64 (↑B.length))), (36, .v (.int .i64 ((n' + ↑B.length)))), (37, .v (.int .i64 ((n' + ↑B.length - 1)))), (39, .v (.int .i64 ((n' + ↑B.length - 1 - ↑j)))), (43, .q [.sl 2 (eTys B[j].args) none, .v (.int .i64 B[j].base)]), (47, .sl 4 (eTms (v.take (j + 1))) (some 15))] TLD_ok hnt fun K hK => ?_
    refine And.intro (dintE (by rw [eTys_len])) ?_; refine And.intro auI ?_; refine And.intro auI ?_; refine And.intro auI ?_; refine And.intro (elo (eTys_len B)) ?_; refine And.intro (elv (eTys_getD B j) (eTy_eq _)) ?_; refine dcl (hc) ?_; refine And.intro (⟨by rw [hlq], by rw [hlq]; simp; omega⟩) ?_; refine And.intro (VLe.of_eq (by rw [hs])) ?_; refine hK _ _ (by kernel_rfl) ?_; clear hK K; refine dwk [(30, .v (.int .i64 (↑(j + 1))))] TLD_ok hnt fun K hK => ?_
    refine And.intro auI ?_; refine hK _ _ ?_; clear hK K
    refine ⟨⟨j + 1, hlt⟩, by first | omega | (dsimp only; omega), (by try simp only [List.length_append, List.length_take, List.length_cons, List.length_nil, Nat.zero_add, hlq]; exact VS.toA)⟩
   ·rw [List.take_of_length_le (by omega), show j = v.length by omega]
    refine dw_seq ?_; refine dw_seq ?_; refine dwk [(27, .v (.int .i64 (↑B.length))), (28, .v (.bool false))] TLD_ok hnt fun K hK => ?_; refine And.intro (dintE (by rw [eTys_len])) ?_; refine And.intro auF ?_; refine hK _ _ ?_; clear hK K; refine dw_cond (t := false) rfl ?_; rw [if_neg (by simp)]; refine dw_exit ?_; refine dw_seq ?_; refine dw_seq ?_; refine dwk [] TLD_ok hnt fun K hK => ?_; refine hK _ _ ?_; clear hK K
    refine dw_block ?_
    refine dw_loop (ι := { j : Nat // j ≤ a.length }) (fun j => [(.t 1, .sl 2 (eTys B) none), (.t 3, .p 0 0), (.t 6, .p 1 0), (.t 7, .v (.int .i64 n')), (.t 8, .p 13 0), (.t 10, .v (.int .i64 ↑j.1)), (.c 0 0, .sl 2 (eTys b) none), (.c 0 1, .v (.int .i64 k)), (.c 0 2, .v (.int .i64 i)), (.c 0 3, .sl 4 (eTms a) none), (.c 1 0, .v (.slice none 0 0)), (.c 1 1, .v (.int .i64 0)), (.c 1 2, .v (.int .i64 0)), (.c 1 3, .v (.slice none 0 0)), (.c 13 0, .sl 2 (eTys b) none), (.c 13 1, .v (.int .i64 k)), (.c 13 2, .v (.int .i64 i)), (.c 13 3, .sl 4 (eTms (v ++ r.take j.1)) (some 15)), (.r 15, .rw 27 4 (v.length + j.1))]) 16 (fun j => a.length - j.1) (⟨0, Nat.zero_le _⟩) ((by simp only [List.take_zero, List.append_nil, Nat.add_zero]; exact VS.toA)) fun q => ?_
    obtain ⟨q, hq⟩ := q
    dsimp only
    by_cases hlt : q < a.length
    ·have hc := hI q hlt
     have hs := hsn v q hlt
     rw [eTm_eq, eTm_eq] at hc
     have hlq : (eTms (v ++ r.take q)).length = v.length + q := by rw [eTms_len, List.length_append, List.length_take]; omega
     refine dw_seq ?_; refine dw_seq ?_; refine dwk [(52, .v (.int .i64 (↑a.length))), (53, .v (.bool true))] TLD_ok hnt fun K hK => ?_; refine And.intro (dintE (by rw [eTms_len])) ?_; refine And.intro auT ?_; refine hK _ _ ?_; clear hK K; refine dw_cond (t := true) rfl ?_; rw [if_pos rfl]; refine dw_skip ?_; refine dw_seq ?_; refine dw_block ?_; refine dwkD [(61, .q [.sl 2 (eTys a[q].binds) none, .v (.int .i64 a[q].kind), .v (.int .i64 a[q].index), .sl 4 (eTms a[q].args) none]), (67, .sl 4 (eTms (v ++ r.take (q + 1))) (some 15))] TLD_ok hnt fun K hK => ?_
     refine And.intro (elo (eTms_len a)) ?_; refine And.intro (elv (eTms_getD a q) (eTm_eq _)) ?_; refine dcl (hc) ?_; refine And.intro (⟨by rw [hlq], by rw [hlq]; simp; omega⟩) ?_; refine And.intro (VLe.of_eq (by rw [hs])) ?_; refine hK _ _ (by kernel_rfl) ?_; clear hK K; refine dwk [(55, .v (.int .i64 (↑(q + 1))))] TLD_ok hnt fun K hK => ?_; refine And.intro auI ?_; refine hK _ _ ?_; clear hK K
     have hl8 : (eTms (v ++ r.take q) ++ ([[.sl 2 (eTys (Li.lif B a[q] n').binds) none, .v (.int .i64 (Li.lif B a[q] n').kind), .v (.int .i64 (Li.lif B a[q] n').index), .sl 4 (eTms (Li.lif B a[q] n').args) none]] : List (List D))).length = v.length + (q + 1) := by rw [List.length_append, hlq]; simp; omega
     rw [hl8]
     refine ⟨⟨q + 1, hlt⟩, by first | omega | (dsimp only; omega), (by try simp only [List.length_append, List.length_take, List.length_cons, List.length_nil, Nat.zero_add, hlq]; exact VS.toA)⟩
    ·rw [List.take_of_length_le (by omega)]
     refine dw_seq ?_; refine dw_seq ?_; refine dwk [(52, .v (.int .i64 (↑a.length))), (53, .v (.bool false))] TLD_ok hnt fun K hK => ?_; refine And.intro (dintE (by rw [eTms_len])) ?_; refine And.intro auF ?_; refine hK _ _ ?_; clear hK K; refine dw_cond (t := false) rfl ?_; rw [if_neg (by simp)]; refine dw_exit ?_; refine dw_seq ?_; refine dwk [] TLD_ok hnt fun K hK => ?_; refine hK _ _ ?_; clear hK K
     refine dw_ret ?_
     exact reta rfl
 ·rw [if_neg hk]
  rw [List.nil_append]
  refine calldw 0 70 [ResultVar.cell 6 27] TLD_ok Try.func93 rfl Try.ntmps93 rfl fun cx hnt hn0 => ?_
  ·skip
   refine dw_seq ?_; refine dwk [] TLD_ok hnt fun K hK => ?_; refine hK _ _ ?_; clear hK K; refine dw_seq ?_; refine dwk [(14, .v (.int .i64 (↑b.length))), (15, .v (.int .i64 (n')))] TLD_ok hnt fun K hK => ?_; refine And.intro (dintE (by rw [eTys_len])) ?_; refine And.intro (dintE (by rw [IntWalk.i64_in _ (by omega)]; omega)) ?_; refine hK _ _ ?_; clear hK K; refine dw_seq ?_; refine dwk [] TLD_ok hnt fun K hK => ?_
   refine hK _ _ ?_; clear hK K
   refine DW.vs (VS.row (k := 13) (off := 3) 27 4 rfl) ?_
   refine dw_seq ?_; refine dw_seq ?_; refine dwk [(24, .v (.bool false))] TLD_ok hnt fun K hK => ?_; refine And.intro (beqF hk) ?_; refine hK _ _ ?_; clear hK K; refine dw_cond (t := false) rfl ?_; rw [if_neg (by simp)]; refine dw_skip ?_; refine dw_seq ?_; refine dw_seq ?_; refine dwk [] TLD_ok hnt fun K hK => ?_; refine hK _ _ ?_; clear hK K; refine dw_block ?_
   refine dw_loop (ι := { j : Nat // j ≤ a.length }) (fun j => [(.t 1, .sl 2 (eTys B) none), (.t 3, .p 0 0), (.t 6, .p 1 0), (.t 7, .v (.int .i64 n')), (.t 8, .p 13 0), (.t 10, .v (.int .i64 ↑j.1)), (.c 0 0, .sl 2 (eTys b) none), (.c 0 1, .v (.int .i64 k)), (.c 0 2, .v (.int .i64 i)), (.c 0 3, .sl 4 (eTms a) none), (.c 1 0, .v (.slice none 0 0)), (.c 1 1, .v (.int .i64 0)), (.c 1 2, .v (.int .i64 0)), (.c 1 3, .v (.slice none 0 0)), (.c 13 0, .sl 2 (eTys b) none), (.c 13 1, .v (.int .i64 k)), (.c 13 2, .v (.int .i64 i)), (.c 13 3, .sl 4 (eTms (r.take j.1)) (some 15)), (.r 15, .rw 27 4 j.1)]) 16 (fun j => a.length - j.1) (⟨0, Nat.zero_le _⟩) (VS.toA) fun q => ?_
   obtain ⟨q, hq⟩ := q
   dsimp only
   by_cases hlt : q < a.length
   ·have hc := hI q hlt
    have hs := hsn [] q hlt; rw [List.nil_append, List.nil_append] at hs
    rw [eTm_eq, eTm_eq] at hc
    have hlq : (eTms (r.take q)).length = q := by rw [eTms_len, List.length_take]; omega
    refine dw_seq ?_; refine dw_seq ?_; refine dwk [(52, .v (.int .i64 (↑a.length))), (53, .v (.bool true))] TLD_ok hnt fun K hK => ?_; refine And.intro (dintE (by rw [eTms_len])) ?_; refine And.intro auT ?_; refine hK _ _ ?_; clear hK K; refine dw_cond (t := true) rfl ?_; rw [if_pos rfl]; refine dw_skip ?_; refine dw_seq ?_; refine dw_block ?_; refine dwkD [(61, .q [.sl 2 (eTys a[q].binds) none, .v (.int .i64 a[q].kind), .v (.int .i64 a[q].index), .sl 4 (eTms a[q].args) none]), (67, .sl 4 (eTms (r.take (q + 1))) (some 15))] TLD_ok hnt fun K hK => ?_
    refine And.intro (elo (eTms_len a)) ?_; refine And.intro (elv (eTms_getD a q) (eTm_eq _)) ?_; refine dcl (hc) ?_; refine And.intro (⟨by rw [hlq], by rw [hlq]; simp; omega⟩) ?_; refine And.intro (VLe.of_eq (by rw [hs])) ?_; refine hK _ _ (by kernel_rfl) ?_; clear hK K; refine dwk [(55, .v (.int .i64 (↑(q + 1))))] TLD_ok hnt fun K hK => ?_; refine And.intro auI ?_; refine hK _ _ ?_; clear hK K
    refine ⟨⟨q + 1, hlt⟩, by first | omega | (dsimp only; omega), (by try simp only [List.length_append, List.length_take, List.length_cons, List.length_nil, Nat.zero_add, hlq]; exact VS.toA)⟩
   ·rw [List.take_of_length_le (by omega)]
    refine dw_seq ?_; refine dw_seq ?_; refine dwk [(52, .v (.int .i64 (↑a.length))), (53, .v (.bool false))] TLD_ok hnt fun K hK => ?_; refine And.intro (dintE (by rw [eTms_len])) ?_; refine And.intro auF ?_; refine hK _ _ ?_; clear hK K; refine dw_cond (t := false) rfl ?_; rw [if_neg (by simp)]; refine dw_exit ?_; refine dw_seq ?_; refine dwk [] TLD_ok hnt fun K hK => ?_; refine hK _ _ ?_; clear hK K
    refine dw_ret ?_
    exact reta rfl
theorem rright22_d (p : Li.Pr) (h1 : p.l.size ≤ 1000000) (h2 : p.r.size ≤ 1000000) : PureC Try.prog 92 [.ag (ePr p)] (.v (.bool (Li.rt p.l && Li.rt p.r))) := by
 obtain ⟨L, R, M⟩ := p
 have c1 := rRight_d L h1
 have c2 := rRight_d R h2
 rw [eTm_eq] at c1 c2
 rw [ePr_eq]
 dsimp only
 cases h : Li.rt L with
 | false =>
  rw [h] at c1
  rw [Bool.false_and]
  refine calldw 0 11 [ResultVar.tmp 2] TLD_ok Try.func92 rfl Try.ntmps92 rfl fun cx hnt hn0 => ?_
  ·skip
   refine dw_seq ?_; refine dwk [] TLD_ok hnt fun K hK => ?_; refine hK _ _ ?_; clear hK K; refine dw_seq ?_; refine dwk [] TLD_ok hnt fun K hK => ?_; refine dcl (c1) ?_; refine hK _ _ ?_; clear hK K; refine dw_ret ?_
   exact reta rfl
 | true =>
  rw [h] at c1
  rw [Bool.true_and]
  refine calldw 0 11 [ResultVar.tmp 2] TLD_ok Try.func92 rfl Try.ntmps92 rfl fun cx hnt hn0 => ?_
  ·skip
   refine dw_seq ?_; refine dwk [] TLD_ok hnt fun K hK => ?_; refine hK _ _ ?_; clear hK K; refine dw_seq ?_; refine dwk [] TLD_ok hnt fun K hK => ?_; refine dcl (c1) ?_; refine dcl (c2) ?_; refine hK _ _ ?_; clear hK K; refine dw_ret ?_
   exact reta rfl
theorem lo_len (t : Tm) (hz : t.full ≤ 500000) (hf : t.Fit) : Li.lo t = decide (0 < (t.looses 0).length) := by
  have h := looseL_pos (l := t.looses 0) (looses_pos t 0)
  unfold Li.lo
  by_cases h0 : t.looses 0 = []
  · rw [h0]; rfl
  · have := List.length_pos_iff.2 h0
    rw [decide_eq_true (h.2 h0), decide_eq_true this]
namespace Li
def bad (M : List Ty) (x : Int) : Bool := decide (x < 0 ∨ (M.length : Int) ≤ x)
theorem over_1 {L R : Tm} {M B : List Ty} (h : (lo L || lo R) = true) : over ⟨L, R, M⟩ B = (.z, 1) := by unfold over may; simp [h]
theorem over_10 {L R : Tm} {M B : List Ty} (h0 : (lo L || lo R) = false) (h : (sortU (metasL [L, R])).any (bad M) = true) : over ⟨L, R, M⟩ B = (.z, 10) := by
  have h : ((sortU (metasL [L, R])).any fun x => decide (x < 0 ∨ (M.length : Int) ≤ x)) = true := h
  unfold over may; dsimp only; rw [h0, h]; rfl
theorem may_2 {L R : Tm} {M B : List Ty} (h0 : (lo L || lo R) = false) (h : (sortU (metasL [L, R])).any (bad M) = false) : may L R M B = if (decide ((B.length : Int) > 900) || (!rt L || !rt R)) = true then 2 else 0 := by
  have h : ((sortU (metasL [L, R])).any fun x => decide (x < 0 ∨ (M.length : Int) ≤ x)) = false := h
  unfold may; rw [h0, h]; rfl
theorem over_2 {L R : Tm} {M B : List Ty} (h0 : (lo L || lo R) = false) (h : (sortU (metasL [L, R])).any (bad M) = false) (h2 : (decide ((B.length : Int) > 900) || (!rt L || !rt R)) = true) : over ⟨L, R, M⟩ B = (.z, 2) := by
  have := may_2 (B := B) h0 h
  rw [h2, if_pos rfl] at this
  unfold over; dsimp only; rw [this]; rfl
theorem over_0 {L R : Tm} {M B : List Ty} (h : may L R M B = 0) : over ⟨L, R, M⟩ B = done (up ⟨L, R, M⟩ B) := by
  unfold over; dsimp only; rw [h]; rfl
end Li
set_option maxHeartbeats 4000000 in
theorem rover_d (L R : Tm) (M B : List Ty) (hL : L.full ≤ 90000 ∧ L.Fit) (hR : R.full ≤ 90000 ∧ R.Fit) (hM : ∀ m ∈ M, Ty.sizes B + m.size ≤ 900000) (hMl : M.length ≤ 900000) (hB : ∀ b ∈ B, b.size ≤ 1000)
  (hu : Li.may L R M B = 0 → (Li.lif B L 0).size ≤ 1000000 ∧ (Li.lif B R 0).size ≤ 1000000) : PureC Try.prog 39 [.ag (ePr ⟨L, R, M⟩), .sl 2 (eTys B) none] (.tu [.ag (ePr (Li.over ⟨L, R, M⟩ B).1), .v (.int .i64 (Li.over ⟨L, R, M⟩ B).2)]) := by
 have l1 := rLooses_d L (by omega) hL.2
 have l2 := rLooses_d R (by omega) hR.2
 have n1 := lo_len L (by omega) hL.2
 have n2 := lo_len R (by omega) hR.2
 have hm := rmetas_d [L, R] (by simp) (by simp; omega) (by simp; exact ⟨hL.2, hR.2⟩)
 have hr := rright22_d ⟨L, R, M⟩ (by have := Tm.size_le_full L; dsimp only; omega) (by have := Tm.size_le_full R; dsimp only; omega)
 rw [show eTms [L, R] = [eTm L, eTm R] from rfl] at hm
 have h1 := Li.over_1 (L := L) (R := R) (M := M) (B := B)
 have h10 := Li.over_10 (L := L) (R := R) (M := M) (B := B)
 have h2 := Li.over_2 (L := L) (R := R) (M := M) (B := B)
 have h0 := Li.over_0 (L := L) (R := R) (M := M) (B := B)
 have hy := Li.may_2 (L := L) (R := R) (M := M) (B := B)
 generalize Li.over ⟨L, R, M⟩ B = o at h1 h10 h2 h0 ⊢
 rw [eTm_eq] at l1 l2
 rw [eTm_eq L, eTm_eq R] at hm
 rw [ePr_eq] at hr ⊢
 dsimp only at hr
 by_cases hx : 0 < (L.looses 0).length
 ·rw [decide_eq_true hx] at n1
  rw [h1 (by rw [n1]; rfl), ePr_z]
  refine calldw 0 93 [ResultVar.cell 4 71, ResultVar.tmp 5] TLD_ok Try.func39 rfl Try.ntmps39 rfl fun cx hnt hn0 => ?_
  ·skip
   refine dw_seq ?_; refine dwk [] TLD_ok hnt fun K hK => ?_; refine hK _ _ ?_; clear hK K; refine dw_seq ?_; refine dw_seq ?_; refine dwk [(13, .v (.int .i64 (↑(L.looses 0).length))), (14, .v (.bool true))] TLD_ok hnt fun K hK => ?_; refine dcl (l1) ?_; refine And.intro (dintE (by rw [eIs_len])) ?_; refine And.intro auT ?_; refine hK _ _ ?_; clear hK K; refine dw_cond (t := true) rfl ?_; rw [if_pos rfl]
   refine dw_seq ?_; refine dwk [] TLD_ok hnt fun K hK => ?_; refine hK _ _ ?_; clear hK K; refine dw_ret ?_
   exact reta rfl
 ·rw [decide_eq_false hx] at n1
  by_cases hx2 : 0 < (R.looses 0).length
  ·rw [decide_eq_true hx2] at n2
   rw [h1 (by rw [n2]; simp), ePr_z]
   refine calldw 0 93 [ResultVar.cell 4 71, ResultVar.tmp 5] TLD_ok Try.func39 rfl Try.ntmps39 rfl fun cx hnt hn0 => ?_
   ·skip
    refine dw_seq ?_; refine dwk [] TLD_ok hnt fun K hK => ?_; refine hK _ _ ?_; clear hK K; refine dw_seq ?_; refine dw_seq ?_; refine dwk [(13, .v (.int .i64 (↑(L.looses 0).length))), (14, .v (.bool false)), (19, .v (.int .i64 (↑(R.looses 0).length))), (20, .v (.bool true))] TLD_ok hnt fun K hK => ?_; refine dcl (l1) ?_; refine And.intro (dintE (by rw [eIs_len])) ?_; refine And.intro auF ?_; refine dcl (l2) ?_
    refine And.intro (dintE (by rw [eIs_len])) ?_; refine And.intro auT ?_; refine hK _ _ ?_; clear hK K; refine dw_cond (t := true) rfl ?_; rw [if_pos rfl]; refine dw_seq ?_; refine dwk [] TLD_ok hnt fun K hK => ?_; refine hK _ _ ?_; clear hK K; refine dw_ret ?_
    exact reta rfl
  ·rw [decide_eq_false hx2] at n2
   have hn : (Li.lo L || Li.lo R) = false := by rw [n1, n2]; rfl
   have h10 := h10 hn
   have h2 := h2 hn
   have hy := hy hn
   have hll : (sortU (metasL [L, R])).length ≤ 200000 := by
    have h1 := metasL_len [L, R] 90000 (by simp; omega)
    have h2 := sortU_len (metasL [L, R])
    simp at h1; omega
   generalize sortU (metasL [L, R]) = l at hm h10 h2 hy hll
   refine calldw 0 93 [ResultVar.cell 4 71, ResultVar.tmp 5] TLD_ok Try.func39 rfl Try.ntmps39 rfl fun cx hnt hn0 => ?_
   ·skip
    refine dw_seq ?_; refine dwk [] TLD_ok hnt fun K hK => ?_; refine hK _ _ ?_; clear hK K; refine dw_seq ?_; refine dw_seq ?_; refine dwk [(13, .v (.int .i64 (↑(L.looses 0).length))), (14, .v (.bool false)), (19, .v (.int .i64 (↑(R.looses 0).length))), (20, .v (.bool false))] TLD_ok hnt fun K hK => ?_; refine dcl (l1) ?_; refine And.intro (dintE (by rw [eIs_len])) ?_; refine And.intro auF ?_; refine dcl (l2) ?_
    refine And.intro (dintE (by rw [eIs_len])) ?_; refine And.intro auF ?_; refine hK _ _ ?_; clear hK K; refine dw_cond (t := false) rfl ?_; rw [if_neg (by simp)]; refine dw_skip ?_; refine dw_seq ?_; refine dwk [(27, .sl 4 [[.sl 2 (eTys L.binds) none, .v (.int .i64 L.kind), .v (.int .i64 L.index), .sl 4 (eTms L.args) none], [.sl 2 (eTys R.binds) none, .v (.int .i64 R.kind), .v (.int .i64 R.index), .sl 4 (eTms R.args) none]] none)] TLD_ok hnt fun K hK => ?_
    refine And.intro (VLe.untag _ _ _) ?_; refine dcl (hm) ?_; refine hK _ _ ?_; clear hK K; refine dw_seq ?_; refine dw_seq ?_; refine dwk [] TLD_ok hnt fun K hK => ?_; refine hK _ _ ?_; clear hK K; refine dw_block ?_
    refine dw_loop (ι := { j : Nat // ∀ i (h : i < l.length), i < j → Li.bad M l[i] = false }) (fun j => [(.t 1, .sl 2 (eTys B) none), (.t 2, .p 0 0), (.t 4, .p 1 0), (.t 5, .v (.int .i64 0)), (.t 6, .sl 1 (eIs l) none), (.t 7, .v (.int .i64 ↑j.1)), (.c 0 0, .sl 2 (eTys L.binds) none), (.c 0 1, .v (.int .i64 L.kind)), (.c 0 2, .v (.int .i64 L.index)), (.c 0 3, .sl 4 (eTms L.args) none), (.c 0 4, .sl 2 (eTys R.binds) none), (.c 0 5, .v (.int .i64 R.kind)), (.c 0 6, .v (.int .i64 R.index)), (.c 0 7, .sl 4 (eTms R.args) none), (.c 0 8, .sl 2 (eTys M) none), (.c 1 0, .v (.slice none 0 0)), (.c 1 1, .v (.int .i64 0)), (.c 1 2, .v (.int .i64 0)), (.c 1 3, .v (.slice none 0 0)), (.c 1 4, .v (.slice none 0 0)), (.c 1 5, .v (.int .i64 0)), (.c 1 6, .v (.int .i64 0)), (.c 1 7, .v (.slice none 0 0)), (.c 1 8, .v (.slice none 0 0))]) 3 (fun j => l.length - j.1) (⟨0, fun i h1 h2 => by omega⟩) (VS.toA) fun j => ?_
    obtain ⟨j, hj⟩ := j
    dsimp only
    by_cases hlt : j < l.length
    ·by_cases hb1 : l[j] < 0
     ·have ha : l.any (Li.bad M) = true := List.any_eq_true.2 ⟨_, List.getElem_mem hlt, by unfold Li.bad; simp [hb1]⟩
      rw [h10 ha, ePr_z]
      refine dw_seq ?_; refine dw_seq ?_; refine dwk [(31, .v (.int .i64 (↑l.length))), (32, .v (.bool true))] TLD_ok hnt fun K hK => ?_; refine And.intro (dintE (by rw [eIs_len])) ?_; refine And.intro auT ?_; refine hK _ _ ?_; clear hK K; refine dw_cond (t := true) rfl ?_; rw [if_pos rfl]; refine dw_skip ?_; refine dw_seq ?_; refine dw_block ?_; refine dw_seq ?_; refine dwkD [(37, .q [.v (.int .i64 (l[j]))]), (39, .v (.bool true))] TLD_ok hnt fun K hK => ?_
      refine And.intro (elo (eIs_len l)) ?_; refine And.intro (elv (eIs_getD l j) rfl) ?_; refine And.intro auT ?_; refine hK _ _ (by kernel_rfl) ?_; clear hK K; refine dw_cond (t := true) rfl ?_; rw [if_pos rfl]; refine dw_seq ?_; refine dwk [] TLD_ok hnt fun K hK => ?_; refine hK _ _ ?_; clear hK K; refine dw_ret ?_
      exact reta rfl
     ·by_cases hb2 : (M.length : Int) ≤ l[j]
      ·have ha : l.any (Li.bad M) = true := List.any_eq_true.2 ⟨_, List.getElem_mem hlt, by unfold Li.bad; simp [hb2]⟩
       rw [h10 ha, ePr_z]
       refine dw_seq ?_; refine dw_seq ?_; refine dwk [(31, .v (.int .i64 (↑l.length))), (32, .v (.bool true))] TLD_ok hnt fun K hK => ?_; refine And.intro (dintE (by rw [eIs_len])) ?_; refine And.intro auT ?_; refine hK _ _ ?_; clear hK K; refine dw_cond (t := true) rfl ?_; rw [if_pos rfl]; refine dw_skip ?_; refine dw_seq ?_; refine dw_block ?_; refine dw_seq ?_; refine dwkD [(37, .q [.v (.int .i64 (l[j]))]), (39, .v (.bool false)), (43, .q [.v (.int .i64 (l[j]))]), (47, .v (.int .i64 (↑M.length))), (48, .v (.bool true))] TLD_ok hnt fun K hK => ?_
       refine And.intro (elo (eIs_len l)) ?_; refine And.intro (elv (eIs_getD l j) rfl) ?_; refine And.intro auF ?_; refine And.intro (elo (eIs_len l)) ?_; refine And.intro (elv (eIs_getD l j) rfl) ?_; refine And.intro (dintE (by rw [eTys_len])) ?_; refine And.intro auT ?_; refine hK _ _ (by kernel_rfl) ?_; clear hK K; refine dw_cond (t := true) rfl ?_; rw [if_pos rfl]; refine dw_seq ?_; refine dwk [] TLD_ok hnt fun K hK => ?_
       refine hK _ _ ?_; clear hK K; refine dw_ret ?_
       exact reta rfl
      ·skip
       refine dw_seq ?_; refine dw_seq ?_; refine dwk [(31, .v (.int .i64 (↑l.length))), (32, .v (.bool true))] TLD_ok hnt fun K hK => ?_; refine And.intro (dintE (by rw [eIs_len])) ?_; refine And.intro auT ?_; refine hK _ _ ?_; clear hK K; refine dw_cond (t := true) rfl ?_; rw [if_pos rfl]; refine dw_skip ?_; refine dw_seq ?_; refine dw_block ?_; refine dw_seq ?_; refine dwkD [(37, .q [.v (.int .i64 (l[j]))]), (39, .v (.bool false)), (43, .q [.v (.int .i64 (l[j]))]), (47, .v (.int .i64 (↑M.length))), (48, .v (.bool false))] TLD_ok hnt fun K hK => ?_
       refine And.intro (elo (eIs_len l)) ?_; refine And.intro (elv (eIs_getD l j) rfl) ?_; refine And.intro auF ?_; refine And.intro (elo (eIs_len l)) ?_; refine And.intro (elv (eIs_getD l j) rfl) ?_; refine And.intro (dintE (by rw [eTys_len])) ?_; refine And.intro auF ?_; refine hK _ _ (by kernel_rfl) ?_; clear hK K; refine dw_cond (t := false) rfl ?_; rw [if_neg (by simp)]; refine dw_skip ?_; refine dwk [(34, .v (.int .i64 (↑(j + 1))))] TLD_ok hnt fun K hK => ?_
       refine And.intro auI ?_; refine hK _ _ ?_; clear hK K
       refine ⟨⟨j + 1, fun i h1 h2 => if e : i = j then by subst e; unfold Li.bad; simp [hb1, hb2] else hj i h1 (by omega)⟩, by first | omega | (dsimp only; omega), VS.toA⟩
    ·have ha : l.any (Li.bad M) = false := by
      rw [List.any_eq_false]
      intro x hx
      obtain ⟨i, hi, rfl⟩ := List.getElem_of_mem hx
      rw [hj i hi (by omega)]; simp
     have h2 := h2 ha
     have hy := hy ha
     refine dw_seq ?_; refine dw_seq ?_; refine dwk [(31, .v (.int .i64 (↑l.length))), (32, .v (.bool false))] TLD_ok hnt fun K hK => ?_; refine And.intro (dintE (by rw [eIs_len])) ?_; refine And.intro auF ?_; refine hK _ _ ?_; clear hK K; refine dw_cond (t := false) rfl ?_; rw [if_neg (by simp)]
     by_cases hb : (B.length : Int) > 900
     ·rw [h2 (by rw [decide_eq_true hb]; rfl), ePr_z]
      refine dw_exit ?_; refine dw_seq ?_; refine dw_seq ?_; refine dwk [(52, .v (.int .i64 (↑B.length))), (53, .v (.bool true))] TLD_ok hnt fun K hK => ?_; refine And.intro (dintE (by rw [eTys_len])) ?_; refine And.intro auT ?_; refine hK _ _ ?_; clear hK K; refine dw_cond (t := true) rfl ?_; rw [if_pos rfl]; refine dw_seq ?_; refine dwk [] TLD_ok hnt fun K hK => ?_; refine hK _ _ ?_; clear hK K; refine dw_ret ?_
      exact reta rfl
     ·cases hrt : (Li.rt L && Li.rt R) with
      | false =>
       rw [hrt] at hr
       rw [h2 (by rw [← Bool.not_and, hrt]; simp), ePr_z]
       refine dw_exit ?_; refine dw_seq ?_; refine dw_seq ?_; refine dwk [(52, .v (.int .i64 (↑B.length))), (53, .v (.bool false))] TLD_ok hnt fun K hK => ?_; refine And.intro (dintE (by rw [eTys_len])) ?_; refine And.intro auF ?_; refine dcl (hr) ?_; refine hK _ _ ?_; clear hK K; refine dw_cond (t := true) rfl ?_; rw [if_pos rfl]; refine dw_seq ?_; refine dwk [] TLD_ok hnt fun K hK => ?_; refine hK _ _ ?_; clear hK K
       refine dw_ret ?_
       exact reta rfl
      | true =>
       rw [hrt] at hr
       rw [decide_eq_false hb, ← Bool.not_and, hrt] at hy
       have hy : Li.may L R M B = 0 := by rw [hy]; rfl
       obtain ⟨u1, u2⟩ := hu hy
       rw [h0 hy]
       clear h10 h2 h1 h0 hy hu
       have t1 := rlifted_d B (by omega) hB L 0 (by omega) (by omega)
       have t2 := rlifted_d B (by omega) hB R 0 (by omega) (by omega)
       have hwl : (M.map (Li.arr B)).length = M.length := List.length_map ..
       have hwg := arrs_snoc B M
       unfold Li.up Li.done
       dsimp only
       have hrr := rright22_d ⟨Li.lif B L 0, Li.lif B R 0, M.map (Li.arr B)⟩ u1 u2
       dsimp only at hrr
       generalize Li.lif B L 0 = L' at t1 hrr ⊢
       generalize Li.lif B R 0 = R' at t2 hrr ⊢
       generalize M.map (Li.arr B) = W at hrr hwl hwg ⊢
       generalize hz : (Li.rt L' && Li.rt R') = z at hrr ⊢
       rw [eTm_eq, eTm_eq] at t1 t2
       rw [ePr_eq] at hrr
       refine dw_exit ?_; refine dw_seq ?_; refine dw_seq ?_; refine dwk [(52, .v (.int .i64 (↑B.length))), (53, .v (.bool false))] TLD_ok hnt fun K hK => ?_; refine And.intro (dintE (by rw [eTys_len])) ?_; refine And.intro auF ?_; refine dcl (hr) ?_; refine hK _ _ ?_; clear hK K; refine dw_cond (t := false) rfl ?_; rw [if_neg (by simp)]; refine dw_skip ?_; refine dw_seq ?_; refine dwkD [] TLD_ok hnt fun K hK => ?_
       refine dcl (t1) ?_; refine dcl (t2) ?_; refine hK _ _ (by kernel_rfl) ?_; clear hK K
       refine DW.vs (VS.row (k := 24) (off := 8) 146 2 rfl) ?_
       refine dw_seq ?_; refine dw_seq ?_; refine dwk [] TLD_ok hnt fun K hK => ?_; refine hK _ _ ?_; clear hK K; refine dw_block ?_
       refine dw_loop (ι := { j : Nat // j ≤ M.length }) (fun j => [(.t 1, .sl 2 (eTys B) none), (.t 2, .p 0 0), (.t 4, .p 1 0), (.t 5, .v (.int .i64 0)), (.t 8, .p 24 0), (.t 9, .v (.int .i64 ↑j.1)), (.c 0 0, .sl 2 (eTys L.binds) none), (.c 0 1, .v (.int .i64 L.kind)), (.c 0 2, .v (.int .i64 L.index)), (.c 0 3, .sl 4 (eTms L.args) none), (.c 0 4, .sl 2 (eTys R.binds) none), (.c 0 5, .v (.int .i64 R.kind)), (.c 0 6, .v (.int .i64 R.index)), (.c 0 7, .sl 4 (eTms R.args) none), (.c 0 8, .sl 2 (eTys M) none), (.c 1 0, .v (.slice none 0 0)), (.c 1 1, .v (.int .i64 0)), (.c 1 2, .v (.int .i64 0)), (.c 1 3, .v (.slice none 0 0)), (.c 1 4, .v (.slice none 0 0)), (.c 1 5, .v (.int .i64 0)), (.c 1 6, .v (.int .i64 0)), (.c 1 7, .v (.slice none 0 0)), (.c 1 8, .v (.slice none 0 0)), (.c 24 0, .sl 2 (eTys L'.binds) none), (.c 24 1, .v (.int .i64 L'.kind)), (.c 24 2, .v (.int .i64 L'.index)), (.c 24 3, .sl 4 (eTms L'.args) none), (.c 24 4, .sl 2 (eTys R'.binds) none), (.c 24 5, .v (.int .i64 R'.kind)), (.c 24 6, .v (.int .i64 R'.index)), (.c 24 7, .sl 4 (eTms R'.args) none), (.c 24 8, .sl 2 (eTys (W.take j.1)) (some 26)), (.r 26, .rw 146 2 j.1)]) 27 (fun j => M.length - j.1) (⟨0, Nat.zero_le _⟩) (VS.toA) fun k => ?_
       obtain ⟨k, hk⟩ := k
       dsimp only
       by_cases hlt2 : k < M.length
       ·have hc := rarrow_d M[k] B (by have := hM _ (List.getElem_mem hlt2); omega)
        have hs := hwg k hlt2
        rw [show Ty.mk (B ++ M[k].args) M[k].base = Li.arr B M[k] from rfl, eTy_eq, eTy_eq] at hc
        have hlq : (eTys (W.take k)).length = k := by rw [eTys_len, List.length_take]; omega
        refine dw_seq ?_; refine dw_seq ?_; refine dwk [(72, .v (.int .i64 (↑M.length))), (73, .v (.bool true))] TLD_ok hnt fun K hK => ?_; refine And.intro (dintE (by rw [eTys_len])) ?_; refine And.intro auT ?_; refine hK _ _ ?_; clear hK K; refine dw_cond (t := true) rfl ?_; rw [if_pos rfl]; refine dw_skip ?_; refine dw_seq ?_; refine dw_block ?_; refine dwkD [(81, .q [.sl 2 (eTys M[k].args) none, .v (.int .i64 M[k].base)]), (86, .sl 2 (eTys (W.take (k + 1))) (some 26))] TLD_ok hnt fun K hK => ?_
        refine And.intro (elo (eTys_len M)) ?_; refine And.intro (elv (eTys_getD M k) (eTy_eq _)) ?_; refine dcl (hc) ?_; refine And.intro (⟨by rw [hlq], by rw [hlq]; simp; omega⟩) ?_; refine And.intro (VLe.of_eq (by rw [hs])) ?_; refine hK _ _ (by kernel_rfl) ?_; clear hK K; refine dwk [(75, .v (.int .i64 (↑(k + 1))))] TLD_ok hnt fun K hK => ?_; refine And.intro auI ?_; refine hK _ _ ?_; clear hK K
        refine ⟨⟨k + 1, hlt2⟩, by first | omega | (dsimp only; omega), (by try simp only [List.length_append, List.length_take, List.length_cons, List.length_nil, Nat.zero_add, hlq]; exact VS.toA)⟩
       ·rw [List.take_of_length_le (by omega)]
        refine dw_seq ?_; refine dw_seq ?_; refine dwk [(72, .v (.int .i64 (↑M.length))), (73, .v (.bool false))] TLD_ok hnt fun K hK => ?_; refine And.intro (dintE (by rw [eTys_len])) ?_; refine And.intro auF ?_; refine hK _ _ ?_; clear hK K; refine dw_cond (t := false) rfl ?_; rw [if_neg (by simp)]
        cases z with
        | false =>
         rw [if_neg (by simp), ePr_z]; refine dw_exit ?_; refine dw_seq ?_; refine dw_seq ?_; refine dwk [(88, .ag [.sl 2 (eTys L'.binds) none, .v (.int .i64 L'.kind), .v (.int .i64 L'.index), .sl 4 (eTms L'.args) none, .sl 2 (eTys R'.binds) none, .v (.int .i64 R'.kind), .v (.int .i64 R'.index), .sl 4 (eTms R'.args) none, .sl 2 (eTys W) none])] TLD_ok hnt fun K hK => ?_; refine And.intro (auV) ?_; refine dcl (hrr) ?_
         refine hK _ _ ?_; clear hK K; refine dw_cond (t := true) rfl ?_; rw [if_pos rfl]; refine dw_seq ?_; refine dwk [] TLD_ok hnt fun K hK => ?_; refine hK _ _ ?_; clear hK K; refine dw_ret ?_
         exact reta rfl
        | true =>
         rw [if_pos rfl, ePr_eq]; refine dw_exit ?_; refine dw_seq ?_; refine dw_seq ?_; refine dwk [(88, .ag [.sl 2 (eTys L'.binds) none, .v (.int .i64 L'.kind), .v (.int .i64 L'.index), .sl 4 (eTms L'.args) none, .sl 2 (eTys R'.binds) none, .v (.int .i64 R'.kind), .v (.int .i64 R'.index), .sl 4 (eTms R'.args) none, .sl 2 (eTys W) none])] TLD_ok hnt fun K hK => ?_; refine And.intro (auV) ?_; refine dcl (hrr) ?_
         refine hK _ _ ?_; clear hK K; refine dw_cond (t := false) rfl ?_; rw [if_neg (by simp)]; refine dw_skip ?_; refine dw_seq ?_; refine dwk [] TLD_ok hnt fun K hK => ?_; refine hK _ _ ?_; clear hK K; refine dw_ret ?_
         exact reta rfl
set_option maxHeartbeats 1000000 in
theorem rclosed_d (L R : Tm) (M B : List Ty) (hL : L.full ≤ 90000 ∧ L.Fit) (hR : R.full ≤ 90000 ∧ R.Fit) (hM : ∀ m ∈ M, Ty.sizes B + m.size ≤ 900000) (hMl : M.length ≤ 900000) (hB : ∀ b ∈ B, b.size ≤ 1000)
  (hu : Li.may L R M B = 0 → (Li.lif B L 0).size ≤ 1000000 ∧ (Li.lif B R 0).size ≤ 1000000)
  (hv : (Li.over ⟨L, R, M⟩ B).2 = 0 → ∀ p, (Li.over ⟨L, R, M⟩ B).1 = p → (Ty.sizes B + p.l.full ≤ 900000 ∧ Ty.sizes B + p.r.full ≤ 900000) ∧ (Li.rt p.l && Li.rt p.r) = true) : PureC Try.prog 41 [.ag (ePr ⟨L, R, M⟩), .sl 2 (eTys B) none] (.tu [.ag (ePr (Li.closed ⟨L, R, M⟩ B).1), .v (.int .i64 (Li.closed ⟨L, R, M⟩ B).2)]) := by
 have ho := rover_d L R M B hL hR hM hMl hB hu
 unfold Li.closed
 generalize Li.over ⟨L, R, M⟩ B = o at ho hv ⊢
 obtain ⟨⟨ol, or, om⟩, oe⟩ := o
 dsimp only at ho hv ⊢
 rw [ePr_eq, ePr_eq] at ho
 rw [ePr_eq]
 by_cases h0 : oe = 0
 ·obtain ⟨⟨u1, u2⟩, u3⟩ := hv h0 _ rfl
  dsimp only at u1 u2 u3
  subst h0
  rw [if_neg (by simp)]
  have c1 := rclose_d ol B u1
  have c2 := rclose_d or B u2
  have hd : Li.done (Li.clP ⟨ol, or, om⟩ B) = (Li.clP ⟨ol, or, om⟩ B, 0) := by
   unfold Li.done
   rw [if_pos]
   have e : ∀ t : Tm, Li.rt (Li.cl t B) = Li.rt t := fun t => by obtain ⟨b, k, i, a⟩ := t; rfl
   unfold Li.clP
   dsimp only
   rw [e, e]; exact u3
  rw [hd]
  unfold Li.clP
  dsimp only
  rw [ePr_eq]
  generalize Li.cl ol B = L' at c1 ⊢
  generalize Li.cl or B = R' at c2 ⊢
  rw [eTm_eq, eTm_eq] at c1 c2
  refine calldw 0 29 [ResultVar.cell 4 71, ResultVar.tmp 5] TLD_ok Try.func41 rfl Try.ntmps41 rfl fun cx hnt hn0 => ?_
  ·skip
   refine dw_seq ?_; refine dwk [] TLD_ok hnt fun K hK => ?_; refine hK _ _ ?_; clear hK K; refine dw_seq ?_; refine dwk [] TLD_ok hnt fun K hK => ?_; refine dcl (ho) ?_; refine hK _ _ ?_; clear hK K; refine dw_seq ?_; refine dw_seq ?_; refine dwk [] TLD_ok hnt fun K hK => ?_; refine hK _ _ ?_; clear hK K; refine dw_cond (t := false) rfl ?_; rw [if_neg (by simp)]; refine dw_skip ?_; refine dw_seq ?_; refine dwkD [] TLD_ok hnt fun K hK => ?_
   refine dcl (c1) ?_; refine dcl (c2) ?_; refine hK _ _ (by kernel_rfl) ?_; clear hK K; refine dw_seq ?_; refine dwk [] TLD_ok hnt fun K hK => ?_; refine hK _ _ ?_; clear hK K; refine dw_ret ?_
   exact reta rfl
 ·rw [if_pos h0, ePr_z]
  refine calldw 0 29 [ResultVar.cell 4 71, ResultVar.tmp 5] TLD_ok Try.func41 rfl Try.ntmps41 rfl fun cx hnt hn0 => ?_
  ·skip
   refine dw_seq ?_; refine dwk [] TLD_ok hnt fun K hK => ?_; refine hK _ _ ?_; clear hK K; refine dw_seq ?_; refine dwk [] TLD_ok hnt fun K hK => ?_; refine dcl (ho) ?_; refine hK _ _ ?_; clear hK K; refine dw_seq ?_; refine dw_seq ?_; refine dwk [(15, .v (.bool true))] TLD_ok hnt fun K hK => ?_; refine And.intro (bneT h0) ?_; refine hK _ _ ?_; clear hK K; refine dw_cond (t := true) rfl ?_; rw [if_pos rfl]
   refine dw_seq ?_; refine dwk [] TLD_ok hnt fun K hK => ?_; refine hK _ _ ?_; clear hK K; refine dw_ret ?_
   exact reta rfl
end Go.Proofs.Ytdmiekaeodcehaa

namespace Go.Proofs.Ytdmiekaeodcehaa
open Go.RowKit
def TLE_71 : TI := ⟨9, true, [Value.slice none 0 0, Value.int IntKind.i64 0, Value.int IntKind.i64 0, Value.slice none 0 0, Value.slice none 0 0, Value.int IntKind.i64 0, Value.int IntKind.i64 0, Value.slice none 0 0, Value.slice none 0 0], [(0, 4, true), (4, 4, true), (8, 1, false)], none, 152, 6, none, false⟩
theorem TLE_71_ok : TypOk Try.prog 71 TLE_71 := ⟨by kernel_rfl, by kernel_rfl, by kernel_rfl, by kernel_rfl, by kernel_rfl⟩
def TLE_78 : TI := ⟨9, true, [Value.slice none 0 0, Value.int IntKind.i64 0, Value.int IntKind.i64 0, Value.slice none 0 0, Value.slice none 0 0, Value.int IntKind.i64 0, Value.int IntKind.i64 0, Value.slice none 0 0, Value.slice none 0 0], [(0, 4, true), (4, 4, true), (8, 1, false)], none, 152, 6, none, false⟩
theorem TLE_78_ok : TypOk Try.prog 78 TLE_78 := ⟨by kernel_rfl, by kernel_rfl, by kernel_rfl, by kernel_rfl, by kernel_rfl⟩
def TLE_22 : TI := ⟨1, false, [Value.slice none 0 0], [], some 146, 24, 5, none, false⟩
theorem TLE_22_ok : TypOk Try.prog 22 TLE_22 := ⟨by kernel_rfl, by kernel_rfl, by kernel_rfl, by kernel_rfl, by kernel_rfl⟩
def TLE_3 : TI := ⟨1, false, [Value.int IntKind.i64 0], [], none, 8, 2, none, false⟩
theorem TLE_3_ok : TypOk Try.prog 3 TLE_3 := ⟨by kernel_rfl, by kernel_rfl, by kernel_rfl, by kernel_rfl, by kernel_rfl⟩
def TLE_142 : TI := ⟨1, false, [Value.slice none 0 0], [], some 71, 24, 5, none, false⟩
theorem TLE_142_ok : TypOk Try.prog 142 TLE_142 := ⟨by kernel_rfl, by kernel_rfl, by kernel_rfl, by kernel_rfl, by kernel_rfl⟩
def TLE_75 : TI := ⟨3, true, [Value.int IntKind.i64 0, Value.slice none 0 0, Value.slice none 0 0], [(0, 1, false), (1, 1, false), (2, 1, false)], none, 56, 6, none, false⟩
theorem TLE_75_ok : TypOk Try.prog 75 TLE_75 := ⟨by kernel_rfl, by kernel_rfl, by kernel_rfl, by kernel_rfl, by kernel_rfl⟩
def TLE_30 : TI := ⟨1, false, [Value.slice none 0 0], [], some 100, 24, 5, none, false⟩
theorem TLE_30_ok : TypOk Try.prog 30 TLE_30 := ⟨by kernel_rfl, by kernel_rfl, by kernel_rfl, by kernel_rfl, by kernel_rfl⟩
def TLE_100 : TI := ⟨2, true, [Value.slice none 0 0, Value.int IntKind.i64 0], [(0, 1, false), (1, 1, false)], none, 32, 6, none, false⟩
theorem TLE_100_ok : TypOk Try.prog 100 TLE_100 := ⟨by kernel_rfl, by kernel_rfl, by kernel_rfl, by kernel_rfl, by kernel_rfl⟩
def TLE_146 : TI := ⟨2, true, [Value.slice none 0 0, Value.int IntKind.i64 0], [(0, 1, false), (1, 1, false)], none, 32, 6, none, false⟩
theorem TLE_146_ok : TypOk Try.prog 146 TLE_146 := ⟨by kernel_rfl, by kernel_rfl, by kernel_rfl, by kernel_rfl, by kernel_rfl⟩
def TLE : List (Nat × TI) := [(71, TLE_71), (78, TLE_78), (22, TLE_22), (3, TLE_3), (142, TLE_142), (75, TLE_75), (30, TLE_30), (100, TLE_100), (146, TLE_146)]
theorem TLE_ok : TabOk Try.prog TLE := ((((((((((TabOk.nil _).cons TLE_146_ok).cons TLE_100_ok).cons TLE_30_ok).cons TLE_75_ok).cons TLE_142_ok).cons TLE_3_ok).cons TLE_22_ok).cons TLE_78_ok).cons TLE_71_ok)
namespace Li
theorem over_at {p : Pr} {B : List Ty} (h : (over p B).2 = 0) : may p.l p.r p.m B = 0 ∧ (over p B).1 = up p B ∧ (rt (lif B p.l 0) && rt (lif B p.r 0)) = true := by
  unfold over at h ⊢
  by_cases hm : may p.l p.r p.m B = 0
  · rw [if_neg (fun h => h hm)] at h ⊢
    refine ⟨hm, ?_⟩
    unfold done at h ⊢
    by_cases hr : (rt (up p B).l && rt (up p B).r) = true
    · rw [if_pos hr]; exact ⟨rfl, hr⟩
    · rw [if_neg hr] at h; cases h
  · rw [if_pos hm] at h; exact absurd h hm
def Sm (p : Pr) : Prop := p.l.full ≤ 400000 ∧ p.r.full ≤ 400000 ∧ Ty.sizes p.m ≤ 800000
theorem z_sm : Sm .z := ⟨by decide, by decide, by decide⟩
structure In (p : Pr) (B : List Ty) : Prop where
  l : p.l.full ≤ 150 ∧ p.l.Fit
  r : p.r.full ≤ 150 ∧ p.r.Fit
  ml : p.m.length ≤ 20
  m : ∀ t ∈ p.m, t.size ≤ 60
  bl : B.length ≤ 8
  b : ∀ t ∈ B, t.size ≤ 60
variable {p : Pr} {B : List Ty}
theorem In.bs (h : In p B) : Ty.sizes B ≤ 480 := by have := sizes_le22 h.b; have := h.bl; omega
theorem In.fullL (h : In p B) : (lif B p.l 0).full ≤ 4400000 := by have := lif_full h.b h.bl p.l 0; have := h.l.1; omega
theorem In.fullR (h : In p B) : (lif B p.r 0).full ≤ 4400000 := by have := lif_full h.b h.bl p.r 0; have := h.r.1; omega
theorem In.rtL (h : In p B) (hr : rt (lif B p.l 0) = true) : (lif B p.l 0).full ≤ 300150 := by
  have h1 := lif_wide h.b p.l 0
  have := h.l.1
  unfold rt at hr
  rw [decide_eq_true_eq] at hr
  omega
theorem In.rtR (h : In p B) (hr : rt (lif B p.r 0) = true) : (lif B p.r 0).full ≤ 300150 := by
  have h1 := lif_wide h.b p.r 0
  have := h.r.1
  unfold rt at hr
  rw [decide_eq_true_eq] at hr
  omega
theorem In.fitL (h : In p B) : (lif B p.l 0).Fit := lif_fit h.b (by have := h.bl; omega) p.l 0 (by omega) (by have := h.l.1; omega) h.l.2
theorem In.fitR (h : In p B) : (lif B p.r 0).Fit := lif_fit h.b (by have := h.bl; omega) p.r 0 (by omega) (by have := h.r.1; omega) h.r.2
theorem In.ms (h : In p B) : Ty.sizes (p.m.map (arr B)) ≤ 800000 := by
  have h1 : ∀ t ∈ p.m.map (arr B), t.size ≤ 540 := fun t ht => by
    obtain ⟨u, hu, rfl⟩ := List.mem_map.1 ht
    have h1 := h.m u hu
    have h2 := h.bs
    obtain ⟨a, b⟩ := u
    rw [ty_size] at h1
    unfold arr
    rw [ty_size, Ty.sizes_append]
    simp only [args_mk']; omega
  have := sizes_le22 h1
  rw [List.length_map] at this
  have := h.ml; omega
theorem cl_full (t : Tm) (B : List Ty) : (cl t B).full = Ty.sizes B + t.full := by
  obtain ⟨b, k, i, a⟩ := t
  unfold cl
  rw [Tm.full_eq, Tm.full_eq, Ty.sizes_append]
  simp only [bindsT, argsTm]; omega
theorem cl_fit {t : Tm} (h : t.Fit) (B : List Ty) : (cl t B).Fit := by
  obtain ⟨b, k, i, a⟩ := t
  exact Tm.fit_iff.2 (Tm.fit_iff.1 h)
theorem In.over_sm (h : In p B) : Sm (over p B).1 := by
  by_cases he : (over p B).2 = 0
  · obtain ⟨_, h2, h3⟩ := over_at he
    rw [Bool.and_eq_true] at h3
    rw [h2]
    exact ⟨by have := h.rtL h3.1; show (lif B p.l 0).full ≤ _; omega, by have := h.rtR h3.2; show (lif B p.r 0).full ≤ _; omega, h.ms⟩
  · have : (over p B).1 = .z := by
      unfold over at he ⊢
      by_cases hm : may p.l p.r p.m B = 0
      · rw [if_neg (fun h => h hm)] at he ⊢
        unfold done at he ⊢
        by_cases hr : (rt (up p B).l && rt (up p B).r) = true
        · rw [if_pos hr] at he; exact absurd rfl he
        · rw [if_neg hr]
      · rw [if_pos hm]
    rw [this]; exact z_sm
theorem In.closed_sm (h : In p B) : Sm (closed p B).1 := by
  unfold closed
  by_cases he : (over p B).2 = 0
  · rw [if_neg (fun h => h he)]
    obtain ⟨_, h2, h3⟩ := over_at he
    rw [Bool.and_eq_true] at h3
    unfold done
    split
    · rw [h2]
      have hb := h.bs
      exact ⟨by have := h.rtL h3.1; show (cl (lif B p.l 0) B).full ≤ _; rw [cl_full]; omega, by have := h.rtR h3.2; show (cl (lif B p.r 0) B).full ≤ _; rw [cl_full]; omega, h.ms⟩
    · exact z_sm
  · rw [if_pos he]; exact z_sm
end Li
theorem sizes_len (l : List Ty) : l.length ≤ Ty.sizes l := Ty.le_sizes l
set_option maxHeartbeats 4000000 in
theorem liftOvers_d (p : Li.Pr) (B0 : List Ty) (hp : p.l.Fit ∧ p.r.Fit) (hB0 : B0.length ≤ 9223372036854775807) : PureC Try.prog 7 [.ag (ePr p), .sl 2 (eTys B0) none] (.v (.bool true)) := by
 have hk := known22_d
 have hF := few17_d [p] (by simp)
 rw [show [p].all fewP = fewP p by simp] at hF
 have eP : ePrs [p] = [ePr p] := rfl
 obtain ⟨B, hBe⟩ : ∃ B, B0.take (min B0.length 8) = B := ⟨_, rfl⟩
 have hBl : B.length ≤ 8 := by rw [← hBe, List.length_take]; omega
 have e15 : (eTys B0).take (min B0.length 8) = eTys B := by rw [← hBe, eTys_map, eTys_map, List.map_take]
 have hSm := small_d 0 [] [] B (by simp) (by simp) (by omega)
 rw [List.append_nil, List.nil_append] at hSm
 rw [ePr_at] at eP ⊢
 cases hf : fewP p with
 | false =>
  rw [hf] at hF
  refine calldw 0 81 [ResultVar.tmp 4] TLE_ok Try.func7 rfl Try.ntmps7 rfl fun cx hnt hn0 => ?_
  ·skip
   refine dw_seq ?_; refine dwk [] TLE_ok hnt fun K hK => ?_; refine hK _ _ ?_; clear hK K; refine dw_seq ?_; refine dwk [(16, .v (.int .i64 (↑B0.length))), (17, .v (.int .i64 (↑(min B0.length 8)))), (18, .sl 2 (eTys B) none)] TLE_ok hnt fun K hK => ?_; refine And.intro (dintE (by rw [eTys_len])) ?_; refine And.intro (dintE (by omega)) ?_; refine And.intro (⟨by omega, by rw [eTys_len]; omega⟩) ?_; refine And.intro (VLe.of_eq (congrArg (D.sl 2 · none) e15)) ?_
   refine hK _ _ ?_; clear hK K; refine dw_seq ?_; refine dw_seq ?_; refine dwk [(20, .sl 9 (ePrs [p]) none)] TLE_ok hnt fun K hK => ?_; refine And.intro ((by rw [eP]; exact VLe.untag _ _ _)) ?_; refine dcl (hF) ?_; refine hK _ _ ?_; clear hK K; refine dw_cond (t := true) rfl ?_; rw [if_pos rfl]; refine dw_seq ?_; refine dwk [] TLE_ok hnt fun K hK => ?_; refine dcl (hk) ?_; refine hK _ _ ?_; clear hK K
   refine dw_ret ?_
   exact reta rfl
 | true =>
 cases hs : B.all few4B with
 | false =>
  rw [hf] at hF
  rw [hs] at hSm
  refine calldw 0 81 [ResultVar.tmp 4] TLE_ok Try.func7 rfl Try.ntmps7 rfl fun cx hnt hn0 => ?_
  ·skip
   refine dw_seq ?_; refine dwk [] TLE_ok hnt fun K hK => ?_; refine hK _ _ ?_; clear hK K; refine dw_seq ?_; refine dwk [(16, .v (.int .i64 (↑B0.length))), (17, .v (.int .i64 (↑(min B0.length 8)))), (18, .sl 2 (eTys B) none)] TLE_ok hnt fun K hK => ?_; refine And.intro (dintE (by rw [eTys_len])) ?_; refine And.intro (dintE (by omega)) ?_; refine And.intro (⟨by omega, by rw [eTys_len]; omega⟩) ?_; refine And.intro (VLe.of_eq (congrArg (D.sl 2 · none) e15)) ?_
   refine hK _ _ ?_; clear hK K; refine dw_seq ?_; refine dw_seq ?_; refine dwk [(20, .sl 9 (ePrs [p]) none), (24, .ag [.v (.int .i64 0), .sl 2 (eTys []) none, .sl 2 (eTys []) none])] TLE_ok hnt fun K hK => ?_; refine And.intro ((by rw [eP]; exact VLe.untag _ _ _)) ?_; refine dcl (hF) ?_; refine And.intro (auV) ?_; refine dcl (hSm) ?_; refine hK _ _ ?_; clear hK K; refine dw_cond (t := true) rfl ?_; rw [if_pos rfl]
   refine dw_seq ?_; refine dwk [] TLE_ok hnt fun K hK => ?_; refine dcl (hk) ?_; refine hK _ _ ?_; clear hK K; refine dw_ret ?_
   exact reta rfl
 | true =>
 rw [hf] at hF
 rw [hs] at hSm
 have hi : Li.In p B := by
  obtain ⟨h1, h2, h3⟩ := fewP_ok hf
  exact ⟨⟨h1.1, hp.1⟩, ⟨h1.2, hp.2⟩, h2, h3, hBl, fun b hb => fewT60 (List.all_eq_true.1 hs b hb)⟩
 have hbs := hi.bs
 have hms : Ty.sizes p.m ≤ 1200 := by have := sizes_le22 hi.m; have := hi.ml; omega
 have hTy := toTys_d B (by omega)
 have hTo := to17_d p (by have := hi.l.1; omega) (by have := hi.r.1; omega) (by omega)
 have a1 : p.l.full ≤ 90000 ∧ p.l.Fit := ⟨by have := hi.l.1; omega, hi.l.2⟩
 have a2 : p.r.full ≤ 90000 ∧ p.r.Fit := ⟨by have := hi.r.1; omega, hi.r.2⟩
 have a3 : ∀ m ∈ p.m, Ty.sizes B + m.size ≤ 900000 := fun m hm => by have := hi.m m hm; omega
 have a4 : p.m.length ≤ 900000 := by have := hi.ml; omega
 have a5 : ∀ b ∈ B, b.size ≤ 1000 := fun b hb => by have := hi.b b hb; omega
 have a6 : Li.may p.l p.r p.m B = 0 → (Li.lif B p.l 0).size ≤ 1000000 ∧ (Li.lif B p.r 0).size ≤ 1000000 := fun _ => ⟨by
  have h1 := Li.lif_size hi.b hi.bl p.l 0
  have := Tm.size_le_full p.l
  have := hi.l.1
  omega, by
  have h1 := Li.lif_size hi.b hi.bl p.r 0
  have := Tm.size_le_full p.r
  have := hi.r.1
  omega⟩
 have hO := lover_d p.l p.r p.m B a1 a2 a3 a4 a5 fun _ => ⟨⟨hi.fullL, hi.fitL, fun h => by have := hi.rtL h; omega⟩, ⟨hi.fullR, hi.fitR, fun h => by have := hi.rtR h; omega⟩, hi.ms⟩
 have hC := lclosed_d p.l p.r p.m B a1 a2 a3 a4 a5 (fun _ => ⟨⟨hi.fullL, hi.fitL, fun h => by have := hi.rtL h; omega⟩, ⟨hi.fullR, hi.fitR, fun h => by have := hi.rtR h; omega⟩, hi.ms⟩) fun h q hq => by
  obtain ⟨_, h2, h3⟩ := Li.over_at h
  rw [h2] at hq
  rw [Bool.and_eq_true] at h3
  subst hq
  exact ⟨⟨by have := hi.rtL h3.1; show _ + (Li.lif B p.l 0).full ≤ _; omega, Li.cl_fit hi.fitL B⟩, ⟨by have := hi.rtR h3.2; show _ + (Li.lif B p.r 0).full ≤ _; omega, Li.cl_fit hi.fitR B⟩, hi.ms⟩
 have hRO := rover_d p.l p.r p.m B a1 a2 a3 a4 a5 a6
 have hRC := rclosed_d p.l p.r p.m B a1 a2 a3 a4 a5 a6 fun h q hq => by
  obtain ⟨_, h2, h3⟩ := Li.over_at h
  rw [h2] at hq
  have h4 := h3
  rw [Bool.and_eq_true] at h4
  subst hq
  exact ⟨⟨by have := hi.rtL h4.1; show _ + (Li.lif B p.l 0).full ≤ _; omega, by have := hi.rtR h4.2; show _ + (Li.lif B p.r 0).full ≤ _; omega⟩, h3⟩
 have s1 := hi.over_sm
 have s2 := hi.closed_sm
 have ep : (⟨p.l, p.r, p.m⟩ : Li.Pr) = p := rfl
 rw [ep] at hO hC hRO hRC
 generalize Li.over p B = o at hO hRO s1
 generalize Li.closed p B = q at hC hRC s2
 obtain ⟨⟨ol, or, om⟩, oe⟩ := o
 obtain ⟨⟨ql, qr, qm⟩, qe⟩ := q
 dsimp only at hO hRO s1 hC hRC s2
 have m1 := sizes_len om
 have m2 := sizes_len qm
 obtain ⟨s11, s12, s13⟩ := s1
 obtain ⟨s21, s22, s23⟩ := s2
 dsimp only at s11 s12 s13 s21 s22 s23
 have f1 := of17_d ⟨ol, or, om⟩ (by dsimp only; omega) (by dsimp only; omega) (by dsimp only; omega)
 have f2 := of17_d ⟨ql, qr, qm⟩ (by dsimp only; omega) (by dsimp only; omega) (by dsimp only; omega)
 have g1 := same17_d ⟨ol, or, om⟩ ⟨ol, or, om⟩ (by dsimp only; omega) (by dsimp only; omega)
 have g2 := same17_d ⟨ql, qr, qm⟩ ⟨ql, qr, qm⟩ (by dsimp only; omega) (by dsimp only; omega)
 rw [decide_eq_true rfl] at g1 g2
 rw [ePr_at] at hO hC hRO hRC hTo
 rw [ePr_eq] at hO hC hRO hRC f1 f2 g1 g2
 refine calldw 0 81 [ResultVar.tmp 4] TLE_ok Try.func7 rfl Try.ntmps7 rfl fun cx hnt hn0 => ?_
 ·skip
  refine dw_seq ?_; refine dwk [] TLE_ok hnt fun K hK => ?_; refine hK _ _ ?_; clear hK K; refine dw_seq ?_; refine dwk [(16, .v (.int .i64 (↑B0.length))), (17, .v (.int .i64 (↑(min B0.length 8)))), (18, .sl 2 (eTys B) none)] TLE_ok hnt fun K hK => ?_; refine And.intro (dintE (by rw [eTys_len])) ?_; refine And.intro (dintE (by omega)) ?_; refine And.intro (⟨by omega, by rw [eTys_len]; omega⟩) ?_; refine And.intro (VLe.of_eq (congrArg (D.sl 2 · none) e15)) ?_
  refine hK _ _ ?_; clear hK K; refine dw_seq ?_; refine dw_seq ?_; refine dwk [(20, .sl 9 (ePrs [p]) none), (24, .ag [.v (.int .i64 0), .sl 2 (eTys []) none, .sl 2 (eTys []) none])] TLE_ok hnt fun K hK => ?_; refine And.intro ((by rw [eP]; exact VLe.untag _ _ _)) ?_; refine dcl (hF) ?_; refine And.intro (auV) ?_; refine dcl (hSm) ?_; refine hK _ _ ?_; clear hK K; refine dw_cond (t := false) rfl ?_; rw [if_neg (by simp)]
  refine dw_skip ?_; refine dw_seq ?_; refine dwk [] TLE_ok hnt fun K hK => ?_; refine dcl (hTy) ?_; refine hK _ _ ?_; clear hK K; refine dw_seq ?_; refine dwk [] TLE_ok hnt fun K hK => ?_; refine dcl (hTo) ?_; refine dcl (hO) ?_; refine hK _ _ ?_; clear hK K; refine dw_seq ?_; refine dwk [] TLE_ok hnt fun K hK => ?_; refine dcl (hRO) ?_; refine hK _ _ ?_; clear hK K; refine dw_seq ?_; refine dwk [] TLE_ok hnt fun K hK => ?_
  refine dcl (hTo) ?_; refine dcl (hC) ?_; refine hK _ _ ?_; clear hK K; refine dw_seq ?_; refine dwk [] TLE_ok hnt fun K hK => ?_; refine dcl (hRC) ?_; refine hK _ _ ?_; clear hK K; refine dw_seq ?_; refine dwkD [(62, .v (.bool true)), (73, .v (.bool true))] TLE_ok hnt fun K hK => ?_; refine dcl (hk) ?_; refine And.intro (beqT rfl) ?_; refine dcl (f1) ?_; refine dcl (g1) ?_; refine And.intro (beqT rfl) ?_
  refine dcl (f2) ?_; refine dcl (g2) ?_; refine hK _ _ (by kernel_rfl) ?_; clear hK K; refine dw_ret ?_
  exact reta rfl
end Go.Proofs.Ytdmiekaeodcehaa

