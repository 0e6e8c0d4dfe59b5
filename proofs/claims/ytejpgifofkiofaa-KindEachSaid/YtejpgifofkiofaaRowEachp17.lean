/-
  The document's Metas.
-/
import Derived.Test.YtejpgifofkiofaaRowEachp14
import Derived.Test.YtejpgifofkiofaaRowEachp16
set_option linter.unusedVariables false
set_option linter.unusedSimpArgs false
namespace Go.Proofs.Ytejpgifofkiofaa
open Go.RowKit

def Rises (out S : List Int) : Prop := out.Pairwise (· < ·) ∧ (∀ y, y ∈ out ↔ y ∈ S) ∧ out.length ≤ S.length
theorem rises_nil : Rises [] [] := ⟨.nil, by simp, by simp⟩
theorem Rises.skip {out S : List Int} {x : Int} (h : Rises out S) (hx : x ∈ out) : Rises out (S ++ [x]) :=
  ⟨h.1, fun y => by
    rw [h.2.1, List.mem_append]
    constructor
    · exact .inl
    · rintro (h' | h')
      · exact h'
      · simp at h'; subst h'; exact (h.2.1 _).1 hx, by have := h.2.2; simp; omega⟩
theorem Rises.put {out S : List Int} {x : Int} {a : Nat} (h : Rises out S) (ha : a ≤ out.length) (hlt : ∀ k (hk : k < a), out[k] < x) (hge : ∀ h' : a < out.length, ¬ out[a] < x ∧ out[a] ≠ x) : Rises (out.take a ++ [x] ++ out.drop a) (S ++ [x]) := by
  have h1 := List.pairwise_iff_getElem.1 h.1
  have hT : ∀ y ∈ out.take a, y < x := fun y hy => by
    obtain ⟨k, hk, e⟩ := List.getElem_of_mem hy
    have hk' : k < a := by simp at hk; omega
    rw [← e, List.getElem_take]; exact hlt k hk'
  have hD : ∀ y ∈ out.drop a, x < y := fun y hy => by
    obtain ⟨k, hk, e⟩ := List.getElem_of_mem hy
    have hk' : a + k < out.length := by simp at hk; omega
    rw [← e, List.getElem_drop]
    have h2 := hge (by omega)
    by_cases hk0 : k = 0
    · subst hk0; simp only [Nat.add_zero]; omega
    · have := h1 a (a + k) (by omega) hk' (by omega); omega
  refine ⟨?_, fun y => ?_, ?_⟩
  · have hp : (out.take a ++ out.drop a).Pairwise (· < ·) := by rw [List.take_append_drop]; exact h.1
    rw [List.pairwise_append] at hp
    rw [List.append_assoc, List.pairwise_append, List.singleton_append, List.pairwise_cons]
    refine ⟨hp.1, ⟨hD, hp.2.1⟩, fun y hy z hz => ?_⟩
    rcases List.mem_cons.1 hz with rfl | hz
    · exact hT y hy
    · exact hp.2.2 y hy z hz
  · rw [List.mem_append, List.mem_append, List.mem_append, ← h.2.1]
    have : y ∈ out ↔ y ∈ out.take a ∨ y ∈ out.drop a := by rw [← List.mem_append, List.take_append_drop]
    rw [this]
    constructor
    · rintro ((h' | h') | h')
      · exact .inl (.inl h')
      · exact .inr h'
      · exact .inl (.inr h')
    · rintro ((h' | h') | h')
      · exact .inl (.inl h')
      · exact .inr h'
      · exact .inl (.inr h')
  · have := h.2.2; simp; omega
theorem Rises.eq {out S : List Int} (h : Rises out S) : out = sortU S := rises_eq h.1 (sortU_spec S).1 fun x => by rw [h.2.1, (sortU_spec S).2]

theorem metasH_take (l : List (Int × Int)) (j : Nat) (h : j < l.length) : metasH (l.take (j + 1)) = metasH (l.take j) ++ if l[j].1 = 2 then [l[j].2] else [] := by
  rw [List.take_succ_eq_append_getElem h]
  unfold metasH
  rw [List.filterMap_append]
  congr 1
  by_cases hk : l[j].1 = 2
  · simp [hk]
  · simp [hk]
def metasT (l : List Tm) : List Int := l.flatMap fun t => metasH (t.heads 0)
theorem metasT_take (l : List Tm) (j : Nat) (h : j < l.length) : metasT (l.take (j + 1)) = metasT (l.take j) ++ metasH (l[j].heads 0) := by
  rw [List.take_succ_eq_append_getElem h]; unfold metasT; rw [List.flatMap_append]; simp
theorem metasT_len (l : List Tm) (m : Nat) (h : ∀ t ∈ l, t.full ≤ m) : (metasT l).length ≤ l.length * m := by
  induction l with
  | nil => simp [metasT]
  | cons t l ih =>
    have h1 := h t (by simp)
    have h2 := ih (fun u hu => h u (by simp [hu]))
    have h3 : (metasT (t :: l)).length = (metasH (t.heads 0)).length + (metasT l).length := by simp [metasT]
    have h4 : (metasH (t.heads 0)).length ≤ (t.heads 0).length := List.length_filterMap_le _ _
    have h5 := Tm.heads_len t 0
    rw [h3, List.length_cons, Nat.succ_mul]; omega

theorem IsSl.takeI {F : Nat → Prop} {w : World} {a : Option Addr} {n c : Nat} {l : List Int} (h : IsSl rpInt F w (.slice a n c) l) (k : Nat) (hk : k ≤ l.length) : IsSl rpInt F w (.slice a k c) (l.take k) := by
  obtain ⟨a', c', bl, off, X, hv, hm, ha, h1, h2⟩ := h
  cases hv
  have hl : (l.take k).length = k := by simp; omega
  refine ⟨_, _, bl, off, X, by rw [hl], by rw [hl]; omega, fun h0 => ha (by omega), fun i j u hi hu => h1 i j u (by omega) hu, fun i hi => ?_⟩
  rw [List.getElem_take]
  exact h2 i (by omega)
theorem IsSl.dropI0 {F : Nat → Prop} {w : World} {a : Option Addr} {c : Nat} {l : List Int} (h : IsSl rpInt F w (.slice a l.length c) l) (a' : Option Addr) (c' : Nat) : IsSl rpInt F w (.slice a' 0 c') (l.drop l.length) := by
  rw [List.drop_length]
  exact ⟨a', c', 0, 0, fun _ => [], rfl, by simp, fun h => absurd h (by simp), fun i _ _ hi => absurd hi (by simp), fun i hi => absurd hi (by simp)⟩
theorem IsSl.dropI00 {F : Nat → Prop} {w : World} {l : List Int} {p : Nat} (h : ¬ p < l.length) (a' : Option Addr) (c' : Nat) : IsSl rpInt F w (.slice a' 0 c') (l.drop p) := by
  rw [List.drop_eq_nil_of_le (by omega)]
  exact ⟨a', c', 0, 0, fun _ => [], rfl, by simp, fun h => absurd h (by simp), fun i _ _ hi => absurd hi (by simp), fun i hi => absurd hi (by simp)⟩
theorem IsSl.dropI01 {F : Nat → Prop} {w : World} {l : List Int} {p : Nat} (h : ¬ p < l.length) {a' : Option Addr} {n c' : Nat} (hn : n = 0) : IsSl rpInt F w (.slice a' n c') (l.drop p) := by
  subst hn; exact IsSl.dropI00 h _ _
theorem IsSl.dropI {F : Nat → Prop} {w : World} {b o n c : Nat} {l : List Int} (h : IsSl rpInt F w (.slice (some ⟨b, o, none⟩) n c) l) (k : Nat) (hk : k ≤ l.length) : IsSl rpInt F w (.slice (some ⟨b, o + k, none⟩) (n - k) (c - k)) (l.drop k) := by
  obtain ⟨a', c', bl, off, X, hv, hm, ha, h1, h2⟩ := h
  cases hv
  have hl : (l.drop k).length = l.length - k := by simp
  refine ⟨_, _, b, o + k, fun i => X (k + i), by rw [hl], by rw [hl]; omega, fun h0 => ?_, fun i j u hi hu => ?_, fun i hi => ?_⟩
  · have := ha (by omega)
    refine ⟨rfl, ?_⟩
    cases this.1; exact this.2
  · have h3 := ha (by omega)
    cases h3.1
    have := h1 (k + i) j u (by omega) hu
    rw [show o + k + i * rpInt.n + j = o + (k + i) * rpInt.n + j from by show o + k + i * 1 + j = o + (k + i) * 1 + j; omega]
    exact this
  · rw [List.getElem_drop]; exact h2 (k + i) (by omega)

theorem keep_of_below {B : Nat} {w w' : World} (h : Below B w w') : Keep (fun q => q < B) w w' := fun k o v hk hv => by
  rw [h.cell (p := ⟨k, o, none⟩) hk]; exact hv
theorem Acc.shape2 {α : Type} {r : Rp α} {E : TypeId} {base : Nat} {F : Nat → Prop} {w : World} {v : Value} {l : List α} (h : Acc r E base F w v l) : ∃ a c, v = .slice a l.length c ∧ (a = none ∨ ∃ g, a = some ⟨g, 0, none⟩) := by
  obtain ⟨X, h1, h2, h3⟩ := h
  rcases h2.2 with ⟨rfl, h0⟩ | ⟨g, cap, cur, hv, _⟩
  · exact ⟨none, 0, by rw [h0], .inl rfl⟩
  · exact ⟨_, _, hv, .inr ⟨g, rfl⟩⟩
theorem acc_empty {w : World} {base : Nat} {F : Nat → Prop} (hb : base ≤ w.heap.size) : Acc rpInt 3 base F (w.alloc (.cells #[] 3)) (.slice (some ⟨w.heap.size, 0, none⟩) 0 0) [] :=
  ⟨[], rfl, World.ownsRow_made w #[] 0 hb (by simp) rfl, fun i h => absurd h (by simp)⟩
theorem ints_sl2 {G F : Nat → Prop} {w : World} {v : Value} {l : List Int} (h : IsSl rpInt G w v l) : IsSl2 rpInt G F w v l := by
  obtain ⟨a, c, bl, off, X, hv, hm, ha, h1, h2⟩ := IsSl2.of h
  exact ⟨a, c, bl, off, X, hv, hm, ha, h1, fun i hi => h2 i hi⟩

set_option maxRecDepth 100000 in
set_option maxHeartbeats 8000000 in
theorem Metas_r {F : Nat → Prop} {w0 : World} {v : Value} {l : List Tm} (h : IsSl rpTm F w0 v l) (w : World) (hw : Keep F w0 w) (hl : l.length ≤ 9) (hsz : ∀ t ∈ l, t.full ≤ 90000) (hfit : ∀ t ∈ l, t.Fit) :
    Calls Try.prog 80 #[v] w (FreshInts (sortU (metasT l)) w) := by
  obtain ⟨a, c, rfl, hm, bl, off, ha, hc⟩ := tms_cells h
  have Hm := Lib.hid hm; have Hc := Lib.hid hc; have Hsz := Lib.hid hsz; have Hfit := Lib.hid hfit; have Hw := Lib.hid hw
  clear h hm hc hsz hfit hw
  obtain ⟨ll, hll⟩ : ∃ x, l.length = x := ⟨_, rfl⟩
  rw [hll] at ha hl ⊢
  obtain ⟨i2, hi2, hz0, hz1, hz2⟩ := info_parts infoI
  go_enter Try.func80, Try.ntmps80
  go_wp2_with fail
  go_loopw [3, 4] (fun out ii wr => ∃ (i : Nat) (oa : Option Addr) (oc : Nat) (o : List Int), ii = .int .i64 i ∧ out = .slice oa o.length oc ∧ i ≤ ll ∧ Hid (oa = none ∨ ∃ g, oa = some ⟨g, 0, none⟩) ∧ Hid (Rises o (metasT (l.take i))) ∧ Hid (IsSl rpInt (fun q => w.heap.size ≤ q) wr (.slice oa o.length oc) o) ∧ Below w.heap.size w wr) (fun _ ii _ => ll - (intOf ii).toNat)
  case atStart =>
    refine ⟨0, none, 0, [], rfl, rfl, by omega, .inl rfl, by show Rises _ _; simpa [metasT] using rises_nil, ?_, Below.refl _ _⟩
    exact ⟨none, 0, 0, 0, fun _ => [], rfl, by simp, by simp, fun i _ _ hi => absurd hi (by simp), fun i hi => absurd hi (by simp)⟩
  case round =>
    obtain ⟨i, oa, oc, o, rfl, rfl, hi, Hoa, HR, HO, hb⟩ := hrel
    have hi0 : (0 : Int) ≤ (i : Int) := Int.natCast_nonneg _
    by_cases hlt : i < ll
    · have hi1 : (i : Int) < (ll : Int) := by omega
      obtain ⟨rfl, hF⟩ := ha (by omega)
      obtain ⟨vb, vk, vi, vs, e1, e2, e3, e4, hty⟩ := Hc.out i (by omega)
      have hkp : Keep F w0 wr := Hw.out.below hb
      have e1 := hkp _ _ _ hF e1
      have e2 := hkp _ _ _ hF e2
      have e3 := hkp _ _ _ hF e3
      have e4 := hkp _ _ _ hF e4
      have Htk := Lib.hid (metasT_take l i (by omega))
      have hts := Hsz.out l[i] (List.getElem_mem _)
      have htf := Hfit.out l[i] (List.getElem_mem _)
      have Hh := Lib.hid (Heads_r hty wr hkp hts htf)
      obtain ⟨hs, hhs⟩ : ∃ hs, l[i].heads 0 = hs := ⟨_, rfl⟩
      have hhl : hs.length ≤ 90000 := by rw [← hhs]; exact Nat.le_trans (Tm.heads_len _ 0) hts
      rw [hhs] at Htk Hh
      obtain ⟨pa, pc, qa, qc, rfl, rfl, rfl, rfl⟩ := hty.shape
      clear hty hts htf hhs
      go_wp2_with fail
      refine (Hh.out).mono ?_
      intro e w1 hpost
      obtain ⟨ra, rc, rfl, hT, hb1⟩ := hpost
      have HO1 := Lib.hid (HO.out.keep ((Keep.refl _ _).below hb1))
      have hbw1 := hb.trans (hb1.mono hb.size)
      obtain ⟨_, hm1, b1, o1, ha1, hc1⟩ := hds_cells hT
      have Hc1 := Lib.hid hc1
      clear Hh HO hb hb1 hT hc1 e1 e2 e3 e4 hkp
      go_wp2_with fail
      go_loopw [3, 6] (fun out kk wr => ∃ (k : Nat) (oa : Option Addr) (oc : Nat) (o : List Int), kk = .int .i64 k ∧ out = .slice oa o.length oc ∧ k ≤ hs.length ∧ Hid (oa = none ∨ ∃ g, oa = some ⟨g, 0, none⟩) ∧ Hid (Rises o (metasT (l.take i) ++ metasH (hs.take k))) ∧ Hid (IsSl rpInt (fun q => w.heap.size ≤ q) wr (.slice oa o.length oc) o) ∧ Below w1.heap.size w1 wr) (fun _ kk _ => hs.length - (intOf kk).toNat)
      case atStart => exact ⟨0, _, _, o, rfl, rfl, by omega, Hoa, by show Rises _ _; simpa [metasH] using HR.out, HO1, Below.refl _ _⟩
      case round =>
        clear HO1 HR Hoa
        obtain ⟨k, oa, oc, o, rfl, rfl, hk, Hoa, HR, HO, hb⟩ := hrel
        have hk0 : (0 : Int) ≤ (k : Int) := Int.natCast_nonneg _
        by_cases hkl : k < hs.length
        · have hk1 : (k : Int) < (hs.length : Int) := by omega
          obtain ⟨rfl, _⟩ := ha1 (by omega)
          obtain ⟨e1, e2⟩ := Hc1.out k hkl
          have e1 := ((Keep.refl (fun _ => True) _).below hb) _ _ _ trivial e1
          have e2 := ((Keep.refl (fun _ => True) _).below hb) _ _ _ trivial e2
          have Htk2 := Lib.hid (metasH_take hs k hkl)
          obtain ⟨hd, hhd⟩ : ∃ x, hs[k].1 = x := ⟨_, rfl⟩
          obtain ⟨ix, hix⟩ : ∃ x, hs[k].2 = x := ⟨_, rfl⟩
          rw [hhd] at e1 Htk2
          rw [hix] at e2 Htk2
          clear hhd hix
          by_cases hm2 : hd = 2
          · subst hm2
            have HR2 : Hid (metasT (l.take i) ++ metasH (hs.take (k + 1)) = (metasT (l.take i) ++ metasH (hs.take k)) ++ [ix]) := by show _ = _; rw [Htk2.out, if_pos rfl, List.append_assoc]
            have holen : o.length ≤ 900000 := by
              have h1 := HR.out.2.2
              have h2 := metasT_len (l.take i) 90000 (fun t ht => Hsz.out t (List.mem_of_mem_take ht))
              have h3 : (metasH (hs.take k)).length ≤ (hs.take k).length := List.length_filterMap_le _ _
              have h4 : (l.take i).length ≤ 8 := by simp; omega
              have h5 : (metasT (l.take i)).length ≤ 720000 := Nat.le_trans h2 (Nat.le_trans (Nat.mul_le_mul_right 90000 h4) (by decide))
              have h6 : (hs.take k).length ≤ 90000 := by simp; omega
              rw [List.length_append] at h1
              omega
            obtain ⟨_, hmo, bo, oo, hao, hco⟩ := ints_cells HO.out
            have Hco := Lib.hid hco; clear hco
            go_wp2_with fail
            obtain ⟨W2, rfl⟩ : ∃ W2, W2 = wr := ⟨_, rfl⟩
            go_loopw [7] (fun at_ wr2 => ∃ (p : Nat), at_ = .int .i64 p ∧ p ≤ o.length ∧ Hid (∀ q (hq : q < p) (h : q < o.length), o[q] < ix) ∧ Below W2.heap.size W2 wr2) (fun at_ _ => o.length - (intOf at_).toNat)
            case atStart => exact ⟨0, rfl, by omega, fun q hq => absurd hq (by omega), Below.refl _ _⟩
            case round =>
              obtain ⟨p, rfl, hp, Hlt, hb2⟩ := hrel
              have hp0 : (0 : Int) ≤ (p : Int) := Int.natCast_nonneg _
              have e2 := ((Keep.refl (fun _ => True) _).below hb2) _ _ _ trivial e2
              clear e1
              by_cases hpl : p < o.length
              · have hp1 : (p : Int) < (o.length : Int) := by omega
                obtain ⟨rfl, _⟩ := hao (by omega)
                have e3 := ((Keep.refl (fun _ => True) _).below hb2) _ _ _ trivial (Hco.out p hpl)
                obtain ⟨z, hz⟩ : ∃ z, o[p] = z := ⟨_, rfl⟩
                rw [hz] at e3
                go_wp2_with fail
                refine wp_region_noPanic (wp_region_need (S := fun w' => w'.cell? ⟨bo, oo + p, none⟩ = some (.int .i64 z) ∧ w'.cell? ⟨b1, o1 + k * 2 + 1, none⟩ = some (.int .i64 ix)) (by kernel_rfl) ?_)
                have hS : (wr.drew).cell? ⟨bo, oo + p, none⟩ = some (.int .i64 z) ∧ (wr.drew).cell? ⟨b1, o1 + k * 2 + 1, none⟩ = some (.int .i64 ix) := ⟨e3, e2⟩
                refine wpN_take (i := 0) (v := ?v1) rfl (by kernel_rfl) (fun _ _ _ h => h) hS (Or.inl ⟨by rfl, ?hy1⟩) ?hr1
                case hy1 => (intro wS hSw; (try dsimp only at hSw); go_simp; (try with_reducible rfl))
                try simp only [Act.put, List.setIfInBounds_toArray, List.set_cons_zero, List.set_cons_succ, List.getElem_toArray, List.getElem_cons_zero, List.getElem_cons_succ]
                refine wpN_take (i := 1) (v := ?v2) rfl (by kernel_rfl) (fun _ _ _ h => h) hS (Or.inl ⟨by rfl, ?hy2⟩) ?hr2
                case hy2 => (intro wS hSw; (try dsimp only at hSw); go_simp; (try with_reducible rfl))
                try simp only [Act.put, List.setIfInBounds_toArray, List.set_cons_zero, List.set_cons_succ, List.getElem_toArray, List.getElem_cons_zero, List.getElem_cons_succ]
                refine wpN_take (i := 2) (v := ?v3) rfl (by kernel_rfl) (fun _ _ _ h => h) hS (Or.inl ⟨by rfl, ?hy3⟩) ?hr3
                case hy3 => (intro wS hSw; (try dsimp only at hSw); go_simp; (try with_reducible rfl))
                try simp only [Act.put, List.setIfInBounds_toArray, List.set_cons_zero, List.set_cons_succ, List.getElem_toArray, List.getElem_cons_zero, List.getElem_cons_succ]
                refine wpN_take (i := 3) (v := ?v4) rfl (by kernel_rfl) (fun _ _ _ h => h) hS (Or.inl ⟨by rfl, ?hy4⟩) ?hr4
                case hy4 => (intro wS hSw; (try dsimp only at hSw); go_simp; (try with_reducible rfl))
                try simp only [Act.put, List.setIfInBounds_toArray, List.set_cons_zero, List.set_cons_succ, List.getElem_toArray, List.getElem_cons_zero, List.getElem_cons_succ]
                refine wpN_take (i := 4) (v := ?v5) rfl (by kernel_rfl) (fun _ _ _ h => h) hS (Or.inl ⟨by rfl, ?hy5⟩) ?hr5
                case hy5 => (intro wS hSw; (try dsimp only at hSw); go_simp; (try with_reducible rfl))
                try simp only [Act.put, List.setIfInBounds_toArray, List.set_cons_zero, List.set_cons_succ, List.getElem_toArray, List.getElem_cons_zero, List.getElem_cons_succ]
                refine wpN_take (i := 5) (v := ?v6) rfl (by kernel_rfl) (fun _ _ _ h => h) hS (Or.inl ⟨by rfl, ?hy6⟩) ?hr6
                case hy6 => (intro wS hSw; (try dsimp only at hSw); go_simp; (try with_reducible rfl))
                try simp only [Act.put, List.setIfInBounds_toArray, List.set_cons_zero, List.set_cons_succ, List.getElem_toArray, List.getElem_cons_zero, List.getElem_cons_succ]
                refine wpN_take (i := 6) (v := ?v7) rfl (by kernel_rfl) (fun _ _ _ h => h) hS (Or.inl ⟨by rfl, ?hy7⟩) ?hr7
                case hy7 => (intro wS hSw; (try dsimp only at hSw); go_simp; (try with_reducible rfl))
                try simp only [Act.put, List.setIfInBounds_toArray, List.set_cons_zero, List.set_cons_succ, List.getElem_toArray, List.getElem_cons_zero, List.getElem_cons_succ]
                refine wpN_take (i := 7) (v := ?v8) rfl (by kernel_rfl) (fun _ _ _ h => h) hS (Or.inl ⟨by rfl, ?hy8⟩) ?hr8
                case hy8 => (intro wS hSw; (try dsimp only at hSw); go_simp; (try with_reducible rfl))
                try simp only [Act.put, List.setIfInBounds_toArray, List.set_cons_zero, List.set_cons_succ, List.getElem_toArray, List.getElem_cons_zero, List.getElem_cons_succ]
                refine wpN_take (i := 8) (v := ?v9) rfl (by kernel_rfl) (fun _ _ _ h => h) hS (Or.inl ⟨by rfl, ?hy9⟩) ?hr9
                case hy9 => (intro wS hSw; (try dsimp only at hSw); go_simp; (try with_reducible rfl))
                try simp only [Act.put, List.setIfInBounds_toArray, List.set_cons_zero, List.set_cons_succ, List.getElem_toArray, List.getElem_cons_zero, List.getElem_cons_succ]
                refine wpN_take (i := 9) (v := ?v10) rfl (by kernel_rfl) (fun _ _ _ h => h) hS (Or.inl ⟨by rfl, ?hy10⟩) ?hr10
                case hy10 => (intro wS hSw; (try dsimp only at hSw); go_simp; (try with_reducible rfl))
                try simp only [Act.put, List.setIfInBounds_toArray, List.set_cons_zero, List.set_cons_succ, List.getElem_toArray, List.getElem_cons_zero, List.getElem_cons_succ]
                refine wpN_take (i := 10) (v := ?v11) rfl (by kernel_rfl) (fun _ _ _ h => h) hS (Or.inl ⟨by rfl, ?hy11⟩) ?hr11
                case hy11 => (intro wS hSw; (try dsimp only at hSw); go_simp; (try with_reducible rfl))
                try simp only [Act.put, List.setIfInBounds_toArray, List.set_cons_zero, List.set_cons_succ, List.getElem_toArray, List.getElem_cons_zero, List.getElem_cons_succ]
                refine wpN_take (i := 11) (v := ?v12) rfl (by kernel_rfl) (fun _ _ _ h => h) hS (Or.inl ⟨by rfl, ?hy12⟩) ?hr12
                case hy12 => (intro wS hSw; (try dsimp only at hSw); go_simp; (try with_reducible rfl))
                try simp only [Act.put, List.setIfInBounds_toArray, List.set_cons_zero, List.set_cons_succ, List.getElem_toArray, List.getElem_cons_zero, List.getElem_cons_succ]
                refine wpN_take (i := 12) (v := ?v13) rfl (by kernel_rfl) (fun _ _ _ h => h) hS (Or.inl ⟨by rfl, ?hy13⟩) ?hr13
                case hy13 => (intro wS hSw; (try dsimp only at hSw); go_simp; (try with_reducible rfl))
                try simp only [Act.put, List.setIfInBounds_toArray, List.set_cons_zero, List.set_cons_succ, List.getElem_toArray, List.getElem_cons_zero, List.getElem_cons_succ]
                refine wpN_take (i := 13) (v := ?v14) rfl (by kernel_rfl) (fun _ _ _ h => h) hS (Or.inl ⟨by rfl, ?hy14⟩) ?hr14
                case hy14 => (intro wS hSw; (try dsimp only at hSw); go_simp; (try with_reducible rfl))
                try simp only [Act.put, List.setIfInBounds_toArray, List.set_cons_zero, List.set_cons_succ, List.getElem_toArray, List.getElem_cons_zero, List.getElem_cons_succ]
                by_cases hzi : z < ix
                · skip
                  refine wpN_take (i := 14) (v := ?v15) rfl (by kernel_rfl) (fun _ _ _ h => h) hS (Or.inl ⟨by rfl, ?hy15⟩) ?hr15
                  case hy15 => (intro wS hSw; (try dsimp only at hSw); go_simp; (try with_reducible rfl))
                  try simp only [Act.put, List.setIfInBounds_toArray, List.set_cons_zero, List.set_cons_succ, List.getElem_toArray, List.getElem_cons_zero, List.getElem_cons_succ]
                  refine wpN_take (i := 15) (v := ?v16) rfl (by kernel_rfl) (fun _ _ _ h => h) hS (Or.inl ⟨by rfl, ?hy16⟩) ?hr16
                  case hy16 => (intro wS hSw; (try dsimp only at hSw); go_simp; (try with_reducible rfl))
                  try simp only [Act.put, List.setIfInBounds_toArray, List.set_cons_zero, List.set_cons_succ, List.getElem_toArray, List.getElem_cons_zero, List.getElem_cons_succ]
                  refine wpN_done (by kernel_rfl) ?_
                  refine NoPanic.normal ?_
                  go_wp2_with fail
                  go_roundw
                  case rel =>
                    refine ⟨p + 1, by go_num, by omega, fun q hq h => ?_, below_drewN hb2 _⟩
                    by_cases hqp : q = p
                    · subst hqp; omega
                    · exact Hlt.out q (by omega) h
                  case measure => simp [intOf]; omega
                · have hzi' : ix ≤ z := by omega
                  refine wpN_take (i := 14) (v := ?v17) rfl (by kernel_rfl) (fun _ _ _ h => h) hS (Or.inl ⟨by rfl, ?hy17⟩) ?hr17
                  case hy17 => (intro wS hSw; (try dsimp only at hSw); go_simp; (try with_reducible rfl))
                  try simp only [Act.put, List.setIfInBounds_toArray, List.set_cons_zero, List.set_cons_succ, List.getElem_toArray, List.getElem_cons_zero, List.getElem_cons_succ]
                  refine wpN_take (i := 15) (v := ?v18) rfl (by kernel_rfl) (fun _ _ _ h => h) hS (Or.inl ⟨by rfl, ?hy18⟩) ?hr18
                  case hy18 => (intro wS hSw; (try dsimp only at hSw); go_simp; (try with_reducible rfl))
                  try simp only [Act.put, List.setIfInBounds_toArray, List.set_cons_zero, List.set_cons_succ, List.getElem_toArray, List.getElem_cons_zero, List.getElem_cons_succ]
                  refine wpN_done (by kernel_rfl) ?_
                  refine NoPanic.normal ?_
                  go_wp2_with fail
                  refine wp_region_noPanic (wp_region_need (S := fun w' => w'.cell? ⟨bo, oo + p, none⟩ = some (.int .i64 z) ∧ w'.cell? ⟨b1, o1 + k * 2 + 1, none⟩ = some (.int .i64 ix)) (by kernel_rfl) ?_)
                  have hS : (wr.drew.drew).cell? ⟨bo, oo + p, none⟩ = some (.int .i64 z) ∧ (wr.drew.drew).cell? ⟨b1, o1 + k * 2 + 1, none⟩ = some (.int .i64 ix) := ⟨e3, e2⟩
                  refine wpN_take (i := 0) (v := ?v19) rfl (by kernel_rfl) (fun _ _ _ h => h) hS (Or.inl ⟨by rfl, ?hy19⟩) ?hr19
                  case hy19 => (intro wS hSw; (try dsimp only at hSw); go_simp; (try with_reducible rfl))
                  try simp only [Act.put, List.setIfInBounds_toArray, List.set_cons_zero, List.set_cons_succ, List.getElem_toArray, List.getElem_cons_zero, List.getElem_cons_succ]
                  refine wpN_take (i := 1) (v := ?v20) rfl (by kernel_rfl) (fun _ _ _ h => h) hS (Or.inl ⟨by rfl, ?hy20⟩) ?hr20
                  case hy20 => (intro wS hSw; (try dsimp only at hSw); go_simp; (try with_reducible rfl))
                  try simp only [Act.put, List.setIfInBounds_toArray, List.set_cons_zero, List.set_cons_succ, List.getElem_toArray, List.getElem_cons_zero, List.getElem_cons_succ]
                  refine wpN_take (i := 2) (v := ?v21) rfl (by kernel_rfl) (fun _ _ _ h => h) hS (Or.inl ⟨by rfl, ?hy21⟩) ?hr21
                  case hy21 => (intro wS hSw; (try dsimp only at hSw); go_simp; (try with_reducible rfl))
                  try simp only [Act.put, List.setIfInBounds_toArray, List.set_cons_zero, List.set_cons_succ, List.getElem_toArray, List.getElem_cons_zero, List.getElem_cons_succ]
                  refine wpN_take (i := 3) (v := ?v22) rfl (by kernel_rfl) (fun _ _ _ h => h) hS (Or.inl ⟨by rfl, ?hy22⟩) ?hr22
                  case hy22 => (intro wS hSw; (try dsimp only at hSw); go_simp; (try with_reducible rfl))
                  try simp only [Act.put, List.setIfInBounds_toArray, List.set_cons_zero, List.set_cons_succ, List.getElem_toArray, List.getElem_cons_zero, List.getElem_cons_succ]
                  refine wpN_take (i := 4) (v := ?v23) rfl (by kernel_rfl) (fun _ _ _ h => h) hS (Or.inl ⟨by rfl, ?hy23⟩) ?hr23
                  case hy23 => (intro wS hSw; (try dsimp only at hSw); go_simp; (try with_reducible rfl))
                  try simp only [Act.put, List.setIfInBounds_toArray, List.set_cons_zero, List.set_cons_succ, List.getElem_toArray, List.getElem_cons_zero, List.getElem_cons_succ]
                  refine wpN_take (i := 5) (v := ?v24) rfl (by kernel_rfl) (fun _ _ _ h => h) hS (Or.inl ⟨by rfl, ?hy24⟩) ?hr24
                  case hy24 => (intro wS hSw; (try dsimp only at hSw); go_simp; (try with_reducible rfl))
                  try simp only [Act.put, List.setIfInBounds_toArray, List.set_cons_zero, List.set_cons_succ, List.getElem_toArray, List.getElem_cons_zero, List.getElem_cons_succ]
                  refine wpN_take (i := 6) (v := ?v25) rfl (by kernel_rfl) (fun _ _ _ h => h) hS (Or.inl ⟨by rfl, ?hy25⟩) ?hr25
                  case hy25 => (intro wS hSw; (try dsimp only at hSw); go_simp; (try with_reducible rfl))
                  try simp only [Act.put, List.setIfInBounds_toArray, List.set_cons_zero, List.set_cons_succ, List.getElem_toArray, List.getElem_cons_zero, List.getElem_cons_succ]
                  refine wpN_take (i := 7) (v := ?v26) rfl (by kernel_rfl) (fun _ _ _ h => h) hS (Or.inl ⟨by rfl, ?hy26⟩) ?hr26
                  case hy26 => (intro wS hSw; (try dsimp only at hSw); go_simp; (try with_reducible rfl))
                  try simp only [Act.put, List.setIfInBounds_toArray, List.set_cons_zero, List.set_cons_succ, List.getElem_toArray, List.getElem_cons_zero, List.getElem_cons_succ]
                  refine wpN_take (i := 8) (v := ?v27) rfl (by kernel_rfl) (fun _ _ _ h => h) hS (Or.inl ⟨by rfl, ?hy27⟩) ?hr27
                  case hy27 => (intro wS hSw; (try dsimp only at hSw); go_simp; (try with_reducible rfl))
                  try simp only [Act.put, List.setIfInBounds_toArray, List.set_cons_zero, List.set_cons_succ, List.getElem_toArray, List.getElem_cons_zero, List.getElem_cons_succ]
                  refine wpN_take (i := 9) (v := ?v28) rfl (by kernel_rfl) (fun _ _ _ h => h) hS (Or.inl ⟨by rfl, ?hy28⟩) ?hr28
                  case hy28 => (intro wS hSw; (try dsimp only at hSw); go_simp; (try with_reducible rfl))
                  try simp only [Act.put, List.setIfInBounds_toArray, List.set_cons_zero, List.set_cons_succ, List.getElem_toArray, List.getElem_cons_zero, List.getElem_cons_succ]
                  refine wpN_take (i := 10) (v := ?v29) rfl (by kernel_rfl) (fun _ _ _ h => h) hS (Or.inl ⟨by rfl, ?hy29⟩) ?hr29
                  case hy29 => (intro wS hSw; (try dsimp only at hSw); go_simp; (try with_reducible rfl))
                  try simp only [Act.put, List.setIfInBounds_toArray, List.set_cons_zero, List.set_cons_succ, List.getElem_toArray, List.getElem_cons_zero, List.getElem_cons_succ]
                  refine wpN_take (i := 11) (v := ?v30) rfl (by kernel_rfl) (fun _ _ _ h => h) hS (Or.inl ⟨by rfl, ?hy30⟩) ?hr30
                  case hy30 => (intro wS hSw; (try dsimp only at hSw); go_simp; (try with_reducible rfl))
                  try simp only [Act.put, List.setIfInBounds_toArray, List.set_cons_zero, List.set_cons_succ, List.getElem_toArray, List.getElem_cons_zero, List.getElem_cons_succ]
                  refine wpN_take (i := 12) (v := ?v31) rfl (by kernel_rfl) (fun _ _ _ h => h) hS (Or.inl ⟨by rfl, ?hy31⟩) ?hr31
                  case hy31 => (intro wS hSw; (try dsimp only at hSw); go_simp; (try with_reducible rfl))
                  try simp only [Act.put, List.setIfInBounds_toArray, List.set_cons_zero, List.set_cons_succ, List.getElem_toArray, List.getElem_cons_zero, List.getElem_cons_succ]
                  refine wpN_take (i := 13) (v := ?v32) rfl (by kernel_rfl) (fun _ _ _ h => h) hS (Or.inl ⟨by rfl, ?hy32⟩) ?hr32
                  case hy32 => (intro wS hSw; (try dsimp only at hSw); go_simp; (try with_reducible rfl))
                  try simp only [Act.put, List.setIfInBounds_toArray, List.set_cons_zero, List.set_cons_succ, List.getElem_toArray, List.getElem_cons_zero, List.getElem_cons_succ]
                  by_cases hzx : z = ix
                  · skip
                    refine wpN_take (i := 14) (v := ?v33) rfl (by kernel_rfl) (fun _ _ _ h => h) hS (Or.inl ⟨by rfl, ?hy33⟩) ?hr33
                    case hy33 => (intro wS hSw; (try dsimp only at hSw); go_simp; (try with_reducible rfl))
                    try simp only [Act.put, List.setIfInBounds_toArray, List.set_cons_zero, List.set_cons_succ, List.getElem_toArray, List.getElem_cons_zero, List.getElem_cons_succ]
                    refine wpN_take (i := 15) (v := ?v34) rfl (by kernel_rfl) (fun _ _ _ h => h) hS (Or.inl ⟨by rfl, ?hy34⟩) ?hr34
                    case hy34 => (intro wS hSw; (try dsimp only at hSw); go_simp; (try with_reducible rfl))
                    try simp only [Act.put, List.setIfInBounds_toArray, List.set_cons_zero, List.set_cons_succ, List.getElem_toArray, List.getElem_cons_zero, List.getElem_cons_succ]
                    refine wpN_done (by kernel_rfl) ?_
                    refine NoPanic.normal ?_
                    go_wp2_with fail
                    go_roundw
                    case rel =>
                      refine ⟨k + 1, _, _, o, by go_num, rfl, by omega, Hoa, ?_, Lib.hid (HO.out.keep ((Keep.refl _ _).below hb2.drew.drew)), hb.trans (hb2.drew.drew.mono hb.size)⟩
                      show Rises _ _
                      rw [HR2.out]
                      exact HR.out.skip (by rw [← hzx, ← hz]; exact List.getElem_mem _)
                    case measure => simp [intOf]; omega
                  · skip
                    refine wpN_take (i := 14) (v := ?v35) rfl (by kernel_rfl) (fun _ _ _ h => h) hS (Or.inl ⟨by rfl, ?hy35⟩) ?hr35
                    case hy35 => (intro wS hSw; (try dsimp only at hSw); go_simp; (try with_reducible rfl))
                    try simp only [Act.put, List.setIfInBounds_toArray, List.set_cons_zero, List.set_cons_succ, List.getElem_toArray, List.getElem_cons_zero, List.getElem_cons_succ]
                    refine wpN_take (i := 15) (v := ?v36) rfl (by kernel_rfl) (fun _ _ _ h => h) hS (Or.inl ⟨by rfl, ?hy36⟩) ?hr36
                    case hy36 => (intro wS hSw; (try dsimp only at hSw); go_simp; (try with_reducible rfl))
                    try simp only [Act.put, List.setIfInBounds_toArray, List.set_cons_zero, List.set_cons_succ, List.getElem_toArray, List.getElem_cons_zero, List.getElem_cons_succ]
                    refine wpN_done (by kernel_rfl) ?_
                    refine NoPanic.normal ?_
                    obtain ⟨W5, hW5⟩ : ∃ W5, wr.drew.drew = W5 := ⟨_, rfl⟩
                    have hb5 : Below W2.heap.size W2 W5 := by rw [← hW5]; exact hb2.drew.drew
                    have e5 : W5.cell? ⟨b1, o1 + k * 2 + 1, none⟩ = some (.int .i64 ix) := by rw [← hW5]; exact e2
                    have hlt5 : b1 < W5.heap.size := Keep.lt e5
                    have hne5 : ¬ (b1 = W5.heap.size) := by omega
                    have HO5 := Lib.hid ((HO.out.weaken (F' := fun q => q < W2.heap.size) (by decide) fun q hq _ => hq).keep (keep_of_below hb5))
                    try rw [hW5]
                    clear hW5 e2 hb2
                    go_wp2_with (first
                      | (at_builtin; refine wpList_push_sl rpInt (by decide) rfl _ _ _ rfl W2.heap.size 3 i2 _ 8 Try.underlying105 hi2 hz0 hz1 hz2 rfl (by decide) (fun q => W2.heap.size ≤ q) _ [] rfl (acc_empty hb5.size) _ (o.take p) rfl (ints_sl2 ((HO5.out.takeI p (by omega)).keep ((Keep.refl _ _).alloc _))) (by simp; omega) (by have := hb5.size; simp; omega) ?_
                         intro v6 W6 hacc6 hgrow6' hat6
                         have hgrow6 : World.grownBy (W5.alloc (.cells #[] 3)) W6 (some W5.heap.size) := hgrow6'
                         have hB6 : Below W2.heap.size W2 W6 := (hb5.alloc hb5.size _).grown hgrow6 (by have := hb5.size; simp; omega) (fun q hq => by cases hq; exact hb5.size)
                         have HA6 := Lib.hid hacc6
                         have HO6 := Lib.hid ((HO.out.weaken (F' := fun q => q < W2.heap.size) (by decide) fun q hq _ => hq).keep (keep_of_below hB6))
                         have e6 : W6.cell? ⟨b1, o1 + k * 2 + 1, none⟩ = some (.int .i64 ix) := hgrow6.cell (((Keep.refl (fun _ => True) _).alloc _) _ _ _ trivial e5) (by simpa using hne5)
                         clear HO5 hacc6 hgrow6 hgrow6' hat6 e5 hlt5 hne5)
                      | (at_builtin; refine wpList_push rpInt (by decide) rfl _ _ _ rfl W2.heap.size 3 i2 _ 8 Try.underlying105 hi2 hz0 hz1 hz2 rfl (by decide) (fun q => W2.heap.size ≤ q) v6 ([] ++ o.take p) rfl (HA6.out.alloc _) (by simp; omega) W6.heap.size _ [.int .i64 ix] ix rfl (Blk.new _ #[.int .i64 ix] _ rfl) rfl (by have := hB6.size; simp; omega) ?_
                         intro g7 cap7 W7 hacc7 hgrow7 hat7 hlt7
                         have hln7 : ([] ++ o.take p).length = p := by simp; omega
                         rw [hln7] at hacc7
                         clear hln7
                         have hB7 : Below W2.heap.size W2 W7 := (hB6.alloc hB6.size _).grown hgrow7 (by have := hB6.size; simp; omega) (fun q hq => (HA6.out.base_le q hq).1)
                         have HA7 := Lib.hid hacc7
                         have HO7 := Lib.hid ((HO.out.weaken (F' := fun q => q < W2.heap.size) (by decide) fun q hq _ => hq).keep (keep_of_below hB7))
                         clear HO6 HA6 hacc7 hgrow7 hat7 hlt7 hB6 e6)
                      | (at_builtin; refine wpList_push_sl rpInt (by decide) rfl _ _ _ rfl W2.heap.size 3 i2 _ 8 Try.underlying105 hi2 hz0 hz1 hz2 rfl (by decide) (fun q => W2.heap.size ≤ q) _ ([] ++ o.take p ++ [ix]) rfl HA7.out _ (o.drop p) rfl (ints_sl2 (HO7.out.dropI p (by omega))) (by simp; omega) hB7.size ?_
                         intro v8 W8 hacc8 hgrow8 hat8))
                    have hB8 : Below W2.heap.size W2 W8 := hB7.grown hgrow8 hB7.size (fun q hq => (HA7.out.base_le q hq).1)
                    obtain ⟨oa8, oc8, rfl, hoa8⟩ := hacc8.shape2
                    have HS8 := Lib.hid (hacc8.sl (F' := fun q => w.heap.size ≤ q) (fun q _ hq => by have := hbw1.size; have := hb.size; omega) (fun q hq => by have := hbw1.size; have := hb.size; omega))
                    clear hacc8 hgrow8 hat8 HA7 HO7
                    go_roundw
                    case rel =>
                      refine ⟨k + 1, oa8, oc8, _, by go_num, rfl, by omega, hoa8, ?_, HS8, hb.trans (hB8.mono hb.size)⟩
                      show Rises _ _
                      rw [HR2.out]
                      exact HR.out.put (a := p) (by omega) (fun q hq => Hlt.out q hq (by omega)) (fun h' => ⟨by rw [hz]; omega, by rw [hz]; exact hzx⟩)
                    case measure => simp [intOf]; omega
              · have hpe : p = o.length := by omega
                rcases Hoa.out with rfl | ⟨og, rfl⟩
                · have ho0 : o = [] := by
                    cases o with
                    | nil => rfl
                    | cons z zs => exact absurd (hao (by simp)).1 (by simp)
                  subst ho0
                  have hp00 : p = 0 := by rw [hpe]; rfl
                  subst hp00
                  clear hpe
                  go_wp2_with fail
                  refine wp_region_noPanic (wp_region_need (S := fun w' => w'.cell? ⟨b1, o1 + k * 2 + 1, none⟩ = some (.int .i64 ix)) (by kernel_rfl) ?_)
                  have hS : (wr.drew).cell? ⟨b1, o1 + k * 2 + 1, none⟩ = some (.int .i64 ix) := e2
                  refine wpN_take (i := 0) (v := ?v37) rfl (by kernel_rfl) (fun _ _ _ h => h) hS (Or.inl ⟨by rfl, ?hy37⟩) ?hr37
                  case hy37 => (intro wS hSw; (try dsimp only at hSw); go_simp; (try with_reducible rfl))
                  try simp only [Act.put, List.setIfInBounds_toArray, List.set_cons_zero, List.set_cons_succ, List.getElem_toArray, List.getElem_cons_zero, List.getElem_cons_succ]
                  refine wpN_take (i := 1) (v := ?v38) rfl (by kernel_rfl) (fun _ _ _ h => h) hS (Or.inl ⟨by rfl, ?hy38⟩) ?hr38
                  case hy38 => (intro wS hSw; (try dsimp only at hSw); go_simp; (try with_reducible rfl))
                  try simp only [Act.put, List.setIfInBounds_toArray, List.set_cons_zero, List.set_cons_succ, List.getElem_toArray, List.getElem_cons_zero, List.getElem_cons_succ]
                  refine wpN_take (i := 2) (v := ?v39) rfl (by kernel_rfl) (fun _ _ _ h => h) hS (Or.inl ⟨by rfl, ?hy39⟩) ?hr39
                  case hy39 => (intro wS hSw; (try dsimp only at hSw); go_simp; (try with_reducible rfl))
                  try simp only [Act.put, List.setIfInBounds_toArray, List.set_cons_zero, List.set_cons_succ, List.getElem_toArray, List.getElem_cons_zero, List.getElem_cons_succ]
                  refine wpN_take (i := 3) (v := ?v40) rfl (by kernel_rfl) (fun _ _ _ h => h) hS (Or.inl ⟨by rfl, ?hy40⟩) ?hr40
                  case hy40 => (intro wS hSw; (try dsimp only at hSw); go_simp; (try with_reducible rfl))
                  try simp only [Act.put, List.setIfInBounds_toArray, List.set_cons_zero, List.set_cons_succ, List.getElem_toArray, List.getElem_cons_zero, List.getElem_cons_succ]
                  refine wpN_take (i := 4) (v := ?v41) rfl (by kernel_rfl) (fun _ _ _ h => h) hS (Or.inl ⟨by rfl, ?hy41⟩) ?hr41
                  case hy41 => (intro wS hSw; (try dsimp only at hSw); go_simp; (try with_reducible rfl))
                  try simp only [Act.put, List.setIfInBounds_toArray, List.set_cons_zero, List.set_cons_succ, List.getElem_toArray, List.getElem_cons_zero, List.getElem_cons_succ]
                  refine wpN_pure (i := 5) (v := undef) rfl (by kernel_rfl) (fun _ _ _ h => h) (Or.inr ⟨by rfl, rfl⟩) ?_
                  try simp only [Act.put, List.setIfInBounds_toArray, List.set_cons_zero, List.set_cons_succ, List.getElem_toArray, List.getElem_cons_zero, List.getElem_cons_succ]
                  refine wpN_pure (i := 6) (v := undef) rfl (by kernel_rfl) (fun _ _ _ h => h) (Or.inr ⟨by rfl, rfl⟩) ?_
                  try simp only [Act.put, List.setIfInBounds_toArray, List.set_cons_zero, List.set_cons_succ, List.getElem_toArray, List.getElem_cons_zero, List.getElem_cons_succ]
                  refine wpN_pure (i := 7) (v := undef) rfl (by kernel_rfl) (fun _ _ _ h => h) (Or.inr ⟨by rfl, rfl⟩) ?_
                  try simp only [Act.put, List.setIfInBounds_toArray, List.set_cons_zero, List.set_cons_succ, List.getElem_toArray, List.getElem_cons_zero, List.getElem_cons_succ]
                  refine wpN_pure (i := 8) (v := undef) rfl (by kernel_rfl) (fun _ _ _ h => h) (Or.inr ⟨by rfl, rfl⟩) ?_
                  try simp only [Act.put, List.setIfInBounds_toArray, List.set_cons_zero, List.set_cons_succ, List.getElem_toArray, List.getElem_cons_zero, List.getElem_cons_succ]
                  refine wpN_pure (i := 9) (v := undef) rfl (by kernel_rfl) (fun _ _ _ h => h) (Or.inr ⟨by rfl, rfl⟩) ?_
                  try simp only [Act.put, List.setIfInBounds_toArray, List.set_cons_zero, List.set_cons_succ, List.getElem_toArray, List.getElem_cons_zero, List.getElem_cons_succ]
                  refine wpN_pure (i := 10) (v := undef) rfl (by kernel_rfl) (fun _ _ _ h => h) (Or.inr ⟨by rfl, rfl⟩) ?_
                  try simp only [Act.put, List.setIfInBounds_toArray, List.set_cons_zero, List.set_cons_succ, List.getElem_toArray, List.getElem_cons_zero, List.getElem_cons_succ]
                  refine wpN_pure (i := 11) (v := undef) rfl (by kernel_rfl) (fun _ _ _ h => h) (Or.inr ⟨by rfl, rfl⟩) ?_
                  try simp only [Act.put, List.setIfInBounds_toArray, List.set_cons_zero, List.set_cons_succ, List.getElem_toArray, List.getElem_cons_zero, List.getElem_cons_succ]
                  refine wpN_pure (i := 12) (v := undef) rfl (by kernel_rfl) (fun _ _ _ h => h) (Or.inr ⟨by rfl, rfl⟩) ?_
                  try simp only [Act.put, List.setIfInBounds_toArray, List.set_cons_zero, List.set_cons_succ, List.getElem_toArray, List.getElem_cons_zero, List.getElem_cons_succ]
                  refine wpN_pure (i := 13) (v := undef) rfl (by kernel_rfl) (fun _ _ _ h => h) (Or.inr ⟨by rfl, rfl⟩) ?_
                  try simp only [Act.put, List.setIfInBounds_toArray, List.set_cons_zero, List.set_cons_succ, List.getElem_toArray, List.getElem_cons_zero, List.getElem_cons_succ]
                  refine wpN_pure (i := 14) (v := undef) rfl (by kernel_rfl) (fun _ _ _ h => h) (Or.inr ⟨by rfl, rfl⟩) ?_
                  try simp only [Act.put, List.setIfInBounds_toArray, List.set_cons_zero, List.set_cons_succ, List.getElem_toArray, List.getElem_cons_zero, List.getElem_cons_succ]
                  refine wpN_take (i := 15) (v := ?v42) rfl (by kernel_rfl) (fun _ _ _ h => h) hS (Or.inl ⟨by rfl, ?hy42⟩) ?hr42
                  case hy42 => (intro wS hSw; (try dsimp only at hSw); go_simp; (try with_reducible rfl))
                  try simp only [Act.put, List.setIfInBounds_toArray, List.set_cons_zero, List.set_cons_succ, List.getElem_toArray, List.getElem_cons_zero, List.getElem_cons_succ]
                  refine wpN_done (by kernel_rfl) ?_
                  refine NoPanic.normal ?_
                  go_wp2_with fail
                  refine wp_region_noPanic (wp_region_need (S := fun w' => w'.cell? ⟨b1, o1 + k * 2 + 1, none⟩ = some (.int .i64 ix)) (by kernel_rfl) ?_)
                  have hS : (wr.drew.drew).cell? ⟨b1, o1 + k * 2 + 1, none⟩ = some (.int .i64 ix) := e2
                  refine wpN_take (i := 0) (v := ?v43) rfl (by kernel_rfl) (fun _ _ _ h => h) hS (Or.inl ⟨by rfl, ?hy43⟩) ?hr43
                  case hy43 => (intro wS hSw; (try dsimp only at hSw); go_simp; (try with_reducible rfl))
                  try simp only [Act.put, List.setIfInBounds_toArray, List.set_cons_zero, List.set_cons_succ, List.getElem_toArray, List.getElem_cons_zero, List.getElem_cons_succ]
                  refine wpN_take (i := 1) (v := ?v44) rfl (by kernel_rfl) (fun _ _ _ h => h) hS (Or.inl ⟨by rfl, ?hy44⟩) ?hr44
                  case hy44 => (intro wS hSw; (try dsimp only at hSw); go_simp; (try with_reducible rfl))
                  try simp only [Act.put, List.setIfInBounds_toArray, List.set_cons_zero, List.set_cons_succ, List.getElem_toArray, List.getElem_cons_zero, List.getElem_cons_succ]
                  refine wpN_take (i := 2) (v := ?v45) rfl (by kernel_rfl) (fun _ _ _ h => h) hS (Or.inl ⟨by rfl, ?hy45⟩) ?hr45
                  case hy45 => (intro wS hSw; (try dsimp only at hSw); go_simp; (try with_reducible rfl))
                  try simp only [Act.put, List.setIfInBounds_toArray, List.set_cons_zero, List.set_cons_succ, List.getElem_toArray, List.getElem_cons_zero, List.getElem_cons_succ]
                  refine wpN_take (i := 3) (v := ?v46) rfl (by kernel_rfl) (fun _ _ _ h => h) hS (Or.inl ⟨by rfl, ?hy46⟩) ?hr46
                  case hy46 => (intro wS hSw; (try dsimp only at hSw); go_simp; (try with_reducible rfl))
                  try simp only [Act.put, List.setIfInBounds_toArray, List.set_cons_zero, List.set_cons_succ, List.getElem_toArray, List.getElem_cons_zero, List.getElem_cons_succ]
                  refine wpN_take (i := 4) (v := ?v47) rfl (by kernel_rfl) (fun _ _ _ h => h) hS (Or.inl ⟨by rfl, ?hy47⟩) ?hr47
                  case hy47 => (intro wS hSw; (try dsimp only at hSw); go_simp; (try with_reducible rfl))
                  try simp only [Act.put, List.setIfInBounds_toArray, List.set_cons_zero, List.set_cons_succ, List.getElem_toArray, List.getElem_cons_zero, List.getElem_cons_succ]
                  refine wpN_pure (i := 5) (v := undef) rfl (by kernel_rfl) (fun _ _ _ h => h) (Or.inr ⟨by rfl, rfl⟩) ?_
                  try simp only [Act.put, List.setIfInBounds_toArray, List.set_cons_zero, List.set_cons_succ, List.getElem_toArray, List.getElem_cons_zero, List.getElem_cons_succ]
                  refine wpN_pure (i := 6) (v := undef) rfl (by kernel_rfl) (fun _ _ _ h => h) (Or.inr ⟨by rfl, rfl⟩) ?_
                  try simp only [Act.put, List.setIfInBounds_toArray, List.set_cons_zero, List.set_cons_succ, List.getElem_toArray, List.getElem_cons_zero, List.getElem_cons_succ]
                  refine wpN_pure (i := 7) (v := undef) rfl (by kernel_rfl) (fun _ _ _ h => h) (Or.inr ⟨by rfl, rfl⟩) ?_
                  try simp only [Act.put, List.setIfInBounds_toArray, List.set_cons_zero, List.set_cons_succ, List.getElem_toArray, List.getElem_cons_zero, List.getElem_cons_succ]
                  refine wpN_pure (i := 8) (v := undef) rfl (by kernel_rfl) (fun _ _ _ h => h) (Or.inr ⟨by rfl, rfl⟩) ?_
                  try simp only [Act.put, List.setIfInBounds_toArray, List.set_cons_zero, List.set_cons_succ, List.getElem_toArray, List.getElem_cons_zero, List.getElem_cons_succ]
                  refine wpN_pure (i := 9) (v := undef) rfl (by kernel_rfl) (fun _ _ _ h => h) (Or.inr ⟨by rfl, rfl⟩) ?_
                  try simp only [Act.put, List.setIfInBounds_toArray, List.set_cons_zero, List.set_cons_succ, List.getElem_toArray, List.getElem_cons_zero, List.getElem_cons_succ]
                  refine wpN_pure (i := 10) (v := undef) rfl (by kernel_rfl) (fun _ _ _ h => h) (Or.inr ⟨by rfl, rfl⟩) ?_
                  try simp only [Act.put, List.setIfInBounds_toArray, List.set_cons_zero, List.set_cons_succ, List.getElem_toArray, List.getElem_cons_zero, List.getElem_cons_succ]
                  refine wpN_pure (i := 11) (v := undef) rfl (by kernel_rfl) (fun _ _ _ h => h) (Or.inr ⟨by rfl, rfl⟩) ?_
                  try simp only [Act.put, List.setIfInBounds_toArray, List.set_cons_zero, List.set_cons_succ, List.getElem_toArray, List.getElem_cons_zero, List.getElem_cons_succ]
                  refine wpN_pure (i := 12) (v := undef) rfl (by kernel_rfl) (fun _ _ _ h => h) (Or.inr ⟨by rfl, rfl⟩) ?_
                  try simp only [Act.put, List.setIfInBounds_toArray, List.set_cons_zero, List.set_cons_succ, List.getElem_toArray, List.getElem_cons_zero, List.getElem_cons_succ]
                  refine wpN_pure (i := 13) (v := undef) rfl (by kernel_rfl) (fun _ _ _ h => h) (Or.inr ⟨by rfl, rfl⟩) ?_
                  try simp only [Act.put, List.setIfInBounds_toArray, List.set_cons_zero, List.set_cons_succ, List.getElem_toArray, List.getElem_cons_zero, List.getElem_cons_succ]
                  refine wpN_pure (i := 14) (v := undef) rfl (by kernel_rfl) (fun _ _ _ h => h) (Or.inr ⟨by rfl, rfl⟩) ?_
                  try simp only [Act.put, List.setIfInBounds_toArray, List.set_cons_zero, List.set_cons_succ, List.getElem_toArray, List.getElem_cons_zero, List.getElem_cons_succ]
                  refine wpN_take (i := 15) (v := ?v48) rfl (by kernel_rfl) (fun _ _ _ h => h) hS (Or.inl ⟨by rfl, ?hy48⟩) ?hr48
                  case hy48 => (intro wS hSw; (try dsimp only at hSw); go_simp; (try with_reducible rfl))
                  try simp only [Act.put, List.setIfInBounds_toArray, List.set_cons_zero, List.set_cons_succ, List.getElem_toArray, List.getElem_cons_zero, List.getElem_cons_succ]
                  refine wpN_done (by kernel_rfl) ?_
                  refine NoPanic.normal ?_
                  obtain ⟨W5, hW5⟩ : ∃ W5, wr.drew.drew = W5 := ⟨_, rfl⟩
                  have hb5 : Below W2.heap.size W2 W5 := by rw [← hW5]; exact hb2.drew.drew
                  have e5 : W5.cell? ⟨b1, o1 + k * 2 + 1, none⟩ = some (.int .i64 ix) := by rw [← hW5]; exact e2
                  have hlt5 : b1 < W5.heap.size := Keep.lt e5
                  have hne5 : ¬ (b1 = W5.heap.size) := by omega
                  have HO5 := Lib.hid ((HO.out.weaken (F' := fun q => q < W2.heap.size) (by decide) fun q hq _ => hq).keep (keep_of_below hb5))
                  try rw [hW5]
                  clear hW5 e2 hb2
                  go_wp2_with (first
                    | (at_builtin; refine wpList_push_sl rpInt (by decide) rfl _ _ _ rfl W2.heap.size 3 i2 _ 8 Try.underlying105 hi2 hz0 hz1 hz2 rfl (by decide) (fun q => W2.heap.size ≤ q) _ [] rfl (acc_empty hb5.size) _ (([] : List Int).take 0) rfl (ints_sl2 ((HO5.out.takeI 0 (by simp)).keep ((Keep.refl _ _).alloc _))) (by simp <;> omega) (by have := hb5.size; simp <;> omega) ?_
                       intro v6 W6 hacc6 hgrow6' hat6
                       have hgrow6 : World.grownBy (W5.alloc (.cells #[] 3)) W6 (some W5.heap.size) := hgrow6'
                       have hB6 : Below W2.heap.size W2 W6 := (hb5.alloc hb5.size _).grown hgrow6 (by have := hb5.size; simp <;> omega) (fun q hq => by cases hq; exact hb5.size)
                       have HA6 := Lib.hid hacc6
                       have HO6 := Lib.hid ((HO.out.weaken (F' := fun q => q < W2.heap.size) (by decide) fun q hq _ => hq).keep (keep_of_below hB6))
                       have e6 : W6.cell? ⟨b1, o1 + k * 2 + 1, none⟩ = some (.int .i64 ix) := hgrow6.cell (((Keep.refl (fun _ => True) _).alloc _) _ _ _ trivial e5) (by simpa using hne5)
                       clear HO5 hacc6 hgrow6 hgrow6' hat6 e5 hlt5 hne5)
                    | (at_builtin; refine wpList_push rpInt (by decide) rfl _ _ _ rfl W2.heap.size 3 i2 _ 8 Try.underlying105 hi2 hz0 hz1 hz2 rfl (by decide) (fun q => W2.heap.size ≤ q) v6 ([] ++ ([] : List Int).take 0) rfl (HA6.out.alloc _) (by simp <;> omega) W6.heap.size _ [.int .i64 ix] ix rfl (Blk.new _ #[.int .i64 ix] _ rfl) rfl (by have := hB6.size; simp <;> omega) ?_
                       intro g7 cap7 W7 hacc7 hgrow7 hat7 hlt7
                       have hln7 : ([] ++ ([] : List Int).take 0).length = 0 := by simp <;> omega
                       rw [hln7] at hacc7
                       clear hln7
                       have hB7 : Below W2.heap.size W2 W7 := (hB6.alloc hB6.size _).grown hgrow7 (by have := hB6.size; simp <;> omega) (fun q hq => (HA6.out.base_le q hq).1)
                       have HA7 := Lib.hid hacc7
                       have HO7 := Lib.hid ((HO.out.weaken (F' := fun q => q < W2.heap.size) (by decide) fun q hq _ => hq).keep (keep_of_below hB7))
                       clear HO6 HA6 hacc7 hgrow7 hat7 hlt7 hB6 e6)
                    | (at_builtin; refine wpList_push_sl rpInt (by decide) rfl _ _ _ rfl W2.heap.size 3 i2 _ 8 Try.underlying105 hi2 hz0 hz1 hz2 rfl (by decide) (fun q => W2.heap.size ≤ q) _ ([] ++ ([] : List Int).take 0 ++ [ix]) rfl HA7.out _ (([] : List Int).drop 0) rfl (ints_sl2 (G := fun q => q < W2.heap.size) (IsSl.dropI00 (l := []) (p := 0) (by simp) _ _)) (by simp <;> omega) hB7.size ?_
                       intro v8 W8 hacc8 hgrow8 hat8))
                  have hB8 : Below W2.heap.size W2 W8 := hB7.grown hgrow8 hB7.size (fun q hq => (HA7.out.base_le q hq).1)
                  obtain ⟨oa8, oc8, rfl, hoa8⟩ := hacc8.shape2
                  have HS8 := Lib.hid (hacc8.sl (F' := fun q => w.heap.size ≤ q) (fun q _ hq => by have := hbw1.size; have := hb.size; omega) (fun q hq => by have := hbw1.size; have := hb.size; omega))
                  clear hacc8 hgrow8 hat8 HA7 HO7
                  go_roundw
                  case rel =>
                    refine ⟨k + 1, oa8, oc8, _, by go_num, rfl, by omega, hoa8, ?_, HS8, hb.trans (hB8.mono hb.size)⟩
                    show Rises _ _
                    rw [HR2.out]
                    exact HR.out.put (a := 0) (by omega) (fun q hq => absurd hq (by omega)) (fun h' => absurd h' (by simp))
                  case measure => simp [intOf]; omega
                · clear hpe
                  go_wp2_with fail
                  refine wp_region_noPanic (wp_region_need (S := fun w' => w'.cell? ⟨b1, o1 + k * 2 + 1, none⟩ = some (.int .i64 ix)) (by kernel_rfl) ?_)
                  have hS : (wr.drew).cell? ⟨b1, o1 + k * 2 + 1, none⟩ = some (.int .i64 ix) := e2
                  refine wpN_take (i := 0) (v := ?v49) rfl (by kernel_rfl) (fun _ _ _ h => h) hS (Or.inl ⟨by rfl, ?hy49⟩) ?hr49
                  case hy49 => (intro wS hSw; (try dsimp only at hSw); go_simp; (try with_reducible rfl))
                  try simp only [Act.put, List.setIfInBounds_toArray, List.set_cons_zero, List.set_cons_succ, List.getElem_toArray, List.getElem_cons_zero, List.getElem_cons_succ]
                  refine wpN_take (i := 1) (v := ?v50) rfl (by kernel_rfl) (fun _ _ _ h => h) hS (Or.inl ⟨by rfl, ?hy50⟩) ?hr50
                  case hy50 => (intro wS hSw; (try dsimp only at hSw); go_simp; (try with_reducible rfl))
                  try simp only [Act.put, List.setIfInBounds_toArray, List.set_cons_zero, List.set_cons_succ, List.getElem_toArray, List.getElem_cons_zero, List.getElem_cons_succ]
                  refine wpN_take (i := 2) (v := ?v51) rfl (by kernel_rfl) (fun _ _ _ h => h) hS (Or.inl ⟨by rfl, ?hy51⟩) ?hr51
                  case hy51 => (intro wS hSw; (try dsimp only at hSw); go_simp; (try with_reducible rfl))
                  try simp only [Act.put, List.setIfInBounds_toArray, List.set_cons_zero, List.set_cons_succ, List.getElem_toArray, List.getElem_cons_zero, List.getElem_cons_succ]
                  refine wpN_take (i := 3) (v := ?v52) rfl (by kernel_rfl) (fun _ _ _ h => h) hS (Or.inl ⟨by rfl, ?hy52⟩) ?hr52
                  case hy52 => (intro wS hSw; (try dsimp only at hSw); go_simp; (try with_reducible rfl))
                  try simp only [Act.put, List.setIfInBounds_toArray, List.set_cons_zero, List.set_cons_succ, List.getElem_toArray, List.getElem_cons_zero, List.getElem_cons_succ]
                  refine wpN_take (i := 4) (v := ?v53) rfl (by kernel_rfl) (fun _ _ _ h => h) hS (Or.inl ⟨by rfl, ?hy53⟩) ?hr53
                  case hy53 => (intro wS hSw; (try dsimp only at hSw); go_simp; (try with_reducible rfl))
                  try simp only [Act.put, List.setIfInBounds_toArray, List.set_cons_zero, List.set_cons_succ, List.getElem_toArray, List.getElem_cons_zero, List.getElem_cons_succ]
                  refine wpN_pure (i := 5) (v := undef) rfl (by kernel_rfl) (fun _ _ _ h => h) (Or.inr ⟨by rfl, rfl⟩) ?_
                  try simp only [Act.put, List.setIfInBounds_toArray, List.set_cons_zero, List.set_cons_succ, List.getElem_toArray, List.getElem_cons_zero, List.getElem_cons_succ]
                  refine wpN_pure (i := 6) (v := undef) rfl (by kernel_rfl) (fun _ _ _ h => h) (Or.inr ⟨by rfl, rfl⟩) ?_
                  try simp only [Act.put, List.setIfInBounds_toArray, List.set_cons_zero, List.set_cons_succ, List.getElem_toArray, List.getElem_cons_zero, List.getElem_cons_succ]
                  refine wpN_pure (i := 7) (v := undef) rfl (by kernel_rfl) (fun _ _ _ h => h) (Or.inr ⟨by rfl, rfl⟩) ?_
                  try simp only [Act.put, List.setIfInBounds_toArray, List.set_cons_zero, List.set_cons_succ, List.getElem_toArray, List.getElem_cons_zero, List.getElem_cons_succ]
                  refine wpN_pure (i := 8) (v := undef) rfl (by kernel_rfl) (fun _ _ _ h => h) (Or.inr ⟨by rfl, rfl⟩) ?_
                  try simp only [Act.put, List.setIfInBounds_toArray, List.set_cons_zero, List.set_cons_succ, List.getElem_toArray, List.getElem_cons_zero, List.getElem_cons_succ]
                  refine wpN_pure (i := 9) (v := undef) rfl (by kernel_rfl) (fun _ _ _ h => h) (Or.inr ⟨by rfl, rfl⟩) ?_
                  try simp only [Act.put, List.setIfInBounds_toArray, List.set_cons_zero, List.set_cons_succ, List.getElem_toArray, List.getElem_cons_zero, List.getElem_cons_succ]
                  refine wpN_pure (i := 10) (v := undef) rfl (by kernel_rfl) (fun _ _ _ h => h) (Or.inr ⟨by rfl, rfl⟩) ?_
                  try simp only [Act.put, List.setIfInBounds_toArray, List.set_cons_zero, List.set_cons_succ, List.getElem_toArray, List.getElem_cons_zero, List.getElem_cons_succ]
                  refine wpN_pure (i := 11) (v := undef) rfl (by kernel_rfl) (fun _ _ _ h => h) (Or.inr ⟨by rfl, rfl⟩) ?_
                  try simp only [Act.put, List.setIfInBounds_toArray, List.set_cons_zero, List.set_cons_succ, List.getElem_toArray, List.getElem_cons_zero, List.getElem_cons_succ]
                  refine wpN_pure (i := 12) (v := undef) rfl (by kernel_rfl) (fun _ _ _ h => h) (Or.inr ⟨by rfl, rfl⟩) ?_
                  try simp only [Act.put, List.setIfInBounds_toArray, List.set_cons_zero, List.set_cons_succ, List.getElem_toArray, List.getElem_cons_zero, List.getElem_cons_succ]
                  refine wpN_pure (i := 13) (v := undef) rfl (by kernel_rfl) (fun _ _ _ h => h) (Or.inr ⟨by rfl, rfl⟩) ?_
                  try simp only [Act.put, List.setIfInBounds_toArray, List.set_cons_zero, List.set_cons_succ, List.getElem_toArray, List.getElem_cons_zero, List.getElem_cons_succ]
                  refine wpN_pure (i := 14) (v := undef) rfl (by kernel_rfl) (fun _ _ _ h => h) (Or.inr ⟨by rfl, rfl⟩) ?_
                  try simp only [Act.put, List.setIfInBounds_toArray, List.set_cons_zero, List.set_cons_succ, List.getElem_toArray, List.getElem_cons_zero, List.getElem_cons_succ]
                  refine wpN_take (i := 15) (v := ?v54) rfl (by kernel_rfl) (fun _ _ _ h => h) hS (Or.inl ⟨by rfl, ?hy54⟩) ?hr54
                  case hy54 => (intro wS hSw; (try dsimp only at hSw); go_simp; (try with_reducible rfl))
                  try simp only [Act.put, List.setIfInBounds_toArray, List.set_cons_zero, List.set_cons_succ, List.getElem_toArray, List.getElem_cons_zero, List.getElem_cons_succ]
                  refine wpN_done (by kernel_rfl) ?_
                  refine NoPanic.normal ?_
                  go_wp2_with fail
                  refine wp_region_noPanic (wp_region_need (S := fun w' => w'.cell? ⟨b1, o1 + k * 2 + 1, none⟩ = some (.int .i64 ix)) (by kernel_rfl) ?_)
                  have hS : (wr.drew.drew).cell? ⟨b1, o1 + k * 2 + 1, none⟩ = some (.int .i64 ix) := e2
                  refine wpN_take (i := 0) (v := ?v55) rfl (by kernel_rfl) (fun _ _ _ h => h) hS (Or.inl ⟨by rfl, ?hy55⟩) ?hr55
                  case hy55 => (intro wS hSw; (try dsimp only at hSw); go_simp; (try with_reducible rfl))
                  try simp only [Act.put, List.setIfInBounds_toArray, List.set_cons_zero, List.set_cons_succ, List.getElem_toArray, List.getElem_cons_zero, List.getElem_cons_succ]
                  refine wpN_take (i := 1) (v := ?v56) rfl (by kernel_rfl) (fun _ _ _ h => h) hS (Or.inl ⟨by rfl, ?hy56⟩) ?hr56
                  case hy56 => (intro wS hSw; (try dsimp only at hSw); go_simp; (try with_reducible rfl))
                  try simp only [Act.put, List.setIfInBounds_toArray, List.set_cons_zero, List.set_cons_succ, List.getElem_toArray, List.getElem_cons_zero, List.getElem_cons_succ]
                  refine wpN_take (i := 2) (v := ?v57) rfl (by kernel_rfl) (fun _ _ _ h => h) hS (Or.inl ⟨by rfl, ?hy57⟩) ?hr57
                  case hy57 => (intro wS hSw; (try dsimp only at hSw); go_simp; (try with_reducible rfl))
                  try simp only [Act.put, List.setIfInBounds_toArray, List.set_cons_zero, List.set_cons_succ, List.getElem_toArray, List.getElem_cons_zero, List.getElem_cons_succ]
                  refine wpN_take (i := 3) (v := ?v58) rfl (by kernel_rfl) (fun _ _ _ h => h) hS (Or.inl ⟨by rfl, ?hy58⟩) ?hr58
                  case hy58 => (intro wS hSw; (try dsimp only at hSw); go_simp; (try with_reducible rfl))
                  try simp only [Act.put, List.setIfInBounds_toArray, List.set_cons_zero, List.set_cons_succ, List.getElem_toArray, List.getElem_cons_zero, List.getElem_cons_succ]
                  refine wpN_take (i := 4) (v := ?v59) rfl (by kernel_rfl) (fun _ _ _ h => h) hS (Or.inl ⟨by rfl, ?hy59⟩) ?hr59
                  case hy59 => (intro wS hSw; (try dsimp only at hSw); go_simp; (try with_reducible rfl))
                  try simp only [Act.put, List.setIfInBounds_toArray, List.set_cons_zero, List.set_cons_succ, List.getElem_toArray, List.getElem_cons_zero, List.getElem_cons_succ]
                  refine wpN_pure (i := 5) (v := undef) rfl (by kernel_rfl) (fun _ _ _ h => h) (Or.inr ⟨by rfl, rfl⟩) ?_
                  try simp only [Act.put, List.setIfInBounds_toArray, List.set_cons_zero, List.set_cons_succ, List.getElem_toArray, List.getElem_cons_zero, List.getElem_cons_succ]
                  refine wpN_pure (i := 6) (v := undef) rfl (by kernel_rfl) (fun _ _ _ h => h) (Or.inr ⟨by rfl, rfl⟩) ?_
                  try simp only [Act.put, List.setIfInBounds_toArray, List.set_cons_zero, List.set_cons_succ, List.getElem_toArray, List.getElem_cons_zero, List.getElem_cons_succ]
                  refine wpN_pure (i := 7) (v := undef) rfl (by kernel_rfl) (fun _ _ _ h => h) (Or.inr ⟨by rfl, rfl⟩) ?_
                  try simp only [Act.put, List.setIfInBounds_toArray, List.set_cons_zero, List.set_cons_succ, List.getElem_toArray, List.getElem_cons_zero, List.getElem_cons_succ]
                  refine wpN_pure (i := 8) (v := undef) rfl (by kernel_rfl) (fun _ _ _ h => h) (Or.inr ⟨by rfl, rfl⟩) ?_
                  try simp only [Act.put, List.setIfInBounds_toArray, List.set_cons_zero, List.set_cons_succ, List.getElem_toArray, List.getElem_cons_zero, List.getElem_cons_succ]
                  refine wpN_pure (i := 9) (v := undef) rfl (by kernel_rfl) (fun _ _ _ h => h) (Or.inr ⟨by rfl, rfl⟩) ?_
                  try simp only [Act.put, List.setIfInBounds_toArray, List.set_cons_zero, List.set_cons_succ, List.getElem_toArray, List.getElem_cons_zero, List.getElem_cons_succ]
                  refine wpN_pure (i := 10) (v := undef) rfl (by kernel_rfl) (fun _ _ _ h => h) (Or.inr ⟨by rfl, rfl⟩) ?_
                  try simp only [Act.put, List.setIfInBounds_toArray, List.set_cons_zero, List.set_cons_succ, List.getElem_toArray, List.getElem_cons_zero, List.getElem_cons_succ]
                  refine wpN_pure (i := 11) (v := undef) rfl (by kernel_rfl) (fun _ _ _ h => h) (Or.inr ⟨by rfl, rfl⟩) ?_
                  try simp only [Act.put, List.setIfInBounds_toArray, List.set_cons_zero, List.set_cons_succ, List.getElem_toArray, List.getElem_cons_zero, List.getElem_cons_succ]
                  refine wpN_pure (i := 12) (v := undef) rfl (by kernel_rfl) (fun _ _ _ h => h) (Or.inr ⟨by rfl, rfl⟩) ?_
                  try simp only [Act.put, List.setIfInBounds_toArray, List.set_cons_zero, List.set_cons_succ, List.getElem_toArray, List.getElem_cons_zero, List.getElem_cons_succ]
                  refine wpN_pure (i := 13) (v := undef) rfl (by kernel_rfl) (fun _ _ _ h => h) (Or.inr ⟨by rfl, rfl⟩) ?_
                  try simp only [Act.put, List.setIfInBounds_toArray, List.set_cons_zero, List.set_cons_succ, List.getElem_toArray, List.getElem_cons_zero, List.getElem_cons_succ]
                  refine wpN_pure (i := 14) (v := undef) rfl (by kernel_rfl) (fun _ _ _ h => h) (Or.inr ⟨by rfl, rfl⟩) ?_
                  try simp only [Act.put, List.setIfInBounds_toArray, List.set_cons_zero, List.set_cons_succ, List.getElem_toArray, List.getElem_cons_zero, List.getElem_cons_succ]
                  refine wpN_take (i := 15) (v := ?v60) rfl (by kernel_rfl) (fun _ _ _ h => h) hS (Or.inl ⟨by rfl, ?hy60⟩) ?hr60
                  case hy60 => (intro wS hSw; (try dsimp only at hSw); go_simp; (try with_reducible rfl))
                  try simp only [Act.put, List.setIfInBounds_toArray, List.set_cons_zero, List.set_cons_succ, List.getElem_toArray, List.getElem_cons_zero, List.getElem_cons_succ]
                  refine wpN_done (by kernel_rfl) ?_
                  refine NoPanic.normal ?_
                  obtain ⟨W5, hW5⟩ : ∃ W5, wr.drew.drew = W5 := ⟨_, rfl⟩
                  have hb5 : Below W2.heap.size W2 W5 := by rw [← hW5]; exact hb2.drew.drew
                  have e5 : W5.cell? ⟨b1, o1 + k * 2 + 1, none⟩ = some (.int .i64 ix) := by rw [← hW5]; exact e2
                  have hlt5 : b1 < W5.heap.size := Keep.lt e5
                  have hne5 : ¬ (b1 = W5.heap.size) := by omega
                  have HO5 := Lib.hid ((HO.out.weaken (F' := fun q => q < W2.heap.size) (by decide) fun q hq _ => hq).keep (keep_of_below hb5))
                  try rw [hW5]
                  clear hW5 e2 hb2
                  go_wp2_with (first
                    | (at_builtin; refine wpList_push_sl rpInt (by decide) rfl _ _ _ rfl W2.heap.size 3 i2 _ 8 Try.underlying105 hi2 hz0 hz1 hz2 rfl (by decide) (fun q => W2.heap.size ≤ q) _ [] rfl (acc_empty hb5.size) _ (o.take p) rfl (ints_sl2 ((HO5.out.takeI p (by omega)).keep ((Keep.refl _ _).alloc _))) (by simp <;> omega) (by have := hb5.size; simp <;> omega) ?_
                       intro v6 W6 hacc6 hgrow6' hat6
                       have hgrow6 : World.grownBy (W5.alloc (.cells #[] 3)) W6 (some W5.heap.size) := hgrow6'
                       have hB6 : Below W2.heap.size W2 W6 := (hb5.alloc hb5.size _).grown hgrow6 (by have := hb5.size; simp <;> omega) (fun q hq => by cases hq; exact hb5.size)
                       have HA6 := Lib.hid hacc6
                       have HO6 := Lib.hid ((HO.out.weaken (F' := fun q => q < W2.heap.size) (by decide) fun q hq _ => hq).keep (keep_of_below hB6))
                       have e6 : W6.cell? ⟨b1, o1 + k * 2 + 1, none⟩ = some (.int .i64 ix) := hgrow6.cell (((Keep.refl (fun _ => True) _).alloc _) _ _ _ trivial e5) (by simpa using hne5)
                       clear HO5 hacc6 hgrow6 hgrow6' hat6 e5 hlt5 hne5)
                    | (at_builtin; refine wpList_push rpInt (by decide) rfl _ _ _ rfl W2.heap.size 3 i2 _ 8 Try.underlying105 hi2 hz0 hz1 hz2 rfl (by decide) (fun q => W2.heap.size ≤ q) v6 ([] ++ o.take p) rfl (HA6.out.alloc _) (by simp <;> omega) W6.heap.size _ [.int .i64 ix] ix rfl (Blk.new _ #[.int .i64 ix] _ rfl) rfl (by have := hB6.size; simp <;> omega) ?_
                       intro g7 cap7 W7 hacc7 hgrow7 hat7 hlt7
                       have hln7 : ([] ++ o.take p).length = p := by simp <;> omega
                       rw [hln7] at hacc7
                       clear hln7
                       have hB7 : Below W2.heap.size W2 W7 := (hB6.alloc hB6.size _).grown hgrow7 (by have := hB6.size; simp <;> omega) (fun q hq => (HA6.out.base_le q hq).1)
                       have HA7 := Lib.hid hacc7
                       have HO7 := Lib.hid ((HO.out.weaken (F' := fun q => q < W2.heap.size) (by decide) fun q hq _ => hq).keep (keep_of_below hB7))
                       clear HO6 HA6 hacc7 hgrow7 hat7 hlt7 hB6 e6)
                    | (at_builtin; refine wpList_push_sl rpInt (by decide) rfl _ _ _ rfl W2.heap.size 3 i2 _ 8 Try.underlying105 hi2 hz0 hz1 hz2 rfl (by decide) (fun q => W2.heap.size ≤ q) _ ([] ++ o.take p ++ [ix]) rfl HA7.out _ (o.drop p) rfl (ints_sl2 (G := fun q => q < W2.heap.size) (IsSl.dropI01 hpl (by omega))) (by simp <;> omega) hB7.size ?_
                       intro v8 W8 hacc8 hgrow8 hat8))
                  have hB8 : Below W2.heap.size W2 W8 := hB7.grown hgrow8 hB7.size (fun q hq => (HA7.out.base_le q hq).1)
                  obtain ⟨oa8, oc8, rfl, hoa8⟩ := hacc8.shape2
                  have HS8 := Lib.hid (hacc8.sl (F' := fun q => w.heap.size ≤ q) (fun q _ hq => by have := hbw1.size; have := hb.size; omega) (fun q hq => by have := hbw1.size; have := hb.size; omega))
                  clear hacc8 hgrow8 hat8 HA7 HO7
                  go_roundw
                  case rel =>
                    refine ⟨k + 1, oa8, oc8, _, by go_num, rfl, by omega, hoa8, ?_, HS8, hb.trans (hB8.mono hb.size)⟩
                    show Rises _ _
                    rw [HR2.out]
                    exact HR.out.put (a := p) (by omega) (fun q hq => Hlt.out q hq (by omega)) (fun h' => absurd h' hpl)
                  case measure => simp [intOf]; omega
          · have hm2' : (hd == 2) = false := by simpa using hm2
            have HR2 : Hid (metasT (l.take i) ++ metasH (hs.take (k + 1)) = (metasT (l.take i) ++ metasH (hs.take k))) := by show _ = _; rw [Htk2.out, if_neg hm2, List.append_nil]
            go_wp2_with fail
            go_roundw
            case rel => exact ⟨k + 1, _, _, o, by go_num, rfl, by omega, Hoa, by show Rises _ _; rw [HR2.out]; exact HR.out, HO, hb⟩
            case measure => simp [intOf]; omega
        · have hkk : k = hs.length := by omega
          have HR2 : Hid (Rises o (metasT (l.take (i + 1)))) := by show Rises _ _; rw [Htk.out]; have := HR.out; rw [show hs.take k = hs from List.take_of_length_le (by omega)] at this; exact this
          go_wp2_with fail
          go_roundw
          case rel => exact ⟨i + 1, _, _, o, by go_num, rfl, by omega, Hoa, HR2, HO, hbw1.trans (hb.mono hbw1.size)⟩
          case measure => simp [intOf]; omega
    · have HR2 := HR.out
      rw [List.take_of_length_le (by omega)] at HR2
      have he := HR2.eq
      go_wp2_with fail
      go_ret
      rw [← he]
      exact ⟨oa, oc, rfl, HO.out, hb⟩
end Go.Proofs.Ytejpgifofkiofaa

