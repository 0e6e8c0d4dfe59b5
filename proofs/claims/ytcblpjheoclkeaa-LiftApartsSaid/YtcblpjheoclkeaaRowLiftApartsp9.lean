/-
  term.Metas. Package lift, walked in the deep way: may, done, Over, Closed, Subst; spot.Close. Terms that are the same, as deep contracts. Package match, walked in the deep way: put. Package match, walked in the deep way: walk, may. Deep values: regions with steps through a map. Package match, walked in the deep way: what was found as a substitution; several at once. The known answer of the laws of layer 12. Lists of pairs, there and back. Lists of pairs in the laws of layer 9: To, Few. Package subst's lists, walked in the deep way: Clone, Without, Set, Domain, Get. Package subst's lists, walked in the deep way: Set, Domain, Get, Equal; terms that are the same. Package subst's lists, walked in the deep way: Get, Equal. The document's lists of pairs, walked in the deep way: Sorted, Get, Without, Domain, Same. LiftSubsts, walked in the deep way. How large long forms are, and that their indexes fit. How large lifted terms are, and that their indexes fit. The document's Take, walked in the deep way; what is wrong with a pattern. The document's Like. The document's Metas. The document's Metas, walked in the deep way. Which of two types is less: by size, by how many arguments, argument by argument, by base; and what that order promises. Which of two terms is less: the plain law. sign, cmp.Compare and cmp.Or of ints. The document's order of types. The document's order of terms. The type of a head: the program's and the document's. The type of a head: the document's. Whether a term is of a type: the plain law. A context with more binders: the program's and the document's. term.is: whether a term is of a type. The document's Is: whether a term is of a type. The document's Depth, Right, Check; term.Check. The document's answer of layer 22: lifted, Over, Closed. Rename: subst's and the document's. LiftOvers, walked in the deep way. A pair with other metavariables ahead, and two apart: plain facts. lift.Behind, lift.Apart, and the document's Behind.
-/
import Derived.Test.YtcblpjheoclkeaaRowLiftApartsp8
import Derived.Test.YtcblpjheoclkeaaRowLiftApartsp5
import Derived.Test.YtcblpjheoclkeaaRowLiftApartsp6
import Derived.Test.YtcblpjheoclkeaaRowLiftApartsp4
import Derived.Maps.RangeRun
import Derived.Test.YtcblpjheoclkeaaRowLiftApartsp1
import Derived.Deep.QuietTactic
import Derived.BigQuiet
import Derived.WalkSmall
set_option maxRecDepth 100000
set_option maxHeartbeats 1000000
set_option linter.unusedVariables false
set_option linter.unusedSimpArgs false
namespace Go.Proofs.Ytcblpjheoclkeaa
open Go.RowKit Go.Shelf
attribute [local go_sem] Oper.semAt_some

theorem tms_cells {F : Nat → Prop} {w : World} {v : Value} {l : List Tm} (h : IsSl rpTm F w v l) : ∃ a c, v = .slice a l.length c ∧ (l.length ≤ maxLen ∧ l.length ≤ c) ∧ ∃ (bl off : Nat),
    (0 < l.length → a = some ⟨bl, off, none⟩ ∧ F bl) ∧ ∀ j (hj : j < l.length), ∃ b k i s, w.cell? ⟨bl, off + j * 4, none⟩ = some b ∧ w.cell? ⟨bl, off + j * 4 + 1, none⟩ = some k ∧ w.cell? ⟨bl, off + j * 4 + 2, none⟩ = some i ∧ w.cell? ⟨bl, off + j * 4 + 3, none⟩ = some s ∧ IsTm F w b k i s l[j] := by
  obtain ⟨a, c, bl, off, X, hv, hm, ha, h1, h2⟩ := h
  refine ⟨a, c, hv, hm, bl, off, ha, fun j hj => ?_⟩
  obtain ⟨b, k, i, s, hx, ht⟩ := h2 j hj
  exact ⟨b, k, i, s, h1 j 0 b hj (by rw [hx]; rfl), h1 j 1 k hj (by rw [hx]; rfl), h1 j 2 i hj (by rw [hx]; rfl), h1 j 3 s hj (by rw [hx]; rfl), ht⟩

def metasH (l : List (Int × Int)) : List Int := l.filterMap fun p => if p.1 = 2 then some p.2 else none
def metasP (l : List (Nat × Nat × Tm)) : List Int := l.filterMap fun p => if p.2.2.kind = 2 then some p.2.2.index else none
def metasL (l : List Tm) : List Int := l.flatMap fun t => metasP (t.pre 0 1)
theorem metasL_take (l : List Tm) (j : Nat) (h : j < l.length) : metasL (l.take (j + 1)) = metasL (l.take j) ++ metasP (l[j].pre 0 1) := by
  rw [List.take_succ_eq_append_getElem h]; unfold metasL; rw [List.flatMap_append]; simp
theorem metasL_len (l : List Tm) (m : Nat) (h : ∀ t ∈ l, t.full ≤ m) : (metasL l).length ≤ l.length * m := by
  induction l with
  | nil => simp [metasL]
  | cons t l ih =>
    have h1 := h t (by simp)
    have h2 := ih (fun u hu => h u (by simp [hu]))
    have h3 : (metasL (t :: l)).length = (metasP (t.pre 0 1)).length + (metasL l).length := by simp [metasL]
    have h4 : (metasP (t.pre 0 1)).length ≤ (t.pre 0 1).length := List.length_filterMap_le _ _
    rw [Tm.pre_length] at h4
    have h5 := Tm.size_le_full t
    rw [h3, List.length_cons, Nat.succ_mul]; omega
theorem metasH_pre (t : Tm) (hf : t.Fit) : metasH (t.heads 0) = metasP (t.pre 0 1) := by
  have e := heads_pre t 0 1 hf
  rw [show t.heads 0 = t.heads ((0 : Nat) : Int) from rfl, e]
  unfold metasH metasP
  rw [List.filterMap_filterMap]
  congr 1
  funext p
  unfold hdOf
  by_cases h0 : p.2.2.kind = 0
  · by_cases h1 : (p.1 : Int) ≤ p.2.2.index
    · simp [h0, h1]
    · simp [h0, h1]
  · simp [h0]

set_option maxRecDepth 100000 in
set_option maxHeartbeats 4000000 in
theorem metas6_k {F : Nat → Prop} {w : World} {v : Value} {l : List Tm} (h : IsSl rpTm F w v l) (hl : l.length ≤ 9) (hsz : ∀ t ∈ l, t.full ≤ 90000) : Calls Try.prog 34 #[v] w (FreshInts (sortU (metasL l)) w) := by
  refine (callsIn_wide (n := 9)).1 ?_
  have Ht := Lib.hid (h.weaken (F' := fun _ => True) (by decide) fun _ _ _ => trivial)
  obtain ⟨a, c, rfl, hm, bl, off, ha, hc⟩ := tms_cells Ht.out
  obtain ⟨ll, hll⟩ : ∃ x, l.length = x := ⟨_, rfl⟩
  clear h Ht
  have Hm := Lib.hid hm; clear hm
  have Hc := Lib.hid hc; clear hc
  have Hsz := Lib.hid hsz; clear hsz
  rw [hll] at ha hl ⊢
  obtain ⟨i2, hi2, hz0, hz1, hz2⟩ := info_parts infoI
  refine callsIn_of_wp_marks Try.func34 rfl trivial ?_ rfl
  simp only [Try.ntmps34, List.size_toArray, List.length_cons, List.length_nil, Nat.reduceAdd, Nat.reduceSub, Array.replicate_succ, Array.replicate_zero, List.push_toArray, List.append_toArray, List.nil_append, List.cons_append]
  gi_wp2_with fail
  refine wpIn_loop (fun a' w' => ∃ (j : Nat) (Ds : List Nat) (zs : List Int) (vv u5 u11 u12 u13 u14 u15 u28 : Value), a' = { tmps := #[.slice a ll c, undef, .slice none 0 0, .pointer (some ⟨w.heap.size, 0, none⟩), undef, u5, undef, undef, .slice a ll c, .int .i64 ll, .int .i64 j, u11, u12, u13, u14, u15, undef, undef, undef, undef, undef, undef, undef, undef, undef, undef, undef, undef, u28, undef, undef, undef, undef], defers := Ds.map fun D => { target := .collected D, args := #[] } } ∧
      j ≤ ll ∧ Hid (zs = metasL (l.take j)) ∧ OutAt w Ds vv zs w') (fun a' _ => ll - (intOf (a'.tmps.getD 10 undef)).toNat) ?start ?round
  case start =>
    refine ⟨0, [], [], .slice none 0 0, undef, undef, undef, undef, undef, undef, undef, rfl, by omega, by show _ = _; simp [metasL], ?_⟩
    exact ⟨Blk.new _ _ _ rfl, World.ownsRow_nil _ _ _ _, by simp, by simp, (Below.refl _ _).alloc (Nat.le_refl _) _⟩
  case round =>
    rintro a' W ⟨j, Ds, zs, vv, u5, u11, u12, u13, u14, u15, u28, rfl, hj, hzs, hO⟩
    have hj0 : (0 : Int) ≤ (j : Int) := Int.natCast_nonneg _
    have HO := Lib.hid hO; clear hO
    by_cases hlt : j < ll
    · have hj1 : (j : Int) < (ll : Int) := by omega
      obtain ⟨rfl, _⟩ := ha (by omega)
      obtain ⟨vb, vk, vi, vs, e1, e2, e3, e4, hty⟩ := Hc.out j (by omega)
      have hW := HO.out.below
      have e1 := ((Keep.refl (fun _ => True) _).below hW) _ _ _ trivial e1
      have e2 := ((Keep.refl (fun _ => True) _).below hW) _ _ _ trivial e2
      have e3 := ((Keep.refl (fun _ => True) _).below hW) _ _ _ trivial e3
      have e4 := ((Keep.refl (fun _ => True) _).below hW) _ _ _ trivial e4
      have Htk := Lib.hid (metasL_take l j (by omega))
      have hts := Hsz.out l[j] (List.getElem_mem _)
      obtain ⟨t, ht⟩ : ∃ t, l[j] = t := ⟨_, rfl⟩
      rw [ht] at hty Htk hts
      clear ht
      obtain ⟨pa, pc, qa, qc, rfl, rfl, rfl, rfl⟩ := hty.shape
      have Hty := Lib.hid hty; clear hty
      obtain ⟨x1, hx1⟩ : ∃ x, t.binds.length = x := ⟨_, rfl⟩
      obtain ⟨x2, hx2⟩ : ∃ x, t.args.length = x := ⟨_, rfl⟩
      obtain ⟨x3, hx3⟩ : ∃ x, t.kind = x := ⟨_, rfl⟩
      obtain ⟨x4, hx4⟩ : ∃ x, t.index = x := ⟨_, rfl⟩
      rw [hx1, hx2, hx3, hx4] at Hty
      rw [hx1] at e1
      rw [hx3] at e2
      rw [hx4] at e3
      rw [hx2] at e4
      clear hx1 hx2 hx3 hx4
      gi_wp2_with fail
      refine ⟨trivial, (each6_k _ _ _ _ _ _ ⟨_, _, _, rfl⟩ ⟨_, rfl⟩ ⟨_, rfl⟩ ⟨_, _, _, rfl⟩).mono ?_⟩
      rintro e w' ⟨rfl, rfl⟩
      gi_wp2_with fail
      have HO5 := Lib.hid ((HO.out.alloc (.cells #[.slice pa x1 pc, .int .i64 x3, .int .i64 x4, .slice qa x2 qc] 34)).alloc (.cells #[.slice pa x1 pc, .int .i64 x3, .int .i64 x4, .slice qa x2 qc] 34))
      obtain ⟨w5, hw5⟩ : ∃ w5, (W.alloc (.cells #[.slice pa x1 pc, .int .i64 x3, .int .i64 x4, .slice qa x2 qc] 34)).alloc (.cells #[.slice pa x1 pc, .int .i64 x3, .int .i64 x4, .slice qa x2 qc] 34) = w5 := ⟨_, rfl⟩
      have hz : w5.heap.size = W.heap.size + 2 := by rw [← hw5]; simp
      have y3 : Blk w5 (W.heap.size + 1) #[.slice pa x1 pc, .int .i64 x3, .int .i64 x4, .slice qa x2 qc] 34 := by rw [← hw5]; exact Blk.new _ _ _ (by simp)
      rw [hw5] at HO5 ⊢
      clear hw5
      have hsz1 := HO.out.box.lt
      have hlts := HO.out.lt
      clear HO
      have Hlts : Hid (∀ D ∈ Ds, D < w5.heap.size) := fun D hD => by have := hlts D hD; omega
      clear hlts
      refine range_softA (Ok := SpotOk) (fun o h => .inl h) rfl (by omega) (gf := 101) (lb := #[.pointer (some ⟨W.heap.size + 1, 0, none⟩)]) rfl trivial (enters_of Try.func101 (by kernel_rfl) rfl)
        (each6_soft (OutG w.heap.size) (fun k _ _ hk => .inl hk) Hty.out (by omega) (9 - 1) w5 (fun k _ hk ht => .inr ⟨by omega, ht⟩) ((Keep.refl _ _).below HO5.out.below) (W.heap.size + 1) y3)
        (fun h h' => h.trans h') (fun W l o o' _ hl ho _ => KeepC.putObj _ W l o o' hl ho) (Below.refl _ _) (fun _ => rfl)
        (fun pre V => ∃ v', OutAt w Ds v' (zs ++ metasP (pre.map Hit6.key)) V)
        (fun _ _ _ => False)
        (fun pre A B row ⟨v', h⟩ hg hr => ⟨v', h.grown Hlts.out (by omega) hg (fun r e => by
          obtain ⟨h1, o, ho, hc⟩ := hr r e
          refine ⟨h1, o, ho, fun cs e => ?_⟩
          subst e
          rcases hc with hc | ⟨cs', fr, hc⟩
          · simp [Obj.isCells] at hc
          · cases hc)⟩)
        (fun _ _ _ _ _ hs _ _ => hs)
        ⟨vv, by simpa [metasP] using HO5.out⟩
        (fun x a' V => ∃ Bx, Blk V Bx #[.slice x.pb x.t.binds.length x.cb, .int .i64 x.t.kind, .int .i64 x.t.index, .slice x.pa x.t.args.length x.ca] 34 ∧ a' = { tmps := #[.slice (some ⟨bl, off, none⟩) ll c, undef, .slice none 0 0, .pointer (some ⟨w.heap.size, 0, none⟩), undef, .pointer (some ⟨W.heap.size, 0, none⟩), undef, .pointer (some ⟨Bx, 0, none⟩), .slice (some ⟨bl, off, none⟩) ll c, .int .i64 ll, .int .i64 j, .bool true, .pointer (some ⟨bl, off + j * 4, none⟩), .agg #[.slice pa x1 pc, .int .i64 x3, .int .i64 x4, .slice qa x2 qc], .agg #[.slice pa x1 pc, .int .i64 x3, .int .i64 x4, .slice qa x2 qc], .func (.func 101) #[] #[.pointer (some ⟨W.heap.size + 1, 0, none⟩)], .agg #[.int .i64 x.s, .int .i64 x.d], .agg #[.slice x.pb x.t.binds.length x.cb, .int .i64 x.t.kind, .int .i64 x.t.index, .slice x.pa x.t.args.length x.ca], undef, undef, undef, undef, undef, undef, undef, undef, undef, undef, u28, undef, undef, undef, undef], defers := [] })
        (fun x a' W l o o' hl ho hoc => by
          rintro ⟨Bx, h2, h3⟩
          have hne : l ≠ Bx := fun e => by
            subst e
            have hb : W.heap[l]? = _ := h2
            rw [hb] at ho; cases ho; simp [Obj.isCells] at hoc
          exact ⟨Bx, (World.putObj_heap_other (Ne.symm hne)).trans h2, h3⟩) ?assign ?body ?done ?stop
      case assign =>
        rintro l pre x V K ⟨v', hV⟩ hK
        have HK := Lib.hid hK; clear hK
        have HV := Lib.hid hV; clear hV
        simp only [Hit6.enc] at *
        gi_wp2
        exact HK.out _ _ ((KeepsOthers.alloc _ _).from _) ((KeepC.refl _ V).alloc _) ⟨v', HV.out.alloc _⟩ ⟨V.heap.size, Blk.new _ _ _ rfl, rfl⟩
      case body =>
        rintro l' pre x a' V ⟨v', hV⟩ hlt' ⟨Bx, bX, rfl⟩
        have c1 : V.cell? ⟨w.heap.size, 0, none⟩ = some v' := hV.box.cell rfl
        have cx1 : V.cell? ⟨Bx, 1, none⟩ = some (.int .i64 x.t.kind) := bX.cell rfl
        have cx2 : V.cell? ⟨Bx, 2, none⟩ = some (.int .i64 x.t.index) := bX.cell rfl
        have hlen0 : (zs ++ metasP (pre.map Hit6.key)).length ≤ 900000 := by
          have h1 : (metasL (l.take j)).length ≤ 720000 := by
            have := metasL_len (l.take j) 90000 (fun t ht => Hsz.out t (List.mem_of_mem_take ht))
            have h2 : (l.take j).length ≤ 8 := by simp; omega
            exact Nat.le_trans this (Nat.le_trans (Nat.mul_le_mul_right 90000 h2) (by decide))
          have h2 : (metasP (pre.map Hit6.key)).length ≤ pre.length := by
            have := List.length_filterMap_le (fun p : Nat × Nat × Tm => if p.2.2.kind = 2 then some p.2.2.index else none) (pre.map Hit6.key)
            simpa [metasP] using this
          have h3 := Tm.size_le_full t
          rw [hzs.out, List.length_append]
          omega
        have hkey : metasP ((pre ++ [x]).map Hit6.key) = metasP (pre.map Hit6.key) ++ (if x.t.kind = 2 then [x.t.index] else []) := by
          unfold metasP
          rw [List.map_append, List.filterMap_append]
          congr 1
          by_cases hk : x.t.kind = 2
          · simp [Hit6.key, hk]
          · simp [Hit6.key, hk]
        have hkey2 : zs ++ metasP ((pre ++ [x]).map Hit6.key) = (zs ++ metasP (pre.map Hit6.key)) ++ (if x.t.kind = 2 then [x.t.index] else []) := by rw [hkey, List.append_assoc]
        clear hkey
        obtain ⟨zp, hzp⟩ : ∃ zp, zs ++ metasP (pre.map Hit6.key) = zp := ⟨_, rfl⟩
        rw [hzp] at hV hkey2 hlen0
        obtain ⟨kk, hkk⟩ : ∃ k, x.t.kind = k := ⟨_, rfl⟩
        obtain ⟨ii, hii⟩ : ∃ k, x.t.index = k := ⟨_, rfl⟩
        rw [hkk, hii] at hkey2
        rw [hkk] at cx1 ⊢
        rw [hii] at cx2 ⊢
        clear hzp hkk hii
        have HV := Lib.hid hV; clear hV
        have hsz3 := HV.out.below.size
        have f0 := HV.out.box.free 0
        by_cases hk : kk = 2
        · subst hk
          rw [if_pos rfl] at hkey2
          have Hkey := Lib.hid hkey2; clear hkey2
          gi_wp2_with (gi_at_builtin; refine wpListIn_append_own _ rfl _ _ 43 rfl (w.heap.size + 1) 3 i2 _ 1 8 Try.underlying43 hi2 hz0 hz1 hz2 rfl (by decide) v' zp.length (zp.map (Value.int .i64)) rfl (HV.out.own.alloc _) ⟨V.heap.size, 0, none⟩ 1 1 [.int .i64 ii] rfl rfl (fun jj u hu => by
              cases jj with
              | zero => simp at hu; subst hu; exact (Blk.new V #[.int .i64 ii] 3 rfl).cell rfl
              | succ _ => simp at hu) (by simp [Value.oneCell']) (by simp [maxLen]; omega) (by omega) (by have := HV.out.box.lt; simp; omega) ?_; intro v2 w3 hown3 hg3 hnil3; have Hg3 := Lib.hid hg3; obtain ⟨g3, cap3, rfl⟩ := ownsRow_succ hown3; have Hown3 := Lib.hid hown3; clear hown3 hg3 hnil3; have c3 := (HV.out.push_box Hg3.out).cell (i := 0) rfl; have f3 := (HV.out.push_box Hg3.out).free 0)
          obtain ⟨q1, q2, q3⟩ := HV.out.push ii Hg3.out Hown3.out
          exact ⟨q2.from _, q3, _, by rw [Hkey.out]; exact q1⟩
        · rw [if_neg hk, List.append_nil] at hkey2
          have Hkey := Lib.hid hkey2; clear hkey2
          have hk' : (kk == 2) = false := by simpa using hk
          gi_wp2
          exact ⟨(KeepsOthers.refl _).from _, KeepC.refl _ _, _, by rw [Hkey.out]; exact HV.out⟩
      case done =>
        rintro D ys V hD hys ⟨v', hV⟩ hK
        have hV2 := hV.mark hK (fun D' h' => by have := Hlts.out D' h'; omega) (by omega)
        have Hz : Hid (zs ++ metasP (ys.map Hit6.key) = metasL (l.take (j + 1))) := by show _ = _; rw [hys, Htk.out, hzs.out]
        rw [Hz.out] at hV2
        clear hV hK hys
        have HV := Lib.hid hV2; clear hV2
        gi_wp2_with fail
        refine ⟨⟨j + 1, D :: Ds, _, v', _, _, _, _, _, _, _, rfl, by omega, rfl, HV.out⟩, ?_⟩
        simp [intOf]; omega
      case stop =>
        rintro D cc pre V _ _ h _
        exact h.elim
    · have hO := HO.out
      have hz2 : zs = metasL l := by rw [hzs.out, List.take_of_length_le (by omega)]
      have hlen : zs.length ≤ 1000000 := by
        have := metasL_len l 90000 Hsz.out
        rw [hz2]
        exact Nat.le_trans this (Nat.le_trans (Nat.mul_le_mul_right 90000 (show l.length ≤ 9 by omega)) (by decide))
      have c1 : W.cell? ⟨w.heap.size, 0, none⟩ = some vv := hO.box.cell rfl
      clear hO
      gi_wp2_with fail
      refine ⟨trivial, (callsIn_wide.2 (sort_own (base := w.heap.size + 1) HO.out.own hlen)).mono ?_⟩
      rintro e W2 ⟨rfl, hown2, hg2⟩
      have hl2 := List.length_mergeSort (le := fun x y : Int => decide (x ≤ y)) zs
      have HO2 := Lib.hid (HO.out.sorted hg2 (by rw [hl2]; exact hown2))
      clear HO hown2 hg2
      have c2 : W2.cell? ⟨w.heap.size, 0, none⟩ = some vv := HO2.out.box.cell rfl
      gi_wp2_with fail
      refine ⟨trivial, (callsIn_wide.2 (compact_own (base := w.heap.size + 1) HO2.out.own (by rw [hl2]; exact hlen))).mono ?_⟩
      rintro e W3 ⟨v', rfl, hown3, hg3⟩
      have Hown3 := Lib.hid hown3; have Hg3 := Lib.hid hg3
      clear hown3 hg3
      gi_wp2_with fail
      have h := HO2.out.leave Hg3.out Hown3.out (F := Fence.wide) (n := 9) (P := Try.prog) (fn := Try.f34) (tmps := #[.slice a ll c, undef, v', .pointer (some ⟨w.heap.size, 0, none⟩), undef, u5, undef, undef, .slice a ll c, .int .i64 ll, .int .i64 j, .bool false, u12, u13, u14, u15, undef, undef, undef, undef, undef, undef, undef, undef, undef, undef, undef, undef, u28, vv, .tuple #[], vv, v']) (fun w3 => results_tmp (t := 2) rfl _ _ w3)
      rw [hz2] at h
      exact h
end Go.Proofs.Ytcblpjheoclkeaa

namespace Go.Proofs.Ytcblpjheoclkeaa
open Go.RowKit
def TLB_68 : TI := ⟨9, true, [Value.slice none 0 0, Value.int IntKind.i64 0, Value.int IntKind.i64 0, Value.slice none 0 0, Value.slice none 0 0, Value.int IntKind.i64 0, Value.int IntKind.i64 0, Value.slice none 0 0, Value.slice none 0 0], [(0, 4, true), (4, 4, true), (8, 1, false)], none, 152, 6, none, false⟩
theorem TLB_68_ok : TypOk Try.prog 68 TLB_68 := ⟨by kernel_rfl, by kernel_rfl, by kernel_rfl, by kernel_rfl, by kernel_rfl⟩
def TLB_34 : TI := ⟨4, true, [Value.slice none 0 0, Value.int IntKind.i64 0, Value.int IntKind.i64 0, Value.slice none 0 0], [(0, 1, false), (1, 2, true), (3, 1, false)], none, 64, 6, none, false⟩
theorem TLB_34_ok : TypOk Try.prog 34 TLB_34 := ⟨by kernel_rfl, by kernel_rfl, by kernel_rfl, by kernel_rfl, by kernel_rfl⟩
def TLB_30 : TI := ⟨1, false, [Value.slice none 0 0], [], some 83, 24, 5, none, false⟩
theorem TLB_30_ok : TypOk Try.prog 30 TLB_30 := ⟨by kernel_rfl, by kernel_rfl, by kernel_rfl, by kernel_rfl, by kernel_rfl⟩
def TLB_220 : TI := ⟨10, true, [Value.slice none 0 0, Value.int IntKind.i64 0, Value.int IntKind.i64 0, Value.slice none 0 0, Value.slice none 0 0, Value.int IntKind.i64 0, Value.int IntKind.i64 0, Value.slice none 0 0, Value.slice none 0 0, Value.slice none 0 0], [(0, 9, true), (9, 1, false)], none, 176, 6, none, false⟩
theorem TLB_220_ok : TypOk Try.prog 220 TLB_220 := ⟨by kernel_rfl, by kernel_rfl, by kernel_rfl, by kernel_rfl, by kernel_rfl⟩
def TLB_3 : TI := ⟨1, false, [Value.int IntKind.i64 0], [], none, 8, 2, none, false⟩
theorem TLB_3_ok : TypOk Try.prog 3 TLB_3 := ⟨by kernel_rfl, by kernel_rfl, by kernel_rfl, by kernel_rfl, by kernel_rfl⟩
def TLB_83 : TI := ⟨2, true, [Value.slice none 0 0, Value.int IntKind.i64 0], [(0, 1, false), (1, 1, false)], none, 32, 6, none, false⟩
theorem TLB_83_ok : TypOk Try.prog 83 TLB_83 := ⟨by kernel_rfl, by kernel_rfl, by kernel_rfl, by kernel_rfl, by kernel_rfl⟩
def TLB_43 : TI := ⟨1, false, [Value.slice none 0 0], [], some 3, 24, 5, none, false⟩
theorem TLB_43_ok : TypOk Try.prog 43 TLB_43 := ⟨by kernel_rfl, by kernel_rfl, by kernel_rfl, by kernel_rfl, by kernel_rfl⟩
def TLB_201 : TI := ⟨1, false, [Value.nilFunc], [], none, 8, 8, none, false⟩
theorem TLB_201_ok : TypOk Try.prog 201 TLB_201 := ⟨by kernel_rfl, by kernel_rfl, by kernel_rfl, by kernel_rfl, by kernel_rfl⟩
def TLB_32 : TI := ⟨1, false, [Value.slice none 0 0], [], some 34, 24, 5, none, false⟩
theorem TLB_32_ok : TypOk Try.prog 32 TLB_32 := ⟨by kernel_rfl, by kernel_rfl, by kernel_rfl, by kernel_rfl, by kernel_rfl⟩
def TLB_35 : TI := ⟨1, false, [Value.int IntKind.i64 0], [], none, 8, 2, none, false⟩
theorem TLB_35_ok : TypOk Try.prog 35 TLB_35 := ⟨by kernel_rfl, by kernel_rfl, by kernel_rfl, by kernel_rfl, by kernel_rfl⟩
def TLB_192 : TI := ⟨1, false, [Value.slice none 0 0], [], some 30, 24, 5, none, false⟩
theorem TLB_192_ok : TypOk Try.prog 192 TLB_192 := ⟨by kernel_rfl, by kernel_rfl, by kernel_rfl, by kernel_rfl, by kernel_rfl⟩
def TLB : List (Nat × TI) := [(68, TLB_68), (34, TLB_34), (30, TLB_30), (220, TLB_220), (3, TLB_3), (83, TLB_83), (43, TLB_43), (201, TLB_201), (32, TLB_32), (35, TLB_35), (192, TLB_192)]
theorem TLB_ok : TabOk Try.prog TLB := ((((((((((((TabOk.nil _).cons TLB_192_ok).cons TLB_35_ok).cons TLB_32_ok).cons TLB_201_ok).cons TLB_43_ok).cons TLB_83_ok).cons TLB_3_ok).cons TLB_220_ok).cons TLB_30_ok).cons TLB_34_ok).cons TLB_68_ok)

theorem metas_d (l : List Tm) (hl : l.length ≤ 9) (hz : ∀ t ∈ l, t.full ≤ 90000) : PureC Try.prog 34 [.sl 4 (eTms l) none] (.sl 1 (eIs (sortU (metasL l))) none) := by
  refine pure_below (by kernel_rfl) fun m Im w vs hv => ?_
  match vs, hv with
  | [x], hv =>
    have hs : IsSl rpTm (fun _ => True) w x l := (sl_of_rel (r := rpTm) (e := eTm) eTm_len (fun x t hx _ => tm_of_rel t hx) (by decide) (by rw [eTms_map] at hv; exact hv.1)).weaken (by decide) fun _ _ _ => trivial
    refine (metas6_k hs hl hz).mono ?_
    rintro e w' ⟨a, c, rfl, h1, h2⟩
    refine ⟨_, rfl, h2, fun Im' _ hI => ?_⟩
    exact rel_of_sl (r := rpInt) (e := fun i => [.v (.int .i64 i)]) (fun b o v hq hc => hI b o v hq hc) (fun _ => rfl) (fun x a h => by
      have : x = [.int .i64 a] := h
      subst this; exact ⟨.v _, trivial⟩) h1

/-! may -/
theorem lmay1_d (L R : Tm) (M B : List Ty) (x : Int) (hM : M.length ≤ 900000) : CallC Try.prog 152 [.v (.int .i64 x), .p 0 0] [(.c 0 0, .sl 2 (eTys L.binds) none), (.c 0 1, .v (.int .i64 L.kind)), (.c 0 2, .v (.int .i64 L.index)), (.c 0 3, .sl 4 (eTms L.args) none), (.c 0 4, .sl 2 (eTys R.binds) none), (.c 0 5, .v (.int .i64 R.kind)), (.c 0 6, .v (.int .i64 R.index)), (.c 0 7, .sl 4 (eTms R.args) none), (.c 0 8, .sl 2 (eTys M) none), (.c 0 9, .sl 2 (eTys B) none)] [(.c 0 0, .sl 2 (eTys L.binds) none), (.c 0 1, .v (.int .i64 L.kind)), (.c 0 2, .v (.int .i64 L.index)), (.c 0 3, .sl 4 (eTms L.args) none), (.c 0 4, .sl 2 (eTys R.binds) none), (.c 0 5, .v (.int .i64 R.kind)), (.c 0 6, .v (.int .i64 R.index)), (.c 0 7, .sl 4 (eTms R.args) none), (.c 0 8, .sl 2 (eTys M) none), (.c 0 9, .sl 2 (eTys B) none)] (.v (.bool (decide (x < 0 ∨ (M.length : Int) ≤ x)))) := by
 by_cases h0 : x < 0
 ·rw [decide_eq_true (.inl h0)]
  refine calldw 1 14 [ResultVar.tmp 3] TLB_ok Try.func152 rfl Try.ntmps152 rfl fun cx hnt hn0 => ?_
  ·skip
   refine dw_seq ?_; refine dwk [] TLB_ok hnt fun K hK => ?_; refine hK _ _ ?_; clear hK K; refine dw_seq ?_; refine dwk [(5, .v (.bool true))] TLB_ok hnt fun K hK => ?_; refine And.intro auT ?_; refine hK _ _ ?_; clear hK K; refine dw_ret ?_
   exact reta rfl
 ·have e : decide (x < 0 ∨ (M.length : Int) ≤ x) = decide ((M.length : Int) ≤ x) := by simp [h0]
  rw [e]
  refine calldw 1 14 [ResultVar.tmp 3] TLB_ok Try.func152 rfl Try.ntmps152 rfl fun cx hnt hn0 => ?_
  ·skip
   refine dw_seq ?_; refine dwk [] TLB_ok hnt fun K hK => ?_; refine hK _ _ ?_; clear hK K; refine dw_seq ?_; refine dwk [(5, .v (.bool false)), (12, .v (.bool (decide (↑M.length ≤ x))))] TLB_ok hnt fun K hK => ?_; refine And.intro auF ?_; refine And.intro (VLe.of_eq (by rw [eTys_len])) ?_; refine hK _ _ ?_; clear hK K; refine dw_ret ?_
   exact reta rfl
def fidx (P : Int → Bool) (l : List Int) : Int := match l.findIdx? P with | some i => (i : Int) | none => -1
theorem fidx_at {P : Int → Bool} {l : List Int} {i : Nat} (h : i < l.length) (h1 : P l[i] = true) (h2 : ∀ j (h : j < l.length), j < i → P l[j] = false) : fidx P l = i := by
  have : l.findIdx? P = some i := List.findIdx?_eq_some_iff_getElem.2 ⟨h, h1, fun j hj => by rw [h2 j (by omega) hj]; simp⟩
  rw [fidx, this]
theorem fidx_no {P : Int → Bool} {l : List Int} (h2 : ∀ j (h : j < l.length), P l[j] = false) : fidx P l = -1 := by
  have : l.findIdx? P = none := List.findIdx?_eq_none_iff.2 fun x hx => by
    obtain ⟨i, hi, rfl⟩ := List.getElem_of_mem hx
    exact h2 i hi
  rw [fidx, this]
theorem fidx_any (P : Int → Bool) (l : List Int) : decide (fidx P l ≥ 0) = l.any P := by
  rw [fidx]
  cases h : l.findIdx? P with
  | some i =>
    obtain ⟨h1, h2, _⟩ := List.findIdx?_eq_some_iff_getElem.1 h
    rw [List.any_eq_true.2 ⟨_, List.getElem_mem h1, h2⟩]
    simp
  | none =>
    rw [List.any_eq_false.2 fun x hx => by simp [List.findIdx?_eq_none_iff.1 h x hx]]
    simp
theorem indexI_d (L R : Tm) (M B : List Ty) (hM : M.length ≤ 900000) (l : List Int) (hl : l.length ≤ 1000000) : CallC Try.prog 178 [.sl 1 (eIs l) none, .fn 152 [.p 0 0]] [(.c 0 0, .sl 2 (eTys L.binds) none), (.c 0 1, .v (.int .i64 L.kind)), (.c 0 2, .v (.int .i64 L.index)), (.c 0 3, .sl 4 (eTms L.args) none), (.c 0 4, .sl 2 (eTys R.binds) none), (.c 0 5, .v (.int .i64 R.kind)), (.c 0 6, .v (.int .i64 R.index)), (.c 0 7, .sl 4 (eTms R.args) none), (.c 0 8, .sl 2 (eTys M) none), (.c 0 9, .sl 2 (eTys B) none)] [(.c 0 0, .sl 2 (eTys L.binds) none), (.c 0 1, .v (.int .i64 L.kind)), (.c 0 2, .v (.int .i64 L.index)), (.c 0 3, .sl 4 (eTms L.args) none), (.c 0 4, .sl 2 (eTys R.binds) none), (.c 0 5, .v (.int .i64 R.kind)), (.c 0 6, .v (.int .i64 R.index)), (.c 0 7, .sl 4 (eTms R.args) none), (.c 0 8, .sl 2 (eTys M) none), (.c 0 9, .sl 2 (eTys B) none)] (.v (.int .i64 (fidx (fun x => decide (x < 0 ∨ (M.length : Int) ≤ x)) l))) := by
 obtain ⟨P, hP⟩ : ∃ P : Int → Bool, (fun x => decide (x < 0 ∨ (M.length : Int) ≤ x)) = P := ⟨_, rfl⟩
 have hmay : ∀ x, CallC Try.prog 152 [.v (.int .i64 x), .p 0 0] [(.c 0 0, .sl 2 (eTys L.binds) none), (.c 0 1, .v (.int .i64 L.kind)), (.c 0 2, .v (.int .i64 L.index)), (.c 0 3, .sl 4 (eTms L.args) none), (.c 0 4, .sl 2 (eTys R.binds) none), (.c 0 5, .v (.int .i64 R.kind)), (.c 0 6, .v (.int .i64 R.index)), (.c 0 7, .sl 4 (eTms R.args) none), (.c 0 8, .sl 2 (eTys M) none), (.c 0 9, .sl 2 (eTys B) none)] [(.c 0 0, .sl 2 (eTys L.binds) none), (.c 0 1, .v (.int .i64 L.kind)), (.c 0 2, .v (.int .i64 L.index)), (.c 0 3, .sl 4 (eTms L.args) none), (.c 0 4, .sl 2 (eTys R.binds) none), (.c 0 5, .v (.int .i64 R.kind)), (.c 0 6, .v (.int .i64 R.index)), (.c 0 7, .sl 4 (eTms R.args) none), (.c 0 8, .sl 2 (eTys M) none), (.c 0 9, .sl 2 (eTys B) none)] (.v (.bool (P x))) := fun x => hP ▸ lmay1_d L R M B x hM
 rw [hP]
 clear hP
 refine calldw 1 19 [ResultVar.tmp 4] TLB_ok Try.func178 rfl Try.ntmps178 rfl fun cx hnt hn0 => ?_
 ·skip
  refine dw_seq ?_; refine dwk [] TLB_ok hnt fun K hK => ?_; refine hK _ _ ?_; clear hK K; refine dw_seq ?_; refine dw_seq ?_; refine dwk [(7, .v (.int .i64 (↑l.length)))] TLB_ok hnt fun K hK => ?_; refine And.intro (dintE (by rw [eIs_len])) ?_; refine hK _ _ ?_; clear hK K; refine dw_block ?_
  refine dw_loop (ι := { j : Nat // ∀ i (h : i < l.length), i < j → P l[i] = false }) (fun j => [(.t 0, .sl 1 (eIs l) none), (.t 1, .fn 152 [.p 0 0]), (.t 7, .v (.int .i64 ↑l.length)), (.t 8, .v (.int .i64 ↑j.1)), (.c 0 0, .sl 2 (eTys L.binds) none), (.c 0 1, .v (.int .i64 L.kind)), (.c 0 2, .v (.int .i64 L.index)), (.c 0 3, .sl 4 (eTms L.args) none), (.c 0 4, .sl 2 (eTys R.binds) none), (.c 0 5, .v (.int .i64 R.kind)), (.c 0 6, .v (.int .i64 R.index)), (.c 0 7, .sl 4 (eTms R.args) none), (.c 0 8, .sl 2 (eTys M) none), (.c 0 9, .sl 2 (eTys B) none)]) 1 (fun j => l.length - j.1) (⟨0, fun i h1 h2 => by omega⟩) (VS.toA) fun j => ?_
  obtain ⟨j, hj⟩ := j
  dsimp only
  by_cases hlt : j < l.length
  ·have hf := hmay l[j]
   refine dw_seq ?_; refine dwk [(9, .v (.bool true))] TLB_ok hnt fun K hK => ?_; refine And.intro auT ?_; refine hK _ _ ?_; clear hK K; refine dw_seq ?_; refine dw_cond (t := true) rfl ?_; rw [if_pos rfl]; refine dw_skip ?_; refine dw_seq ?_; refine dw_block ?_; refine dw_seq ?_; refine dwk [] TLB_ok hnt fun K hK => ?_; refine hK _ _ ?_; clear hK K
   cases he : P l[j] with
   | true =>
    rw [he] at hf
    rw [fidx_at hlt he hj]
    refine dw_seq ?_; refine dwk [(14, .q [.v (.int .i64 (l[j]))])] TLB_ok hnt fun K hK => ?_; refine And.intro (elo (eIs_len l)) ?_; refine And.intro (elv (eIs_getD l j) rfl) ?_; refine dcl (hf) ?_; refine hK _ _ ?_; clear hK K; refine dw_cond (t := true) rfl ?_; rw [if_pos rfl]; refine dw_seq ?_; refine dwk [] TLB_ok hnt fun K hK => ?_; refine hK _ _ ?_; clear hK K; refine dw_ret ?_
    exact reta rfl
   | false =>
    rw [he] at hf
    refine dw_seq ?_; refine dwk [(14, .q [.v (.int .i64 (l[j]))])] TLB_ok hnt fun K hK => ?_; refine And.intro (elo (eIs_len l)) ?_; refine And.intro (elv (eIs_getD l j) rfl) ?_; refine dcl (hf) ?_; refine hK _ _ ?_; clear hK K; refine dw_cond (t := false) rfl ?_; rw [if_neg (by simp)]; refine dw_skip ?_; refine dwk [(18, .v (.int .i64 (↑(j + 1))))] TLB_ok hnt fun K hK => ?_; refine And.intro auI ?_; refine hK _ _ ?_; clear hK K
    refine ⟨⟨j + 1, fun i h1 h2 => if e : i = j then by subst e; exact he else hj i h1 (by omega)⟩, by first | omega | (dsimp only; omega), VS.toA⟩
  ·rw [fidx_no fun i h => hj i h (by omega)]
   refine dw_seq ?_; refine dwk [(9, .v (.bool false))] TLB_ok hnt fun K hK => ?_; refine And.intro auF ?_; refine hK _ _ ?_; clear hK K; refine dw_seq ?_; refine dw_cond (t := false) rfl ?_; rw [if_neg (by simp)]; refine dw_exit ?_; refine dw_seq ?_; refine dwk [] TLB_ok hnt fun K hK => ?_; refine hK _ _ ?_; clear hK K; refine dw_ret ?_
   exact reta rfl
theorem containsI_d (L R : Tm) (M B : List Ty) (hM : M.length ≤ 900000) (l : List Int) (hl : l.length ≤ 1000000) : CallC Try.prog 151 [.sl 1 (eIs l) none, .fn 152 [.p 0 0]] [(.c 0 0, .sl 2 (eTys L.binds) none), (.c 0 1, .v (.int .i64 L.kind)), (.c 0 2, .v (.int .i64 L.index)), (.c 0 3, .sl 4 (eTms L.args) none), (.c 0 4, .sl 2 (eTys R.binds) none), (.c 0 5, .v (.int .i64 R.kind)), (.c 0 6, .v (.int .i64 R.index)), (.c 0 7, .sl 4 (eTms R.args) none), (.c 0 8, .sl 2 (eTys M) none), (.c 0 9, .sl 2 (eTys B) none)] [(.c 0 0, .sl 2 (eTys L.binds) none), (.c 0 1, .v (.int .i64 L.kind)), (.c 0 2, .v (.int .i64 L.index)), (.c 0 3, .sl 4 (eTms L.args) none), (.c 0 4, .sl 2 (eTys R.binds) none), (.c 0 5, .v (.int .i64 R.kind)), (.c 0 6, .v (.int .i64 R.index)), (.c 0 7, .sl 4 (eTms R.args) none), (.c 0 8, .sl 2 (eTys M) none), (.c 0 9, .sl 2 (eTys B) none)] (.v (.bool (l.any fun x => decide (x < 0 ∨ (M.length : Int) ≤ x)))) := by
 have hi := indexI_d L R M B hM l hl
 rw [← fidx_any]
 refine calldw 1 9 [ResultVar.tmp 4] TLB_ok Try.func151 rfl Try.ntmps151 rfl fun cx hnt hn0 => ?_
 ·skip
  refine dw_seq ?_; refine dwk [] TLB_ok hnt fun K hK => ?_; refine hK _ _ ?_; clear hK K; refine dw_seq ?_; refine dwk [] TLB_ok hnt fun K hK => ?_; refine dcl (hi) ?_; refine hK _ _ ?_; clear hK K; refine dw_ret ?_
  exact reta rfl

namespace Li
def lo (t : Tm) : Bool := decide ((t.looses 0).foldl looseL 0 > 0)
def rt (t : Tm) : Bool := decide (t.size ≤ 5000 ∧ t.depth ≤ 60)
def may (L R : Tm) (M B : List Ty) : Int :=
  if (lo L || lo R) = true then 1
  else if ((sortU (metasL [L, R])).any fun x => decide (x < 0 ∨ (M.length : Int) ≤ x)) = true then 10
  else if (decide ((B.length : Int) > 900) || (!rt L || !rt R)) = true then 2 else 0
def done (p : Pr) : Pr × Int := if (rt p.l && rt p.r) = true then (p, 0) else (.z, 2)
def cl (t : Tm) (B : List Ty) : Tm := .mk (B ++ t.binds) t.kind t.index t.args
def arr (B : List Ty) (t : Ty) : Ty := .mk (B ++ t.args) t.base
def up (p : Pr) (B : List Ty) : Pr := ⟨lif B p.l 0, lif B p.r 0, p.m.map (arr B)⟩
def over (p : Pr) (B : List Ty) : Pr × Int := if may p.l p.r p.m B ≠ 0 then (.z, may p.l p.r p.m B) else done (up p B)
def clP (p : Pr) (B : List Ty) : Pr := ⟨cl p.l B, cl p.r B, p.m⟩
def closed (p : Pr) (B : List Ty) : Pr × Int := if (over p B).2 ≠ 0 then (.z, (over p B).2) else done (clP (over p B).1 B)
end Li
theorem nodup_le : ∀ (l m : List Int), l.Nodup → (∀ x ∈ l, x ∈ m) → l.length ≤ m.length
  | [], m, _, _ => Nat.zero_le _
  | x :: l, m, h1, h2 => by
    have hx := h2 x (by simp)
    have := nodup_le l (m.erase x) (List.nodup_cons.1 h1).2 fun y hy => (List.mem_erase_of_ne fun e => (List.nodup_cons.1 h1).1 (by rw [← e]; exact hy)).2 (h2 y (by simp [hy]))
    rw [List.length_erase_of_mem hx] at this
    have := List.length_pos_of_mem hx
    simp; omega
theorem sortU_len (l : List Int) : (sortU l).length ≤ l.length :=
  nodup_le _ _ ((sortU_spec l).1.imp fun h => by omega) fun x h => ((sortU_spec l).2 x).1 h
set_option maxHeartbeats 1000000 in
theorem lmay_d (L R : Tm) (M B : List Ty) (hL : L.full ≤ 90000 ∧ L.Fit) (hR : R.full ≤ 90000 ∧ R.Fit) (hM : M.length ≤ 900000) : PureC Try.prog 123 [.ag [.sl 2 (eTys L.binds) none, .v (.int .i64 L.kind), .v (.int .i64 L.index), .sl 4 (eTms L.args) none, .sl 2 (eTys R.binds) none, .v (.int .i64 R.kind), .v (.int .i64 R.index), .sl 4 (eTms R.args) none, .sl 2 (eTys M) none, .sl 2 (eTys B) none]] (.v (.int .i64 (Li.may L R M B))) := by
 have l1 := loose_d L (by omega) hL.2
 have l2 := loose_d R (by omega) hR.2
 have hm := metas_d [L, R] (by simp) (by simp; omega)
 have hc := containsI_d L R M B hM (sortU (metasL [L, R])) (by
  have h1 := metasL_len [L, R] 90000 (by simp; omega)
  have h2 := sortU_len (metasL [L, R])
  simp at h1; omega)
 have r1 := right_d L (by omega)
 have r2 := right_d R (by omega)
 rw [show eTms [L, R] = [eTm L, eTm R] from rfl] at hm
 rw [eTm_eq] at l1 l2 r1 r2
 rw [eTm_eq L, eTm_eq R] at hm
 have d1 : Li.lo L = decide ((L.looses 0).foldl looseL 0 > 0) := rfl
 have d2 : Li.lo R = decide ((R.looses 0).foldl looseL 0 > 0) := rfl
 rw [show decide (L.size ≤ 5000 ∧ L.depth ≤ 60) = Li.rt L from rfl] at r1
 rw [show decide (R.size ≤ 5000 ∧ R.depth ≤ 60) = Li.rt R from rfl] at r2
 unfold Li.may
 generalize (L.looses 0).foldl looseL 0 = x at l1 d1
 generalize (R.looses 0).foldl looseL 0 = y at l2 d2
 generalize ((sortU (metasL [L, R])).any fun x => decide (x < 0 ∨ (M.length : Int) ≤ x)) = c at hc
 rw [d1, d2]
 by_cases hx : x > 0
 ·rw [decide_eq_true hx, Bool.true_or, if_pos rfl]
  refine calldw 0 46 [ResultVar.tmp 2] TLB_ok Try.func123 rfl Try.ntmps123 rfl fun cx hnt hn0 => ?_
  ·skip
   refine dw_seq ?_; refine dwk [] TLB_ok hnt fun K hK => ?_; refine hK _ _ ?_; clear hK K; refine dw_seq ?_; refine dw_block ?_; refine dw_seq ?_; refine dwk [(8, .v (.bool true))] TLB_ok hnt fun K hK => ?_; refine dcl (l1) ?_; refine And.intro auT ?_; refine hK _ _ ?_; clear hK K; refine dw_cond (t := true) rfl ?_; rw [if_pos rfl]; refine dw_seq ?_; refine dwk [] TLB_ok hnt fun K hK => ?_; refine hK _ _ ?_; clear hK K
   refine dw_ret ?_
   exact reta rfl
 ·rw [decide_eq_false hx, Bool.false_or]
  by_cases hy : y > 0
  ·rw [decide_eq_true hy, if_pos rfl]
   refine calldw 0 46 [ResultVar.tmp 2] TLB_ok Try.func123 rfl Try.ntmps123 rfl fun cx hnt hn0 => ?_
   ·skip
    refine dw_seq ?_; refine dwk [] TLB_ok hnt fun K hK => ?_; refine hK _ _ ?_; clear hK K; refine dw_seq ?_; refine dw_block ?_; refine dw_seq ?_; refine dwk [(8, .v (.bool false)), (14, .v (.bool true))] TLB_ok hnt fun K hK => ?_; refine dcl (l1) ?_; refine And.intro auF ?_; refine dcl (l2) ?_; refine And.intro auT ?_; refine hK _ _ ?_; clear hK K; refine dw_cond (t := true) rfl ?_; rw [if_pos rfl]
    refine dw_seq ?_; refine dwk [] TLB_ok hnt fun K hK => ?_; refine hK _ _ ?_; clear hK K; refine dw_ret ?_
    exact reta rfl
  ·rw [decide_eq_false hy, if_neg (by simp)]
   cases c with
   | true =>
    rw [if_pos rfl]
    refine calldw 0 46 [ResultVar.tmp 2] TLB_ok Try.func123 rfl Try.ntmps123 rfl fun cx hnt hn0 => ?_
    ·skip
     refine dw_seq ?_; refine dwk [] TLB_ok hnt fun K hK => ?_; refine hK _ _ ?_; clear hK K; refine dw_seq ?_; refine dw_block ?_; refine dw_seq ?_; refine dwk [(8, .v (.bool false)), (14, .v (.bool false))] TLB_ok hnt fun K hK => ?_; refine dcl (l1) ?_; refine And.intro auF ?_; refine dcl (l2) ?_; refine And.intro auF ?_; refine hK _ _ ?_; clear hK K; refine dw_cond (t := false) rfl ?_; rw [if_neg (by simp)]
     refine dw_seq ?_; refine dwk [(23, .sl 4 [[.sl 2 (eTys L.binds) none, .v (.int .i64 L.kind), .v (.int .i64 L.index), .sl 4 (eTms L.args) none], [.sl 2 (eTys R.binds) none, .v (.int .i64 R.kind), .v (.int .i64 R.index), .sl 4 (eTms R.args) none]] none)] TLB_ok hnt fun K hK => ?_; refine And.intro (VLe.untag _ _ _) ?_; refine dcl (hm) ?_; refine dcl (hc) ?_; refine hK _ _ ?_; clear hK K; refine dw_cond (t := true) rfl ?_
     rw [if_pos rfl]; refine dw_seq ?_; refine dwk [] TLB_ok hnt fun K hK => ?_; refine hK _ _ ?_; clear hK K; refine dw_ret ?_
     exact reta rfl
   | false =>
    rw [if_neg (by simp)]
    by_cases hb : (B.length : Int) > 900
    ·rw [decide_eq_true hb, Bool.true_or, if_pos rfl]
     refine calldw 0 46 [ResultVar.tmp 2] TLB_ok Try.func123 rfl Try.ntmps123 rfl fun cx hnt hn0 => ?_
     ·skip
      refine dw_seq ?_; refine dwk [] TLB_ok hnt fun K hK => ?_; refine hK _ _ ?_; clear hK K; refine dw_seq ?_; refine dw_block ?_; refine dw_seq ?_; refine dwk [(8, .v (.bool false)), (14, .v (.bool false))] TLB_ok hnt fun K hK => ?_; refine dcl (l1) ?_; refine And.intro auF ?_; refine dcl (l2) ?_; refine And.intro auF ?_; refine hK _ _ ?_; clear hK K; refine dw_cond (t := false) rfl ?_; rw [if_neg (by simp)]
      refine dw_seq ?_; refine dwk [(23, .sl 4 [[.sl 2 (eTys L.binds) none, .v (.int .i64 L.kind), .v (.int .i64 L.index), .sl 4 (eTms L.args) none], [.sl 2 (eTys R.binds) none, .v (.int .i64 R.kind), .v (.int .i64 R.index), .sl 4 (eTms R.args) none]] none)] TLB_ok hnt fun K hK => ?_; refine And.intro (VLe.untag _ _ _) ?_; refine dcl (hm) ?_; refine dcl (hc) ?_; refine hK _ _ ?_; clear hK K; refine dw_cond (t := false) rfl ?_
      rw [if_neg (by simp)]; refine dw_seq ?_; refine dwk [(31, .v (.bool true))] TLB_ok hnt fun K hK => ?_; refine And.intro (by first | exact dtrue (by rw [eTys_len]; omega) | exact VLe.of_eq (by rw [eTys_len]; omega)) ?_; refine hK _ _ ?_; clear hK K; refine dw_cond (t := true) rfl ?_; rw [if_pos rfl]; refine dw_seq ?_; refine dwk [] TLB_ok hnt fun K hK => ?_; refine hK _ _ ?_; clear hK K; refine dw_ret ?_
      exact reta rfl
    ·rw [decide_eq_false hb, Bool.false_or]
     cases hr1 : Li.rt L with
     | false =>
      rw [hr1] at r1
      simp only [Bool.not_false, Bool.true_or, if_true]
      refine calldw 0 46 [ResultVar.tmp 2] TLB_ok Try.func123 rfl Try.ntmps123 rfl fun cx hnt hn0 => ?_
      ·skip
       refine dw_seq ?_; refine dwk [] TLB_ok hnt fun K hK => ?_; refine hK _ _ ?_; clear hK K; refine dw_seq ?_; refine dw_block ?_; refine dw_seq ?_; refine dwk [(8, .v (.bool false)), (14, .v (.bool false))] TLB_ok hnt fun K hK => ?_; refine dcl (l1) ?_; refine And.intro auF ?_; refine dcl (l2) ?_; refine And.intro auF ?_; refine hK _ _ ?_; clear hK K; refine dw_cond (t := false) rfl ?_; rw [if_neg (by simp)]
       refine dw_seq ?_; refine dwk [(23, .sl 4 [[.sl 2 (eTys L.binds) none, .v (.int .i64 L.kind), .v (.int .i64 L.index), .sl 4 (eTms L.args) none], [.sl 2 (eTys R.binds) none, .v (.int .i64 R.kind), .v (.int .i64 R.index), .sl 4 (eTms R.args) none]] none)] TLB_ok hnt fun K hK => ?_; refine And.intro (VLe.untag _ _ _) ?_; refine dcl (hm) ?_; refine dcl (hc) ?_; refine hK _ _ ?_; clear hK K; refine dw_cond (t := false) rfl ?_
       rw [if_neg (by simp)]; refine dw_seq ?_; refine dwk [(31, .v (.bool false))] TLB_ok hnt fun K hK => ?_; refine And.intro (by first | exact dfalse (by rw [eTys_len]; omega) | exact VLe.of_eq (by rw [eTys_len]; omega)) ?_; refine dcl (r1) ?_; refine hK _ _ ?_; clear hK K; refine dw_cond (t := true) rfl ?_; rw [if_pos rfl]; refine dw_seq ?_; refine dwk [] TLB_ok hnt fun K hK => ?_; refine hK _ _ ?_; clear hK K
       refine dw_ret ?_
       exact reta rfl
     | true =>
      rw [hr1] at r1
      cases hr2 : Li.rt R with
      | false =>
       rw [hr2] at r2
       simp only [Bool.not_false, Bool.or_true, if_true]
       refine calldw 0 46 [ResultVar.tmp 2] TLB_ok Try.func123 rfl Try.ntmps123 rfl fun cx hnt hn0 => ?_
       ·skip
        refine dw_seq ?_; refine dwk [] TLB_ok hnt fun K hK => ?_; refine hK _ _ ?_; clear hK K; refine dw_seq ?_; refine dw_block ?_; refine dw_seq ?_; refine dwk [(8, .v (.bool false)), (14, .v (.bool false))] TLB_ok hnt fun K hK => ?_; refine dcl (l1) ?_; refine And.intro auF ?_; refine dcl (l2) ?_; refine And.intro auF ?_; refine hK _ _ ?_; clear hK K; refine dw_cond (t := false) rfl ?_; rw [if_neg (by simp)]
        refine dw_seq ?_; refine dwk [(23, .sl 4 [[.sl 2 (eTys L.binds) none, .v (.int .i64 L.kind), .v (.int .i64 L.index), .sl 4 (eTms L.args) none], [.sl 2 (eTys R.binds) none, .v (.int .i64 R.kind), .v (.int .i64 R.index), .sl 4 (eTms R.args) none]] none)] TLB_ok hnt fun K hK => ?_; refine And.intro (VLe.untag _ _ _) ?_; refine dcl (hm) ?_; refine dcl (hc) ?_; refine hK _ _ ?_; clear hK K; refine dw_cond (t := false) rfl ?_
        rw [if_neg (by simp)]; refine dw_seq ?_; refine dwk [(31, .v (.bool false))] TLB_ok hnt fun K hK => ?_; refine And.intro (by first | exact dfalse (by rw [eTys_len]; omega) | exact VLe.of_eq (by rw [eTys_len]; omega)) ?_; refine dcl (r1) ?_; refine dcl (r2) ?_; refine hK _ _ ?_; clear hK K; refine dw_cond (t := true) rfl ?_; rw [if_pos rfl]; refine dw_seq ?_; refine dwk [] TLB_ok hnt fun K hK => ?_
        refine hK _ _ ?_; clear hK K; refine dw_ret ?_
        exact reta rfl
      | true =>
       rw [hr2] at r2
       simp only [Bool.not_true, Bool.or_false, Bool.false_eq_true, if_false]
       refine calldw 0 46 [ResultVar.tmp 2] TLB_ok Try.func123 rfl Try.ntmps123 rfl fun cx hnt hn0 => ?_
       ·skip
        refine dw_seq ?_; refine dwk [] TLB_ok hnt fun K hK => ?_; refine hK _ _ ?_; clear hK K; refine dw_seq ?_; refine dw_block ?_; refine dw_seq ?_; refine dwk [(8, .v (.bool false)), (14, .v (.bool false))] TLB_ok hnt fun K hK => ?_; refine dcl (l1) ?_; refine And.intro auF ?_; refine dcl (l2) ?_; refine And.intro auF ?_; refine hK _ _ ?_; clear hK K; refine dw_cond (t := false) rfl ?_; rw [if_neg (by simp)]
        refine dw_seq ?_; refine dwk [(23, .sl 4 [[.sl 2 (eTys L.binds) none, .v (.int .i64 L.kind), .v (.int .i64 L.index), .sl 4 (eTms L.args) none], [.sl 2 (eTys R.binds) none, .v (.int .i64 R.kind), .v (.int .i64 R.index), .sl 4 (eTms R.args) none]] none)] TLB_ok hnt fun K hK => ?_; refine And.intro (VLe.untag _ _ _) ?_; refine dcl (hm) ?_; refine dcl (hc) ?_; refine hK _ _ ?_; clear hK K; refine dw_cond (t := false) rfl ?_
        rw [if_neg (by simp)]; refine dw_seq ?_; refine dwk [(31, .v (.bool false))] TLB_ok hnt fun K hK => ?_; refine And.intro (by first | exact dfalse (by rw [eTys_len]; omega) | exact VLe.of_eq (by rw [eTys_len]; omega)) ?_; refine dcl (r1) ?_; refine dcl (r2) ?_; refine hK _ _ ?_; clear hK K; refine dw_cond (t := false) rfl ?_; rw [if_neg (by simp)]; refine dw_skip ?_; refine dw_seq ?_; refine dwk [] TLB_ok hnt fun K hK => ?_
        refine hK _ _ ?_; clear hK K; refine dw_ret ?_
        exact reta rfl
/-! done -/
theorem ldone_d (L R : Tm) (M : List Ty) (hL : L.full ≤ 4400000 ∧ L.Fit ∧ (Li.rt L = true → L.full ≤ 900000)) (hR : R.full ≤ 4400000 ∧ R.Fit ∧ (Li.rt R = true → R.full ≤ 900000)) (hM : Ty.sizes M ≤ 800000) : PureC Try.prog 99 [.ag (ePr ⟨L, R, M⟩)] (.tu [.ag (ePr (Li.done ⟨L, R, M⟩).1), .v (.int .i64 (Li.done ⟨L, R, M⟩).2)]) := by
 have r1 := right_d L hL.1
 have r2 := right_d R hR.1
 have c1 := fun h => copyW_d L (hL.2.2 h) hL.2.1
 have c2 := fun h => copyW_d R (hR.2.2 h) hR.2.1
 have ha := arrow_d (.mk [] 0) M (by rw [ty_size]; simp [Ty.sizes]; omega)
 rw [show decide (L.size ≤ 5000 ∧ L.depth ≤ 60) = Li.rt L from rfl] at r1
 rw [show decide (R.size ≤ 5000 ∧ R.depth ≤ 60) = Li.rt R from rfl] at r2
 rw [eTm_eq] at r1 r2 c1 c2
 simp only [eTy_eq, args_mk', base_mk', List.append_nil] at ha
 rw [ePr_eq]
 unfold Li.done
 dsimp only
 cases hr1 : Li.rt L with
 | false =>
  rw [hr1] at r1
  simp only [Bool.false_and, Bool.false_eq_true, if_false]
  rw [ePr_z]
  refine calldw 0 27 [ResultVar.cell 2 68, ResultVar.tmp 3] TLB_ok Try.func99 rfl Try.ntmps99 rfl fun cx hnt hn0 => ?_
  ·skip
   refine dw_seq ?_; refine dwk [] TLB_ok hnt fun K hK => ?_; refine hK _ _ ?_; clear hK K; refine dw_seq ?_; refine dw_seq ?_; refine dwk [] TLB_ok hnt fun K hK => ?_; refine dcl (r1) ?_; refine hK _ _ ?_; clear hK K; refine dw_cond (t := true) rfl ?_; rw [if_pos rfl]; refine dw_seq ?_; refine dwk [] TLB_ok hnt fun K hK => ?_; refine hK _ _ ?_; clear hK K; refine dw_ret ?_
   exact reta rfl
 | true =>
  rw [hr1] at r1
  cases hr2 : Li.rt R with
  | false =>
   rw [hr2] at r2
   simp only [Bool.and_false, Bool.false_eq_true, if_false]
   rw [ePr_z]
   refine calldw 0 27 [ResultVar.cell 2 68, ResultVar.tmp 3] TLB_ok Try.func99 rfl Try.ntmps99 rfl fun cx hnt hn0 => ?_
   ·skip
    refine dw_seq ?_; refine dwk [] TLB_ok hnt fun K hK => ?_; refine hK _ _ ?_; clear hK K; refine dw_seq ?_; refine dw_seq ?_; refine dwk [] TLB_ok hnt fun K hK => ?_; refine dcl (r1) ?_; refine dcl (r2) ?_; refine hK _ _ ?_; clear hK K; refine dw_cond (t := true) rfl ?_; rw [if_pos rfl]; refine dw_seq ?_; refine dwk [] TLB_ok hnt fun K hK => ?_; refine hK _ _ ?_; clear hK K; refine dw_ret ?_
    exact reta rfl
  | true =>
   rw [hr2] at r2
   have c1 := c1 hr1
   have c2 := c2 hr2
   simp only [Bool.and_true, if_true]
   rw [ePr_eq]
   refine calldw 0 27 [ResultVar.cell 2 68, ResultVar.tmp 3] TLB_ok Try.func99 rfl Try.ntmps99 rfl fun cx hnt hn0 => ?_
   ·skip
    refine dw_seq ?_; refine dwk [] TLB_ok hnt fun K hK => ?_; refine hK _ _ ?_; clear hK K; refine dw_seq ?_; refine dw_seq ?_; refine dwk [] TLB_ok hnt fun K hK => ?_; refine dcl (r1) ?_; refine dcl (r2) ?_; refine hK _ _ ?_; clear hK K; refine dw_cond (t := false) rfl ?_; rw [if_neg (by simp)]; refine dw_skip ?_; refine dw_seq ?_; refine dwkD [(21, .ag [.sl 2 (eTys []) none, .v (.int .i64 0)])] TLB_ok hnt fun K hK => ?_
    refine dcl (c1) ?_; refine dcl (c2) ?_; refine And.intro (auV) ?_; refine dcl (ha) ?_; refine hK _ _ (by kernel_rfl) ?_; clear hK K; refine dw_ret ?_
    exact reta rfl
/-! Close -/
theorem lclose_d (t : Tm) (B : List Ty) (hz : Ty.sizes B + t.full ≤ 900000) (hf : (Li.cl t B).Fit) : PureC Try.prog 98 [.ag (eTm t), .sl 2 (eTys B) none] (.ag (eTm (Li.cl t B))) := by
 have hfl := full_args t
 have h1 := Ty.le_sizes B
 have h2 := Ty.le_sizes t.binds
 have hcat := concat_d [B, t.binds] (by simp [lens]; omega) (by simp)
 simp only [List.flatten_cons, List.flatten_nil, List.append_nil] at hcat
 have hc := copyW_d (Li.cl t B) (by unfold Li.cl; rw [Tm.full_eq, Ty.sizes_append]; omega) hf
 unfold Li.cl at hc ⊢
 rw [eTm_eq, eTm_eq] at *
 simp only [bindsT, kindT, indexT, argsTm] at hc ⊢
 refine calldw 0 13 [ResultVar.cell 4 34] TLB_ok Try.func98 rfl Try.ntmps98 rfl fun cx hnt hn0 => ?_
 ·skip
  refine dw_seq ?_; refine dwk [] TLB_ok hnt fun K hK => ?_; refine hK _ _ ?_; clear hK K; refine dw_seq ?_; refine dwk [(8, .sl 1 (eTyss [B, t.binds]) none)] TLB_ok hnt fun K hK => ?_; refine And.intro (VLe.untag _ _ _) ?_; refine dcl (hcat) ?_; refine hK _ _ ?_; clear hK K; refine dw_seq ?_; refine dwk [] TLB_ok hnt fun K hK => ?_; refine dcl (hc) ?_; refine hK _ _ ?_; clear hK K; refine dw_ret ?_
  exact reta rfl
/-! Over, Closed -/
theorem arrs_snoc (B : List Ty) (M : List Ty) (j : Nat) (h : j < M.length) : eTys ((M.map (Li.arr B)).take j) ++ [[.sl 2 (eTys (Li.arr B M[j]).args) none, .v (.int .i64 (Li.arr B M[j]).base)]] = eTys ((M.map (Li.arr B)).take (j + 1)) := by
  have h2 : j < (M.map (Li.arr B)).length := by rw [List.length_map]; exact h
  rw [← eTys_snoc _ j h2, List.getElem_map]
set_option maxHeartbeats 1000000 in
theorem lover_d (L R : Tm) (M B : List Ty) (hL : L.full ≤ 90000 ∧ L.Fit) (hR : R.full ≤ 90000 ∧ R.Fit) (hM : ∀ m ∈ M, Ty.sizes B + m.size ≤ 900000) (hMl : M.length ≤ 900000) (hB : ∀ b ∈ B, b.size ≤ 1000)
  (hu : Li.may L R M B = 0 → ((Li.lif B L 0).full ≤ 4400000 ∧ (Li.lif B L 0).Fit ∧ (Li.rt (Li.lif B L 0) = true → (Li.lif B L 0).full ≤ 900000)) ∧ ((Li.lif B R 0).full ≤ 4400000 ∧ (Li.lif B R 0).Fit ∧ (Li.rt (Li.lif B R 0) = true → (Li.lif B R 0).full ≤ 900000)) ∧ Ty.sizes (M.map (Li.arr B)) ≤ 800000) : PureC Try.prog 97 [.ag (ePr ⟨L, R, M⟩), .sl 2 (eTys B) none] (.tu [.ag (ePr (Li.over ⟨L, R, M⟩ B).1), .v (.int .i64 (Li.over ⟨L, R, M⟩ B).2)]) := by
 have hm := lmay_d L R M B hL hR hMl
 unfold Li.over
 dsimp only
 rw [ePr_eq]
 by_cases h0 : Li.may L R M B = 0
 ·obtain ⟨u1, u2, u3⟩ := hu h0
  rw [h0] at hm
  rw [if_neg (fun h => h h0)]
  have hbl : B.length ≤ 900 := by
   unfold Li.may at h0
   split at h0
   ·cases h0
   ·split at h0
    ·cases h0
    ·split at h0
     ·cases h0
     ·rename_i hn
      simp only [Bool.or_eq_true, not_or, decide_eq_true_eq] at hn
      omega
  have t1 := lterm_d L R M B L hbl hB (by omega)
  have t2 := lterm_d L R M B R hbl hB (by omega)
  have hd := ldone_d (Li.lif B L 0) (Li.lif B R 0) (M.map (Li.arr B)) u1 u2 u3
  unfold Li.up
  dsimp only
  have hwl : (M.map (Li.arr B)).length = M.length := List.length_map ..
  have hwg := arrs_snoc B M
  generalize Li.lif B L 0 = L' at t1 hd ⊢
  generalize Li.lif B R 0 = R' at t2 hd ⊢
  generalize M.map (Li.arr B) = W at hd hwl hwg ⊢
  generalize hz : Li.done ⟨L', R', W⟩ = z at hd ⊢
  obtain ⟨⟨zl, zr, zm⟩, ze⟩ := z
  rw [eTm_eq, eTm_eq] at t1 t2
  dsimp only at hd ⊢
  rw [ePr_eq, ePr_eq] at hd
  rw [ePr_eq]
  refine calldw 0 49 [ResultVar.cell 4 68, ResultVar.tmp 5] TLB_ok Try.func97 rfl Try.ntmps97 rfl fun cx hnt hn0 => ?_
  ·skip
   refine dw_seq ?_; refine dwk [] TLB_ok hnt fun K hK => ?_; refine hK _ _ ?_; clear hK K; refine dw_seq ?_; refine dwk [] TLB_ok hnt fun K hK => ?_; refine hK _ _ ?_; clear hK K; refine dw_seq ?_; refine dw_seq ?_; refine dwk [] TLB_ok hnt fun K hK => ?_; refine dcl (hm) ?_; refine hK _ _ ?_; clear hK K; refine dw_seq ?_; refine dwk [] TLB_ok hnt fun K hK => ?_; refine hK _ _ ?_; clear hK K; refine dw_cond (t := false) rfl ?_
   rw [if_neg (by simp)]; refine dw_skip ?_; refine dw_seq ?_; refine dwkD [] TLB_ok hnt fun K hK => ?_; refine dcl (t1) ?_; refine dcl (t2) ?_; refine hK _ _ (by kernel_rfl) ?_; clear hK K
   refine DW.vs (VS.row (k := 22) (off := 8) 83 2 rfl) ?_
   refine dw_seq ?_; refine dw_seq ?_; refine dwk [(31, .v (.int .i64 (↑M.length)))] TLB_ok hnt fun K hK => ?_; refine And.intro (dintE (by rw [eTys_len])) ?_; refine hK _ _ ?_; clear hK K; refine dw_block ?_
   refine dw_loop (ι := { j : Nat // j ≤ M.length }) (fun j => [(.t 1, .sl 2 (eTys B) none), (.t 4, .p 1 0), (.t 8, .p 22 0), (.t 30, .sl 2 (eTys M) none), (.t 31, .v (.int .i64 ↑M.length)), (.t 32, .v (.int .i64 ↑j.1)), (.c 1 0, .v (.slice none 0 0)), (.c 1 1, .v (.int .i64 0)), (.c 1 2, .v (.int .i64 0)), (.c 1 3, .v (.slice none 0 0)), (.c 1 4, .v (.slice none 0 0)), (.c 1 5, .v (.int .i64 0)), (.c 1 6, .v (.int .i64 0)), (.c 1 7, .v (.slice none 0 0)), (.c 1 8, .v (.slice none 0 0)), (.c 22 0, .sl 2 (eTys L'.binds) none), (.c 22 1, .v (.int .i64 L'.kind)), (.c 22 2, .v (.int .i64 L'.index)), (.c 22 3, .sl 4 (eTms L'.args) none), (.c 22 4, .sl 2 (eTys R'.binds) none), (.c 22 5, .v (.int .i64 R'.kind)), (.c 22 6, .v (.int .i64 R'.index)), (.c 22 7, .sl 4 (eTms R'.args) none), (.c 22 8, .sl 2 (eTys (W.take j.1)) (some 24)), (.r 24, .rw 83 2 j.1)]) 25 (fun j => M.length - j.1) (⟨0, Nat.zero_le _⟩) (VS.toA) fun j => ?_
   obtain ⟨j, hj⟩ := j
   dsimp only
   by_cases hlt : j < M.length
   ·have hc := arrow_d M[j] B (hM _ (List.getElem_mem hlt))
    have hsn := hwg j hlt
    rw [show Ty.mk (B ++ M[j].args) M[j].base = Li.arr B M[j] from rfl, eTy_eq, eTy_eq] at hc
    have hl1 : (eTys (W.take j)).length = j := by rw [eTys_len, List.length_take]; omega
    have hl2 : (eTys (W.take (j + 1))).length = j + 1 := by rw [eTys_len, List.length_take]; omega
    refine dw_seq ?_; refine dwk [(33, .v (.bool true))] TLB_ok hnt fun K hK => ?_; refine And.intro auT ?_; refine hK _ _ ?_; clear hK K; refine dw_seq ?_; refine dw_cond (t := true) rfl ?_; rw [if_pos rfl]; refine dw_skip ?_; refine dw_seq ?_; refine dw_block ?_; refine dw_seq ?_; refine dwk [(34, .q [.sl 2 (eTys M[j].args) none, .v (.int .i64 M[j].base)])] TLB_ok hnt fun K hK => ?_; refine And.intro (elo (eTys_len M)) ?_
    refine And.intro (elv (eTys_getD M j) (eTy_eq _)) ?_; refine hK _ _ ?_; clear hK K; refine dwkD [] TLB_ok hnt fun K hK => ?_; refine dcl (hc) ?_; refine And.intro (⟨by omega, by rw [hl1]; simp; omega⟩) ?_; refine hK _ _ (by kernel_rfl) ?_; clear hK K
    rw [hsn, hl2]
    refine dwk [(44, .v (.int .i64 (↑(j + 1))))] TLB_ok hnt fun K hK => ?_; refine And.intro auI ?_; refine hK _ _ ?_; clear hK K
    refine ⟨⟨j + 1, hlt⟩, by first | omega | (dsimp only; omega), VS.toA⟩
   ·rw [List.take_of_length_le (by omega)]
    refine dw_seq ?_; refine dwk [(33, .v (.bool false))] TLB_ok hnt fun K hK => ?_; refine And.intro auF ?_; refine hK _ _ ?_; clear hK K; refine dw_seq ?_; refine dw_cond (t := false) rfl ?_; rw [if_neg (by simp)]; refine dw_exit ?_; refine dw_seq ?_; refine dwk [(45, .ag [.sl 2 (eTys L'.binds) none, .v (.int .i64 L'.kind), .v (.int .i64 L'.index), .sl 4 (eTms L'.args) none, .sl 2 (eTys R'.binds) none, .v (.int .i64 R'.kind), .v (.int .i64 R'.index), .sl 4 (eTms R'.args) none, .sl 2 (eTys W) none])] TLB_ok hnt fun K hK => ?_
    refine And.intro (auV) ?_; refine dcl (hd) ?_; refine hK _ _ ?_; clear hK K; refine dw_ret ?_
    exact reta rfl
 ·rw [if_pos h0, ePr_z]
  generalize Li.may L R M B = e at hm h0 ⊢
  refine calldw 0 49 [ResultVar.cell 4 68, ResultVar.tmp 5] TLB_ok Try.func97 rfl Try.ntmps97 rfl fun cx hnt hn0 => ?_
  ·skip
   refine dw_seq ?_; refine dwk [] TLB_ok hnt fun K hK => ?_; refine hK _ _ ?_; clear hK K; refine dw_seq ?_; refine dwk [] TLB_ok hnt fun K hK => ?_; refine hK _ _ ?_; clear hK K; refine dw_seq ?_; refine dw_seq ?_; refine dwk [] TLB_ok hnt fun K hK => ?_; refine dcl (hm) ?_; refine hK _ _ ?_; clear hK K; refine dw_seq ?_; refine dwk [(17, .v (.bool true))] TLB_ok hnt fun K hK => ?_; refine And.intro (bneT h0) ?_
   refine hK _ _ ?_; clear hK K; refine dw_cond (t := true) rfl ?_; rw [if_pos rfl]; refine dw_seq ?_; refine dwk [] TLB_ok hnt fun K hK => ?_; refine hK _ _ ?_; clear hK K; refine dw_ret ?_
   exact reta rfl
set_option maxHeartbeats 1000000 in
theorem lclosed_d (L R : Tm) (M B : List Ty) (hL : L.full ≤ 90000 ∧ L.Fit) (hR : R.full ≤ 90000 ∧ R.Fit) (hM : ∀ m ∈ M, Ty.sizes B + m.size ≤ 900000) (hMl : M.length ≤ 900000) (hB : ∀ b ∈ B, b.size ≤ 1000)
  (hu : Li.may L R M B = 0 → ((Li.lif B L 0).full ≤ 4400000 ∧ (Li.lif B L 0).Fit ∧ (Li.rt (Li.lif B L 0) = true → (Li.lif B L 0).full ≤ 900000)) ∧ ((Li.lif B R 0).full ≤ 4400000 ∧ (Li.lif B R 0).Fit ∧ (Li.rt (Li.lif B R 0) = true → (Li.lif B R 0).full ≤ 900000)) ∧ Ty.sizes (M.map (Li.arr B)) ≤ 800000)
  (hv : (Li.over ⟨L, R, M⟩ B).2 = 0 → ∀ p, (Li.over ⟨L, R, M⟩ B).1 = p → (Ty.sizes B + p.l.full ≤ 500000 ∧ (Li.cl p.l B).Fit) ∧ (Ty.sizes B + p.r.full ≤ 500000 ∧ (Li.cl p.r B).Fit) ∧ Ty.sizes p.m ≤ 800000) : PureC Try.prog 61 [.ag (ePr ⟨L, R, M⟩), .sl 2 (eTys B) none] (.tu [.ag (ePr (Li.closed ⟨L, R, M⟩ B).1), .v (.int .i64 (Li.closed ⟨L, R, M⟩ B).2)]) := by
 have ho := lover_d L R M B hL hR hM hMl hB hu
 unfold Li.closed
 generalize Li.over ⟨L, R, M⟩ B = o at ho hv ⊢
 obtain ⟨⟨ol, or, om⟩, oe⟩ := o
 dsimp only at ho hv ⊢
 rw [ePr_eq, ePr_eq] at ho
 rw [ePr_eq]
 by_cases h0 : oe = 0
 ·obtain ⟨⟨u1, u2⟩, ⟨u3, u4⟩, u5⟩ := hv h0 _ rfl
  dsimp only at u1 u2 u3 u4 u5
  subst h0
  rw [if_neg (by simp)]
  have c1 := lclose_d ol B (by omega) u2
  have c2 := lclose_d or B (by omega) u4
  have f1 := full_args ol
  have f2 := full_args or
  have hd := ldone_d (Li.cl ol B) (Li.cl or B) om ⟨by unfold Li.cl; rw [Tm.full_eq, Ty.sizes_append]; omega, u2, fun _ => by unfold Li.cl; rw [Tm.full_eq, Ty.sizes_append]; omega⟩ ⟨by unfold Li.cl; rw [Tm.full_eq, Ty.sizes_append]; omega, u4, fun _ => by unfold Li.cl; rw [Tm.full_eq, Ty.sizes_append]; omega⟩ u5
  unfold Li.clP
  dsimp only
  generalize Li.cl ol B = L' at c1 hd ⊢
  generalize Li.cl or B = R' at c2 hd ⊢
  generalize Li.done ⟨L', R', om⟩ = z at hd ⊢
  obtain ⟨⟨zl, zr, zm⟩, ze⟩ := z
  rw [eTm_eq, eTm_eq] at c1 c2
  dsimp only at hd ⊢
  rw [ePr_eq, ePr_eq] at hd
  rw [ePr_eq]
  refine calldw 0 32 [ResultVar.cell 4 68, ResultVar.tmp 5] TLB_ok Try.func61 rfl Try.ntmps61 rfl fun cx hnt hn0 => ?_
  ·skip
   refine dw_seq ?_; refine dwk [] TLB_ok hnt fun K hK => ?_; refine hK _ _ ?_; clear hK K; refine dw_seq ?_; refine dwk [] TLB_ok hnt fun K hK => ?_; refine dcl (ho) ?_; refine hK _ _ ?_; clear hK K; refine dw_seq ?_; refine dw_seq ?_; refine dwk [] TLB_ok hnt fun K hK => ?_; refine hK _ _ ?_; clear hK K; refine dw_cond (t := false) rfl ?_; rw [if_neg (by simp)]; refine dw_skip ?_; refine dw_seq ?_; refine dwkD [] TLB_ok hnt fun K hK => ?_
   refine dcl (c1) ?_; refine dcl (c2) ?_; refine hK _ _ (by kernel_rfl) ?_; clear hK K; refine dw_seq ?_; refine dwk [] TLB_ok hnt fun K hK => ?_; refine dcl (hd) ?_; refine hK _ _ ?_; clear hK K; refine dw_ret ?_
   exact reta rfl
 ·rw [if_pos h0, ePr_z]
  refine calldw 0 32 [ResultVar.cell 4 68, ResultVar.tmp 5] TLB_ok Try.func61 rfl Try.ntmps61 rfl fun cx hnt hn0 => ?_
  ·skip
   refine dw_seq ?_; refine dwk [] TLB_ok hnt fun K hK => ?_; refine hK _ _ ?_; clear hK K; refine dw_seq ?_; refine dwk [] TLB_ok hnt fun K hK => ?_; refine dcl (ho) ?_; refine hK _ _ ?_; clear hK K; refine dw_seq ?_; refine dw_seq ?_; refine dwk [(15, .v (.bool true))] TLB_ok hnt fun K hK => ?_; refine And.intro (bneT h0) ?_; refine hK _ _ ?_; clear hK K; refine dw_cond (t := true) rfl ?_; rw [if_pos rfl]
   refine dw_seq ?_; refine dwk [] TLB_ok hnt fun K hK => ?_; refine hK _ _ ?_; clear hK K; refine dw_ret ?_
   exact reta rfl
end Go.Proofs.Ytcblpjheoclkeaa

namespace Go.Proofs.Ytcblpjheoclkeaa
open Go.RowKit
end Go.Proofs.Ytcblpjheoclkeaa

namespace Go.Proofs.Ytcblpjheoclkeaa
open Go.RowKit
def eBd (b : Pn.Bd) : List (Int × D) := b.map fun p => (p.1, .ag (eTm p.2))
@[simp] theorem eBd_ok (f g : Nat → Bool) (b : Pn.Bd) : D.okm f g (eBd b) = true := okm_map _ b fun p _ => by simp [D.ok, eTm_ok]
end Go.Proofs.Ytcblpjheoclkeaa

namespace Go.Proofs.Ytcblpjheoclkeaa
open Go.RowKit

namespace Pn
end Pn

end Go.Proofs.Ytcblpjheoclkeaa

namespace Go.Proofs.Ytcblpjheoclkeaa
open Go.RowKit

section
variable {P : Program} {T : List (Nat × TI)} {cx : Cx} {Fr : Nat → Prop} {m : Mp} {Im : Nat → Nat → Prop} {w w' : World} {a : Act} {σ σ' : List (Key × D)}
theorem St.drew (h : St cx Fr m Im w a σ) : St cx Fr m Im w.drew a σ := h.below0 (Below.refl _ _).drew
end

section
variable {P : Program} {T : List (Nat × TI)} {cx : Cx} {m : Mp} {Im : Nat → Nat → Prop} {w : World} {a : Act} {σ : List (Key × D)} {ops : Array Oper} {Q : Exit → Act → World → Prop}
end
end Go.Proofs.Ytcblpjheoclkeaa

namespace Go.Proofs.Ytcblpjheoclkeaa
open Go.RowKit
def ePP (p : Tm × Tm) : List D := eTm p.1 ++ eTm p.2
def ePPs (l : List (Tm × Tm)) : List (List D) := l.map ePP
theorem ePP_eq (p : Tm × Tm) : ePP p = [.sl 2 (eTys p.1.binds) none, .v (.int .i64 p.1.kind), .v (.int .i64 p.1.index), .sl 4 (eTms p.1.args) none, .sl 2 (eTys p.2.binds) none, .v (.int .i64 p.2.kind), .v (.int .i64 p.2.index), .sl 4 (eTms p.2.args) none] := by unfold ePP; rw [eTm_eq, eTm_eq]; rfl
@[simp] theorem ePPs_ok (f g : Nat → Bool) (l : List (Tm × Tm)) : D.okss f g (ePPs l) = true := D.okss_map _ l fun p _ => by simp [ePP_eq, D.oks, D.ok, eTms_ok, eTys_ok]
namespace Pn
end Pn
end Go.Proofs.Ytcblpjheoclkeaa

namespace Go.Proofs.Ytcblpjheoclkeaa
open Go.RowKit
/-! the examples -/
def mb (i : Int) : Tm := .mk [] 0 i []
def mc (i : Int) (l : List Tm) : Tm := .mk [] 1 i l
theorem fit_mk {b : List Ty} {k i : Int} {a : List Tm} (h1 : -1000 ≤ i) (h2 : i ≤ 1000) (h : ∀ t ∈ a, t.Fit) : (Tm.mk b k i a).Fit := Tm.fit_iff.2 ⟨by omega, by omega, h⟩
theorem fit0 (k i : Int) (h1 : -1000 ≤ i) (h2 : i ≤ 1000) (b : List Ty) : (Tm.mk b k i []).Fit := fit_mk h1 h2 nofun
theorem fit1 {k i : Int} {b : List Ty} {t : Tm} (h1 : -1000 ≤ i) (h2 : i ≤ 1000) (h : t.Fit) : (Tm.mk b k i [t]).Fit := fit_mk h1 h2 fun u hu => by rw [List.mem_singleton] at hu; subst hu; exact h
end Go.Proofs.Ytcblpjheoclkeaa

namespace Go.Proofs.Ytcblpjheoclkeaa
open Go.RowKit

end Go.Proofs.Ytcblpjheoclkeaa

namespace Go.Proofs.Ytcblpjheoclkeaa
open Go.RowKit
end Go.Proofs.Ytcblpjheoclkeaa

namespace Go.Proofs.Ytcblpjheoclkeaa
open Go.RowKit

end Go.Proofs.Ytcblpjheoclkeaa

namespace Go.Proofs.Ytcblpjheoclkeaa
open Go.RowKit
end Go.Proofs.Ytcblpjheoclkeaa

namespace Go.Proofs.Ytcblpjheoclkeaa
open Go.RowKit

end Go.Proofs.Ytcblpjheoclkeaa

namespace Go.Proofs.Ytcblpjheoclkeaa
open Go.RowKit
end Go.Proofs.Ytcblpjheoclkeaa

namespace Go.Proofs.Ytcblpjheoclkeaa
open Go.RowKit
def TLS_34 : TI := ⟨4, true, [Value.slice none 0 0, Value.int IntKind.i64 0, Value.int IntKind.i64 0, Value.slice none 0 0], [(0, 1, false), (1, 2, true), (3, 1, false)], none, 64, 6, none, false⟩
theorem TLS_34_ok : TypOk Try.prog 34 TLS_34 := ⟨by kernel_rfl, by kernel_rfl, by kernel_rfl, by kernel_rfl, by kernel_rfl⟩
def TLS_68 : TI := ⟨9, true, [Value.slice none 0 0, Value.int IntKind.i64 0, Value.int IntKind.i64 0, Value.slice none 0 0, Value.slice none 0 0, Value.int IntKind.i64 0, Value.int IntKind.i64 0, Value.slice none 0 0, Value.slice none 0 0], [(0, 4, true), (4, 4, true), (8, 1, false)], none, 152, 6, none, false⟩
theorem TLS_68_ok : TypOk Try.prog 68 TLS_68 := ⟨by kernel_rfl, by kernel_rfl, by kernel_rfl, by kernel_rfl, by kernel_rfl⟩
def TLS_30 : TI := ⟨1, false, [Value.slice none 0 0], [], some 83, 24, 5, none, false⟩
theorem TLS_30_ok : TypOk Try.prog 30 TLS_30 := ⟨by kernel_rfl, by kernel_rfl, by kernel_rfl, by kernel_rfl, by kernel_rfl⟩
def TLS_32 : TI := ⟨1, false, [Value.slice none 0 0], [], some 34, 24, 5, none, false⟩
theorem TLS_32_ok : TypOk Try.prog 32 TLS_32 := ⟨by kernel_rfl, by kernel_rfl, by kernel_rfl, by kernel_rfl, by kernel_rfl⟩
def TLS_3 : TI := ⟨1, false, [Value.int IntKind.i64 0], [], none, 8, 2, none, false⟩
theorem TLS_3_ok : TypOk Try.prog 3 TLS_3 := ⟨by kernel_rfl, by kernel_rfl, by kernel_rfl, by kernel_rfl, by kernel_rfl⟩
def TLS_83 : TI := ⟨2, true, [Value.slice none 0 0, Value.int IntKind.i64 0], [(0, 1, false), (1, 1, false)], none, 32, 6, none, false⟩
theorem TLS_83_ok : TypOk Try.prog 83 TLS_83 := ⟨by kernel_rfl, by kernel_rfl, by kernel_rfl, by kernel_rfl, by kernel_rfl⟩
def TLS_31 : TI := ⟨2, true, [Value.int IntKind.i64 0, Value.int IntKind.i64 0], [(0, 1, false), (1, 1, false)], none, 16, 6, none, true⟩
theorem TLS_31_ok : TypOk Try.prog 31 TLS_31 := ⟨by kernel_rfl, by kernel_rfl, by kernel_rfl, by kernel_rfl, by kernel_rfl⟩
def TLS_35 : TI := ⟨1, false, [Value.int IntKind.i64 0], [], none, 8, 2, none, false⟩
theorem TLS_35_ok : TypOk Try.prog 35 TLS_35 := ⟨by kernel_rfl, by kernel_rfl, by kernel_rfl, by kernel_rfl, by kernel_rfl⟩
def TLS : List (Nat × TI) := [(34, TLS_34), (68, TLS_68), (30, TLS_30), (32, TLS_32), (3, TLS_3), (83, TLS_83), (31, TLS_31), (35, TLS_35)]
theorem TLS_ok : TabOk Try.prog TLS := (((((((((TabOk.nil _).cons TLS_35_ok).cons TLS_31_ok).cons TLS_83_ok).cons TLS_3_ok).cons TLS_32_ok).cons TLS_30_ok).cons TLS_68_ok).cons TLS_34_ok)

/-! the example -/
namespace Li
def kA : Ty := .mk [] 0
def kX : Tm := .mk [] 2 0 []
def kC : Tm := .mk [] 1 0 [kX]
def kB : Tm := .mk [] 0 0 []
def kP : Pr := ⟨.mk [kA] 1 0 [.mk [] 2 0 [kB]], .mk [kA] 2 0 [kB], [.mk [kA] 0]⟩
theorem kSort : sortU [0, 0] = [0] := (sortU_twice [0]).trans (by unfold sortU; rw [List.mergeSort_singleton]; rfl)
theorem kMay : may kC kX [kA] [kA] = 0 := by unfold may; rw [show metasL [kC, kX] = [0, 0] by decide +kernel, kSort]; decide +kernel
theorem kOver : over ⟨kC, kX, [kA]⟩ [kA] = (⟨.mk [] 1 0 [.mk [] 2 0 [kB]], .mk [] 2 0 [kB], [.mk [kA] 0]⟩, 0) := by unfold over; rw [if_neg (fun h => h kMay)]; kernel_rfl
theorem kClosed : closed ⟨kC, kX, [kA]⟩ [kA] = (kP, 0) := by unfold closed; rw [kOver]; kernel_rfl
end Li
theorem lexample_d : PureC Try.prog 61 [.ag [.sl 2 [] none, .v (.int .i64 1), .v (.int .i64 0), .sl 4 (eTms [Li.kX]) none, .sl 2 [] none, .v (.int .i64 2), .v (.int .i64 0), .sl 4 [] none, .sl 2 (eTys [Li.kA]) none], .sl 2 (eTys [Li.kA]) none] (.tu [.ag [.sl 2 (eTys [Li.kA]) none, .v (.int .i64 1), .v (.int .i64 0), .sl 4 (eTms [.mk [] 2 0 [Li.kB]]) none, .sl 2 (eTys [Li.kA]) none, .v (.int .i64 2), .v (.int .i64 0), .sl 4 (eTms [Li.kB]) none, .sl 2 (eTys [.mk [Li.kA] 0]) none], .v (.int .i64 0)]) := by
  have h := lclosed_d Li.kC Li.kX [Li.kA] [Li.kA] ⟨by decide, fit1 (by decide) (by decide) (fit0 _ _ (by decide) (by decide) _)⟩ ⟨by decide, fit0 _ _ (by decide) (by decide) _⟩ (by decide) (by decide) (by decide)
    (fun _ => ⟨⟨by decide, fit1 (by decide) (by decide) (fit1 (by decide) (by decide) (fit0 _ _ (by decide) (by decide) _)), fun _ => by decide⟩, ⟨by decide, fit1 (by decide) (by decide) (fit0 _ _ (by decide) (by decide) _), fun _ => by decide⟩, by decide⟩)
    (fun _ p hp => by
      rw [Li.kOver] at hp
      subst hp
      exact ⟨⟨by decide, fit1 (by decide) (by decide) (fit1 (by decide) (by decide) (fit0 _ _ (by decide) (by decide) _))⟩, ⟨by decide, fit1 (by decide) (by decide) (fit0 _ _ (by decide) (by decide) _)⟩, by decide⟩)
  rw [Li.kClosed] at h
  exact h
theorem kOf0_d : PureC Try.prog 36 [.v (.int .i64 0), .v (.slice none 0 0)] (.ag [.sl 2 [] none, .v (.int .i64 0)]) := CallC.vle (kOf_d 0 [] (by simp [Ty.sizes])) (.cons (VLe.refl _) (.cons (VLe.nil _) .nil)) (VLe.refl _)
set_option maxHeartbeats 2000000 in
theorem known22_d : PureC Try.prog 26 [] (.v (.bool true)) := by
 have ho := kOf0_d
 have hc := lexample_d
 refine calldw 0 78 [ResultVar.tmp 0] TLS_ok Try.func26 rfl Try.ntmps26 rfl fun cx hnt hn0 => ?_
 ·skip
  refine dw_seq ?_; refine dwk [] TLS_ok hnt fun K hK => ?_; refine hK _ _ ?_; clear hK K; refine dw_seq ?_; refine dwk [] TLS_ok hnt fun K hK => ?_; refine dcl (ho) ?_; refine hK _ _ ?_; clear hK K; refine dw_seq ?_; refine dwk [] TLS_ok hnt fun K hK => ?_; refine hK _ _ ?_; clear hK K; refine dw_seq ?_; refine dwk [(10, .ag (eTm Li.kX)), (11, .sl 4 (eTms [Li.kX]) none), (14, .ag (eTy Li.kA)), (15, .sl 2 (eTys [Li.kA]) none)] TLS_ok hnt fun K hK => ?_
  refine And.intro (auV) ?_; refine And.intro (VLe.untag _ _ _) ?_; refine And.intro (auV) ?_; refine And.intro (VLe.untag _ _ _) ?_; refine hK _ _ ?_; clear hK K; refine dw_seq ?_; refine dwk [(18, .ag [.sl 2 [] none, .v (.int .i64 1), .v (.int .i64 0), .sl 4 (eTms [Li.kX]) none, .sl 2 [] none, .v (.int .i64 2), .v (.int .i64 0), .sl 4 [] none, .sl 2 (eTys [Li.kA]) none]), (19, .ag (eTy Li.kA)), (20, .sl 2 (eTys [Li.kA]) none)] TLS_ok hnt fun K hK => ?_
  refine And.intro (auV) ?_; refine And.intro (auV) ?_; refine And.intro (VLe.untag _ _ _) ?_; refine dcl (hc) ?_; refine hK _ _ ?_; clear hK K; refine dw_seq ?_; refine dwk [(25, .v (.bool true)), (29, .v (.int .i64 (1))), (30, .v (.bool true)), (35, .q [.sl 2 (eTys [Li.kA]) none, .v (.int .i64 0)]), (38, .v (.int .i64 (1))), (39, .v (.bool true)), (45, .v (.int .i64 (1))), (46, .v (.bool true)), (52, .v (.int .i64 (1))), (53, .v (.bool true)), (59, .q [.sl 2 [] none, .v (.int .i64 2), .v (.int .i64 0), .sl 4 (eTms [Li.kB]) none]), (62, .v (.int .i64 (1))), (63, .v (.bool true)), (69, .q [.sl 2 [] none, .v (.int .i64 2), .v (.int .i64 0), .sl 4 (eTms [Li.kB]) none]), (72, .q [.sl 2 [] none, .v (.int .i64 0), .v (.int .i64 0), .sl 4 [] none])] TLS_ok hnt fun K hK => ?_
  refine And.intro (VLe.refl _) ?_; refine And.intro (dintE (by rfl)) ?_; refine And.intro (VLe.refl _) ?_; refine And.intro (⟨by decide, by decide⟩) ?_; refine And.intro (VLe.of_eq rfl) ?_; refine And.intro (dintE (by rfl)) ?_; refine And.intro (VLe.refl _) ?_; refine And.intro (dintE (by rfl)) ?_; refine And.intro (VLe.refl _) ?_; refine And.intro (dintE (by rfl)) ?_; refine And.intro (VLe.refl _) ?_
  refine And.intro (⟨by decide, by decide⟩) ?_; refine And.intro (VLe.of_eq rfl) ?_; refine And.intro (dintE (by rfl)) ?_; refine And.intro (VLe.refl _) ?_; refine And.intro (⟨by decide, by decide⟩) ?_; refine And.intro (VLe.of_eq rfl) ?_; refine And.intro (⟨by decide, by decide⟩) ?_; refine And.intro (VLe.of_eq rfl) ?_; refine hK _ _ ?_; clear hK K; refine dw_ret ?_
  exact reta rfl
/-! the law -/
theorem sizes_le22 {l : List Ty} {n : Nat} (h : ∀ t ∈ l, t.size ≤ n) : Ty.sizes l ≤ l.length * n := by
  induction l with
  | nil => simp [Ty.sizes]
  | cons t l ih =>
    have h1 := h t (by simp)
    have h2 := ih fun u hu => h u (by simp [hu])
    rw [Ty.sizes, List.length_cons, Nat.add_mul]; omega
end Go.Proofs.Ytcblpjheoclkeaa

namespace Go.Proofs.Ytcblpjheoclkeaa
open Go.RowKit

end Go.Proofs.Ytcblpjheoclkeaa

namespace Go.Proofs.Ytcblpjheoclkeaa
open Go.RowKit
namespace Li
end Li
end Go.Proofs.Ytcblpjheoclkeaa

namespace Go.Proofs.Ytcblpjheoclkeaa
open Go.RowKit
namespace Pn
end Pn
end Go.Proofs.Ytcblpjheoclkeaa

namespace Go.Proofs.Ytcblpjheoclkeaa
open Go.RowKit

end Go.Proofs.Ytcblpjheoclkeaa

namespace Go.Proofs.Ytcblpjheoclkeaa
open Go.RowKit

def Rises (out S : List Int) : Prop := out.Pairwise (· < ·) ∧ (∀ y, y ∈ out ↔ y ∈ S) ∧ out.length ≤ S.length
theorem rises_nil : Rises [] [] := ⟨.nil, by simp, by simp⟩
theorem Rises.skip {out S : List Int} {x : Int} (h : Rises out S) (hx : x ∈ out) : Rises out (S ++ [x]) :=
  ⟨h.1, fun y => by
    rw [h.2.1, List.mem_append]
    constructor
    · exact .inl
    · rintro (h' | h')
      · exact h'
      · simp at h'; subst h'; exact (h.2.1 _).1 hx, by have := h.2.2; simp; omega⟩
theorem Rises.put {out S : List Int} {x : Int} {a : Nat} (h : Rises out S) (ha : a ≤ out.length) (hlt : ∀ k (hk : k < a), out[k] < x) (hge : ∀ h' : a < out.length, ¬ out[a] < x ∧ out[a] ≠ x) : Rises (out.take a ++ [x] ++ out.drop a) (S ++ [x]) := by
  have h1 := List.pairwise_iff_getElem.1 h.1
  have hT : ∀ y ∈ out.take a, y < x := fun y hy => by
    obtain ⟨k, hk, e⟩ := List.getElem_of_mem hy
    have hk' : k < a := by simp at hk; omega
    rw [← e, List.getElem_take]; exact hlt k hk'
  have hD : ∀ y ∈ out.drop a, x < y := fun y hy => by
    obtain ⟨k, hk, e⟩ := List.getElem_of_mem hy
    have hk' : a + k < out.length := by simp at hk; omega
    rw [← e, List.getElem_drop]
    have h2 := hge (by omega)
    by_cases hk0 : k = 0
    · subst hk0; simp only [Nat.add_zero]; omega
    · have := h1 a (a + k) (by omega) hk' (by omega); omega
  refine ⟨?_, fun y => ?_, ?_⟩
  · have hp : (out.take a ++ out.drop a).Pairwise (· < ·) := by rw [List.take_append_drop]; exact h.1
    rw [List.pairwise_append] at hp
    rw [List.append_assoc, List.pairwise_append, List.singleton_append, List.pairwise_cons]
    refine ⟨hp.1, ⟨hD, hp.2.1⟩, fun y hy z hz => ?_⟩
    rcases List.mem_cons.1 hz with rfl | hz
    · exact hT y hy
    · exact hp.2.2 y hy z hz
  · rw [List.mem_append, List.mem_append, List.mem_append, ← h.2.1]
    have : y ∈ out ↔ y ∈ out.take a ∨ y ∈ out.drop a := by rw [← List.mem_append, List.take_append_drop]
    rw [this]
    constructor
    · rintro ((h' | h') | h')
      · exact .inl (.inl h')
      · exact .inr h'
      · exact .inl (.inr h')
    · rintro ((h' | h') | h')
      · exact .inl (.inl h')
      · exact .inr h'
      · exact .inl (.inr h')
  · have := h.2.2; simp; omega
theorem Rises.eq {out S : List Int} (h : Rises out S) : out = sortU S := rises_eq h.1 (sortU_spec S).1 fun x => by rw [h.2.1, (sortU_spec S).2]

theorem metasH_take (l : List (Int × Int)) (j : Nat) (h : j < l.length) : metasH (l.take (j + 1)) = metasH (l.take j) ++ if l[j].1 = 2 then [l[j].2] else [] := by
  rw [List.take_succ_eq_append_getElem h]
  unfold metasH
  rw [List.filterMap_append]
  congr 1
  by_cases hk : l[j].1 = 2
  · simp [hk]
  · simp [hk]
def metasT (l : List Tm) : List Int := l.flatMap fun t => metasH (t.heads 0)
theorem metasT_take (l : List Tm) (j : Nat) (h : j < l.length) : metasT (l.take (j + 1)) = metasT (l.take j) ++ metasH (l[j].heads 0) := by
  rw [List.take_succ_eq_append_getElem h]; unfold metasT; rw [List.flatMap_append]; simp
theorem metasT_len (l : List Tm) (m : Nat) (h : ∀ t ∈ l, t.full ≤ m) : (metasT l).length ≤ l.length * m := by
  induction l with
  | nil => simp [metasT]
  | cons t l ih =>
    have h1 := h t (by simp)
    have h2 := ih (fun u hu => h u (by simp [hu]))
    have h3 : (metasT (t :: l)).length = (metasH (t.heads 0)).length + (metasT l).length := by simp [metasT]
    have h4 : (metasH (t.heads 0)).length ≤ (t.heads 0).length := List.length_filterMap_le _ _
    have h5 := Tm.heads_len t 0
    rw [h3, List.length_cons, Nat.succ_mul]; omega

end Go.Proofs.Ytcblpjheoclkeaa

namespace Go.Proofs.Ytcblpjheoclkeaa
open Go.RowKit
def TRX_3 : TI := ⟨1, false, [Value.int IntKind.i64 0], [], none, 8, 2, none, false⟩
theorem TRX_3_ok : TypOk Try.prog 3 TRX_3 := ⟨by kernel_rfl, by kernel_rfl, by kernel_rfl, by kernel_rfl, by kernel_rfl⟩
def TRX_27 : TI := ⟨4, true, [Value.slice none 0 0, Value.int IntKind.i64 0, Value.int IntKind.i64 0, Value.slice none 0 0], [(0, 1, false), (1, 2, true), (3, 1, false)], none, 64, 6, none, false⟩
theorem TRX_27_ok : TypOk Try.prog 27 TRX_27 := ⟨by kernel_rfl, by kernel_rfl, by kernel_rfl, by kernel_rfl, by kernel_rfl⟩
def TRX_43 : TI := ⟨1, false, [Value.slice none 0 0], [], some 3, 24, 5, none, false⟩
theorem TRX_43_ok : TypOk Try.prog 43 TRX_43 := ⟨by kernel_rfl, by kernel_rfl, by kernel_rfl, by kernel_rfl, by kernel_rfl⟩
def TRX_97 : TI := ⟨1, false, [Value.slice none 0 0], [], some 24, 24, 5, none, false⟩
theorem TRX_97_ok : TypOk Try.prog 97 TRX_97 := ⟨by kernel_rfl, by kernel_rfl, by kernel_rfl, by kernel_rfl, by kernel_rfl⟩
def TRX_24 : TI := ⟨2, true, [Value.int IntKind.i64 0, Value.int IntKind.i64 0], [(0, 1, false), (1, 1, false)], none, 16, 6, none, true⟩
theorem TRX_24_ok : TypOk Try.prog 24 TRX_24 := ⟨by kernel_rfl, by kernel_rfl, by kernel_rfl, by kernel_rfl, by kernel_rfl⟩
def TRX_25 : TI := ⟨1, false, [Value.slice none 0 0], [], some 27, 24, 5, none, false⟩
theorem TRX_25_ok : TypOk Try.prog 25 TRX_25 := ⟨by kernel_rfl, by kernel_rfl, by kernel_rfl, by kernel_rfl, by kernel_rfl⟩
def TRX_22 : TI := ⟨1, false, [Value.slice none 0 0], [], some 123, 24, 5, none, false⟩
theorem TRX_22_ok : TypOk Try.prog 22 TRX_22 := ⟨by kernel_rfl, by kernel_rfl, by kernel_rfl, by kernel_rfl, by kernel_rfl⟩
def TRX_123 : TI := ⟨2, true, [Value.slice none 0 0, Value.int IntKind.i64 0], [(0, 1, false), (1, 1, false)], none, 32, 6, none, false⟩
theorem TRX_123_ok : TypOk Try.prog 123 TRX_123 := ⟨by kernel_rfl, by kernel_rfl, by kernel_rfl, by kernel_rfl, by kernel_rfl⟩
def TRX : List (Nat × TI) := [(3, TRX_3), (27, TRX_27), (43, TRX_43), (97, TRX_97), (24, TRX_24), (25, TRX_25), (22, TRX_22), (123, TRX_123)]
theorem TRX_ok : TabOk Try.prog TRX := (((((((((TabOk.nil _).cons TRX_123_ok).cons TRX_22_ok).cons TRX_25_ok).cons TRX_24_ok).cons TRX_97_ok).cons TRX_43_ok).cons TRX_27_ok).cons TRX_3_ok)
def eHs (l : List (Int × Int)) : List (List D) := l.map fun h => [.v (.int .i64 h.1), .v (.int .i64 h.2)]
theorem eHs_len (l : List (Int × Int)) : (eHs l).length = l.length := List.length_map ..
theorem eHs_append (l r : List (Int × Int)) : eHs (l ++ r) = eHs l ++ eHs r := List.map_append ..
theorem eHs_getD (l : List (Int × Int)) (i : Nat) (h : i < l.length) : (eHs l).getD i [] = [.v (.int .i64 l[i].1), .v (.int .i64 l[i].2)] := by
  rw [eHs, List.getD_eq_getElem?_getD, List.getElem?_map, List.getElem?_eq_getElem h]; rfl
@[simp] theorem eHs_ok (f g : Nat → Bool) (l : List (Int × Int)) : D.okss f g (eHs l) = true := D.okss_map _ l fun _ _ => rfl
set_option maxHeartbeats 2000000 in
theorem rheads_d : ∀ (t : Tm) (n : Int), 0 ≤ n → n + t.full ≤ 1000000 → t.Fit → PureC Try.prog 83 [.ag (eTm t), .v (.int .i64 n)] (.sl 2 (eHs (t.heads n)) none) := by
 intro t
 induction t using Tm.ind with
 | h b k i a ih =>
 intro n h0 hz hf
 obtain ⟨f1, f2, f3⟩ := Tm.fit_iff.1 hf
 rw [Tm.full_eq] at hz
 have hal := fulls_len a
 have hbl := Ty.le_sizes b
 obtain ⟨m, hm⟩ : ∃ m : Int, n + (b.length : Int) = m := ⟨_, rfl⟩
 rw [Tm.heads_eq _ _ _ _ _ _ hm, eTm_eq]
 simp only [binds_mk', kind_mk', index_mk', args_mkT]
 obtain ⟨hd, hhd⟩ : ∃ hd, (if k ≠ 0 then [(k, i)] else if m ≤ i then [(0, i - m)] else []) = hd := ⟨_, rfl⟩
 have hdl : hd.length ≤ 1 := by rw [← hhd]; split <;> (try split) <;> simp
 rw [hhd]
 refine calldw 0 55 [ResultVar.tmp 4] TRX_ok Try.func83 rfl Try.ntmps83 rfl fun cx hnt hn0 => ?_
 ·skip
  refine dw_seq ?_; refine dwk [] TRX_ok hnt fun K hK => ?_; refine hK _ _ ?_; clear hK K; refine dw_seq ?_; refine dwk [] TRX_ok hnt fun K hK => ?_; refine hK _ _ ?_; clear hK K
  refine DW.vs (VS.rowT (x := 5) (by rw [hnt]; decide) 24 2 rfl) ?_
  refine dw_seq ?_; refine dwk [(11, .v (.int .i64 (↑b.length))), (12, .v (.int .i64 (m)))] TRX_ok hnt fun K hK => ?_; refine And.intro (dintE (by rw [eTys_len])) ?_; refine And.intro auI ?_; refine hK _ _ ?_; clear hK K
  refine dw_cut (τ := [(.t 2, .p 0 0), (.t 5, .sl 2 (eHs hd) (some 3)), (.r 3, .rw 24 2 hd.length), (.t 6, .v (.int .i64 m)), (.c 0 3, .sl 4 (eTms a) none)]) (N1 := 4) ?_ ?_
  ·by_cases hk : k = 0
   ·by_cases hi : m ≤ i
    ·rw [if_neg (by simp [hk]), if_pos hi] at hhd
     subst hhd
     refine dw_block ?_; refine dw_seq ?_; refine dwk [(17, .v (.bool false))] TRX_ok hnt fun K hK => ?_; refine And.intro (bneF hk) ?_; refine hK _ _ ?_; clear hK K; refine dw_cond (t := false) rfl ?_; rw [if_neg (by simp)]; refine dw_seq ?_; refine dwk [(28, .v (.bool true))] TRX_ok hnt fun K hK => ?_; refine And.intro auT ?_; refine hK _ _ ?_; clear hK K; refine dw_cond (t := true) rfl ?_; rw [if_pos rfl]
     refine dwk [(34, .v (.int .i64 (i - m)))] TRX_ok hnt fun K hK => ?_; refine And.intro auI ?_; refine And.intro (⟨rfl, by simp⟩) ?_; refine hK _ _ ?_; clear hK K
     exact cut_ok (VS.toK (by omega) (by repeat first | exact trivial | refine And.intro (And.intro (by first | rfl | simp [D.ok, D.oks, D.okss, D.okm, upto, keyOk, eHs]) (by first | exact Or.inl rfl | exact Or.inr ⟨_, rfl, (by repeat first | exact VLe.refl _ | exact VLe.nil _ | exact VLe.untag _ _ _ | refine VLe.ag ?_ | refine VLe.tu ?_ | refine VLeL.cons ?_ ?_ | exact VLeL.nil), trivial⟩ | simp [get, Key.eq, eHs])) ?_))
    ·rw [if_neg (by simp [hk]), if_neg hi] at hhd
     subst hhd
     refine dw_block ?_; refine dw_seq ?_; refine dwk [(17, .v (.bool false))] TRX_ok hnt fun K hK => ?_; refine And.intro (bneF hk) ?_; refine hK _ _ ?_; clear hK K; refine dw_cond (t := false) rfl ?_; rw [if_neg (by simp)]; refine dw_seq ?_; refine dwk [(28, .v (.bool false))] TRX_ok hnt fun K hK => ?_; refine And.intro auF ?_; refine hK _ _ ?_; clear hK K; refine dw_cond (t := false) rfl ?_; rw [if_neg (by simp)]
     refine dw_skip ?_
     exact cut_ok (VS.toK (by omega) (by repeat first | exact trivial | refine And.intro (And.intro (by first | rfl | simp [D.ok, D.oks, D.okss, D.okm, upto, keyOk, eHs]) (by first | exact Or.inl rfl | exact Or.inr ⟨_, rfl, (by repeat first | exact VLe.refl _ | exact VLe.nil _ | exact VLe.untag _ _ _ | refine VLe.ag ?_ | refine VLe.tu ?_ | refine VLeL.cons ?_ ?_ | exact VLeL.nil), trivial⟩ | simp [get, Key.eq, eHs])) ?_))
   ·rw [if_pos hk] at hhd
    subst hhd
    refine dw_block ?_; refine dw_seq ?_; refine dwk [(17, .v (.bool true))] TRX_ok hnt fun K hK => ?_; refine And.intro (bneT hk) ?_; refine hK _ _ ?_; clear hK K; refine dw_cond (t := true) rfl ?_; rw [if_pos rfl]; refine dwk [] TRX_ok hnt fun K hK => ?_; refine And.intro (⟨rfl, by simp⟩) ?_; refine hK _ _ ?_; clear hK K
    exact cut_ok (VS.toK (by omega) (by repeat first | exact trivial | refine And.intro (And.intro (by first | rfl | simp [D.ok, D.oks, D.okss, D.okm, upto, keyOk, eHs]) (by first | exact Or.inl rfl | exact Or.inr ⟨_, rfl, (by repeat first | exact VLe.refl _ | exact VLe.nil _ | exact VLe.untag _ _ _ | refine VLe.ag ?_ | refine VLe.tu ?_ | refine VLeL.cons ?_ ?_ | exact VLeL.nil), trivial⟩ | simp [get, Key.eq, eHs])) ?_))
  ·skip
   refine dw_seq ?_; refine dw_seq ?_; refine dwk [] TRX_ok hnt fun K hK => ?_; refine hK _ _ ?_; clear hK K; refine dw_block ?_
   refine dw_loop (ι := { j : Nat // j ≤ a.length }) (fun j => [(.t 2, .p 0 0), (.t 5, .sl 2 (eHs (hd ++ Tm.headss (a.take j.1) m)) (some 3)), (.r 3, .rw 24 2 (hd ++ Tm.headss (a.take j.1) m).length), (.t 6, .v (.int .i64 m)), (.t 7, .v (.int .i64 ↑j.1)), (.c 0 3, .sl 4 (eTms a) none)]) 4 (fun j => a.length - j.1) (⟨0, Nat.zero_le _⟩) ((by simp only [List.take_zero, Tm.headss, List.append_nil]; exact VS.toA)) fun j => ?_
   obtain ⟨j, hj⟩ := j
   dsimp only
   by_cases hlt : j < a.length
   ·have hmem := List.getElem_mem hlt
    have hfm := full_mem hmem
    have hih := ih a[j] hmem m (by omega) (by omega) (f3 _ hmem)
    have hst := Tm.headss_take a m j hlt
    have hl1 := Tm.heads_len a[j] m
    have hl2 := Tm.headss_len (a.take j) m
    have hl3 := Tm.fulls_take_le a (j + 1)
    have hl5 := Tm.fulls_take a j hlt
    rw [eTm_eq] at hih
    refine dw_seq ?_; refine dw_seq ?_; refine dwk [(41, .v (.int .i64 (↑a.length))), (42, .v (.bool true))] TRX_ok hnt fun K hK => ?_; refine And.intro (dintE (by rw [eTms_len])) ?_; refine And.intro auT ?_; refine hK _ _ ?_; clear hK K; refine dw_cond (t := true) rfl ?_; rw [if_pos rfl]; refine dw_skip ?_; refine dw_seq ?_; refine dw_block ?_; refine dwk [(49, .q [.sl 2 (eTys a[j].binds) none, .v (.int .i64 a[j].kind), .v (.int .i64 a[j].index), .sl 4 (eTms a[j].args) none]), (53, .sl 2 (eHs (hd ++ Tm.headss (a.take (j + 1)) m)) (some 3))] TRX_ok hnt fun K hK => ?_
    refine And.intro (elo (eTms_len a)) ?_; refine And.intro (elv (eTms_getD a j) (eTm_eq _)) ?_; refine dcl (hih) ?_; refine And.intro (⟨by rw [eHs_len], by rw [eHs_len, eHs_len, List.length_append]; omega⟩) ?_; refine And.intro (VLe.of_eq (by rw [hst, ← List.append_assoc, eHs_append (hd ++ _)])) ?_; refine hK _ _ ?_; clear hK K; refine dwk [(44, .v (.int .i64 (↑(j + 1))))] TRX_ok hnt fun K hK => ?_; refine And.intro auI ?_
    refine hK _ _ ?_; clear hK K
    have hl4 : (eHs (hd ++ Tm.headss (a.take j) m) ++ eHs (a[j].heads m)).length = (hd ++ Tm.headss (a.take (j + 1)) m).length := by rw [← eHs_append, eHs_len, hst, List.append_assoc]
    refine ⟨⟨j + 1, by omega⟩, by first | omega | (dsimp only; omega), (by try simp only [List.length_append, List.length_take, List.length_cons, List.length_nil, Nat.zero_add, hl4]; exact VS.toA)⟩
   ·rw [List.take_of_length_le (by omega)]
    refine dw_seq ?_; refine dw_seq ?_; refine dwk [(41, .v (.int .i64 (↑a.length))), (42, .v (.bool false))] TRX_ok hnt fun K hK => ?_; refine And.intro (dintE (by rw [eTms_len])) ?_; refine And.intro auF ?_; refine hK _ _ ?_; clear hK K; refine dw_cond (t := false) rfl ?_; rw [if_neg (by simp)]; refine dw_exit ?_; refine dw_seq ?_; refine dwk [] TRX_ok hnt fun K hK => ?_; refine hK _ _ ?_; clear hK K
    refine dw_ret ?_
    exact reta rfl
theorem rHeads_d (t : Tm) (hz : t.full ≤ 1000000) (hf : t.Fit) : PureC Try.prog 47 [.ag (eTm t)] (.sl 2 (eHs (t.heads 0)) none) := by
 have h := rheads_d t 0 (by omega) (by omega) hf
 rw [eTm_eq] at h ⊢
 refine calldw 0 5 [ResultVar.tmp 2] TRX_ok Try.func47 rfl Try.ntmps47 rfl fun cx hnt hn0 => ?_
 ·skip
  refine dw_seq ?_; refine dwk [] TRX_ok hnt fun K hK => ?_; refine hK _ _ ?_; clear hK K; refine dw_seq ?_; refine dwk [] TRX_ok hnt fun K hK => ?_; refine dcl (h) ?_; refine hK _ _ ?_; clear hK K; refine dw_ret ?_
  exact reta rfl
theorem eIs_take (o : List Int) (a : Nat) : (eIs o).take a = eIs (o.take a) := by unfold eIs; rw [List.map_take]
theorem eIs_drop (o : List Int) (a : Nat) : ((eIs o).take (eIs o).length).drop a = eIs (o.drop a) := by rw [List.take_length]; unfold eIs; rw [List.map_drop]
theorem metasH_len (l : List (Int × Int)) : (metasH l).length ≤ l.length := List.length_filterMap_le _ _
set_option maxHeartbeats 4000000 in
theorem rMetas_d (l : List Tm) (hl : l.length ≤ 9) (hz : ∀ t ∈ l, t.full ≤ 90000) (hf : ∀ t ∈ l, t.Fit) : PureC Try.prog 13 [.sl 4 (eTms l) none] (.sl 1 (eIs (sortU (metasT l))) none) := by
 have hml := metasT_len l 90000 hz
 refine calldw 0 85 [ResultVar.tmp 2] TRX_ok Try.func13 rfl Try.ntmps13 rfl fun cx hnt hn0 => ?_
 ·skip
  refine dw_seq ?_; refine dwk [] TRX_ok hnt fun K hK => ?_; refine hK _ _ ?_; clear hK K; refine dw_seq ?_; refine dwk [(3, .sl 1 (eIs []) none)] TRX_ok hnt fun K hK => ?_; refine And.intro (VLe.nil _) ?_; refine hK _ _ ?_; clear hK K; refine dw_seq ?_; refine dw_seq ?_; refine dwk [] TRX_ok hnt fun K hK => ?_; refine hK _ _ ?_; clear hK K; refine dw_block ?_
  refine dw_loop (ι := { q : Nat × List Int // q.1 ≤ l.length ∧ Rises q.2 (metasT (l.take q.1)) }) (fun q => [(.t 0, .sl 4 (eTms l) none), (.t 3, .sl 1 (eIs q.1.2) none), (.t 4, .v (.int .i64 ↑q.1.1))]) 3 (fun q => l.length - q.1.1) (⟨(0, []), Nat.zero_le _, by simpa [metasT] using rises_nil⟩) (VS.toA) fun q => ?_
  obtain ⟨⟨i, o⟩, hi, hr⟩ := q
  dsimp only at hi hr ⊢
  by_cases hlt : i < l.length
  ·have hmem := List.getElem_mem hlt
   have hH := rHeads_d l[i] (by have := hz _ hmem; omega) (hf _ hmem)
   have hhl := Tm.heads_len l[i] 0
   have hzi := hz _ hmem
   have hmt := metasT_take l i hlt
   have hS0 := metasT_len (l.take i) 90000 fun t ht => hz t (List.mem_of_mem_take ht)
   rw [List.length_take] at hS0
   obtain ⟨hs, hhs⟩ : ∃ hs, l[i].heads 0 = hs := ⟨_, rfl⟩
   obtain ⟨S, hS⟩ : ∃ S, metasT (l.take i) = S := ⟨_, rfl⟩
   rw [hhs] at hH hhl hmt
   rw [hS] at hr hmt hS0
   have hS1 : S.length ≤ 810000 := by
    have : min i l.length * 90000 ≤ 9 * 90000 := Nat.mul_le_mul_right _ (by omega)
    omega
   rw [eTm_eq] at hH
   refine dw_seq ?_; refine dw_seq ?_; refine dwk [(11, .v (.int .i64 (↑l.length))), (12, .v (.bool true))] TRX_ok hnt fun K hK => ?_; refine And.intro (dintE (by rw [eTms_len])) ?_; refine And.intro auT ?_; refine hK _ _ ?_; clear hK K; refine dw_cond (t := true) rfl ?_; rw [if_pos rfl]; refine dw_skip ?_; refine dw_seq ?_; refine dw_block ?_; refine dw_seq ?_; refine dwk [(17, .q [.sl 2 (eTys l[i].binds) none, .v (.int .i64 l[i].kind), .v (.int .i64 l[i].index), .sl 4 (eTms l[i].args) none])] TRX_ok hnt fun K hK => ?_
   refine And.intro (elo (eTms_len l)) ?_; refine And.intro (elv (eTms_getD l i) (eTm_eq _)) ?_; refine dcl (hH) ?_; refine hK _ _ ?_; clear hK K; refine dw_seq ?_; refine dwk [] TRX_ok hnt fun K hK => ?_; refine hK _ _ ?_; clear hK K; refine dw_block ?_
   refine dw_loop (ι := { q : Nat × List Int // q.1 ≤ hs.length ∧ Rises q.2 (S ++ metasH (hs.take q.1)) }) (fun q => [(.t 0, .sl 4 (eTms l) none), (.t 3, .sl 1 (eIs q.1.2) none), (.t 4, .v (.int .i64 ↑i)), (.t 5, .sl 2 (eHs hs) none), (.t 6, .v (.int .i64 ↑q.1.1))]) 4 (fun q => hs.length - q.1.1) (⟨(0, o), Nat.zero_le _, by simpa [metasH] using hr⟩) (VS.toA) fun r => ?_
   obtain ⟨⟨k, o⟩, hk, hr⟩ := r
   dsimp only at hk hr ⊢
   by_cases hlk : k < hs.length
   ·have hgk := eHs_getD hs k hlk
    have hmk := metasH_take hs k hlk
    have hol := hr.2.2
    have hMl := metasH_len (hs.take k)
    rw [List.length_append] at hol
    rw [List.length_take] at hMl
    obtain ⟨⟨hk1, x⟩, hx⟩ : ∃ h, hs[k] = h := ⟨_, rfl⟩
    rw [hx] at hgk hmk
    dsimp only at hgk hmk
    by_cases h2 : hk1 = 2
    ·rw [if_pos h2] at hmk; refine dw_seq ?_; refine dw_seq ?_; refine dwk [(22, .v (.int .i64 (↑hs.length))), (23, .v (.bool true))] TRX_ok hnt fun K hK => ?_; refine And.intro (dintE (by rw [eHs_len])) ?_; refine And.intro auT ?_; refine hK _ _ ?_; clear hK K; refine dw_cond (t := true) rfl ?_; rw [if_pos rfl]; refine dw_skip ?_; refine dw_seq ?_; refine dw_block ?_; refine dw_seq ?_; refine dw_seq ?_
     refine dwk [(28, .q [.v (.int .i64 hk1), .v (.int .i64 x)]), (31, .v (.bool false))] TRX_ok hnt fun K hK => ?_; refine And.intro (⟨by omega, by rw [eHs_len]; omega⟩) ?_; refine And.intro (VLe.of_eq (by rw [Int.toNat_natCast, hgk])) ?_; refine And.intro (bneF h2) ?_; refine hK _ _ ?_; clear hK K; refine dw_cond (t := false) rfl ?_; rw [if_neg (by simp)]; refine dw_skip ?_; refine dw_seq ?_; refine dwk [] TRX_ok hnt fun K hK => ?_
     refine hK _ _ ?_; clear hK K; refine dw_seq ?_; refine dw_block ?_
     refine dw_loop (ι := { a : Nat // a ≤ o.length ∧ ∀ q (h : q < o.length), q < a → o[q] < x }) (fun a => [(.t 0, .sl 4 (eTms l) none), (.t 3, .sl 1 (eIs o) none), (.t 4, .v (.int .i64 ↑i)), (.t 5, .sl 2 (eHs hs) none), (.t 6, .v (.int .i64 ↑k)), (.t 7, .v (.int .i64 ↑a.1))]) 5 (fun a => o.length - a.1) (⟨0, Nat.zero_le _, fun q h1 h2 => by omega⟩) (VS.toA) fun a => ?_
     obtain ⟨a, ha, hax⟩ := a
     dsimp only
     by_cases hla : a < o.length
     ·by_cases hxa : o[a] < x
      ·skip
       refine dw_seq ?_; refine dw_seq ?_; refine dwkD [(34, .v (.int .i64 (↑o.length))), (35, .v (.bool true)), (39, .q [.v (.int .i64 (o[a]))]), (43, .q [.v (.int .i64 hk1), .v (.int .i64 x)]), (46, .v (.bool true))] TRX_ok hnt fun K hK => ?_; refine And.intro (dintE (by rw [eIs_len])) ?_; refine And.intro auT ?_; refine And.intro (elo (eIs_len o)) ?_; refine And.intro (elv (eIs_getD o a) rfl) ?_; refine And.intro (⟨by omega, by rw [eHs_len]; omega⟩) ?_
       refine And.intro (VLe.of_eq (by rw [Int.toNat_natCast, hgk])) ?_; refine And.intro auT ?_; refine hK _ _ (by kernel_rfl) ?_; clear hK K; refine dw_cond (t := true) rfl ?_; rw [if_pos rfl]; refine dw_skip ?_; refine dw_block ?_; refine dwk [(49, .v (.int .i64 (↑(a + 1))))] TRX_ok hnt fun K hK => ?_; refine And.intro auI ?_; refine hK _ _ ?_; clear hK K
       refine ⟨⟨a + 1, hla, fun q h1 h2 => if e : q = a then by subst e; exact hxa else hax q h1 (by omega)⟩, by first | omega | (dsimp only; omega), VS.toA⟩
      ·by_cases hex : o[a] = x
       ·have hsk := hr.skip (x := x) (by rw [← hex]; exact List.getElem_mem hla)
        refine dw_seq ?_; refine dw_seq ?_; refine dwkD [(34, .v (.int .i64 (↑o.length))), (35, .v (.bool true)), (39, .q [.v (.int .i64 (o[a]))]), (43, .q [.v (.int .i64 hk1), .v (.int .i64 x)]), (46, .v (.bool false))] TRX_ok hnt fun K hK => ?_; refine And.intro (dintE (by rw [eIs_len])) ?_; refine And.intro auT ?_; refine And.intro (elo (eIs_len o)) ?_; refine And.intro (elv (eIs_getD o a) rfl) ?_; refine And.intro (⟨by omega, by rw [eHs_len]; omega⟩) ?_
        refine And.intro (VLe.of_eq (by rw [Int.toNat_natCast, hgk])) ?_; refine And.intro auF ?_; refine hK _ _ (by kernel_rfl) ?_; clear hK K; refine dw_cond (t := false) rfl ?_; rw [if_neg (by simp)]; refine dw_exit ?_; refine dw_seq ?_; refine dw_seq ?_; refine dwkD [(52, .v (.int .i64 (↑o.length))), (53, .v (.bool true)), (57, .q [.v (.int .i64 (o[a]))]), (61, .q [.v (.int .i64 hk1), .v (.int .i64 x)]), (64, .v (.bool true))] TRX_ok hnt fun K hK => ?_
        refine And.intro (dintE (by rw [eIs_len])) ?_; refine And.intro auT ?_; refine And.intro (elo (eIs_len o)) ?_; refine And.intro (elv (eIs_getD o a) rfl) ?_; refine And.intro (⟨by omega, by rw [eHs_len]; omega⟩) ?_; refine And.intro (VLe.of_eq (by rw [Int.toNat_natCast, hgk])) ?_; refine And.intro (beqT hex) ?_; refine hK _ _ (by kernel_rfl) ?_; clear hK K; refine dw_cond (t := true) rfl ?_; rw [if_pos rfl]
        refine dw_exit ?_; refine dwk [(25, .v (.int .i64 (↑(k + 1))))] TRX_ok hnt fun K hK => ?_; refine And.intro auI ?_; refine hK _ _ ?_; clear hK K
        refine ⟨⟨(k + 1, o), hlk, by rw [hmk, ← List.append_assoc]; exact hsk⟩, by first | omega | (dsimp only; omega), VS.toA⟩
       ·have hput := hr.put (x := x) (a := a) ha (fun q h => hax q (by omega) h) (fun h => ⟨hxa, hex⟩)
        refine dw_seq ?_; refine dw_seq ?_; refine dwkD [(34, .v (.int .i64 (↑o.length))), (35, .v (.bool true)), (39, .q [.v (.int .i64 (o[a]))]), (43, .q [.v (.int .i64 hk1), .v (.int .i64 x)]), (46, .v (.bool false))] TRX_ok hnt fun K hK => ?_; refine And.intro (dintE (by rw [eIs_len])) ?_; refine And.intro auT ?_; refine And.intro (elo (eIs_len o)) ?_; refine And.intro (elv (eIs_getD o a) rfl) ?_; refine And.intro (⟨by omega, by rw [eHs_len]; omega⟩) ?_
        refine And.intro (VLe.of_eq (by rw [Int.toNat_natCast, hgk])) ?_; refine And.intro auF ?_; refine hK _ _ (by kernel_rfl) ?_; clear hK K; refine dw_cond (t := false) rfl ?_; rw [if_neg (by simp)]; refine dw_exit ?_; refine dw_seq ?_; refine dw_seq ?_; refine dwkD [(52, .v (.int .i64 (↑o.length))), (53, .v (.bool true)), (57, .q [.v (.int .i64 (o[a]))]), (61, .q [.v (.int .i64 hk1), .v (.int .i64 x)]), (64, .v (.bool false))] TRX_ok hnt fun K hK => ?_
        refine And.intro (dintE (by rw [eIs_len])) ?_; refine And.intro auT ?_; refine And.intro (elo (eIs_len o)) ?_; refine And.intro (elv (eIs_getD o a) rfl) ?_; refine And.intro (⟨by omega, by rw [eHs_len]; omega⟩) ?_; refine And.intro (VLe.of_eq (by rw [Int.toNat_natCast, hgk])) ?_; refine And.intro (beqF hex) ?_; refine hK _ _ (by kernel_rfl) ?_; clear hK K; refine dw_cond (t := false) rfl ?_; rw [if_neg (by simp)]
        refine dw_skip ?_; refine dw_seq ?_; refine dwk [(69, .sl 1 (eIs (o.take a)) none)] TRX_ok hnt fun K hK => ?_; refine And.intro (⟨by omega, by rw [eIs_len]; omega⟩) ?_; refine And.intro (VLe.of_eq (congrArg (D.sl 1 · none) (eIs_take o a))) ?_; refine And.intro (⟨rfl, by simp [eIs_len]; omega⟩) ?_; refine hK _ _ ?_; clear hK K; refine dw_seq ?_; refine dwk [(74, .q [.v (.int .i64 hk1), .v (.int .i64 x)])] TRX_ok hnt fun K hK => ?_
        refine And.intro (⟨by omega, by rw [eHs_len]; omega⟩) ?_; refine And.intro (VLe.of_eq (by rw [Int.toNat_natCast, hgk])) ?_; refine And.intro (⟨by simp [eIs_len], by simp [eIs_len]; omega⟩) ?_; refine hK _ _ ?_; clear hK K; refine dwk [(82, .sl 1 (eIs (o.drop a)) none), (83, .sl 1 (eIs (o.take a ++ [x] ++ o.drop a)) none)] TRX_ok hnt fun K hK => ?_; refine And.intro (⟨by omega, by rw [eIs_len]; omega⟩) ?_
        refine And.intro (VLe.of_eq (congrArg (D.sl 1 · none) (eIs_drop o a))) ?_; refine And.intro (⟨by simp [eIs_len], by simp [eIs_len]; omega⟩) ?_; refine And.intro ((by rw [eIs_append, eIs_append]; exact VLe.untag _ _ _)) ?_; refine hK _ _ ?_; clear hK K; refine dwk [(25, .v (.int .i64 (↑(k + 1))))] TRX_ok hnt fun K hK => ?_; refine And.intro auI ?_; refine hK _ _ ?_; clear hK K
        refine ⟨⟨(k + 1, o.take a ++ [x] ++ o.drop a), hlk, by rw [hmk, ← List.append_assoc]; exact hput⟩, by first | omega | (dsimp only; omega), VS.toA⟩
     ·have hput := hr.put (x := x) (a := a) ha (fun q h => hax q (by omega) h) (fun h => absurd h hla)
      refine dw_seq ?_; refine dw_seq ?_; refine dwkD [(34, .v (.int .i64 (↑o.length))), (35, .v (.bool false))] TRX_ok hnt fun K hK => ?_; refine And.intro (dintE (by rw [eIs_len])) ?_; refine And.intro auF ?_; refine hK _ _ (by kernel_rfl) ?_; clear hK K; refine dw_cond (t := false) rfl ?_; rw [if_neg (by simp)]; refine dw_exit ?_; refine dw_seq ?_; refine dw_seq ?_; refine dwkD [(52, .v (.int .i64 (↑o.length))), (53, .v (.bool false))] TRX_ok hnt fun K hK => ?_
      refine And.intro (dintE (by rw [eIs_len])) ?_; refine And.intro auF ?_; refine hK _ _ (by kernel_rfl) ?_; clear hK K; refine dw_cond (t := false) rfl ?_; rw [if_neg (by simp)]; refine dw_skip ?_; refine dw_seq ?_; refine dwk [(69, .sl 1 (eIs (o.take a)) none)] TRX_ok hnt fun K hK => ?_; refine And.intro (⟨by omega, by rw [eIs_len]; omega⟩) ?_; refine And.intro (VLe.of_eq (congrArg (D.sl 1 · none) (eIs_take o a))) ?_
      refine And.intro (⟨rfl, by simp [eIs_len]; omega⟩) ?_; refine hK _ _ ?_; clear hK K; refine dw_seq ?_; refine dwk [(74, .q [.v (.int .i64 hk1), .v (.int .i64 x)])] TRX_ok hnt fun K hK => ?_; refine And.intro (⟨by omega, by rw [eHs_len]; omega⟩) ?_; refine And.intro (VLe.of_eq (by rw [Int.toNat_natCast, hgk])) ?_; refine And.intro (⟨by simp [eIs_len], by simp [eIs_len]; omega⟩) ?_; refine hK _ _ ?_; clear hK K
      refine dwk [(82, .sl 1 (eIs (o.drop a)) none), (83, .sl 1 (eIs (o.take a ++ [x] ++ o.drop a)) none)] TRX_ok hnt fun K hK => ?_; refine And.intro (⟨by omega, by rw [eIs_len]; omega⟩) ?_; refine And.intro (VLe.of_eq (congrArg (D.sl 1 · none) (eIs_drop o a))) ?_; refine And.intro (⟨by simp [eIs_len], by simp [eIs_len]; omega⟩) ?_; refine And.intro ((by rw [eIs_append, eIs_append]; exact VLe.untag _ _ _)) ?_
      refine hK _ _ ?_; clear hK K; refine dwk [(25, .v (.int .i64 (↑(k + 1))))] TRX_ok hnt fun K hK => ?_; refine And.intro auI ?_; refine hK _ _ ?_; clear hK K
      refine ⟨⟨(k + 1, o.take a ++ [x] ++ o.drop a), hlk, by rw [hmk, ← List.append_assoc]; exact hput⟩, by first | omega | (dsimp only; omega), VS.toA⟩
    ·rw [if_neg h2, List.append_nil] at hmk; refine dw_seq ?_; refine dw_seq ?_; refine dwk [(22, .v (.int .i64 (↑hs.length))), (23, .v (.bool true))] TRX_ok hnt fun K hK => ?_; refine And.intro (dintE (by rw [eHs_len])) ?_; refine And.intro auT ?_; refine hK _ _ ?_; clear hK K; refine dw_cond (t := true) rfl ?_; rw [if_pos rfl]; refine dw_skip ?_; refine dw_seq ?_; refine dw_block ?_; refine dw_seq ?_
     refine dw_seq ?_; refine dwk [(28, .q [.v (.int .i64 hk1), .v (.int .i64 x)]), (31, .v (.bool true))] TRX_ok hnt fun K hK => ?_; refine And.intro (⟨by omega, by rw [eHs_len]; omega⟩) ?_; refine And.intro (VLe.of_eq (by rw [Int.toNat_natCast, hgk])) ?_; refine And.intro (bneT h2) ?_; refine hK _ _ ?_; clear hK K; refine dw_cond (t := true) rfl ?_; rw [if_pos rfl]; refine dw_exit ?_; refine dwk [(25, .v (.int .i64 (↑(k + 1))))] TRX_ok hnt fun K hK => ?_
     refine And.intro auI ?_; refine hK _ _ ?_; clear hK K
     refine ⟨⟨(k + 1, o), hlk, by rw [hmk]; exact hr⟩, by first | omega | (dsimp only; omega), VS.toA⟩
   ·rw [List.take_of_length_le (by omega)] at hr
    refine dw_seq ?_; refine dw_seq ?_; refine dwk [(22, .v (.int .i64 (↑hs.length))), (23, .v (.bool false))] TRX_ok hnt fun K hK => ?_; refine And.intro (dintE (by rw [eHs_len])) ?_; refine And.intro auF ?_; refine hK _ _ ?_; clear hK K; refine dw_cond (t := false) rfl ?_; rw [if_neg (by simp)]; refine dw_exit ?_; refine dwk [(14, .v (.int .i64 (↑(i + 1))))] TRX_ok hnt fun K hK => ?_; refine And.intro auI ?_
    refine hK _ _ ?_; clear hK K
    refine ⟨⟨(i + 1, o), hlt, by rw [hmt]; exact hr⟩, by first | omega | (dsimp only; omega), VS.toA⟩
  ·rw [List.take_of_length_le (by omega)] at hr
   rw [← hr.eq]
   refine dw_seq ?_; refine dw_seq ?_; refine dwk [(11, .v (.int .i64 (↑l.length))), (12, .v (.bool false))] TRX_ok hnt fun K hK => ?_; refine And.intro (dintE (by rw [eTms_len])) ?_; refine And.intro auF ?_; refine hK _ _ ?_; clear hK K; refine dw_cond (t := false) rfl ?_; rw [if_neg (by simp)]; refine dw_exit ?_; refine dw_seq ?_; refine dwk [] TRX_ok hnt fun K hK => ?_; refine hK _ _ ?_; clear hK K
   refine dw_ret ?_
   exact reta rfl
end Go.Proofs.Ytcblpjheoclkeaa

namespace Go.Proofs.Ytcblpjheoclkeaa
open Go.RowKit

def sgn (x y : Int) : Int := if x < y then -1 else if y < x then 1 else 0
def orl (a b : Int) : Int := if a = 0 then b else a
@[simp] theorem orl_zero (b : Int) : orl 0 b = b := by simp [orl]
@[simp] theorem orl_zero_right (a : Int) : orl a 0 = a := by unfold orl; split <;> simp_all
namespace Ty
mutual
def cmp : Ty → Ty → Int
  | .mk l b, .mk l' b' => orl (orl (orl (sgn (Ty.sizes l + 1 : Nat) (Ty.sizes l' + 1 : Nat)) (sgn (l.length : Nat) (l'.length : Nat))) (cmps l l')) (sgn b b')
def cmps : List Ty → List Ty → Int
  | [], _ => 0
  | _ :: _, [] => 0
  | t :: l, u :: l' => orl (cmp t u) (cmps l l')
end
@[simp] theorem cmps_nil (l : List Ty) : cmps [] l = 0 := by rw [cmps]

end Ty
end Go.Proofs.Ytcblpjheoclkeaa

namespace Go.Proofs.Ytcblpjheoclkeaa
open Go.RowKit

namespace Tm
def cmpB (l l' : List Ty) : Int := orl (sgn (l.length : Nat) (l'.length : Nat)) (Ty.cmps l l')
mutual
def cmp : Tm → Tm → Int
  | .mk b k i a, .mk b' k' i' a' => orl (sgn (Tm.sizes a + 1 : Nat) (Tm.sizes a' + 1 : Nat)) (orl (cmpB b b') (orl (sgn k k') (orl (sgn i i') (orl (sgn (a.length : Nat) (a'.length : Nat)) (cmps a a')))))
def cmps : List Tm → List Tm → Int
  | [], _ => 0
  | _ :: _, [] => 0
  | t :: l, u :: l' => orl (cmp t u) (cmps l l')
end
@[simp] theorem cmps_nil (l : List Tm) : cmps [] l = 0 := by rw [cmps]
end Tm
end Go.Proofs.Ytcblpjheoclkeaa

namespace Go.Proofs.Ytcblpjheoclkeaa
open Go.RowKit

end Go.Proofs.Ytcblpjheoclkeaa

namespace Go.Proofs.Ytcblpjheoclkeaa
open Go.RowKit

namespace Ty
end Ty

end Go.Proofs.Ytcblpjheoclkeaa

namespace Go.Proofs.Ytcblpjheoclkeaa
open Go.RowKit

end Go.Proofs.Ytcblpjheoclkeaa

namespace Go.Proofs.Ytcblpjheoclkeaa
open Go.RowKit

def headTy (C M X : List Ty) (k i : Int) : Option Ty :=
  if i < 0 then none else if k = 0 then X.reverse[i.toNat]? else if k = 1 then C[i.toNat]? else if k = 2 then M[i.toNat]? else none
end Go.Proofs.Ytcblpjheoclkeaa

namespace Go.Proofs.Ytcblpjheoclkeaa
open Go.RowKit

end Go.Proofs.Ytcblpjheoclkeaa

namespace Go.Proofs.Ytcblpjheoclkeaa
open Go.RowKit

mutual
def IsOf (C M : List Ty) : Tm → List Ty → Ty → Prop
  | .mk b k i a, X, u => b = u.args ∧ ∃ h, headTy C M (X ++ b) k i = some h ∧ h.base = u.base ∧ IsOfs C M a (X ++ b) h.args
def IsOfs (C M : List Ty) : List Tm → List Ty → List Ty → Prop
  | [], _, [] => True
  | [], _, _ :: _ => False
  | _ :: _, _, [] => False
  | t :: l, X, u :: l' => IsOf C M t X u ∧ IsOfs C M l X l'
end
end Go.Proofs.Ytcblpjheoclkeaa

namespace Go.Proofs.Ytcblpjheoclkeaa
open Go.RowKit

theorem IsSl.bel {α : Type} {r : Rp α} {F : Nat → Prop} {w w' : World} {v : Value} {l : List α} (h : IsSl r F w v l) (hb : Below w.heap.size w w') : IsSl r F w' v l := h.keep ((Keep.refl _ _).below hb)
end Go.Proofs.Ytcblpjheoclkeaa

namespace Go.Proofs.Ytcblpjheoclkeaa
open Go.RowKit

end Go.Proofs.Ytcblpjheoclkeaa

namespace Go.Proofs.Ytcblpjheoclkeaa
open Go.RowKit

end Go.Proofs.Ytcblpjheoclkeaa

namespace Go.Proofs.Ytcblpjheoclkeaa
open Go.RowKit

end Go.Proofs.Ytcblpjheoclkeaa

namespace Go.Proofs.Ytcblpjheoclkeaa
open Go.RowKit
theorem metasT_L (l : List Tm) (h : ∀ t ∈ l, t.Fit) : metasT l = metasL l := by
  unfold metasT metasL
  induction l with
  | nil => rfl
  | cons t l ih =>
    rw [List.flatMap_cons, List.flatMap_cons, ih fun u hu => h u (by simp [hu]), metasH_pre t (h t (by simp))]
theorem rmetas_d (l : List Tm) (hl : l.length ≤ 9) (hz : ∀ t ∈ l, t.full ≤ 90000) (hf : ∀ t ∈ l, t.Fit) : PureC Try.prog 13 [.sl 4 (eTms l) none] (.sl 1 (eIs (sortU (metasL l))) none) := by
  have h := rMetas_d l hl hz hf
  rw [metasT_L l hf] at h
  exact h
namespace Li
end Li
end Go.Proofs.Ytcblpjheoclkeaa

namespace Go.Proofs.Ytcblpjheoclkeaa
open Go.RowKit
def TOW_27 : TI := ⟨4, true, [Value.slice none 0 0, Value.int IntKind.i64 0, Value.int IntKind.i64 0, Value.slice none 0 0], [(0, 1, false), (1, 2, true), (3, 1, false)], none, 64, 6, none, false⟩
theorem TOW_27_ok : TypOk Try.prog 27 TOW_27 := ⟨by kernel_rfl, by kernel_rfl, by kernel_rfl, by kernel_rfl, by kernel_rfl⟩
def TOW_3 : TI := ⟨1, false, [Value.int IntKind.i64 0], [], none, 8, 2, none, false⟩
theorem TOW_3_ok : TypOk Try.prog 3 TOW_3 := ⟨by kernel_rfl, by kernel_rfl, by kernel_rfl, by kernel_rfl, by kernel_rfl⟩
def TOW_25 : TI := ⟨1, false, [Value.slice none 0 0], [], some 27, 24, 5, none, false⟩
theorem TOW_25_ok : TypOk Try.prog 25 TOW_25 := ⟨by kernel_rfl, by kernel_rfl, by kernel_rfl, by kernel_rfl, by kernel_rfl⟩
def TOW_24 : TI := ⟨2, true, [Value.int IntKind.i64 0, Value.int IntKind.i64 0], [(0, 1, false), (1, 1, false)], none, 16, 6, none, true⟩
theorem TOW_24_ok : TypOk Try.prog 24 TOW_24 := ⟨by kernel_rfl, by kernel_rfl, by kernel_rfl, by kernel_rfl, by kernel_rfl⟩
def TOW_43 : TI := ⟨1, false, [Value.slice none 0 0], [], some 3, 24, 5, none, false⟩
theorem TOW_43_ok : TypOk Try.prog 43 TOW_43 := ⟨by kernel_rfl, by kernel_rfl, by kernel_rfl, by kernel_rfl, by kernel_rfl⟩
def TOW_22 : TI := ⟨1, false, [Value.slice none 0 0], [], some 123, 24, 5, none, false⟩
theorem TOW_22_ok : TypOk Try.prog 22 TOW_22 := ⟨by kernel_rfl, by kernel_rfl, by kernel_rfl, by kernel_rfl, by kernel_rfl⟩
def TOW_123 : TI := ⟨2, true, [Value.slice none 0 0, Value.int IntKind.i64 0], [(0, 1, false), (1, 1, false)], none, 32, 6, none, false⟩
theorem TOW_123_ok : TypOk Try.prog 123 TOW_123 := ⟨by kernel_rfl, by kernel_rfl, by kernel_rfl, by kernel_rfl, by kernel_rfl⟩
def TOW : List (Nat × TI) := [(27, TOW_27), (3, TOW_3), (25, TOW_25), (24, TOW_24), (43, TOW_43), (22, TOW_22), (123, TOW_123)]
theorem TOW_ok : TabOk Try.prog TOW := ((((((((TabOk.nil _).cons TOW_123_ok).cons TOW_22_ok).cons TOW_43_ok).cons TOW_24_ok).cons TOW_25_ok).cons TOW_3_ok).cons TOW_27_ok)
namespace Rn
mutual
def mts : Tm → List Int
  | .mk _ k i a => (if k = 2 then [i] else []) ++ mtsL a
def mtsL : List Tm → List Int
  | [] => []
  | t :: l => mts t ++ mtsL l
end
theorem mts_eq (b : List Ty) (k i : Int) (a : List Tm) : mts (.mk b k i a) = (if k = 2 then [i] else []) ++ mtsL a := by rw [mts]
def out (d : Int) (l : List Int) (e : Int) : Int := l.foldl (fun e n => note (sm n d) e) e
theorem errL_out_of (d : Int) {l : List Tm} (h : ∀ t ∈ l, ∀ e, errs d t e = out d (mts t) e) : ∀ e, errL d l e = out d (mtsL l) e := by
  induction l with
  | nil => intro e; rw [errL, mtsL]; rfl
  | cons t l ih =>
    intro e
    rw [errL, mtsL, ih (fun u hu => h u (by simp [hu])), h t (by simp)]
    unfold out; rw [List.foldl_append]
theorem errs_out (d : Int) (t : Tm) : ∀ e, errs d t e = out d (mts t) e := by
  induction t using Tm.ind with
  | h b k i a ih =>
    intro e
    rw [errs_eq, mts_eq, errL_out_of d ih]
    unfold out
    rw [List.foldl_append]
    by_cases hk : k = 2
    · rw [if_pos hk, if_pos hk]; rfl
    · rw [if_neg hk, if_neg hk]; rfl
theorem out_eq (d : Int) : ∀ (l : List Int) (e : Int), e = 0 ∨ e = 1 ∨ e = 2 → out d l e = if e = 1 ∨ ∃ n ∈ l, sm n d < 0 then 1 else if e = 2 ∨ ∃ n ∈ l, sm n d > 1000 then 2 else 0
  | [], e, h => by
    unfold out
    simp only [List.foldl_nil, List.not_mem_nil, false_and, exists_false, or_false]
    rcases h with rfl | rfl | rfl <;> simp
  | n :: l, e, h => by
    have hs : out d (n :: l) e = out d l (note (sm n d) e) := rfl
    have hn : note (sm n d) e = if e = 1 ∨ sm n d < 0 then 1 else if e = 2 ∨ sm n d > 1000 then 2 else 0 := by
      unfold note code
      rcases h with rfl | rfl | rfl <;> split <;> split <;> split <;> (try split) <;> omega
    rw [hs, out_eq d l _ (by rw [hn]; split; exact .inr (.inl rfl); split; exact .inr (.inr rfl); exact .inl rfl), hn]
    simp only [List.mem_cons, exists_eq_or_imp]
    by_cases h1 : e = 1 ∨ sm n d < 0
    · rw [if_pos h1, if_pos (.inl rfl), if_pos (by rcases h1 with h | h; exact .inl h; exact .inr (.inl h))]
    · rw [if_neg h1]
      by_cases h2 : ∃ n ∈ l, sm n d < 0
      · rw [if_pos (.inr h2), if_pos (.inr (.inr h2))]
      · rw [if_neg (c := e = 1 ∨ sm n d < 0 ∨ ∃ n ∈ l, sm n d < 0) (fun h => by
          rcases h with h | h | h
          · exact h1 (.inl h)
          · exact h1 (.inr h)
          · exact h2 h)]
        by_cases h3 : e = 2 ∨ sm n d > 1000
        · rw [if_pos h3, if_neg (fun h => by rcases h with h | h; cases h; exact h2 h), if_pos (.inl rfl), if_pos (by rcases h3 with h | h; exact .inl h; exact .inr (.inl h))]
        · rw [if_neg h3, if_neg (fun h => by rcases h with h | h; cases h; exact h2 h)]
          by_cases h4 : ∃ n ∈ l, sm n d > 1000
          · rw [if_pos (.inr h4), if_pos (.inr (.inr h4))]
          · rw [if_neg (fun h => by rcases h with h | h; cases h; exact h4 h), if_neg (fun h => by
              rcases h with h | h | h
              · exact h3 (.inl h)
              · exact h3 (.inr h)
              · exact h4 h)]
theorem errs_mts (d : Int) (t : Tm) : errs d t 0 = if ∃ n ∈ mts t, sm n d < 0 then 1 else if ∃ n ∈ mts t, sm n d > 1000 then 2 else 0 := by
  rw [errs_out, out_eq d _ 0 (.inl rfl)]
  simp
theorem metasP_pres_of {l : List Tm} (h : ∀ t ∈ l, ∀ s p, metasP (t.pre s p) = mts t) : ∀ s p, metasP (Tm.pres l s p) = mtsL l := by
  induction l with
  | nil => intro s p; rw [Tm.pres, mtsL]; rfl
  | cons t l ih =>
    intro s p
    rw [Tm.pres, mtsL, ← ih (fun u hu => h u (by simp [hu])) s p, ← h t (by simp) s p]
    unfold metasP; rw [List.filterMap_append]
theorem metasP_pre (t : Tm) : ∀ s p, metasP (t.pre s p) = mts t := by
  induction t using Tm.ind with
  | h b k i a ih =>
    intro s p
    have hr := metasP_pres_of ih (s + b.length) (p + 1)
    rw [Tm.pre_eq, mts_eq, ← hr]
    unfold metasP
    rw [List.filterMap_cons]
    by_cases hk : k = 2
    · simp [hk, Tm.kind, Tm.index]
    · simp [hk, Tm.kind, Tm.index]
theorem mem_metas (t : Tm) (n : Int) : n ∈ sortU (metasL [t]) ↔ n ∈ mts t := by
  rw [(sortU_spec _).2]
  unfold metasL
  simp only [List.flatMap_cons, List.flatMap_nil, List.append_nil, metasP_pre]
theorem sm_ok {n d : Int} (h0 : 0 ≤ sm n d) (h1 : sm n d ≤ 1000) : sm n d = n + d := by
  unfold sm at h0 h1 ⊢
  by_cases a : n < 0 ∧ d < 0
  · rw [if_pos a] at h0; omega
  · rw [if_neg a] at h0 h1 ⊢
    by_cases b : n ≥ 0 ∧ d ≥ 0 ∧ (n > 1000 ∨ d > 1000)
    · rw [if_pos b] at h1; omega
    · rw [if_neg b]
theorem rens_snoc (d : Int) (l : List Tm) (j : Nat) (h : j < l.length) : rens d (l.take (j + 1)) = rens d (l.take j) ++ [ren d l[j]] := by
  rw [rens_map, rens_map, List.take_succ_eq_append_getElem h, List.map_append]; rfl
end Rn
theorem eTm_z : eTm Tm.zero = [.sl 2 [] none, .v (.int .i64 0), .v (.int .i64 0), .sl 4 [] none] := rfl
theorem rename_d (t : Tm) (d : Int) (hd : -9223372036854775808 ≤ d ∧ d ≤ 9223372036854775807) (hz : t.full ≤ 80000) (hf : t.Fit) :
    PureC Try.prog 8 [.ag (eTm t), .v (.int .i64 d)] (.tu [.ag (eTm (if Rn.errs d t 0 = 0 then Rn.ren d t else Tm.zero)), .v (.int .i64 (Rn.errs d t 0))]) := by
  refine pure_below (by kernel_rfl) fun m Im w vs hv => ?_
  match vs, hv with
  | [x1, x2], hv =>
    obtain ⟨b, k, i, a, rfl, h1⟩ := agTm hv.1
    have := rel_v.1 hv.2.1; subst this
    refine (rename_k d (renamed_ow d hd t hf) h1 hz hf).mono ?_
    rintro e w' ⟨b', k', i', a', rfl, h3, hb⟩
    exact ⟨_, rfl, hb, fun Im' _ hI => rel_tu.2 ⟨_, rfl, rel_ag.2 ⟨_, rfl, rel_of_tm (fun b o v hq hc => hI b o v hq hc) _ h3⟩, .v _, trivial⟩⟩
theorem rens_len (d : Int) (l : List Tm) : (Rn.rens d l).length = l.length := by rw [Rn.rens_map, List.length_map]
set_option maxHeartbeats 1000000 in
theorem rrenamed_d (d : Int) : ∀ t : Tm, (∀ n ∈ Rn.mts t, 0 ≤ Rn.sm n d ∧ Rn.sm n d ≤ 1000) → t.full ≤ 900000 → PureC Try.prog 44 [.ag (eTm t), .v (.int .i64 d)] (.ag (eTm (Rn.ren d t))) := by
 intro t
 induction t using Tm.ind with
 | h bs k i a ih =>
 intro hm hz
 rw [Tm.full_eq] at hz
 rw [Rn.mts_eq] at hm
 have hal := cFulls_len a
 have hmem : ∀ u ∈ a, ∀ n ∈ Rn.mts u, n ∈ Rn.mtsL a := by
  intro u hu n hn
  clear ih hm hz hal
  induction a with
  | nil => cases hu
  | cons v l ih2 =>
   rw [Rn.mtsL, List.mem_append]
   rcases List.mem_cons.1 hu with rfl | hu
   ·exact .inl hn
   ·exact .inr (ih2 hu)
 have hI : ∀ j (h : j < a.length), PureC Try.prog 44 [.ag (eTm a[j]), .v (.int .i64 d)] (.ag (eTm (Rn.ren d a[j]))) := fun j h => ih _ (List.getElem_mem h) (fun n hn => hm n (List.mem_append_right _ (hmem _ (List.getElem_mem h) n hn))) (by have := Tm.full_mem (List.getElem_mem h); omega)
 have hsn := fun j (h : j < a.length) => (show eTms (Rn.rens d (a.take j)) ++ [[.sl 2 (eTys (Rn.ren d a[j]).binds) none, .v (.int .i64 (Rn.ren d a[j]).kind), .v (.int .i64 (Rn.ren d a[j]).index), .sl 4 (eTms (Rn.ren d a[j]).args) none]] = eTms (Rn.rens d (a.take (j + 1))) by rw [Rn.rens_snoc d a j h, eTms_append, ← eTm_eq]; rfl)
 rw [Rn.ren_eq]
 obtain ⟨i', hi'⟩ : ∃ i', (if k = 2 then Rn.sm i d else i) = i' := ⟨_, rfl⟩
 rw [hi']
 rw [eTm_eq, eTm_eq]
 simp only [bindsT, kindT, indexT, argsTm]
 refine calldw 0 43 [ResultVar.cell 4 27] TOW_ok Try.func44 rfl Try.ntmps44 rfl fun cx hnt hn0 => ?_
 ·skip
  refine dw_seq ?_; refine dwk [] TOW_ok hnt fun K hK => ?_; refine hK _ _ ?_; clear hK K; refine dw_seq ?_; refine dwk [] TOW_ok hnt fun K hK => ?_; refine hK _ _ ?_; clear hK K
  refine dw_cut (τ := [(.t 1, .v (.int .i64 d)), (.t 2, .p 0 0), (.t 4, .p 1 0), (.t 5, .p 7 0), (.c 0 0, .sl 2 (eTys bs) none), (.c 0 3, .sl 4 (eTms a) none), (.c 1 0, .v (.slice none 0 0)), (.c 1 1, .v (.int .i64 0)), (.c 1 2, .v (.int .i64 0)), (.c 1 3, .v (.slice none 0 0)), (.c 7 0, .sl 2 (eTys bs) none), (.c 7 1, .v (.int .i64 k)), (.c 7 2, .v (.int .i64 i')), (.c 7 3, .v (.slice none 0 0))]) (N1 := 8) ?_ ?_
  ·by_cases hk : k = 2
   ·subst hk
    rw [if_pos rfl] at hi'
    have hs : i + d = i' := by
     have h := hm i (List.mem_append_left _ (by simp))
     rw [← hi']; exact (Rn.sm_ok h.1 h.2).symm
    have hr := hm i (List.mem_append_left _ (by simp))
    rw [hi'] at hr
    refine dw_seq ?_; refine dwk [(15, .v (.bool true))] TOW_ok hnt fun K hK => ?_; refine And.intro (beqT rfl) ?_; refine hK _ _ ?_; clear hK K; refine dw_cond (t := true) rfl ?_; rw [if_pos rfl]; refine dwk [(20, .v (.int .i64 (i')))] TOW_ok hnt fun K hK => ?_; refine And.intro (dintE (by (rw [hs]; exact IntWalk.i64_in _ (by omega)))) ?_; refine hK _ _ ?_; clear hK K
    exact cut_ok VS.toA
   ·rw [if_neg hk] at hi'
    subst hi'
    refine dw_seq ?_; refine dwk [(15, .v (.bool false))] TOW_ok hnt fun K hK => ?_; refine And.intro (beqF hk) ?_; refine hK _ _ ?_; clear hK K; refine dw_cond (t := false) rfl ?_; rw [if_neg (by simp)]; refine dw_skip ?_
    exact cut_ok VS.toA
  ·refine DW.vs (VS.row (k := 7) (off := 3) 27 4 rfl) ?_
   refine dw_seq ?_; refine dw_seq ?_; refine dwk [] TOW_ok hnt fun K hK => ?_; refine hK _ _ ?_; clear hK K; refine dw_block ?_
   refine dw_loop (ι := { j : Nat // j ≤ a.length }) (fun j => [(.t 1, .v (.int .i64 d)), (.t 2, .p 0 0), (.t 4, .p 1 0), (.t 5, .p 7 0), (.t 6, .v (.int .i64 ↑j.1)), (.c 0 3, .sl 4 (eTms a) none), (.c 1 0, .v (.slice none 0 0)), (.c 1 1, .v (.int .i64 0)), (.c 1 2, .v (.int .i64 0)), (.c 1 3, .v (.slice none 0 0)), (.c 7 0, .sl 2 (eTys bs) none), (.c 7 1, .v (.int .i64 k)), (.c 7 2, .v (.int .i64 i')), (.c 7 3, .sl 4 (eTms (Rn.rens d (a.take j.1))) (some 8)), (.r 8, .rw 27 4 j.1)]) 9 (fun j => a.length - j.1) (⟨0, Nat.zero_le _⟩) (VS.toA) fun j => ?_
   obtain ⟨j, hj⟩ := j
   dsimp only
   by_cases hlt : j < a.length
   ·have hc := hI j hlt
    have hs := hsn j hlt
    rw [eTm_eq, eTm_eq] at hc
    have hlq : (eTms (Rn.rens d (a.take j))).length = j := by rw [eTms_len, rens_len, List.length_take]; omega
    refine dw_seq ?_; refine dw_seq ?_; refine dwk [(26, .v (.int .i64 (↑a.length))), (27, .v (.bool true))] TOW_ok hnt fun K hK => ?_; refine And.intro (dintE (by rw [eTms_len])) ?_; refine And.intro auT ?_; refine hK _ _ ?_; clear hK K; refine dw_cond (t := true) rfl ?_; rw [if_pos rfl]; refine dw_skip ?_; refine dw_seq ?_; refine dw_block ?_; refine dwkD [(35, .q [.sl 2 (eTys a[j].binds) none, .v (.int .i64 a[j].kind), .v (.int .i64 a[j].index), .sl 4 (eTms a[j].args) none]), (40, .sl 4 (eTms (Rn.rens d (a.take (j + 1)))) (some 8))] TOW_ok hnt fun K hK => ?_
    refine And.intro (elo (eTms_len a)) ?_; refine And.intro (elv (eTms_getD a j) (eTm_eq _)) ?_; refine dcl (hc) ?_; refine And.intro (⟨by rw [hlq], by rw [hlq]; simp; omega⟩) ?_; refine And.intro (VLe.of_eq (by rw [hs])) ?_; refine hK _ _ (by kernel_rfl) ?_; clear hK K; refine dwk [(29, .v (.int .i64 (↑(j + 1))))] TOW_ok hnt fun K hK => ?_; refine And.intro auI ?_; refine hK _ _ ?_; clear hK K
    have hl8 : (eTms (Rn.rens d (a.take j)) ++ ([[.sl 2 (eTys (Rn.ren d a[j]).binds) none, .v (.int .i64 (Rn.ren d a[j]).kind), .v (.int .i64 (Rn.ren d a[j]).index), .sl 4 (eTms (Rn.ren d a[j]).args) none]] : List (List D))).length = j + 1 := by rw [List.length_append, hlq]; simp
    rw [hl8]
    refine ⟨⟨j + 1, hlt⟩, by first | omega | (dsimp only; omega), (by try simp only [List.length_append, List.length_take, List.length_cons, List.length_nil, Nat.zero_add, hlq]; exact VS.toA)⟩
   ·rw [List.take_of_length_le (by omega)]
    refine dw_seq ?_; refine dw_seq ?_; refine dwk [(26, .v (.int .i64 (↑a.length))), (27, .v (.bool false))] TOW_ok hnt fun K hK => ?_; refine And.intro (dintE (by rw [eTms_len])) ?_; refine And.intro auF ?_; refine hK _ _ ?_; clear hK K; refine dw_cond (t := false) rfl ?_; rw [if_neg (by simp)]; refine dw_exit ?_; refine dw_seq ?_; refine dwk [] TOW_ok hnt fun K hK => ?_; refine hK _ _ ?_; clear hK K
    refine dw_ret ?_
    exact reta rfl
set_option maxHeartbeats 4000000 in
theorem rRename_d (t : Tm) (d : Int) (hd : -9223372036854775808 ≤ d ∧ d ≤ 9223372036854775807) (hz : t.full ≤ 80000) (hf : t.Fit) (hM : ∀ n ∈ Rn.mts t, -9223372036854775808 ≤ n ∧ n ≤ 9223372036854775807) :
  PureC Try.prog 10 [.ag (eTm t), .v (.int .i64 d)] (.tu [.ag (eTm (if Rn.errs d t 0 = 0 then Rn.ren d t else Tm.zero)), .v (.int .i64 (Rn.errs d t 0))]) := by
 have hme := rmetas_d [t] (by simp) (fun u hu => by rw [List.mem_singleton.1 hu]; omega) (fun u hu => by rw [List.mem_singleton.1 hu]; exact hf)
 have hr := fun h => rrenamed_d d t h (by omega)
 have hmm := Rn.mem_metas t
 have hE := Rn.errs_mts d t
 obtain ⟨l, hl⟩ : ∃ l, sortU (metasL [t]) = l := ⟨_, rfl⟩
 rw [hl] at hme hmm
 have hlen : l.length ≤ 90000 := by
  rw [← hl]
  have h1 := sortU_len (metasL [t])
  have h2 := metasL_len [t] 80000 (fun u hu => by rw [List.mem_singleton.1 hu]; omega)
  simp at h2; omega
 have e1 : eTms [t] = [eTm t] := rfl
 obtain ⟨E, hEE⟩ : ∃ E, Rn.errs d t 0 = E := ⟨_, rfl⟩
 rw [hEE] at hE ⊢
 obtain ⟨F, hF⟩ : ∃ F : Nat → Bool, F = fun j => (l.take j).any fun n => decide (Rn.sm n d > 1000) := ⟨_, rfl⟩
 have hF0 : F 0 = false := by rw [hF]; rfl
 have hFs : ∀ j (h : j < l.length), F (j + 1) = (F j || decide (Rn.sm l[j] d > 1000)) := fun j h => by
  rw [hF]; dsimp only
  rw [List.take_succ_eq_append_getElem h, List.any_append]; simp
 have hbad : ∀ n ∈ l, Rn.sm n d < 0 → E = 1 := fun n hn h => by rw [hE, if_pos ⟨n, (hmm n).1 hn, h⟩]
 rw [eTm_eq] at e1 ⊢
 refine calldw 0 71 [ResultVar.cell 4 27, ResultVar.tmp 5] TOW_ok Try.func10 rfl Try.ntmps10 rfl fun cx hnt hn0 => ?_
 ·skip
  refine dw_seq ?_; refine dwk [] TOW_ok hnt fun K hK => ?_; refine hK _ _ ?_; clear hK K; refine dw_seq ?_; refine dwk [(11, .sl 4 (eTms [t]) none)] TOW_ok hnt fun K hK => ?_; refine And.intro ((by rw [e1]; exact VLe.untag _ _ _)) ?_; refine dcl (hme) ?_; refine hK _ _ ?_; clear hK K; refine dw_seq ?_; refine dwk [] TOW_ok hnt fun K hK => ?_; refine hK _ _ ?_; clear hK K; refine dw_seq ?_; refine dw_seq ?_
  refine dwk [] TOW_ok hnt fun K hK => ?_; refine hK _ _ ?_; clear hK K; refine dw_block ?_
  refine dw_loop (ι := { j : Nat // j ≤ l.length ∧ ∀ i (h : i < l.length), i < j → ¬ Rn.sm l[i] d < 0 }) (fun j => [(.t 1, .v (.int .i64 d)), (.t 2, .p 0 0), (.t 4, .p 1 0), (.t 6, .sl 1 (eIs l) none), (.t 7, .v (.bool (F j.1))), (.t 8, .v (.int .i64 ↑j.1)), (.c 0 0, .sl 2 (eTys t.binds) none), (.c 0 1, .v (.int .i64 t.kind)), (.c 0 2, .v (.int .i64 t.index)), (.c 0 3, .sl 4 (eTms t.args) none), (.c 1 0, .v (.slice none 0 0)), (.c 1 1, .v (.int .i64 0)), (.c 1 2, .v (.int .i64 0)), (.c 1 3, .v (.slice none 0 0))]) 2 (fun j => l.length - j.1) (⟨0, Nat.zero_le _, fun i h1 h2 => by omega⟩) ((by try simp only [List.length_append, List.length_take, List.length_cons, List.length_nil, Nat.zero_add, hF0]; exact VS.toA)) fun j => ?_
  obtain ⟨j, hj, hno⟩ := j
  dsimp only
  by_cases hlt : j < l.length
  ·obtain ⟨n, hn⟩ : ∃ n, l[j] = n := ⟨_, rfl⟩
   have hnl : n ∈ l := hn ▸ List.getElem_mem hlt
   have hb := hbad n hnl
   have hr := hM n ((hmm n).1 hnl)
   have hF1 := hFs j hlt
   rw [hn] at hF1
   have hsm : Rn.sm n d = if n < 0 ∧ d < 0 then -1 else if n ≥ 0 ∧ d ≥ 0 ∧ (n > 1000 ∨ d > 1000) then 1001 else n + d := rfl
   have hnx : ¬ Rn.sm n d < 0 → ∀ i (h : i < l.length), i < j + 1 → ¬ Rn.sm l[i] d < 0 := fun h0 i h h1 => by
    by_cases e : i = j
    ·subst e; rw [hn]; exact h0
    ·exact hno i h (by omega)
   have hel : (eIs l).getD (↑j : Int).toNat [] = [.v (.int .i64 n)] := by rw [Int.toNat_natCast, eIs_getD l j hlt, hn]
   obtain ⟨lg, hlg⟩ : ∃ lg, F j = lg := ⟨_, rfl⟩
   rw [hlg]
   refine dw_seq ?_; refine dw_seq ?_; refine dwk [(15, .v (.int .i64 (↑l.length))), (16, .v (.bool true))] TOW_ok hnt fun K hK => ?_; refine And.intro (dintE (by rw [eIs_len])) ?_; refine And.intro auT ?_; refine hK _ _ ?_; clear hK K; refine dw_cond (t := true) rfl ?_; rw [if_pos rfl]; refine dw_skip ?_; refine dw_seq ?_; refine dw_block ?_; refine dw_seq ?_; refine dwk [(21, .q [.v (.int .i64 n)])] TOW_ok hnt fun K hK => ?_
   refine And.intro (⟨by omega, by rw [eIs_len]; omega⟩) ?_; refine And.intro (VLe.of_eq (by rw [hel])) ?_; refine hK _ _ ?_; clear hK K
   by_cases n0 : n < 0
   ·by_cases d0 : d < 0
    ·rw [if_pos ⟨n0, d0⟩] at hsm; refine dw_block ?_; refine dw_seq ?_; refine dwk [(32, .v (.bool true)), (35, .v (.bool true))] TOW_ok hnt fun K hK => ?_; refine And.intro auT ?_; refine And.intro auT ?_; refine hK _ _ ?_; clear hK K; refine dw_cond (t := true) rfl ?_; rw [if_pos rfl]
     have h1 := hb (by omega)
     subst h1
     rw [if_neg (by decide), eTm_z]; refine dw_seq ?_; refine dwk [] TOW_ok hnt fun K hK => ?_; refine hK _ _ ?_; clear hK K; refine dw_ret ?_
     exact reta rfl
    ·rw [if_neg (fun h => d0 h.2), if_neg (fun h => by omega)] at hsm; refine dw_block ?_; refine dw_seq ?_; refine dwk [(32, .v (.bool true)), (35, .v (.bool false))] TOW_ok hnt fun K hK => ?_; refine And.intro auT ?_; refine And.intro auF ?_; refine hK _ _ ?_; clear hK K; refine dw_cond (t := false) rfl ?_; rw [if_neg (by simp)]; refine dw_seq ?_; refine dwk [(40, .v (.bool false))] TOW_ok hnt fun K hK => ?_
     refine And.intro auF ?_; refine hK _ _ ?_; clear hK K; refine dw_cond (t := false) rfl ?_; rw [if_neg (by simp)]
     by_cases b1 : n + d < 0
     ·skip
      refine dw_seq ?_; refine dwk [(63, .v (.int .i64 ((n + d)))), (64, .v (.bool true))] TOW_ok hnt fun K hK => ?_; refine And.intro auI ?_; refine And.intro auT ?_; refine hK _ _ ?_; clear hK K; refine dw_cond (t := true) rfl ?_; rw [if_pos rfl]
      have h1 := hb (by omega)
      subst h1
      rw [if_neg (by decide), eTm_z]; refine dw_seq ?_; refine dwk [] TOW_ok hnt fun K hK => ?_; refine hK _ _ ?_; clear hK K; refine dw_ret ?_
      exact reta rfl
     ·skip
      refine dw_seq ?_; refine dwk [(63, .v (.int .i64 ((n + d)))), (64, .v (.bool false))] TOW_ok hnt fun K hK => ?_; refine And.intro auI ?_; refine And.intro auF ?_; refine hK _ _ ?_; clear hK K; refine dw_cond (t := false) rfl ?_; rw [if_neg (by simp)]
      cases lg with
      | true =>
       refine dwk [] TOW_ok hnt fun K hK => ?_; refine hK _ _ ?_; clear hK K
       have hF2 : F (j + 1) = true := by rw [hF1, hlg]; rfl
       refine dwk [(18, .v (.int .i64 (↑(j + 1))))] TOW_ok hnt fun K hK => ?_; refine And.intro auI ?_; refine hK _ _ ?_; clear hK K
       refine ⟨⟨j + 1, hlt, hnx (by omega)⟩, by first | omega | (dsimp only; omega), (by try simp only [List.length_append, List.length_take, List.length_cons, List.length_nil, Nat.zero_add, hF2]; exact VS.toA)⟩
      | false =>
       by_cases b2 : n + d > 1000
       ·skip
        refine dwk [(27, .v (.int .i64 ((n + d)))), (28, .v (.bool true))] TOW_ok hnt fun K hK => ?_; refine And.intro auI ?_; refine And.intro auT ?_; refine hK _ _ ?_; clear hK K
        have hF2 : F (j + 1) = true := by rw [hF1, hlg]; rw [Bool.false_or, decide_eq_true_eq]; omega
        refine dwk [(18, .v (.int .i64 (↑(j + 1))))] TOW_ok hnt fun K hK => ?_; refine And.intro auI ?_; refine hK _ _ ?_; clear hK K
        refine ⟨⟨j + 1, hlt, hnx (by omega)⟩, by first | omega | (dsimp only; omega), (by try simp only [List.length_append, List.length_take, List.length_cons, List.length_nil, Nat.zero_add, hF2]; exact VS.toA)⟩
       ·skip
        refine dwk [(27, .v (.int .i64 ((n + d)))), (28, .v (.bool false))] TOW_ok hnt fun K hK => ?_; refine And.intro auI ?_; refine And.intro auF ?_; refine hK _ _ ?_; clear hK K
        have hF2 : F (j + 1) = false := by rw [hF1, hlg]; rw [Bool.false_or, decide_eq_false_iff_not]; omega
        refine dwk [(18, .v (.int .i64 (↑(j + 1))))] TOW_ok hnt fun K hK => ?_; refine And.intro auI ?_; refine hK _ _ ?_; clear hK K
        refine ⟨⟨j + 1, hlt, hnx (by omega)⟩, by first | omega | (dsimp only; omega), (by try simp only [List.length_append, List.length_take, List.length_cons, List.length_nil, Nat.zero_add, hF2]; exact VS.toA)⟩
   ·by_cases d0 : d < 0
    ·rw [if_neg (fun h => n0 h.1), if_neg (fun h => by omega)] at hsm; refine dw_block ?_; refine dw_seq ?_; refine dwk [(32, .v (.bool false))] TOW_ok hnt fun K hK => ?_; refine And.intro auF ?_; refine hK _ _ ?_; clear hK K; refine dw_cond (t := false) rfl ?_; rw [if_neg (by simp)]; refine dw_seq ?_; refine dwk [(40, .v (.bool true)), (43, .v (.bool false))] TOW_ok hnt fun K hK => ?_; refine And.intro auT ?_
     refine And.intro auF ?_; refine hK _ _ ?_; clear hK K; refine dw_cond (t := false) rfl ?_; rw [if_neg (by simp)]
     by_cases b1 : n + d < 0
     ·skip
      refine dw_seq ?_; refine dwk [(63, .v (.int .i64 ((n + d)))), (64, .v (.bool true))] TOW_ok hnt fun K hK => ?_; refine And.intro auI ?_; refine And.intro auT ?_; refine hK _ _ ?_; clear hK K; refine dw_cond (t := true) rfl ?_; rw [if_pos rfl]
      have h1 := hb (by omega)
      subst h1
      rw [if_neg (by decide), eTm_z]; refine dw_seq ?_; refine dwk [] TOW_ok hnt fun K hK => ?_; refine hK _ _ ?_; clear hK K; refine dw_ret ?_
      exact reta rfl
     ·skip
      refine dw_seq ?_; refine dwk [(63, .v (.int .i64 ((n + d)))), (64, .v (.bool false))] TOW_ok hnt fun K hK => ?_; refine And.intro auI ?_; refine And.intro auF ?_; refine hK _ _ ?_; clear hK K; refine dw_cond (t := false) rfl ?_; rw [if_neg (by simp)]
      cases lg with
      | true =>
       refine dwk [] TOW_ok hnt fun K hK => ?_; refine hK _ _ ?_; clear hK K
       have hF2 : F (j + 1) = true := by rw [hF1, hlg]; rfl
       refine dwk [(18, .v (.int .i64 (↑(j + 1))))] TOW_ok hnt fun K hK => ?_; refine And.intro auI ?_; refine hK _ _ ?_; clear hK K
       refine ⟨⟨j + 1, hlt, hnx (by omega)⟩, by first | omega | (dsimp only; omega), (by try simp only [List.length_append, List.length_take, List.length_cons, List.length_nil, Nat.zero_add, hF2]; exact VS.toA)⟩
      | false =>
       by_cases b2 : n + d > 1000
       ·skip
        refine dwk [(27, .v (.int .i64 ((n + d)))), (28, .v (.bool true))] TOW_ok hnt fun K hK => ?_; refine And.intro auI ?_; refine And.intro auT ?_; refine hK _ _ ?_; clear hK K
        have hF2 : F (j + 1) = true := by rw [hF1, hlg]; rw [Bool.false_or, decide_eq_true_eq]; omega
        refine dwk [(18, .v (.int .i64 (↑(j + 1))))] TOW_ok hnt fun K hK => ?_; refine And.intro auI ?_; refine hK _ _ ?_; clear hK K
        refine ⟨⟨j + 1, hlt, hnx (by omega)⟩, by first | omega | (dsimp only; omega), (by try simp only [List.length_append, List.length_take, List.length_cons, List.length_nil, Nat.zero_add, hF2]; exact VS.toA)⟩
       ·skip
        refine dwk [(27, .v (.int .i64 ((n + d)))), (28, .v (.bool false))] TOW_ok hnt fun K hK => ?_; refine And.intro auI ?_; refine And.intro auF ?_; refine hK _ _ ?_; clear hK K
        have hF2 : F (j + 1) = false := by rw [hF1, hlg]; rw [Bool.false_or, decide_eq_false_iff_not]; omega
        refine dwk [(18, .v (.int .i64 (↑(j + 1))))] TOW_ok hnt fun K hK => ?_; refine And.intro auI ?_; refine hK _ _ ?_; clear hK K
        refine ⟨⟨j + 1, hlt, hnx (by omega)⟩, by first | omega | (dsimp only; omega), (by try simp only [List.length_append, List.length_take, List.length_cons, List.length_nil, Nat.zero_add, hF2]; exact VS.toA)⟩
    ·rw [if_neg (fun h => n0 h.1)] at hsm; refine dw_block ?_; refine dw_seq ?_; refine dwk [(32, .v (.bool false))] TOW_ok hnt fun K hK => ?_; refine And.intro auF ?_; refine hK _ _ ?_; clear hK K; refine dw_cond (t := false) rfl ?_; rw [if_neg (by simp)]; refine dw_seq ?_; refine dwk [(40, .v (.bool true)), (43, .v (.bool true))] TOW_ok hnt fun K hK => ?_; refine And.intro auT ?_; refine And.intro auT ?_
     refine hK _ _ ?_; clear hK K; refine dw_cond (t := true) rfl ?_; rw [if_pos rfl]
     cases lg with
     | true =>
      have hs0 : ¬ Rn.sm n d < 0 := by rw [hsm]; split <;> omega
      refine dwk [] TOW_ok hnt fun K hK => ?_; refine hK _ _ ?_; clear hK K
      have hF2 : F (j + 1) = true := by rw [hF1, hlg]; rfl
      refine dwk [(18, .v (.int .i64 (↑(j + 1))))] TOW_ok hnt fun K hK => ?_; refine And.intro auI ?_; refine hK _ _ ?_; clear hK K
      refine ⟨⟨j + 1, hlt, hnx (by omega)⟩, by first | omega | (dsimp only; omega), (by try simp only [List.length_append, List.length_take, List.length_cons, List.length_nil, Nat.zero_add, hF2]; exact VS.toA)⟩
     | false =>
      by_cases b1 : n > 1000
      ·rw [if_pos ⟨by omega, by omega, .inl b1⟩] at hsm; refine dwk [(48, .v (.bool true))] TOW_ok hnt fun K hK => ?_; refine And.intro auT ?_; refine hK _ _ ?_; clear hK K
       have hF2 : F (j + 1) = true := by rw [hF1, hlg]; rw [Bool.false_or, decide_eq_true_eq]; omega
       refine dwk [(18, .v (.int .i64 (↑(j + 1))))] TOW_ok hnt fun K hK => ?_; refine And.intro auI ?_; refine hK _ _ ?_; clear hK K
       refine ⟨⟨j + 1, hlt, hnx (by omega)⟩, by first | omega | (dsimp only; omega), (by try simp only [List.length_append, List.length_take, List.length_cons, List.length_nil, Nat.zero_add, hF2]; exact VS.toA)⟩
      ·by_cases b2 : d > 1000
       ·rw [if_pos ⟨by omega, by omega, .inr b2⟩] at hsm; refine dwk [(48, .v (.bool false)), (52, .v (.bool true))] TOW_ok hnt fun K hK => ?_; refine And.intro auF ?_; refine And.intro auT ?_; refine hK _ _ ?_; clear hK K
        have hF2 : F (j + 1) = true := by rw [hF1, hlg]; rw [Bool.false_or, decide_eq_true_eq]; omega
        refine dwk [(18, .v (.int .i64 (↑(j + 1))))] TOW_ok hnt fun K hK => ?_; refine And.intro auI ?_; refine hK _ _ ?_; clear hK K
        refine ⟨⟨j + 1, hlt, hnx (by omega)⟩, by first | omega | (dsimp only; omega), (by try simp only [List.length_append, List.length_take, List.length_cons, List.length_nil, Nat.zero_add, hF2]; exact VS.toA)⟩
       ·rw [if_neg (fun h => by omega)] at hsm
        by_cases b3 : n + d > 1000
        ·skip
         refine dwk [(48, .v (.bool false)), (52, .v (.bool false)), (57, .v (.int .i64 ((n + d)))), (58, .v (.bool true))] TOW_ok hnt fun K hK => ?_; refine And.intro auF ?_; refine And.intro auF ?_; refine And.intro auI ?_; refine And.intro auT ?_; refine hK _ _ ?_; clear hK K
         have hF2 : F (j + 1) = true := by rw [hF1, hlg]; rw [Bool.false_or, decide_eq_true_eq]; omega
         refine dwk [(18, .v (.int .i64 (↑(j + 1))))] TOW_ok hnt fun K hK => ?_; refine And.intro auI ?_; refine hK _ _ ?_; clear hK K
         refine ⟨⟨j + 1, hlt, hnx (by omega)⟩, by first | omega | (dsimp only; omega), (by try simp only [List.length_append, List.length_take, List.length_cons, List.length_nil, Nat.zero_add, hF2]; exact VS.toA)⟩
        ·skip
         refine dwk [(48, .v (.bool false)), (52, .v (.bool false)), (57, .v (.int .i64 ((n + d)))), (58, .v (.bool false))] TOW_ok hnt fun K hK => ?_; refine And.intro auF ?_; refine And.intro auF ?_; refine And.intro auI ?_; refine And.intro auF ?_; refine hK _ _ ?_; clear hK K
         have hF2 : F (j + 1) = false := by rw [hF1, hlg]; rw [Bool.false_or, decide_eq_false_iff_not]; omega
         refine dwk [(18, .v (.int .i64 (↑(j + 1))))] TOW_ok hnt fun K hK => ?_; refine And.intro auI ?_; refine hK _ _ ?_; clear hK K
         refine ⟨⟨j + 1, hlt, hnx (by omega)⟩, by first | omega | (dsimp only; omega), (by try simp only [List.length_append, List.length_take, List.length_cons, List.length_nil, Nat.zero_add, hF2]; exact VS.toA)⟩
  ·have hFl : F j = true ↔ ∃ n ∈ Rn.mts t, Rn.sm n d > 1000 := by
    rw [hF]; dsimp only
    rw [List.take_of_length_le (by omega), List.any_eq_true]
    constructor
    ·rintro ⟨n, h1, h2⟩; exact ⟨n, (hmm n).1 h1, of_decide_eq_true h2⟩
    ·rintro ⟨n, h1, h2⟩; exact ⟨n, (hmm n).2 h1, decide_eq_true h2⟩
   have hall : ∀ n ∈ Rn.mts t, ¬ Rn.sm n d < 0 := fun n hn => by
    obtain ⟨i, h1, h2⟩ := List.getElem_of_mem ((hmm n).2 hn)
    have := hno i h1 (by omega)
    rw [h2] at this; exact this
   rw [if_neg (fun ⟨n, h1, h2⟩ => hall n h1 h2)] at hE
   obtain ⟨lg, hlg⟩ : ∃ lg, F j = lg := ⟨_, rfl⟩
   rw [hlg] at hFl ⊢
   cases lg with
   | true =>
    rw [if_pos (hFl.1 rfl)] at hE
    subst hE
    rw [if_neg (by decide), eTm_z]; refine dw_seq ?_; refine dw_seq ?_; refine dwk [(15, .v (.int .i64 (↑l.length))), (16, .v (.bool false))] TOW_ok hnt fun K hK => ?_; refine And.intro (dintE (by rw [eIs_len])) ?_; refine And.intro auF ?_; refine hK _ _ ?_; clear hK K; refine dw_cond (t := false) rfl ?_; rw [if_neg (by simp)]; refine dw_exit ?_; refine dw_seq ?_; refine dw_seq ?_; refine dwk [] TOW_ok hnt fun K hK => ?_
    refine hK _ _ ?_; clear hK K; refine dw_cond (t := true) rfl ?_; rw [if_pos rfl]; refine dw_seq ?_; refine dwk [] TOW_ok hnt fun K hK => ?_; refine hK _ _ ?_; clear hK K; refine dw_ret ?_
    exact reta rfl
   | false =>
    have hno2 : ¬ ∃ n ∈ Rn.mts t, Rn.sm n d > 1000 := fun h => by have := hFl.2 h; cases this
    rw [if_neg hno2] at hE
    subst hE
    have hr := hr fun n hn => ⟨by have := hall n hn; omega, by
     by_cases h : Rn.sm n d > 1000
     ·exact absurd ⟨n, hn, h⟩ hno2
     ·omega⟩
    rw [if_pos rfl]
    rw [eTm_eq, eTm_eq] at hr
    rw [eTm_eq]
    refine dw_seq ?_; refine dw_seq ?_; refine dwk [(15, .v (.int .i64 (↑l.length))), (16, .v (.bool false))] TOW_ok hnt fun K hK => ?_; refine And.intro (dintE (by rw [eIs_len])) ?_; refine And.intro auF ?_; refine hK _ _ ?_; clear hK K; refine dw_cond (t := false) rfl ?_; rw [if_neg (by simp)]; refine dw_exit ?_; refine dw_seq ?_; refine dw_seq ?_; refine dwk [] TOW_ok hnt fun K hK => ?_; refine hK _ _ ?_; clear hK K
    refine dw_cond (t := false) rfl ?_; rw [if_neg (by simp)]; refine dw_skip ?_; refine dw_seq ?_; refine dwk [] TOW_ok hnt fun K hK => ?_; refine dcl (hr) ?_; refine hK _ _ ?_; clear hK K; refine dw_ret ?_
    exact reta rfl
end Go.Proofs.Ytcblpjheoclkeaa

namespace Go.Proofs.Ytcblpjheoclkeaa
open Go.RowKit
namespace Li
structure In (p : Pr) (B : List Ty) : Prop where
  l : p.l.full ≤ 150 ∧ p.l.Fit
  r : p.r.full ≤ 150 ∧ p.r.Fit
  ml : p.m.length ≤ 20
  m : ∀ t ∈ p.m, t.size ≤ 60
  bl : B.length ≤ 8
  b : ∀ t ∈ B, t.size ≤ 60
variable {p : Pr} {B : List Ty}
theorem In.bs (h : In p B) : Ty.sizes B ≤ 480 := by have := sizes_le22 h.b; have := h.bl; omega
theorem In.ms (h : In p B) : Ty.sizes (p.m.map (arr B)) ≤ 800000 := by
  have h1 : ∀ t ∈ p.m.map (arr B), t.size ≤ 540 := fun t ht => by
    obtain ⟨u, hu, rfl⟩ := List.mem_map.1 ht
    have h1 := h.m u hu
    have h2 := h.bs
    obtain ⟨a, b⟩ := u
    rw [ty_size] at h1
    unfold arr
    rw [ty_size, Ty.sizes_append]
    simp only [args_mk']; omega
  have := sizes_le22 h1
  rw [List.length_map] at this
  have := h.ml; omega
end Li
end Go.Proofs.Ytcblpjheoclkeaa

namespace Go.Proofs.Ytcblpjheoclkeaa
open Go.RowKit
namespace Rn
theorem mem_metas2 (t u : Tm) (n : Int) : n ∈ sortU (metasL [t, u]) ↔ n ∈ mts t ∨ n ∈ mts u := by
  rw [(sortU_spec _).2]
  unfold metasL
  simp only [List.flatMap_cons, List.flatMap_nil, List.append_nil, metasP_pre, List.mem_append]
theorem fulls_of {d : Int} {l : List Tm} (h : ∀ t ∈ l, (ren d t).full = t.full) : Tm.fulls (rens d l) = Tm.fulls l := by
  induction l with
  | nil => rw [rens]
  | cons t l ih => rw [rens]; simp only [Tm.fulls]; rw [h t (by simp), ih fun u hu => h u (by simp [hu])]
theorem full_ren (d : Int) (t : Tm) : (ren d t).full = t.full := by
  induction t using Tm.ind with
  | h b k i a ih => rw [ren_eq, Tm.full_eq, Tm.full_eq, fulls_of ih]
theorem mtsL_of2 {d : Int} {l : List Tm} (h : ∀ t ∈ l, mts (ren d t) = (mts t).map (sm · d)) : mtsL (rens d l) = (mtsL l).map (sm · d) := by
  induction l with
  | nil => rw [rens, mtsL]; rfl
  | cons t l ih => rw [rens, mtsL, mtsL, h t (by simp), ih fun u hu => h u (by simp [hu]), List.map_append]
theorem mts_ren2 (d : Int) (t : Tm) : mts (ren d t) = (mts t).map (sm · d) := by
  induction t using Tm.ind with
  | h b k i a ih =>
    rw [ren_eq, mts_eq, mts_eq, mtsL_of2 ih, List.map_append]
    by_cases hk : k = 2
    · rw [if_pos hk, if_pos hk, if_pos hk]; rfl
    · rw [if_neg hk, if_neg hk]; rfl
theorem errs_ok {d : Int} {t : Tm} (h : errs d t 0 = 0) : ∀ n ∈ mts t, sm n d = n + d := by
  rw [errs_mts] at h
  by_cases h1 : ∃ n ∈ mts t, sm n d < 0
  · rw [if_pos h1] at h; cases h
  · rw [if_neg h1] at h
    by_cases h2 : ∃ n ∈ mts t, sm n d > 1000
    · rw [if_pos h2] at h; cases h
    · intro n hn
      refine sm_ok ?_ ?_
      · by_cases h3 : sm n d < 0
        · exact absurd ⟨n, hn, h3⟩ h1
        · omega
      · by_cases h3 : sm n d > 1000
        · exact absurd ⟨n, hn, h3⟩ h2
        · omega
theorem mtsN_of {l : List Tm} (h : ∀ t ∈ l, t.Fit → ∀ n ∈ mts t, -9223372036854775808 ≤ n ∧ n ≤ 9223372036854775807) (hf : ∀ t ∈ l, t.Fit) : ∀ n ∈ mtsL l, -9223372036854775808 ≤ n ∧ n ≤ 9223372036854775807 := by
  induction l with
  | nil => intro n hn; rw [mtsL] at hn; cases hn
  | cons t l ih =>
    intro n hn
    rw [mtsL, List.mem_append] at hn
    rcases hn with hn | hn
    · exact h t (by simp) (hf t (by simp)) n hn
    · exact ih (fun u hu => h u (by simp [hu])) (fun u hu => hf u (by simp [hu])) n hn
theorem fit_mts (t : Tm) : t.Fit → ∀ n ∈ mts t, -9223372036854775808 ≤ n ∧ n ≤ 9223372036854775807 := by
  induction t using Tm.ind with
  | h b k i a ih =>
    intro hf n hn
    obtain ⟨h0, h1, h2⟩ := Tm.fit_iff.1 hf
    rw [mts_eq, List.mem_append] at hn
    rcases hn with hn | hn
    · by_cases hk : k = 2
      · rw [if_pos hk] at hn; rw [List.mem_singleton.1 hn]; exact ⟨h0, h1⟩
      · rw [if_neg hk] at hn; cases hn
    · exact mtsN_of (fun t ht => ih t ht) h2 n hn
end Rn
namespace Li
def beh (p : Pr) (M : List Ty) : Pr × Int :=
  if Rn.errs M.length p.l 0 = 0 then
    (if Rn.errs M.length p.r 0 = 0 then (⟨Rn.ren M.length p.l, Rn.ren M.length p.r, M ++ p.m⟩, 0) else (.z, Rn.errs M.length p.r 0))
  else (.z, Rn.errs M.length p.l 0)
theorem beh_ok {p : Pr} {M : List Ty} (h : (beh p M).2 = 0) : Rn.errs M.length p.l 0 = 0 ∧ Rn.errs M.length p.r 0 = 0 ∧ (beh p M).1 = ⟨Rn.ren M.length p.l, Rn.ren M.length p.r, M ++ p.m⟩ := by
  unfold beh at h ⊢
  by_cases h1 : Rn.errs M.length p.l 0 = 0
  · rw [if_pos h1] at h ⊢
    by_cases h2 : Rn.errs M.length p.r 0 = 0
    · rw [if_pos h2]; exact ⟨h1, h2, rfl⟩
    · rw [if_neg h2] at h; exact absurd h h2
  · rw [if_neg h1] at h; exact absurd h h1
theorem beh_no {p : Pr} {M : List Ty} (h : (beh p M).2 ≠ 0) : (beh p M).1 = .z := by
  unfold beh at h ⊢
  by_cases h1 : Rn.errs M.length p.l 0 = 0
  · rw [if_pos h1] at h ⊢
    by_cases h2 : Rn.errs M.length p.r 0 = 0
    · rw [if_pos h2] at h; exact absurd rfl h
    · rw [if_neg h2]
  · rw [if_neg h1]
def apart (a b : Pr) : Pr × Pr × Int :=
  if (beh b a.m).2 = 0 then (⟨a.l, a.r, (beh b a.m).1.m⟩, (beh b a.m).1, 0) else (.z, .z, (beh b a.m).2)
theorem apart_no {p q : Pr} (h : (beh q p.m).2 = 0) (hn : ∀ n, n ∈ Rn.mts q.l ∨ n ∈ Rn.mts q.r → 0 ≤ n) :
    ∀ n, n ∈ Rn.mts (beh q p.m).1.l ∨ n ∈ Rn.mts (beh q p.m).1.r → (p.m.length : Int) ≤ n := by
  obtain ⟨h1, h2, h3⟩ := beh_ok h
  rw [h3]
  dsimp only
  rw [Rn.mts_ren2, Rn.mts_ren2]
  rintro n (h4 | h4)
  · obtain ⟨x, hx, rfl⟩ := List.mem_map.1 h4
    have := hn x (.inl hx)
    rw [Rn.errs_ok h1 x hx]; omega
  · obtain ⟨x, hx, rfl⟩ := List.mem_map.1 h4
    have := hn x (.inr hx)
    rw [Rn.errs_ok h2 x hx]; omega
theorem first_le {l : List Int} (h : l.Pairwise (· < ·)) (n : Int) (r : List Int) (hl : l = n :: r) : ∀ x ∈ l, n ≤ x := by
  subst hl
  intro x hx
  rcases List.mem_cons.1 hx with rfl | hx
  · exact Int.le_refl _
  · have := (List.pairwise_cons.1 h).1 x hx; omega
theorem beh_sm {p : Pr} {M : List Ty} (h1 : p.l.full ≤ 150) (h2 : p.r.full ≤ 150) : (beh p M).1.l.full ≤ 150 ∧ (beh p M).1.r.full ≤ 150 ∧ ∀ t ∈ (beh p M).1.m, t ∈ M ∨ t ∈ p.m := by
  by_cases h : (beh p M).2 = 0
  · obtain ⟨_, _, h3⟩ := beh_ok h
    rw [h3]
    exact ⟨by show (Rn.ren _ _).full ≤ _; rw [Rn.full_ren]; exact h1, by show (Rn.ren _ _).full ≤ _; rw [Rn.full_ren]; exact h2, fun t ht => List.mem_append.1 ht⟩
  · rw [beh_no h]
    exact ⟨by decide, by decide, fun t ht => by cases ht⟩
end Li
end Go.Proofs.Ytcblpjheoclkeaa

namespace Go.Proofs.Ytcblpjheoclkeaa
open Go.RowKit
def TLG_68 : TI := ⟨9, true, [Value.slice none 0 0, Value.int IntKind.i64 0, Value.int IntKind.i64 0, Value.slice none 0 0, Value.slice none 0 0, Value.int IntKind.i64 0, Value.int IntKind.i64 0, Value.slice none 0 0, Value.slice none 0 0], [(0, 4, true), (4, 4, true), (8, 1, false)], none, 152, 6, none, false⟩
theorem TLG_68_ok : TypOk Try.prog 68 TLG_68 := ⟨by kernel_rfl, by kernel_rfl, by kernel_rfl, by kernel_rfl, by kernel_rfl⟩
def TLG_34 : TI := ⟨4, true, [Value.slice none 0 0, Value.int IntKind.i64 0, Value.int IntKind.i64 0, Value.slice none 0 0], [(0, 1, false), (1, 2, true), (3, 1, false)], none, 64, 6, none, false⟩
theorem TLG_34_ok : TypOk Try.prog 34 TLG_34 := ⟨by kernel_rfl, by kernel_rfl, by kernel_rfl, by kernel_rfl, by kernel_rfl⟩
def TLG_62 : TI := ⟨9, true, [Value.slice none 0 0, Value.int IntKind.i64 0, Value.int IntKind.i64 0, Value.slice none 0 0, Value.slice none 0 0, Value.int IntKind.i64 0, Value.int IntKind.i64 0, Value.slice none 0 0, Value.slice none 0 0], [(0, 4, true), (4, 4, true), (8, 1, false)], none, 152, 6, none, false⟩
theorem TLG_62_ok : TypOk Try.prog 62 TLG_62 := ⟨by kernel_rfl, by kernel_rfl, by kernel_rfl, by kernel_rfl, by kernel_rfl⟩
def TLG_27 : TI := ⟨4, true, [Value.slice none 0 0, Value.int IntKind.i64 0, Value.int IntKind.i64 0, Value.slice none 0 0], [(0, 1, false), (1, 2, true), (3, 1, false)], none, 64, 6, none, false⟩
theorem TLG_27_ok : TypOk Try.prog 27 TLG_27 := ⟨by kernel_rfl, by kernel_rfl, by kernel_rfl, by kernel_rfl, by kernel_rfl⟩
def TLG_30 : TI := ⟨1, false, [Value.slice none 0 0], [], some 83, 24, 5, none, false⟩
theorem TLG_30_ok : TypOk Try.prog 30 TLG_30 := ⟨by kernel_rfl, by kernel_rfl, by kernel_rfl, by kernel_rfl, by kernel_rfl⟩
def TLG_83 : TI := ⟨2, true, [Value.slice none 0 0, Value.int IntKind.i64 0], [(0, 1, false), (1, 1, false)], none, 32, 6, none, false⟩
theorem TLG_83_ok : TypOk Try.prog 83 TLG_83 := ⟨by kernel_rfl, by kernel_rfl, by kernel_rfl, by kernel_rfl, by kernel_rfl⟩
def TLG_3 : TI := ⟨1, false, [Value.int IntKind.i64 0], [], none, 8, 2, none, false⟩
theorem TLG_3_ok : TypOk Try.prog 3 TLG_3 := ⟨by kernel_rfl, by kernel_rfl, by kernel_rfl, by kernel_rfl, by kernel_rfl⟩
def TLG_22 : TI := ⟨1, false, [Value.slice none 0 0], [], some 123, 24, 5, none, false⟩
theorem TLG_22_ok : TypOk Try.prog 22 TLG_22 := ⟨by kernel_rfl, by kernel_rfl, by kernel_rfl, by kernel_rfl, by kernel_rfl⟩
def TLG_35 : TI := ⟨1, false, [Value.int IntKind.i64 0], [], none, 8, 2, none, false⟩
theorem TLG_35_ok : TypOk Try.prog 35 TLG_35 := ⟨by kernel_rfl, by kernel_rfl, by kernel_rfl, by kernel_rfl, by kernel_rfl⟩
def TLG_192 : TI := ⟨1, false, [Value.slice none 0 0], [], some 30, 24, 5, none, false⟩
theorem TLG_192_ok : TypOk Try.prog 192 TLG_192 := ⟨by kernel_rfl, by kernel_rfl, by kernel_rfl, by kernel_rfl, by kernel_rfl⟩
def TLG_123 : TI := ⟨2, true, [Value.slice none 0 0, Value.int IntKind.i64 0], [(0, 1, false), (1, 1, false)], none, 32, 6, none, false⟩
theorem TLG_123_ok : TypOk Try.prog 123 TLG_123 := ⟨by kernel_rfl, by kernel_rfl, by kernel_rfl, by kernel_rfl, by kernel_rfl⟩
def TLG : List (Nat × TI) := [(68, TLG_68), (34, TLG_34), (62, TLG_62), (27, TLG_27), (30, TLG_30), (83, TLG_83), (3, TLG_3), (22, TLG_22), (35, TLG_35), (192, TLG_192), (123, TLG_123)]
theorem TLG_ok : TabOk Try.prog TLG := ((((((((((((TabOk.nil _).cons TLG_123_ok).cons TLG_192_ok).cons TLG_35_ok).cons TLG_22_ok).cons TLG_3_ok).cons TLG_83_ok).cons TLG_30_ok).cons TLG_27_ok).cons TLG_62_ok).cons TLG_34_ok).cons TLG_68_ok)
set_option maxHeartbeats 2000000 in
theorem lbehind_d (p : Li.Pr) (M : List Ty) (h1 : p.l.full ≤ 80000 ∧ p.l.Fit) (h2 : p.r.full ≤ 80000 ∧ p.r.Fit) (h3 : Ty.sizes M + Ty.sizes p.m ≤ 800000) :
  PureC Try.prog 27 [.ag (ePr p), .sl 2 (eTys M) none] (.tu [.ag (ePr (Li.beh p M).1), .v (.int .i64 (Li.beh p M).2)]) := by
 have hM := Ty.le_sizes M
 have hL := rename_d p.l M.length (by omega) h1.1 h1.2
 have hR := rename_d p.r M.length (by omega) h2.1 h2.2
 have hc := concat_d [M, p.m] (by have := Ty.le_sizes p.m; simp [lens]; omega) (by simp)
 simp only [List.flatten_cons, List.flatten_nil, List.append_nil] at hc
 have ha := arrow_d (.mk [] 0) (M ++ p.m) (by rw [ty_size, Ty.sizes_append]; simp [Ty.sizes]; omega)
 rw [eTy_eq, eTy_eq] at ha
 simp only [args_mk', base_mk', List.append_nil] at ha
 unfold Li.beh
 rw [ePr_at p]
 by_cases e1 : Rn.errs M.length p.l 0 = 0
 ·rw [e1, if_pos rfl] at hL
  rw [if_pos e1]
  by_cases e2 : Rn.errs M.length p.r 0 = 0
  ·rw [e2, if_pos rfl] at hR
   rw [if_pos e2, ePr_eq]
   generalize Rn.ren M.length p.l = L at hL ⊢
   generalize Rn.ren M.length p.r = R at hR ⊢
   generalize M ++ p.m = W at hc ha ⊢
   rw [eTm_eq, eTm_eq] at hL hR
   refine calldw 0 46 [ResultVar.cell 4 68, ResultVar.tmp 5] TLG_ok Try.func27 rfl Try.ntmps27 rfl fun cx hnt hn0 => ?_
   ·skip
    refine dw_seq ?_; refine dwk [] TLG_ok hnt fun K hK => ?_; refine hK _ _ ?_; clear hK K; refine dw_seq ?_; refine dwk [(14, .v (.int .i64 (↑M.length)))] TLG_ok hnt fun K hK => ?_; refine And.intro (dintE (by rw [eTys_len])) ?_; refine dcl (hL) ?_; refine hK _ _ ?_; clear hK K; refine dw_seq ?_; refine dw_seq ?_; refine dwk [(19, .v (.bool false))] TLG_ok hnt fun K hK => ?_; refine And.intro (bneF rfl) ?_
    refine hK _ _ ?_; clear hK K; refine dw_cond (t := false) rfl ?_; rw [if_neg (by simp)]; refine dw_skip ?_; refine dw_seq ?_; refine dwk [(26, .v (.int .i64 (↑M.length)))] TLG_ok hnt fun K hK => ?_; refine And.intro (dintE (by rw [eTys_len])) ?_; refine dcl (hR) ?_; refine hK _ _ ?_; clear hK K; refine dw_seq ?_; refine dw_seq ?_; refine dwk [(31, .v (.bool false))] TLG_ok hnt fun K hK => ?_; refine And.intro (bneF rfl) ?_
    refine hK _ _ ?_; clear hK K; refine dw_cond (t := false) rfl ?_; rw [if_neg (by simp)]; refine dw_skip ?_; refine dw_seq ?_; refine dwk [(37, .sl 1 (eTyss [M, p.m]) none)] TLG_ok hnt fun K hK => ?_; refine And.intro (VLe.untag _ _ _) ?_; refine dcl (hc) ?_; refine hK _ _ ?_; clear hK K; refine dw_seq ?_; refine dwkD [(41, .ag [.sl 2 (eTys []) none, .v (.int .i64 0)])] TLG_ok hnt fun K hK => ?_; refine And.intro (auV) ?_
    refine dcl (ha) ?_; refine hK _ _ (by kernel_rfl) ?_; clear hK K; refine dw_ret ?_
    exact reta rfl
  ·rw [if_neg e2] at hR; rw [if_neg e2, ePr_z]
   generalize Rn.ren M.length p.l = L at hL
   generalize Rn.errs M.length p.r 0 = E at e2 hR ⊢
   rw [eTm_eq, eTm_eq] at hL
   rw [eTm_eq, eTm_z] at hR
   refine calldw 0 46 [ResultVar.cell 4 68, ResultVar.tmp 5] TLG_ok Try.func27 rfl Try.ntmps27 rfl fun cx hnt hn0 => ?_
   ·skip
    refine dw_seq ?_; refine dwk [] TLG_ok hnt fun K hK => ?_; refine hK _ _ ?_; clear hK K; refine dw_seq ?_; refine dwk [(14, .v (.int .i64 (↑M.length)))] TLG_ok hnt fun K hK => ?_; refine And.intro (dintE (by rw [eTys_len])) ?_; refine dcl (hL) ?_; refine hK _ _ ?_; clear hK K; refine dw_seq ?_; refine dw_seq ?_; refine dwk [(19, .v (.bool false))] TLG_ok hnt fun K hK => ?_; refine And.intro (bneF rfl) ?_
    refine hK _ _ ?_; clear hK K; refine dw_cond (t := false) rfl ?_; rw [if_neg (by simp)]; refine dw_skip ?_; refine dw_seq ?_; refine dwk [(26, .v (.int .i64 (↑M.length)))] TLG_ok hnt fun K hK => ?_; refine And.intro (dintE (by rw [eTys_len])) ?_; refine dcl (hR) ?_; refine hK _ _ ?_; clear hK K; refine dw_seq ?_; refine dw_seq ?_; refine dwk [(31, .v (.bool true))] TLG_ok hnt fun K hK => ?_; refine And.intro (bneT e2) ?_
    refine hK _ _ ?_; clear hK K; refine dw_cond (t := true) rfl ?_; rw [if_pos rfl]; refine dw_seq ?_; refine dwk [] TLG_ok hnt fun K hK => ?_; refine hK _ _ ?_; clear hK K; refine dw_ret ?_
    exact reta rfl
 ·rw [if_neg e1] at hL; rw [if_neg e1, ePr_z]
  generalize Rn.errs M.length p.l 0 = E at e1 hL ⊢
  rw [eTm_eq, eTm_z] at hL
  refine calldw 0 46 [ResultVar.cell 4 68, ResultVar.tmp 5] TLG_ok Try.func27 rfl Try.ntmps27 rfl fun cx hnt hn0 => ?_
  ·skip
   refine dw_seq ?_; refine dwk [] TLG_ok hnt fun K hK => ?_; refine hK _ _ ?_; clear hK K; refine dw_seq ?_; refine dwk [(14, .v (.int .i64 (↑M.length)))] TLG_ok hnt fun K hK => ?_; refine And.intro (dintE (by rw [eTys_len])) ?_; refine dcl (hL) ?_; refine hK _ _ ?_; clear hK K; refine dw_seq ?_; refine dw_seq ?_; refine dwk [(19, .v (.bool true))] TLG_ok hnt fun K hK => ?_; refine And.intro (bneT e1) ?_
   refine hK _ _ ?_; clear hK K; refine dw_cond (t := true) rfl ?_; rw [if_pos rfl]; refine dw_seq ?_; refine dwk [] TLG_ok hnt fun K hK => ?_; refine hK _ _ ?_; clear hK K; refine dw_ret ?_
   exact reta rfl
set_option maxHeartbeats 2000000 in
theorem rbehind22_d (p : Li.Pr) (M : List Ty) (h1 : p.l.full ≤ 80000 ∧ p.l.Fit) (h2 : p.r.full ≤ 80000 ∧ p.r.Fit) (h3 : M.length + p.m.length ≤ 800000) :
  PureC Try.prog 30 [.ag (ePr p), .sl 2 (eTys M) none] (.tu [.ag (ePr (Li.beh p M).1), .v (.int .i64 (Li.beh p M).2)]) := by
 have hL := rRename_d p.l M.length (by omega) h1.1 h1.2 (Rn.fit_mts _ h1.2)
 have hR := rRename_d p.r M.length (by omega) h2.1 h2.2 (Rn.fit_mts _ h2.2)
 have hc := rbehind_d M p.m (by omega)
 unfold Li.beh
 rw [ePr_at p]
 by_cases e1 : Rn.errs M.length p.l 0 = 0
 ·rw [e1, if_pos rfl] at hL
  rw [if_pos e1]
  by_cases e2 : Rn.errs M.length p.r 0 = 0
  ·rw [e2, if_pos rfl] at hR
   rw [if_pos e2, ePr_eq]
   generalize Rn.ren M.length p.l = L at hL ⊢
   generalize Rn.ren M.length p.r = R at hR ⊢
   generalize M ++ p.m = W at hc ⊢
   rw [eTm_eq, eTm_eq] at hL hR
   refine calldw 0 41 [ResultVar.cell 4 62, ResultVar.tmp 5] TLG_ok Try.func30 rfl Try.ntmps30 rfl fun cx hnt hn0 => ?_
   ·skip
    refine dw_seq ?_; refine dwk [] TLG_ok hnt fun K hK => ?_; refine hK _ _ ?_; clear hK K; refine dw_seq ?_; refine dwk [(14, .v (.int .i64 (↑M.length)))] TLG_ok hnt fun K hK => ?_; refine And.intro (dintE (by rw [eTys_len])) ?_; refine dcl (hL) ?_; refine hK _ _ ?_; clear hK K; refine dw_seq ?_; refine dw_seq ?_; refine dwk [(19, .v (.bool false))] TLG_ok hnt fun K hK => ?_; refine And.intro (bneF rfl) ?_
    refine hK _ _ ?_; clear hK K; refine dw_cond (t := false) rfl ?_; rw [if_neg (by simp)]; refine dw_skip ?_; refine dw_seq ?_; refine dwk [(26, .v (.int .i64 (↑M.length)))] TLG_ok hnt fun K hK => ?_; refine And.intro (dintE (by rw [eTys_len])) ?_; refine dcl (hR) ?_; refine hK _ _ ?_; clear hK K; refine dw_seq ?_; refine dw_seq ?_; refine dwk [(31, .v (.bool false))] TLG_ok hnt fun K hK => ?_; refine And.intro (bneF rfl) ?_
    refine hK _ _ ?_; clear hK K; refine dw_cond (t := false) rfl ?_; rw [if_neg (by simp)]; refine dw_skip ?_; refine dw_seq ?_; refine dwkD [] TLG_ok hnt fun K hK => ?_; refine dcl (hc) ?_; refine hK _ _ (by kernel_rfl) ?_; clear hK K; refine dw_ret ?_
    exact reta rfl
  ·rw [if_neg e2] at hR; rw [if_neg e2, ePr_z]
   generalize Rn.ren M.length p.l = L at hL
   generalize Rn.errs M.length p.r 0 = E at e2 hR ⊢
   rw [eTm_eq, eTm_eq] at hL
   rw [eTm_eq, eTm_z] at hR
   refine calldw 0 41 [ResultVar.cell 4 62, ResultVar.tmp 5] TLG_ok Try.func30 rfl Try.ntmps30 rfl fun cx hnt hn0 => ?_
   ·skip
    refine dw_seq ?_; refine dwk [] TLG_ok hnt fun K hK => ?_; refine hK _ _ ?_; clear hK K; refine dw_seq ?_; refine dwk [(14, .v (.int .i64 (↑M.length)))] TLG_ok hnt fun K hK => ?_; refine And.intro (dintE (by rw [eTys_len])) ?_; refine dcl (hL) ?_; refine hK _ _ ?_; clear hK K; refine dw_seq ?_; refine dw_seq ?_; refine dwk [(19, .v (.bool false))] TLG_ok hnt fun K hK => ?_; refine And.intro (bneF rfl) ?_
    refine hK _ _ ?_; clear hK K; refine dw_cond (t := false) rfl ?_; rw [if_neg (by simp)]; refine dw_skip ?_; refine dw_seq ?_; refine dwk [(26, .v (.int .i64 (↑M.length)))] TLG_ok hnt fun K hK => ?_; refine And.intro (dintE (by rw [eTys_len])) ?_; refine dcl (hR) ?_; refine hK _ _ ?_; clear hK K; refine dw_seq ?_; refine dw_seq ?_; refine dwk [(31, .v (.bool true))] TLG_ok hnt fun K hK => ?_; refine And.intro (bneT e2) ?_
    refine hK _ _ ?_; clear hK K; refine dw_cond (t := true) rfl ?_; rw [if_pos rfl]; refine dw_seq ?_; refine dwk [] TLG_ok hnt fun K hK => ?_; refine hK _ _ ?_; clear hK K; refine dw_ret ?_
    exact reta rfl
 ·rw [if_neg e1] at hL; rw [if_neg e1, ePr_z]
  generalize Rn.errs M.length p.l 0 = E at e1 hL ⊢
  rw [eTm_eq, eTm_z] at hL
  refine calldw 0 41 [ResultVar.cell 4 62, ResultVar.tmp 5] TLG_ok Try.func30 rfl Try.ntmps30 rfl fun cx hnt hn0 => ?_
  ·skip
   refine dw_seq ?_; refine dwk [] TLG_ok hnt fun K hK => ?_; refine hK _ _ ?_; clear hK K; refine dw_seq ?_; refine dwk [(14, .v (.int .i64 (↑M.length)))] TLG_ok hnt fun K hK => ?_; refine And.intro (dintE (by rw [eTys_len])) ?_; refine dcl (hL) ?_; refine hK _ _ ?_; clear hK K; refine dw_seq ?_; refine dw_seq ?_; refine dwk [(19, .v (.bool true))] TLG_ok hnt fun K hK => ?_; refine And.intro (bneT e1) ?_
   refine hK _ _ ?_; clear hK K; refine dw_cond (t := true) rfl ?_; rw [if_pos rfl]; refine dw_seq ?_; refine dwk [] TLG_ok hnt fun K hK => ?_; refine hK _ _ ?_; clear hK K; refine dw_ret ?_
   exact reta rfl
set_option maxHeartbeats 2000000 in
theorem lapart_d (p q : Li.Pr) (h1 : p.l.full ≤ 80000 ∧ p.l.Fit) (h2 : p.r.full ≤ 80000 ∧ p.r.Fit) (h3 : q.l.full ≤ 80000 ∧ q.l.Fit) (h4 : q.r.full ≤ 80000 ∧ q.r.Fit) (h5 : Ty.sizes p.m + Ty.sizes q.m ≤ 800000) :
  PureC Try.prog 31 [.ag (ePr p), .ag (ePr q)] (.tu [.ag (ePr (Li.apart p q).1), .ag (ePr (Li.apart p q).2.1), .v (.int .i64 (Li.apart p q).2.2)]) := by
 have hB := lbehind_d q p.m h3 h4 h5
 have hL := copy_d p.l h1.1 h1.2
 have hR := copy_d p.r h2.1 h2.2
 have hms : Ty.sizes (Li.beh q p.m).1.m ≤ 800000 := by
  by_cases h : (Li.beh q p.m).2 = 0
  ·rw [(Li.beh_ok h).2.2]; show Ty.sizes (p.m ++ q.m) ≤ _; rw [Ty.sizes_append]; exact h5
  ·rw [Li.beh_no h]; decide
 unfold Li.apart
 by_cases h : (Li.beh q p.m).2 = 0
 ·rw [h] at hB
  rw [if_pos h]
  generalize (Li.beh q p.m).1 = c at hB hms ⊢
  have ha := arrow_d (.mk [] 0) c.m (by rw [ty_size]; simp [Ty.sizes]; omega)
  rw [eTy_eq, eTy_eq] at ha
  simp only [args_mk', base_mk', List.append_nil] at ha
  dsimp only
  rw [ePr_at p, ePr_at q, ePr_eq, ePr_at c]
  rw [ePr_at c, ePr_at q] at hB
  rw [eTm_eq] at hL hR
  refine calldw 0 34 [ResultVar.cell 4 68, ResultVar.cell 5 68, ResultVar.tmp 6] TLG_ok Try.func31 rfl Try.ntmps31 rfl fun cx hnt hn0 => ?_
  ·skip
   refine dw_seq ?_; refine dwk [] TLG_ok hnt fun K hK => ?_; refine hK _ _ ?_; clear hK K; refine dw_seq ?_; refine dwk [] TLG_ok hnt fun K hK => ?_; refine dcl (hB) ?_; refine hK _ _ ?_; clear hK K; refine dw_seq ?_; refine dw_seq ?_; refine dwk [(17, .v (.bool false))] TLG_ok hnt fun K hK => ?_; refine And.intro (bneF rfl) ?_; refine hK _ _ ?_; clear hK K; refine dw_cond (t := false) rfl ?_; rw [if_neg (by simp)]
   refine dw_skip ?_; refine dw_seq ?_; refine dwkD [(27, .ag [.sl 2 (eTys []) none, .v (.int .i64 0)])] TLG_ok hnt fun K hK => ?_; refine dcl (hL) ?_; refine dcl (hR) ?_; refine And.intro (auV) ?_; refine dcl (ha) ?_; refine hK _ _ (by kernel_rfl) ?_; clear hK K; refine dw_ret ?_
   exact reta rfl
 ·rw [Li.beh_no h] at hB
  rw [if_neg h]
  dsimp only
  generalize (Li.beh q p.m).2 = e at hB h ⊢
  rw [ePr_z]
  rw [ePr_z, ePr_at q] at hB
  rw [ePr_at p, ePr_at q]
  refine calldw 0 34 [ResultVar.cell 4 68, ResultVar.cell 5 68, ResultVar.tmp 6] TLG_ok Try.func31 rfl Try.ntmps31 rfl fun cx hnt hn0 => ?_
  ·skip
   refine dw_seq ?_; refine dwk [] TLG_ok hnt fun K hK => ?_; refine hK _ _ ?_; clear hK K; refine dw_seq ?_; refine dwk [] TLG_ok hnt fun K hK => ?_; refine dcl (hB) ?_; refine hK _ _ ?_; clear hK K; refine dw_seq ?_; refine dw_seq ?_; refine dwk [(17, .v (.bool true))] TLG_ok hnt fun K hK => ?_; refine And.intro (bneT h) ?_; refine hK _ _ ?_; clear hK K; refine dw_cond (t := true) rfl ?_; rw [if_pos rfl]
   refine dw_seq ?_; refine dwk [] TLG_ok hnt fun K hK => ?_; refine hK _ _ ?_; clear hK K; refine dw_ret ?_
   exact reta rfl
end Go.Proofs.Ytcblpjheoclkeaa

