/-
  term.Metas.
-/
import Derived.Test.YtejpgifofkiofaaRowEachp15
import Derived.Test.YtejpgifofkiofaaRowEachp13
set_option linter.unusedVariables false
set_option linter.unusedSimpArgs false
namespace Go.Proofs.Ytejpgifofkiofaa
open Go.RowKit Go.Shelf
attribute [local go_sem] Oper.semAt_some

theorem tms_cells {F : Nat → Prop} {w : World} {v : Value} {l : List Tm} (h : IsSl rpTm F w v l) : ∃ a c, v = .slice a l.length c ∧ (l.length ≤ maxLen ∧ l.length ≤ c) ∧ ∃ (bl off : Nat),
    (0 < l.length → a = some ⟨bl, off, none⟩ ∧ F bl) ∧ ∀ j (hj : j < l.length), ∃ b k i s, w.cell? ⟨bl, off + j * 4, none⟩ = some b ∧ w.cell? ⟨bl, off + j * 4 + 1, none⟩ = some k ∧ w.cell? ⟨bl, off + j * 4 + 2, none⟩ = some i ∧ w.cell? ⟨bl, off + j * 4 + 3, none⟩ = some s ∧ IsTm F w b k i s l[j] := by
  obtain ⟨a, c, bl, off, X, hv, hm, ha, h1, h2⟩ := h
  refine ⟨a, c, hv, hm, bl, off, ha, fun j hj => ?_⟩
  obtain ⟨b, k, i, s, hx, ht⟩ := h2 j hj
  exact ⟨b, k, i, s, h1 j 0 b hj (by rw [hx]; rfl), h1 j 1 k hj (by rw [hx]; rfl), h1 j 2 i hj (by rw [hx]; rfl), h1 j 3 s hj (by rw [hx]; rfl), ht⟩

def metasH (l : List (Int × Int)) : List Int := l.filterMap fun p => if p.1 = 2 then some p.2 else none
def metasP (l : List (Nat × Nat × Tm)) : List Int := l.filterMap fun p => if p.2.2.kind = 2 then some p.2.2.index else none
def metasL (l : List Tm) : List Int := l.flatMap fun t => metasP (t.pre 0 1)
theorem metasL_take (l : List Tm) (j : Nat) (h : j < l.length) : metasL (l.take (j + 1)) = metasL (l.take j) ++ metasP (l[j].pre 0 1) := by
  rw [List.take_succ_eq_append_getElem h]; unfold metasL; rw [List.flatMap_append]; simp
theorem metasL_len (l : List Tm) (m : Nat) (h : ∀ t ∈ l, t.full ≤ m) : (metasL l).length ≤ l.length * m := by
  induction l with
  | nil => simp [metasL]
  | cons t l ih =>
    have h1 := h t (by simp)
    have h2 := ih (fun u hu => h u (by simp [hu]))
    have h3 : (metasL (t :: l)).length = (metasP (t.pre 0 1)).length + (metasL l).length := by simp [metasL]
    have h4 : (metasP (t.pre 0 1)).length ≤ (t.pre 0 1).length := List.length_filterMap_le _ _
    rw [Tm.pre_length] at h4
    have h5 := Tm.size_le_full t
    rw [h3, List.length_cons, Nat.succ_mul]; omega
theorem metasH_pre (t : Tm) (hf : t.Fit) : metasH (t.heads 0) = metasP (t.pre 0 1) := by
  have e := heads_pre t 0 1 hf
  rw [show t.heads 0 = t.heads ((0 : Nat) : Int) from rfl, e]
  unfold metasH metasP
  rw [List.filterMap_filterMap]
  congr 1
  funext p
  unfold hdOf
  by_cases h0 : p.2.2.kind = 0
  · by_cases h1 : (p.1 : Int) ≤ p.2.2.index
    · simp [h0, h1]
    · simp [h0, h1]
  · simp [h0]

set_option maxRecDepth 100000 in
set_option maxHeartbeats 4000000 in
theorem metas6_k {F : Nat → Prop} {w : World} {v : Value} {l : List Tm} (h : IsSl rpTm F w v l) (hl : l.length ≤ 9) (hsz : ∀ t ∈ l, t.full ≤ 90000) : Calls Try.prog 79 #[v] w (FreshInts (sortU (metasL l)) w) := by
  refine (callsIn_wide (n := 9)).1 ?_
  have Ht := Lib.hid (h.weaken (F' := fun _ => True) (by decide) fun _ _ _ => trivial)
  obtain ⟨a, c, rfl, hm, bl, off, ha, hc⟩ := tms_cells Ht.out
  obtain ⟨ll, hll⟩ : ∃ x, l.length = x := ⟨_, rfl⟩
  clear h Ht
  have Hm := Lib.hid hm; clear hm
  have Hc := Lib.hid hc; clear hc
  have Hsz := Lib.hid hsz; clear hsz
  rw [hll] at ha hl ⊢
  obtain ⟨i2, hi2, hz0, hz1, hz2⟩ := info_parts infoI
  refine callsIn_of_wp_marks Try.func79 rfl trivial ?_ rfl
  simp only [Try.ntmps79, List.size_toArray, List.length_cons, List.length_nil, Nat.reduceAdd, Nat.reduceSub, Array.replicate_succ, Array.replicate_zero, List.push_toArray, List.append_toArray, List.nil_append, List.cons_append]
  gi_wp2_with fail
  refine wpIn_loop (fun a' w' => ∃ (j : Nat) (Ds : List Nat) (zs : List Int) (vv u5 u11 u12 u13 u14 u15 u28 : Value), a' = { tmps := #[.slice a ll c, undef, .slice none 0 0, .pointer (some ⟨w.heap.size, 0, none⟩), undef, u5, undef, undef, .slice a ll c, .int .i64 ll, .int .i64 j, u11, u12, u13, u14, u15, undef, undef, undef, undef, undef, undef, undef, undef, undef, undef, undef, undef, u28, undef, undef, undef, undef], defers := Ds.map fun D => { target := .collected D, args := #[] } } ∧
      j ≤ ll ∧ Hid (zs = metasL (l.take j)) ∧ OutAt w Ds vv zs w') (fun a' _ => ll - (intOf (a'.tmps.getD 10 undef)).toNat) ?start ?round
  case start =>
    refine ⟨0, [], [], .slice none 0 0, undef, undef, undef, undef, undef, undef, undef, rfl, by omega, by show _ = _; simp [metasL], ?_⟩
    exact ⟨Blk.new _ _ _ rfl, World.ownsRow_nil _ _ _ _, by simp, by simp, (Below.refl _ _).alloc (Nat.le_refl _) _⟩
  case round =>
    rintro a' W ⟨j, Ds, zs, vv, u5, u11, u12, u13, u14, u15, u28, rfl, hj, hzs, hO⟩
    have hj0 : (0 : Int) ≤ (j : Int) := Int.natCast_nonneg _
    have HO := Lib.hid hO; clear hO
    by_cases hlt : j < ll
    · have hj1 : (j : Int) < (ll : Int) := by omega
      obtain ⟨rfl, _⟩ := ha (by omega)
      obtain ⟨vb, vk, vi, vs, e1, e2, e3, e4, hty⟩ := Hc.out j (by omega)
      have hW := HO.out.below
      have e1 := ((Keep.refl (fun _ => True) _).below hW) _ _ _ trivial e1
      have e2 := ((Keep.refl (fun _ => True) _).below hW) _ _ _ trivial e2
      have e3 := ((Keep.refl (fun _ => True) _).below hW) _ _ _ trivial e3
      have e4 := ((Keep.refl (fun _ => True) _).below hW) _ _ _ trivial e4
      have Htk := Lib.hid (metasL_take l j (by omega))
      have hts := Hsz.out l[j] (List.getElem_mem _)
      obtain ⟨t, ht⟩ : ∃ t, l[j] = t := ⟨_, rfl⟩
      rw [ht] at hty Htk hts
      clear ht
      obtain ⟨pa, pc, qa, qc, rfl, rfl, rfl, rfl⟩ := hty.shape
      have Hty := Lib.hid hty; clear hty
      obtain ⟨x1, hx1⟩ : ∃ x, t.binds.length = x := ⟨_, rfl⟩
      obtain ⟨x2, hx2⟩ : ∃ x, t.args.length = x := ⟨_, rfl⟩
      obtain ⟨x3, hx3⟩ : ∃ x, t.kind = x := ⟨_, rfl⟩
      obtain ⟨x4, hx4⟩ : ∃ x, t.index = x := ⟨_, rfl⟩
      rw [hx1, hx2, hx3, hx4] at Hty
      rw [hx1] at e1
      rw [hx3] at e2
      rw [hx4] at e3
      rw [hx2] at e4
      clear hx1 hx2 hx3 hx4
      gi_wp2_with fail
      refine ⟨trivial, (each6_k _ _ _ _ _ _ ⟨_, _, _, rfl⟩ ⟨_, rfl⟩ ⟨_, rfl⟩ ⟨_, _, _, rfl⟩).mono ?_⟩
      rintro e w' ⟨rfl, rfl⟩
      gi_wp2_with fail
      have HO5 := Lib.hid ((HO.out.alloc (.cells #[.slice pa x1 pc, .int .i64 x3, .int .i64 x4, .slice qa x2 qc] 37)).alloc (.cells #[.slice pa x1 pc, .int .i64 x3, .int .i64 x4, .slice qa x2 qc] 37))
      obtain ⟨w5, hw5⟩ : ∃ w5, (W.alloc (.cells #[.slice pa x1 pc, .int .i64 x3, .int .i64 x4, .slice qa x2 qc] 37)).alloc (.cells #[.slice pa x1 pc, .int .i64 x3, .int .i64 x4, .slice qa x2 qc] 37) = w5 := ⟨_, rfl⟩
      have hz : w5.heap.size = W.heap.size + 2 := by rw [← hw5]; simp
      have y3 : Blk w5 (W.heap.size + 1) #[.slice pa x1 pc, .int .i64 x3, .int .i64 x4, .slice qa x2 qc] 37 := by rw [← hw5]; exact Blk.new _ _ _ (by simp)
      rw [hw5] at HO5 ⊢
      clear hw5
      have hsz1 := HO.out.box.lt
      have hlts := HO.out.lt
      clear HO
      have Hlts : Hid (∀ D ∈ Ds, D < w5.heap.size) := fun D hD => by have := hlts D hD; omega
      clear hlts
      refine range_softA (Ok := SpotOk) (fun o h => .inl h) rfl (by omega) (gf := 125) (lb := #[.pointer (some ⟨W.heap.size + 1, 0, none⟩)]) rfl trivial (enters_of Try.func125 (by kernel_rfl) rfl)
        (each6_soft (OutG w.heap.size) (fun k _ _ hk => .inl hk) Hty.out (by omega) (9 - 1) w5 (fun k _ hk ht => .inr ⟨by omega, ht⟩) ((Keep.refl _ _).below HO5.out.below) (W.heap.size + 1) y3)
        (fun h h' => h.trans h') (fun W l o o' _ hl ho _ => KeepC.putObj _ W l o o' hl ho) (Below.refl _ _) (fun _ => rfl)
        (fun pre V => ∃ v', OutAt w Ds v' (zs ++ metasP (pre.map Hit6.key)) V)
        (fun _ _ _ => False)
        (fun pre A B row ⟨v', h⟩ hg hr => ⟨v', h.grown Hlts.out (by omega) hg (fun r e => by
          obtain ⟨h1, o, ho, hc⟩ := hr r e
          refine ⟨h1, o, ho, fun cs e => ?_⟩
          subst e
          rcases hc with hc | ⟨cs', fr, hc⟩
          · simp [Obj.isCells] at hc
          · cases hc)⟩)
        (fun _ _ _ _ _ hs _ _ => hs)
        ⟨vv, by simpa [metasP] using HO5.out⟩
        (fun x a' V => ∃ Bx, Blk V Bx #[.slice x.pb x.t.binds.length x.cb, .int .i64 x.t.kind, .int .i64 x.t.index, .slice x.pa x.t.args.length x.ca] 37 ∧ a' = { tmps := #[.slice (some ⟨bl, off, none⟩) ll c, undef, .slice none 0 0, .pointer (some ⟨w.heap.size, 0, none⟩), undef, .pointer (some ⟨W.heap.size, 0, none⟩), undef, .pointer (some ⟨Bx, 0, none⟩), .slice (some ⟨bl, off, none⟩) ll c, .int .i64 ll, .int .i64 j, .bool true, .pointer (some ⟨bl, off + j * 4, none⟩), .agg #[.slice pa x1 pc, .int .i64 x3, .int .i64 x4, .slice qa x2 qc], .agg #[.slice pa x1 pc, .int .i64 x3, .int .i64 x4, .slice qa x2 qc], .func (.func 125) #[] #[.pointer (some ⟨W.heap.size + 1, 0, none⟩)], .agg #[.int .i64 x.s, .int .i64 x.d], .agg #[.slice x.pb x.t.binds.length x.cb, .int .i64 x.t.kind, .int .i64 x.t.index, .slice x.pa x.t.args.length x.ca], undef, undef, undef, undef, undef, undef, undef, undef, undef, undef, u28, undef, undef, undef, undef], defers := [] })
        (fun x a' W l o o' hl ho hoc => by
          rintro ⟨Bx, h2, h3⟩
          have hne : l ≠ Bx := fun e => by
            subst e
            have hb : W.heap[l]? = _ := h2
            rw [hb] at ho; cases ho; simp [Obj.isCells] at hoc
          exact ⟨Bx, (World.putObj_heap_other (Ne.symm hne)).trans h2, h3⟩) ?assign ?body ?done ?stop
      case assign =>
        rintro l pre x V K ⟨v', hV⟩ hK
        have HK := Lib.hid hK; clear hK
        have HV := Lib.hid hV; clear hV
        simp only [Hit6.enc] at *
        gi_wp2
        exact HK.out _ _ ((KeepsOthers.alloc _ _).from _) ((KeepC.refl _ V).alloc _) ⟨v', HV.out.alloc _⟩ ⟨V.heap.size, Blk.new _ _ _ rfl, rfl⟩
      case body =>
        rintro l' pre x a' V ⟨v', hV⟩ hlt' ⟨Bx, bX, rfl⟩
        have c1 : V.cell? ⟨w.heap.size, 0, none⟩ = some v' := hV.box.cell rfl
        have cx1 : V.cell? ⟨Bx, 1, none⟩ = some (.int .i64 x.t.kind) := bX.cell rfl
        have cx2 : V.cell? ⟨Bx, 2, none⟩ = some (.int .i64 x.t.index) := bX.cell rfl
        have hlen0 : (zs ++ metasP (pre.map Hit6.key)).length ≤ 900000 := by
          have h1 : (metasL (l.take j)).length ≤ 720000 := by
            have := metasL_len (l.take j) 90000 (fun t ht => Hsz.out t (List.mem_of_mem_take ht))
            have h2 : (l.take j).length ≤ 8 := by simp; omega
            exact Nat.le_trans this (Nat.le_trans (Nat.mul_le_mul_right 90000 h2) (by decide))
          have h2 : (metasP (pre.map Hit6.key)).length ≤ pre.length := by
            have := List.length_filterMap_le (fun p : Nat × Nat × Tm => if p.2.2.kind = 2 then some p.2.2.index else none) (pre.map Hit6.key)
            simpa [metasP] using this
          have h3 := Tm.size_le_full t
          rw [hzs.out, List.length_append]
          omega
        have hkey : metasP ((pre ++ [x]).map Hit6.key) = metasP (pre.map Hit6.key) ++ (if x.t.kind = 2 then [x.t.index] else []) := by
          unfold metasP
          rw [List.map_append, List.filterMap_append]
          congr 1
          by_cases hk : x.t.kind = 2
          · simp [Hit6.key, hk]
          · simp [Hit6.key, hk]
        have hkey2 : zs ++ metasP ((pre ++ [x]).map Hit6.key) = (zs ++ metasP (pre.map Hit6.key)) ++ (if x.t.kind = 2 then [x.t.index] else []) := by rw [hkey, List.append_assoc]
        clear hkey
        obtain ⟨zp, hzp⟩ : ∃ zp, zs ++ metasP (pre.map Hit6.key) = zp := ⟨_, rfl⟩
        rw [hzp] at hV hkey2 hlen0
        obtain ⟨kk, hkk⟩ : ∃ k, x.t.kind = k := ⟨_, rfl⟩
        obtain ⟨ii, hii⟩ : ∃ k, x.t.index = k := ⟨_, rfl⟩
        rw [hkk, hii] at hkey2
        rw [hkk] at cx1 ⊢
        rw [hii] at cx2 ⊢
        clear hzp hkk hii
        have HV := Lib.hid hV; clear hV
        have hsz3 := HV.out.below.size
        have f0 := HV.out.box.free 0
        by_cases hk : kk = 2
        · subst hk
          rw [if_pos rfl] at hkey2
          have Hkey := Lib.hid hkey2; clear hkey2
          gi_wp2_with (gi_at_builtin; refine wpListIn_append_own _ rfl _ _ 105 rfl (w.heap.size + 1) 3 i2 _ 1 8 Try.underlying105 hi2 hz0 hz1 hz2 rfl (by decide) v' zp.length (zp.map (Value.int .i64)) rfl (HV.out.own.alloc _) ⟨V.heap.size, 0, none⟩ 1 1 [.int .i64 ii] rfl rfl (fun jj u hu => by
              cases jj with
              | zero => simp at hu; subst hu; exact (Blk.new V #[.int .i64 ii] 3 rfl).cell rfl
              | succ _ => simp at hu) (by simp [Value.oneCell']) (by simp [maxLen]; omega) (by omega) (by have := HV.out.box.lt; simp; omega) ?_; intro v2 w3 hown3 hg3 hnil3; have Hg3 := Lib.hid hg3; obtain ⟨g3, cap3, rfl⟩ := ownsRow_succ hown3; have Hown3 := Lib.hid hown3; clear hown3 hg3 hnil3; have c3 := (HV.out.push_box Hg3.out).cell (i := 0) rfl; have f3 := (HV.out.push_box Hg3.out).free 0)
          obtain ⟨q1, q2, q3⟩ := HV.out.push ii Hg3.out Hown3.out
          exact ⟨q2.from _, q3, _, by rw [Hkey.out]; exact q1⟩
        · rw [if_neg hk, List.append_nil] at hkey2
          have Hkey := Lib.hid hkey2; clear hkey2
          have hk' : (kk == 2) = false := by simpa using hk
          gi_wp2
          exact ⟨(KeepsOthers.refl _).from _, KeepC.refl _ _, _, by rw [Hkey.out]; exact HV.out⟩
      case done =>
        rintro D ys V hD hys ⟨v', hV⟩ hK
        have hV2 := hV.mark hK (fun D' h' => by have := Hlts.out D' h'; omega) (by omega)
        have Hz : Hid (zs ++ metasP (ys.map Hit6.key) = metasL (l.take (j + 1))) := by show _ = _; rw [hys, Htk.out, hzs.out]
        rw [Hz.out] at hV2
        clear hV hK hys
        have HV := Lib.hid hV2; clear hV2
        gi_wp2_with fail
        refine ⟨⟨j + 1, D :: Ds, _, v', _, _, _, _, _, _, _, rfl, by omega, rfl, HV.out⟩, ?_⟩
        simp [intOf]; omega
      case stop =>
        rintro D cc pre V _ _ h _
        exact h.elim
    · have hO := HO.out
      have hz2 : zs = metasL l := by rw [hzs.out, List.take_of_length_le (by omega)]
      have hlen : zs.length ≤ 1000000 := by
        have := metasL_len l 90000 Hsz.out
        rw [hz2]
        exact Nat.le_trans this (Nat.le_trans (Nat.mul_le_mul_right 90000 (show l.length ≤ 9 by omega)) (by decide))
      have c1 : W.cell? ⟨w.heap.size, 0, none⟩ = some vv := hO.box.cell rfl
      clear hO
      gi_wp2_with fail
      refine ⟨trivial, (callsIn_wide.2 (sort_own (base := w.heap.size + 1) HO.out.own hlen)).mono ?_⟩
      rintro e W2 ⟨rfl, hown2, hg2⟩
      have hl2 := List.length_mergeSort (le := fun x y : Int => decide (x ≤ y)) zs
      have HO2 := Lib.hid (HO.out.sorted hg2 (by rw [hl2]; exact hown2))
      clear HO hown2 hg2
      have c2 : W2.cell? ⟨w.heap.size, 0, none⟩ = some vv := HO2.out.box.cell rfl
      gi_wp2_with fail
      refine ⟨trivial, (callsIn_wide.2 (compact_own (base := w.heap.size + 1) HO2.out.own (by rw [hl2]; exact hlen))).mono ?_⟩
      rintro e W3 ⟨v', rfl, hown3, hg3⟩
      have Hown3 := Lib.hid hown3; have Hg3 := Lib.hid hg3
      clear hown3 hg3
      gi_wp2_with fail
      have h := HO2.out.leave Hg3.out Hown3.out (F := Fence.wide) (n := 9) (P := Try.prog) (fn := Try.f79) (tmps := #[.slice a ll c, undef, v', .pointer (some ⟨w.heap.size, 0, none⟩), undef, u5, undef, undef, .slice a ll c, .int .i64 ll, .int .i64 j, .bool false, u12, u13, u14, u15, undef, undef, undef, undef, undef, undef, undef, undef, undef, undef, undef, undef, u28, vv, .tuple #[], vv, v']) (fun w3 => results_tmp (t := 2) rfl _ _ w3)
      rw [hz2] at h
      exact h
end Go.Proofs.Ytejpgifofkiofaa

