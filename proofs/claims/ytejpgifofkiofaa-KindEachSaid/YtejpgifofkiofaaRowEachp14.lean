/-
  kind.Bases. The document's heads of a term. The document's Heads and Count. The document's Like.
-/
import Derived.Test.YtejpgifofkiofaaRowEachp3
import Derived.Test.YtejpgifofkiofaaRowEachp13
import Derived.Deep.QuietTactic
import Derived.BigQuiet
import Derived.WalkSmall
set_option linter.unusedVariables false
set_option linter.unusedSimpArgs false
namespace Go.Proofs.Ytejpgifofkiofaa
open Go.RowKit Go.Shelf
attribute [local go_sem] Oper.semAt_some

theorem tys_cells {F : Nat → Prop} {w : World} {v : Value} {l : List Ty} (h : IsSl rpTy F w v l) : ∃ a c, v = .slice a l.length c ∧ (l.length ≤ maxLen ∧ l.length ≤ c) ∧ ∃ (bl off : Nat),
    (0 < l.length → a = some ⟨bl, off, none⟩ ∧ F bl) ∧ ∀ j (hj : j < l.length), ∃ s b, w.cell? ⟨bl, off + j * 2, none⟩ = some s ∧ w.cell? ⟨bl, off + j * 2 + 1, none⟩ = some b ∧ IsTy F w s b l[j] := by
  obtain ⟨a, c, bl, off, X, hv, hm, ha, h1, h2⟩ := h
  refine ⟨a, c, hv, hm, bl, off, ha, fun j hj => ?_⟩
  obtain ⟨s, b, hx, ht⟩ := h2 j hj
  exact ⟨s, b, h1 j 0 s hj (by rw [hx]; rfl), h1 j 1 b hj (by rw [hx]; rfl), ht⟩

def basesP (l : List (Nat × Ty)) : List Int := l.map fun p => p.2.base
def basesL (l : List Ty) : List Int := l.flatMap fun t => basesP (t.pre 1)
theorem basesL_take (l : List Ty) (j : Nat) (h : j < l.length) : basesL (l.take (j + 1)) = basesL (l.take j) ++ basesP (l[j].pre 1) := by
  rw [List.take_succ_eq_append_getElem h]; unfold basesL; rw [List.flatMap_append]; simp

theorem basesL_len (l : List Ty) (m : Nat) (h : ∀ t ∈ l, t.size ≤ m) : (basesL l).length ≤ l.length * m := by
  induction l with
  | nil => simp [basesL]
  | cons t l ih =>
    have h1 := h t (by simp)
    have h2 := ih (fun u hu => h u (by simp [hu]))
    have h3 : (basesL (t :: l)).length = t.size + (basesL l).length := by simp [basesL, basesP, Ty.pre_length]
    rw [h3, List.length_cons, Nat.succ_mul]; omega

set_option maxRecDepth 100000 in
set_option maxHeartbeats 4000000 in
theorem bases_k {F : Nat → Prop} {w : World} {v : Value} {l : List Ty} (h : IsSl rpTy F w v l) (hl : l.length ≤ 9) (hsz : ∀ t ∈ l, t.size ≤ 10000) : Calls Try.prog 72 #[v] w (FreshInts (sortU (basesL l)) w) := by
  refine (callsIn_wide (n := 9)).1 ?_
  have Ht := Lib.hid (h.weaken (F' := fun _ => True) (by decide) fun _ _ _ => trivial)
  obtain ⟨a, c, rfl, hm, bl, off, ha, hc⟩ := tys_cells Ht.out
  obtain ⟨ll, hll⟩ : ∃ x, l.length = x := ⟨_, rfl⟩
  clear h Ht
  have Hm := Lib.hid hm; clear hm
  have Hc := Lib.hid hc; clear hc
  have Hsz := Lib.hid hsz; clear hsz
  rw [hll] at ha hl ⊢
  obtain ⟨i2, hi2, hz0, hz1, hz2⟩ := info_parts infoI
  refine callsIn_of_wp_marks Try.func72 rfl trivial ?_ rfl
  simp only [Try.ntmps72, List.size_toArray, List.length_cons, List.length_nil, Nat.reduceAdd, Nat.reduceSub, Array.replicate_succ, Array.replicate_zero, List.push_toArray, List.append_toArray, List.nil_append, List.cons_append]
  gi_wp2_with fail
  refine wpIn_loop (fun a' w' => ∃ (j : Nat) (Ds : List Nat) (zs : List Int) (vv u5 u11 u12 u13 u14 u15 u23 : Value), a' = { tmps := #[.slice a ll c, undef, .slice none 0 0, .pointer (some ⟨w.heap.size, 0, none⟩), undef, u5, undef, undef, .slice a ll c, .int .i64 ll, .int .i64 j, u11, u12, u13, u14, u15, undef, undef, undef, undef, undef, undef, undef, u23, undef, undef, undef, undef], defers := Ds.map fun D => { target := .collected D, args := #[] } } ∧
      j ≤ ll ∧ Hid (zs = basesL (l.take j)) ∧ OutAt w Ds vv zs w') (fun a' _ => ll - (intOf (a'.tmps.getD 10 undef)).toNat) ?start ?round
  case start =>
    refine ⟨0, [], [], .slice none 0 0, undef, undef, undef, undef, undef, undef, undef, rfl, by omega, by show _ = _; simp [basesL], ?_⟩
    exact ⟨Blk.new _ _ _ rfl, World.ownsRow_nil _ _ _ _, by simp, by simp, (Below.refl _ _).alloc (Nat.le_refl _) _⟩
  case round =>
    rintro a' W ⟨j, Ds, zs, vv, u5, u11, u12, u13, u14, u15, u23, rfl, hj, hzs, hO⟩
    have hj0 : (0 : Int) ≤ (j : Int) := Int.natCast_nonneg _
    have HO := Lib.hid hO; clear hO
    by_cases hlt : j < ll
    · have hj1 : (j : Int) < (ll : Int) := by omega
      obtain ⟨rfl, _⟩ := ha (by omega)
      obtain ⟨s, b, e1, e2, hty⟩ := Hc.out j (by omega)
      have hW := HO.out.below
      have e1 := ((Keep.refl (fun _ => True) _).below hW) _ _ _ trivial e1
      have e2 := ((Keep.refl (fun _ => True) _).below hW) _ _ _ trivial e2
      obtain ⟨a1, c1, rfl, rfl⟩ := hty.shape
      have Hty := Lib.hid hty; clear hty
      have Htk := Lib.hid (basesL_take l j (by omega))
      have hts := Hsz.out l[j] (List.getElem_mem _)
      obtain ⟨t, ht⟩ : ∃ t, l[j] = t := ⟨_, rfl⟩
      rw [ht] at Hty Htk hts e1 e2
      clear ht
      obtain ⟨l2, hl2⟩ : ∃ l2, t.args.length = l2 := ⟨_, rfl⟩
      obtain ⟨b2, hb2⟩ : ∃ b2, t.base = b2 := ⟨_, rfl⟩
      rw [hl2] at Hty e1
      rw [hb2] at Hty e2
      clear hl2 hb2
      gi_wp2_with fail
      refine ⟨trivial, (each_k _ _ _ _ ⟨_, _, _, rfl⟩ ⟨_, rfl⟩).mono ?_⟩
      rintro e w' ⟨rfl, rfl⟩
      gi_wp2_with fail
      have HO5 := Lib.hid ((HO.out.alloc (.cells #[.slice a1 l2 c1, .int .i64 b2] 40)).alloc (.cells #[.slice a1 l2 c1, .int .i64 b2] 40))
      obtain ⟨w5, hw5⟩ : ∃ w5, (W.alloc (.cells #[.slice a1 l2 c1, .int .i64 b2] 40)).alloc (.cells #[.slice a1 l2 c1, .int .i64 b2] 40) = w5 := ⟨_, rfl⟩
      have hz : w5.heap.size = W.heap.size + 2 := by rw [← hw5]; simp
      have y3 : Blk w5 (W.heap.size + 1) #[.slice a1 l2 c1, .int .i64 b2] 40 := by rw [← hw5]; exact Blk.new _ _ _ (by simp)
      rw [hw5] at HO5 ⊢
      clear hw5
      have hsz1 := HO.out.box.lt
      have hlts := HO.out.lt
      clear HO
      have Hlts : Hid (∀ D ∈ Ds, D < w5.heap.size) := fun D hD => by have := hlts D hD; omega
      clear hlts
      refine wpIn_rangeFunc_ownH rfl (by omega) (gf := 113) (lb := #[.pointer (some ⟨W.heap.size + 1, 0, none⟩)]) rfl trivial (enters_of Try.func113 (by kernel_rfl) rfl)
        (each_stops (OutG w.heap.size) (fun k _ _ hk => .inl hk) Hty.out (by omega) (9 - 1) w5 (fun k _ hk ht => .inr ⟨by omega, ht⟩) ((Keep.refl _ _).below HO5.out.below) (W.heap.size + 1) y3)
        (fun h h' => h.trans h') (fun W l o o' _ hl ho _ => KeepC.putObj _ W l o o' hl ho) (Below.refl _ _) (fun _ => rfl)
        (fun pre V => ∃ v', OutAt w Ds v' (zs ++ basesP (pre.map Hit.key)) V)
        (fun _ _ _ => False)
        (fun pre A B row ⟨v', h⟩ hg hr => ⟨v', h.grown Hlts.out (by omega) hg (fun r e => by
          obtain ⟨h1, o, ho, hc⟩ := hr r e
          exact ⟨h1, o, ho, fun cs e => by subst e; simp [Obj.isCells] at hc⟩)⟩)
        (fun _ _ _ _ _ hs _ _ => hs)
        ⟨vv, by simpa [basesP] using HO5.out⟩
        (fun x a' V => ∃ Bx, Blk V Bx #[.slice x.a x.n x.c, .int .i64 x.b] 40 ∧ a' = { tmps := #[.slice (some ⟨bl, off, none⟩) ll c, undef, .slice none 0 0, .pointer (some ⟨w.heap.size, 0, none⟩), undef, .pointer (some ⟨W.heap.size, 0, none⟩), undef, .pointer (some ⟨Bx, 0, none⟩), .slice (some ⟨bl, off, none⟩) ll c, .int .i64 ll, .int .i64 j, .bool true, .pointer (some ⟨bl, off + j * 2, none⟩), .agg #[.slice a1 l2 c1, .int .i64 b2], .agg #[.slice a1 l2 c1, .int .i64 b2], .func (.func 113) #[] #[.pointer (some ⟨W.heap.size + 1, 0, none⟩)], .int .i64 x.d, .agg #[.slice x.a x.n x.c, .int .i64 x.b], undef, undef, undef, undef, undef, u23, undef, undef, undef, undef], defers := [] })
        (fun x a' => by
          rintro u A B row ⟨Bx, h2, h3⟩ hg hr
          exact ⟨Bx, blk_kept h2 hg (fun r e => (hr r e).2), h3⟩) ?assign ?body ?done ?stop
      case assign =>
        rintro l pre x V K ⟨v', hV⟩ hK
        have HK := Lib.hid hK; clear hK
        have HV := Lib.hid hV; clear hV
        simp only [Hit.enc] at *
        gi_wp2
        exact HK.out _ _ ((KeepsOthers.alloc _ _).from _) ((KeepC.refl _ V).alloc _) ⟨v', HV.out.alloc _⟩ ⟨V.heap.size, Blk.new _ _ _ rfl, rfl⟩
      case body =>
        rintro l' pre x a' V hl' ⟨r, hr⟩ ⟨v', hV⟩ ⟨Bx, bX, rfl⟩ hlt'
        have c1 : V.cell? ⟨w.heap.size, 0, none⟩ = some v' := hV.box.cell rfl
        have cx : V.cell? ⟨Bx, 1, none⟩ = some (.int .i64 x.b) := bX.cell rfl
        have hxb : x.b = x.t.base := by have h := x.ok.inv.1; exact (Value.int.inj h).2
        have hkey : zs ++ basesP ((pre ++ [x]).map Hit.key) = (zs ++ basesP (pre.map Hit.key)) ++ [x.b] := by rw [hxb]; simp [basesP, Hit.key]
        have hlen0 : (zs ++ basesP (pre.map Hit.key)).length ≤ 100000 := by
          have h1 : (basesL (l.take j)).length ≤ 90000 := by
            have := basesL_len (l.take j) 10000 (fun t ht => Hsz.out t (List.mem_of_mem_take ht))
            have h2 : (l.take j).length ≤ 9 := by simp; omega
            have h3 := Nat.mul_le_mul_right 10000 h2
            omega
          rw [hzs.out]
          simp [basesP]; omega
        obtain ⟨zp, hzp⟩ : ∃ zp, zs ++ basesP (pre.map Hit.key) = zp := ⟨_, rfl⟩
        rw [hzp] at hV hkey hlen0
        have Hkey := Lib.hid hkey; clear hkey hzp hxb
        have HV := Lib.hid hV; clear hV
        have hsz3 := HV.out.below.size
        have f0 := HV.out.box.free 0
        gi_wp2_with (gi_at_builtin; refine wpListIn_append_own _ rfl _ _ 105 rfl (w.heap.size + 1) 3 i2 _ 1 8 Try.underlying105 hi2 hz0 hz1 hz2 rfl (by decide) v' zp.length (zp.map (Value.int .i64)) rfl (HV.out.own.alloc _) ⟨V.heap.size, 0, none⟩ 1 1 [.int .i64 x.b] rfl rfl (fun jj u hu => by
            cases jj with
            | zero => simp at hu; subst hu; exact (Blk.new V #[.int .i64 x.b] 3 rfl).cell rfl
            | succ _ => simp at hu) (by simp [Value.oneCell']) (by simp [maxLen]; omega) (by omega) (by have := HV.out.box.lt; simp; omega) ?_; intro v2 w3 hown3 hg3 hnil3; have Hg3 := Lib.hid hg3; obtain ⟨g3, cap3, rfl⟩ := ownsRow_succ hown3; have Hown3 := Lib.hid hown3; clear hown3 hg3 hnil3; have c3 := (HV.out.push_box Hg3.out).cell (i := 0) rfl; have f3 := (HV.out.push_box Hg3.out).free 0)
        obtain ⟨q1, q2, q3⟩ := HV.out.push x.b Hg3.out Hown3.out
        exact ⟨q2.from _, q3, _, by rw [Hkey.out]; exact q1⟩
      case done =>
        rintro D ys V hD hys ⟨v', hV⟩ hK
        have hV2 := hV.mark hK (fun D' h' => by have := Hlts.out D' h'; omega) (by omega)
        have Hz : Hid (zs ++ basesP (ys.map Hit.key) = basesL (l.take (j + 1))) := by show _ = _; rw [hys, Htk.out, hzs.out]
        rw [Hz.out] at hV2
        clear hV hK hys
        have HV := Lib.hid hV2; clear hV2
        gi_wp2_with fail
        refine ⟨⟨j + 1, D :: Ds, _, v', _, _, _, _, _, _, _, rfl, by omega, rfl, HV.out⟩, ?_⟩
        simp [intOf]; omega
      case stop =>
        rintro D cc pre V _ _ h _
        exact h.elim
    · have hO := HO.out
      have hz2 : zs = basesL l := by rw [hzs.out, List.take_of_length_le (by omega)]
      have hlen : zs.length ≤ 1000000 := by
        have := basesL_len l 10000 Hsz.out
        have h3 := Nat.mul_le_mul_right 10000 (show l.length ≤ 9 by omega)
        rw [hz2]; omega
      have c1 : W.cell? ⟨w.heap.size, 0, none⟩ = some vv := hO.box.cell rfl
      clear hO
      gi_wp2_with fail
      refine ⟨trivial, (callsIn_wide.2 (sort_own (base := w.heap.size + 1) HO.out.own hlen)).mono ?_⟩
      rintro e W2 ⟨rfl, hown2, hg2⟩
      have hl2 := List.length_mergeSort (le := fun x y : Int => decide (x ≤ y)) zs
      have HO2 := Lib.hid (HO.out.sorted hg2 (by rw [hl2]; exact hown2))
      clear HO hown2 hg2
      have c2 : W2.cell? ⟨w.heap.size, 0, none⟩ = some vv := HO2.out.box.cell rfl
      gi_wp2_with fail
      refine ⟨trivial, (callsIn_wide.2 (compact_own (base := w.heap.size + 1) HO2.out.own (by rw [hl2]; exact hlen))).mono ?_⟩
      rintro e W3 ⟨v', rfl, hown3, hg3⟩
      have Hown3 := Lib.hid hown3; have Hg3 := Lib.hid hg3
      clear hown3 hg3
      gi_wp2_with fail
      have h := HO2.out.leave Hg3.out Hown3.out (F := Fence.wide) (n := 9) (P := Try.prog) (fn := Try.f72) (tmps := #[.slice a ll c, undef, v', .pointer (some ⟨w.heap.size, 0, none⟩), undef, u5, undef, undef, .slice a ll c, .int .i64 ll, .int .i64 j, .bool false, u12, u13, u14, u15, undef, undef, undef, undef, undef, undef, undef, u23, vv, .tuple #[], vv, v']) (fun w3 => results_tmp (t := 2) rfl _ _ w3)
      rw [hz2] at h
      exact h
end Go.Proofs.Ytejpgifofkiofaa

namespace Go.Proofs.Ytejpgifofkiofaa
open Go.RowKit

def rpHd : Rp (Int × Int) where
  n := 2
  R _ _ x v := x = [.int .i64 v.1, .int .i64 v.2]
  len := by rintro F w x a rfl; rfl
  one := by rintro F w x a rfl u hu; simp at hu; rcases hu with rfl | rfl <;> rfl
  keep := fun h _ => h
  weaken := fun h _ => h
theorem infoH : (Try.prog.info? 23).map (fun i => (i.zero, i.size, i.bytes)) = some (some (.agg #[.int .i64 0, .int .i64 0]), 2, 16) := by kernel_rfl

namespace Tm
mutual
def heads : Tm → Int → List (Int × Int)
  | .mk b k i a, n => (if k ≠ 0 then [(k, i)] else if n + (b.length : Int) ≤ i then [(0, i - (n + (b.length : Int)))] else []) ++ headss a (n + (b.length : Int))
def headss : List Tm → Int → List (Int × Int)
  | [], _ => []
  | t :: l, n => heads t n ++ headss l n
end
theorem heads_eq (b : List Ty) (k i : Int) (a : List Tm) (n m : Int) (hm : n + (b.length : Int) = m) : heads (.mk b k i a) n = (if k ≠ 0 then [(k, i)] else if m ≤ i then [(0, i - m)] else []) ++ headss a m := by subst hm; rw [heads]
theorem headss_append (l l' : List Tm) (n : Int) : headss (l ++ l') n = headss l n ++ headss l' n := by
  induction l with
  | nil => simp [headss]
  | cons t l ih => simp [headss, ih]
theorem headss_take (l : List Tm) (n : Int) (j : Nat) (h : j < l.length) : headss (l.take (j + 1)) n = headss (l.take j) n ++ heads l[j] n := by
  rw [List.take_succ_eq_append_getElem h, headss_append]; simp [headss]
theorem headss_len_of {l : List Tm} (h : ∀ t ∈ l, ∀ n, (t.heads n).length ≤ t.full) : ∀ n, (headss l n).length ≤ fulls l := by
  intro n
  induction l with
  | nil => simp [headss, fulls]
  | cons t l ih =>
    have h1 := h t (by simp) n
    have h2 := ih fun u hu => h u (by simp [hu])
    simp only [headss, fulls, List.length_append]; omega
theorem heads_len (t : Tm) : ∀ n, (t.heads n).length ≤ t.full := by
  induction t using Tm.ind with
  | h b k i a ih =>
    intro n
    have h := headss_len_of ih (n + b.length)
    rw [heads_eq _ _ _ _ _ _ rfl, full_eq, List.length_append]
    have : (if k ≠ 0 then [(k, i)] else if n + (b.length : Int) ≤ i then [(0, i - (n + (b.length : Int)))] else []).length ≤ 1 := by
      split
      · simp
      · split <;> simp
    omega
theorem headss_len (l : List Tm) (n : Int) : (headss l n).length ≤ fulls l := headss_len_of (fun t _ n => heads_len t n) n
end Tm

def FreshHds (l : List (Int × Int)) (w : World) (e : Ending) (w' : World) : Prop := ∃ a c, e = .returned (.slice a l.length c) ∧ IsSl rpHd (fun q => w.heap.size ≤ q) w' (.slice a l.length c) l ∧ Below w.heap.size w w'

def HeadsR (t : Tm) : Prop := ∀ (F : Nat → Prop) (w0 : World) (b0 k0 i0 a0 : Value), IsTm F w0 b0 k0 i0 a0 t → ∀ (n : Int) (w : World), Keep F w0 w → 0 ≤ n → n + t.full ≤ 90000 → t.Fit →
    Calls Try.prog 129 #[.agg #[b0, k0, i0, a0], .int .i64 n] w (FreshHds (t.heads n) w)

set_option maxRecDepth 100000 in
set_option maxHeartbeats 1000000 in
theorem heads_r : ∀ t : Tm, HeadsR t := Tm.ind fun binds k i args ih => by
  intro F w0 b0 k0 i0 a0 ht n w hw hn0 hn1 hfit
  obtain ⟨rfl, rfl, hb, hs⟩ := ht.inv
  obtain ⟨pa, pc, rfl⟩ := hb.shape
  obtain ⟨a, c, rfl⟩ := hs.shape
  simp only [Tm.binds, Tm.kind, Tm.index, Tm.args] at *
  obtain ⟨_, hm, bl, off, PA, A, PN, PC, N, C, Kd, Ix, ha, h1, h2, h3, h4, h5⟩ := sl_cells6 hs
  clear hs ht hb
  rw [Tm.full_eq] at hn1
  obtain ⟨hi0, hi1, hfa⟩ := Tm.fit_iff.1 hfit
  have hbl := Ty.le_sizes binds
  obtain ⟨m, hmm⟩ : ∃ m : Int, n + (binds.length : Int) = m := ⟨_, rfl⟩
  have hm0 : 0 ≤ m := by omega
  have hm1 : m ≤ 90000 := by omega
  have hs1 : IntKind.i64.wrap m = m := IntWalk.i64_in _ (by omega)
  have hal : args.length ≤ 90000 := by have := Tm.len_fulls args; omega
  obtain ⟨L, hL⟩ : ∃ L, Tm.heads (.mk binds k i args) n = L := ⟨_, rfl⟩
  rw [hL]
  have Hih : Hid (∀ j (h : j < args.length) (w' : World), Keep F w0 w' → Calls Try.prog 129 #[.agg #[.slice (PA j) (PN j) (PC j), .int .i64 (Kd j), .int .i64 (Ix j), .slice (A j) (N j) (C j)], .int .i64 m] w' (FreshHds (args[j].heads m) w')) :=
    fun j h w' hw => ih _ (List.getElem_mem h) _ _ _ _ _ _ (h5 j h) m w' hw hm0 (by have := Tm.full_mem (List.getElem_mem h); omega) (hfa _ (List.getElem_mem h))
  clear ih h5 hfit hfa
  obtain ⟨i2, hi2, hz0, hz1, hz2⟩ := info_parts infoH
  by_cases hk : k = 0
  · subst hk
    have hk0 : ((0 : Int) == 0) = true := rfl
    by_cases hge : i ≥ m
    · skip
      have HL : Hid ([((0 : Int), i - m)] ++ Tm.headss args m = L) := by show _ = _; rw [← hL, Tm.heads_eq binds 0 i args n m hmm, if_neg (by simp), if_pos hge]
      have hq1 : IntKind.i64.wrap (i - m) = i - m := IntWalk.i64_in _ (by omega)
      clear hL
      go_enter Try.func129, Try.ntmps129
      go_wp2_with (at_builtin; refine wpList_push rpHd (by decide) rfl _ _ _ rfl (w.heap.size + 1) 23 i2 _ 16 Try.underlying153 hi2 hz0 hz1 hz2 rfl (by decide) (fun q => w.heap.size ≤ q) (.slice none 0 0) [] rfl (Acc.nil _ _ _ _ _) (by simp) (w.heap.size + 1) _ [.int .i64 0, .int .i64 (i - m)] ((0 : Int), i - m) rfl (Blk.new _ #[.int .i64 0, .int .i64 (i - m)] _ (by simp)) rfl (by simp) ?_; intro g cap w3 hacc3 hgrow hat hlt2)
      have B3 : Below w.heap.size w w3 := (((Below.refl _ _).alloc (Nat.le_refl _) _).alloc (by simp) _).grown hgrow (by simp; omega) (fun k hk => by cases hk)
      have x3 : Blk w3 w.heap.size #[.slice pa binds.length pc, .int .i64 0, .int .i64 i, .slice a args.length c] 29 := ((Blk.new _ _ _ rfl).alloc _).grown hgrow (by simp [Value.ownBlock])
      have A3 : Hid (Acc rpHd 23 (w.heap.size + 1) (fun q => w.heap.size ≤ q) w3 (.slice (some ⟨g, 0, none⟩) 1 cap) [((0 : Int), i - m)]) := hacc3
      clear hacc3 hgrow hat hlt2
      go_loopw [5, 7] (fun x ii wr => ∃ (j : Nat) (v : Value), ii = .int .i64 j ∧ x = v ∧ j ≤ args.length ∧ Below w.heap.size w wr ∧ Blk wr w.heap.size #[.slice pa binds.length pc, .int .i64 0, .int .i64 i, .slice a args.length c] 29 ∧
          Acc rpHd 23 (w.heap.size + 1) (fun q => w.heap.size ≤ q) wr v ([((0 : Int), i - m)] ++ Tm.headss (args.take j) m)) (fun _ ii _ => args.length - (intOf ii).toNat)
      case atStart => exact ⟨0, _, rfl, rfl, by omega, B3, x3, by simpa [Tm.headss] using A3.out⟩
      case round =>
        clear B3 x3 A3
        obtain ⟨j, v, rfl, hv0, hj, hb, hbox, hacc⟩ := hrel
        have hv0 := hv0.symm
        subst hv0
        have c0 : wr.cell? ⟨w.heap.size, 3, none⟩ = some (.slice a args.length c) := hbox.cell rfl
        have hlt0 := hbox.lt
        have Hacc := Lib.hid hacc; clear hacc
        by_cases hlt : j < args.length
        · obtain ⟨rfl, hF⟩ := ha (by omega)
          have hkp : Keep F w0 wr := hw.below hb
          have e1 := hkp _ _ _ hF (h1 j hlt)
          have e2 := hkp _ _ _ hF (h2 j hlt)
          have e3 := hkp _ _ _ hF (h3 j hlt)
          have e4 := hkp _ _ _ hF (h4 j hlt)
          have hj0 : (0 : Int) ≤ (j : Int) := Int.natCast_nonneg _
          have hj1 : (j : Int) < (args.length : Int) := by omega
          have Hlen : Hid (([((0 : Int), i - m)] ++ Tm.headss (args.take j) m).length + (args[j].heads m).length ≤ 1000000) := by
            show _ ≤ _
            have q1 := Tm.headss_len (args.take j) m; have q2 := Tm.heads_len args[j] m; have q3 := Tm.fulls_take_le args j; have q4 := Tm.full_mem (List.getElem_mem hlt)
            simp; omega
          have Htk := Lib.hid (Tm.headss_take args m j hlt)
          go_wp2_with fail
          refine (Hih.out j hlt wr hkp).mono ?_
          rintro e w1 ⟨ra, rc, rfl, hr1, hb1⟩
          have A1 := Lib.hid (Hacc.out.below hb1)
          have hB1 := hb.trans (hb1.mono hb.size)
          have hbox1 := hbox.below hb1
          have hsz1 := hB1.size
          have hlt1 := hbox1.lt
          have HR := Lib.hid (hr1.weaken (F' := fun q => w.heap.size ≤ q ∧ v.ownBlock ≠ some q) (by decide) fun q _ hq => ⟨Nat.le_trans hb.size hq, fun e => by have := (Hacc.out.base_le q e).2; omega⟩)
          clear hr1
          go_wp2_with (at_builtin; refine wpList_push_sl rpHd (by decide) rfl _ _ _ rfl (w.heap.size + 1) 23 i2 _ 16 Try.underlying153 hi2 hz0 hz1 hz2 rfl (by decide) (fun q => w.heap.size ≤ q) v ([((0 : Int), i - m)] ++ Tm.headss (args.take j) m) rfl A1.out _ (args[j].heads m) rfl HR.out Hlen.out (by omega) ?_; intro v' w2 hacc2 hgrow hat)
          go_roundw
          case rel =>
            refine ⟨j + 1, _, by go_num, rfl, by omega, hB1.grown hgrow hsz1 (fun q hq => by have := (A1.out.base_le q hq).1; omega), hbox1.grown hgrow (fun e => by have := (A1.out.base_le _ e).1; omega), ?_⟩
            rw [Htk.out, ← List.append_assoc]
            exact hacc2
          case measure => simp [intOf]; omega
        · go_wp2_with fail
          go_ret
          have h := Hacc.out
          rw [List.take_of_length_le (by omega)] at h
          obtain ⟨va, vc, hv⟩ := h.len_shape
          rw [show [((0 : Int), i - m)] ++ Tm.headss args m = L from HL.out] at h hv
          refine ⟨va, vc, ?_, ?_, hb⟩
          · rw [← hv]; rfl
          · rw [← hv]; exact h.sl (fun q _ hq => hq) (fun q hq => by omega)
    · skip
      have HL : Hid ([] ++ Tm.headss args m = L) := by show _ = _; rw [← hL, Tm.heads_eq binds 0 i args n m hmm, if_neg (by simp), if_neg hge]
      clear hL
      go_enter Try.func129, Try.ntmps129
      go_wp2_with fail
      have B3 : Below w.heap.size w (w.alloc (.cells #[.slice pa binds.length pc, .int .i64 0, .int .i64 i, .slice a args.length c] 29)) := (Below.refl _ _).alloc (Nat.le_refl _) _
      have x3 := Blk.new w #[.slice pa binds.length pc, .int .i64 0, .int .i64 i, .slice a args.length c] 29 rfl
      have A3 : Hid (Acc rpHd 23 (w.heap.size + 1) (fun q => w.heap.size ≤ q) (w.alloc (.cells #[.slice pa binds.length pc, .int .i64 0, .int .i64 i, .slice a args.length c] 29)) (.slice none 0 0) []) := Acc.nil _ _ _ _ _
      go_loopw [5, 7] (fun x ii wr => ∃ (j : Nat) (v : Value), ii = .int .i64 j ∧ x = v ∧ j ≤ args.length ∧ Below w.heap.size w wr ∧ Blk wr w.heap.size #[.slice pa binds.length pc, .int .i64 0, .int .i64 i, .slice a args.length c] 29 ∧
          Acc rpHd 23 (w.heap.size + 1) (fun q => w.heap.size ≤ q) wr v ([] ++ Tm.headss (args.take j) m)) (fun _ ii _ => args.length - (intOf ii).toNat)
      case atStart => exact ⟨0, _, rfl, rfl, by omega, B3, x3, by simpa [Tm.headss] using A3.out⟩
      case round =>
        clear B3 x3 A3
        obtain ⟨j, v, rfl, hv0, hj, hb, hbox, hacc⟩ := hrel
        have hv0 := hv0.symm
        subst hv0
        have c0 : wr.cell? ⟨w.heap.size, 3, none⟩ = some (.slice a args.length c) := hbox.cell rfl
        have hlt0 := hbox.lt
        have Hacc := Lib.hid hacc; clear hacc
        by_cases hlt : j < args.length
        · obtain ⟨rfl, hF⟩ := ha (by omega)
          have hkp : Keep F w0 wr := hw.below hb
          have e1 := hkp _ _ _ hF (h1 j hlt)
          have e2 := hkp _ _ _ hF (h2 j hlt)
          have e3 := hkp _ _ _ hF (h3 j hlt)
          have e4 := hkp _ _ _ hF (h4 j hlt)
          have hj0 : (0 : Int) ≤ (j : Int) := Int.natCast_nonneg _
          have hj1 : (j : Int) < (args.length : Int) := by omega
          have Hlen : Hid (([] ++ Tm.headss (args.take j) m).length + (args[j].heads m).length ≤ 1000000) := by
            show _ ≤ _
            have q1 := Tm.headss_len (args.take j) m; have q2 := Tm.heads_len args[j] m; have q3 := Tm.fulls_take_le args j; have q4 := Tm.full_mem (List.getElem_mem hlt)
            simp; omega
          have Htk := Lib.hid (Tm.headss_take args m j hlt)
          go_wp2_with fail
          refine (Hih.out j hlt wr hkp).mono ?_
          rintro e w1 ⟨ra, rc, rfl, hr1, hb1⟩
          have A1 := Lib.hid (Hacc.out.below hb1)
          have hB1 := hb.trans (hb1.mono hb.size)
          have hbox1 := hbox.below hb1
          have hsz1 := hB1.size
          have hlt1 := hbox1.lt
          have HR := Lib.hid (hr1.weaken (F' := fun q => w.heap.size ≤ q ∧ v.ownBlock ≠ some q) (by decide) fun q _ hq => ⟨Nat.le_trans hb.size hq, fun e => by have := (Hacc.out.base_le q e).2; omega⟩)
          clear hr1
          go_wp2_with (at_builtin; refine wpList_push_sl rpHd (by decide) rfl _ _ _ rfl (w.heap.size + 1) 23 i2 _ 16 Try.underlying153 hi2 hz0 hz1 hz2 rfl (by decide) (fun q => w.heap.size ≤ q) v ([] ++ Tm.headss (args.take j) m) rfl A1.out _ (args[j].heads m) rfl HR.out Hlen.out (by omega) ?_; intro v' w2 hacc2 hgrow hat)
          go_roundw
          case rel =>
            refine ⟨j + 1, _, by go_num, rfl, by omega, hB1.grown hgrow hsz1 (fun q hq => by have := (A1.out.base_le q hq).1; omega), hbox1.grown hgrow (fun e => by have := (A1.out.base_le _ e).1; omega), ?_⟩
            rw [Htk.out, ← List.append_assoc]
            exact hacc2
          case measure => simp [intOf]; omega
        · go_wp2_with fail
          go_ret
          have h := Hacc.out
          rw [List.take_of_length_le (by omega)] at h
          obtain ⟨va, vc, hv⟩ := h.len_shape
          rw [show [] ++ Tm.headss args m = L from HL.out] at h hv
          refine ⟨va, vc, ?_, ?_, hb⟩
          · rw [← hv]; rfl
          · rw [← hv]; exact h.sl (fun q _ hq => hq) (fun q hq => by omega)
  · have hk0 : (k == 0) = false := by simpa using hk
    have hk1 : (k != 0) = true := by simpa using hk
    have HL : Hid ([(k, i)] ++ Tm.headss args m = L) := by show _ = _; rw [← hL, Tm.heads_eq binds k i args n m hmm, if_pos hk]
    clear hL
    go_enter Try.func129, Try.ntmps129
    go_wp2_with (at_builtin; refine wpList_push rpHd (by decide) rfl _ _ _ rfl (w.heap.size + 1) 23 i2 _ 16 Try.underlying153 hi2 hz0 hz1 hz2 rfl (by decide) (fun q => w.heap.size ≤ q) (.slice none 0 0) [] rfl (Acc.nil _ _ _ _ _) (by simp) (w.heap.size + 1) _ [.int .i64 k, .int .i64 i] (k, i) rfl (Blk.new _ #[.int .i64 k, .int .i64 i] _ (by simp)) rfl (by simp) ?_; intro g cap w3 hacc3 hgrow hat hlt2)
    have B3 : Below w.heap.size w w3 := (((Below.refl _ _).alloc (Nat.le_refl _) _).alloc (by simp) _).grown hgrow (by simp; omega) (fun k hk => by cases hk)
    have x3 : Blk w3 w.heap.size #[.slice pa binds.length pc, .int .i64 k, .int .i64 i, .slice a args.length c] 29 := ((Blk.new _ _ _ rfl).alloc _).grown hgrow (by simp [Value.ownBlock])
    have A3 : Hid (Acc rpHd 23 (w.heap.size + 1) (fun q => w.heap.size ≤ q) w3 (.slice (some ⟨g, 0, none⟩) 1 cap) [(k, i)]) := hacc3
    clear hacc3 hgrow hat hlt2
    go_loopw [5, 7] (fun x ii wr => ∃ (j : Nat) (v : Value), ii = .int .i64 j ∧ x = v ∧ j ≤ args.length ∧ Below w.heap.size w wr ∧ Blk wr w.heap.size #[.slice pa binds.length pc, .int .i64 k, .int .i64 i, .slice a args.length c] 29 ∧
        Acc rpHd 23 (w.heap.size + 1) (fun q => w.heap.size ≤ q) wr v ([(k, i)] ++ Tm.headss (args.take j) m)) (fun _ ii _ => args.length - (intOf ii).toNat)
    case atStart => exact ⟨0, _, rfl, rfl, by omega, B3, x3, by simpa [Tm.headss] using A3.out⟩
    case round =>
      clear B3 x3 A3
      obtain ⟨j, v, rfl, hv0, hj, hb, hbox, hacc⟩ := hrel
      have hv0 := hv0.symm
      subst hv0
      have c0 : wr.cell? ⟨w.heap.size, 3, none⟩ = some (.slice a args.length c) := hbox.cell rfl
      have hlt0 := hbox.lt
      have Hacc := Lib.hid hacc; clear hacc
      by_cases hlt : j < args.length
      · obtain ⟨rfl, hF⟩ := ha (by omega)
        have hkp : Keep F w0 wr := hw.below hb
        have e1 := hkp _ _ _ hF (h1 j hlt)
        have e2 := hkp _ _ _ hF (h2 j hlt)
        have e3 := hkp _ _ _ hF (h3 j hlt)
        have e4 := hkp _ _ _ hF (h4 j hlt)
        have hj0 : (0 : Int) ≤ (j : Int) := Int.natCast_nonneg _
        have hj1 : (j : Int) < (args.length : Int) := by omega
        have Hlen : Hid (([(k, i)] ++ Tm.headss (args.take j) m).length + (args[j].heads m).length ≤ 1000000) := by
          show _ ≤ _
          have q1 := Tm.headss_len (args.take j) m; have q2 := Tm.heads_len args[j] m; have q3 := Tm.fulls_take_le args j; have q4 := Tm.full_mem (List.getElem_mem hlt)
          simp; omega
        have Htk := Lib.hid (Tm.headss_take args m j hlt)
        go_wp2_with fail
        refine (Hih.out j hlt wr hkp).mono ?_
        rintro e w1 ⟨ra, rc, rfl, hr1, hb1⟩
        have A1 := Lib.hid (Hacc.out.below hb1)
        have hB1 := hb.trans (hb1.mono hb.size)
        have hbox1 := hbox.below hb1
        have hsz1 := hB1.size
        have hlt1 := hbox1.lt
        have HR := Lib.hid (hr1.weaken (F' := fun q => w.heap.size ≤ q ∧ v.ownBlock ≠ some q) (by decide) fun q _ hq => ⟨Nat.le_trans hb.size hq, fun e => by have := (Hacc.out.base_le q e).2; omega⟩)
        clear hr1
        go_wp2_with (at_builtin; refine wpList_push_sl rpHd (by decide) rfl _ _ _ rfl (w.heap.size + 1) 23 i2 _ 16 Try.underlying153 hi2 hz0 hz1 hz2 rfl (by decide) (fun q => w.heap.size ≤ q) v ([(k, i)] ++ Tm.headss (args.take j) m) rfl A1.out _ (args[j].heads m) rfl HR.out Hlen.out (by omega) ?_; intro v' w2 hacc2 hgrow hat)
        go_roundw
        case rel =>
          refine ⟨j + 1, _, by go_num, rfl, by omega, hB1.grown hgrow hsz1 (fun q hq => by have := (A1.out.base_le q hq).1; omega), hbox1.grown hgrow (fun e => by have := (A1.out.base_le _ e).1; omega), ?_⟩
          rw [Htk.out, ← List.append_assoc]
          exact hacc2
        case measure => simp [intOf]; omega
      · go_wp2_with fail
        go_ret
        have h := Hacc.out
        rw [List.take_of_length_le (by omega)] at h
        obtain ⟨va, vc, hv⟩ := h.len_shape
        rw [show [(k, i)] ++ Tm.headss args m = L from HL.out] at h hv
        refine ⟨va, vc, ?_, ?_, hb⟩
        · rw [← hv]; rfl
        · rw [← hv]; exact h.sl (fun q _ hq => hq) (fun q hq => by omega)
end Go.Proofs.Ytejpgifofkiofaa

namespace Go.Proofs.Ytejpgifofkiofaa
open Go.RowKit

theorem FreshHds.up {l : List (Int × Int)} {w w0 : World} {o : Obj} {e : Ending} {w' : World} (h : FreshHds l (w.alloc o) e w') (h0 : w0 = w) : FreshHds l w0 e w' := by
  subst h0
  obtain ⟨a, c, rfl, hr, hb⟩ := h
  exact ⟨a, c, rfl, hr.weaken (by decide) (fun q _ hq => by simp at hq; omega), ((Below.refl _ _).alloc (Nat.le_refl _) _).trans (hb.mono (by simp))⟩

theorem Heads_r {F : Nat → Prop} {w0 : World} {b k i a : Value} {t : Tm} (ht : IsTm F w0 b k i a t) (w : World) (hw : Keep F w0 w) (hsz : t.full ≤ 90000) (hfit : t.Fit) :
    Calls Try.prog 117 #[.agg #[b, k, i, a]] w (FreshHds (t.heads 0) w) := by
  have H := fun w1 hk => heads_r t _ _ _ _ _ _ ht 0 w1 hk (by omega) (by omega) hfit
  clear ht
  go_enter Try.func117, Try.ntmps117
  go_wp2_with fail
  refine (H _ (hw.alloc _)).mono ?_
  intro e w1 h
  obtain ⟨ra, rc, rfl, hr, hb⟩ := h.up rfl
  clear h H
  go_wp2_with fail
  go_ret
  exact ⟨ra, rc, rfl, hr, hb⟩

theorem hds_cells {F : Nat → Prop} {w : World} {a : Option Addr} {n c : Nat} {l : List (Int × Int)} (h : IsSl rpHd F w (.slice a n c) l) : n = l.length ∧ (l.length ≤ maxLen ∧ l.length ≤ c) ∧ ∃ (bl off : Nat),
    (0 < l.length → a = some ⟨bl, off, none⟩ ∧ F bl) ∧ ∀ j (hj : j < l.length), w.cell? ⟨bl, off + j * 2, none⟩ = some (.int .i64 l[j].1) ∧ w.cell? ⟨bl, off + j * 2 + 1, none⟩ = some (.int .i64 l[j].2) := by
  obtain ⟨a', c', bl, off, Y, hv, hm, ha, h1, h2⟩ := h
  cases hv
  refine ⟨rfl, hm, bl, off, ha, fun j hj => ?_⟩
  have hy : Y j = [.int .i64 l[j].1, .int .i64 l[j].2] := h2 j hj
  exact ⟨h1 j 0 _ hj (by rw [hy]; rfl), h1 j 1 _ hj (by rw [hy]; rfl)⟩

def countHd (l : List (Int × Int)) (k i : Int) : Nat := (l.filter fun p => decide (p.1 = k ∧ p.2 = i)).length
theorem countHd_take (l : List (Int × Int)) (k i : Int) (j : Nat) (h : j < l.length) : countHd (l.take (j + 1)) k i = countHd (l.take j) k i + if l[j].1 = k ∧ l[j].2 = i then 1 else 0 := by
  rw [List.take_succ_eq_append_getElem h]
  unfold countHd
  rw [List.filter_append, List.length_append]
  congr 1
  by_cases hc : l[j].1 = k ∧ l[j].2 = i
  · simp [hc]
  · simp [hc]
theorem countHd_le (l : List (Int × Int)) (k i : Int) (j : Nat) : countHd (l.take j) k i ≤ l.length := by
  unfold countHd
  have h1 := List.length_filter_le (fun p : Int × Int => decide (p.1 = k ∧ p.2 = i)) (l.take j)
  have h2 : (l.take j).length ≤ l.length := by simp; omega
  omega

set_option maxRecDepth 100000 in
theorem Count_r {F : Nat → Prop} {w0 : World} {b k i a : Value} {t : Tm} (ht : IsTm F w0 b k i a t) (w : World) (hw : Keep F w0 w) (hsz : t.full ≤ 90000) (hfit : t.Fit) (hk hi : Int) :
    Calls Try.prog 82 #[.agg #[b, k, i, a], .agg #[.int .i64 hk, .int .i64 hi]] w (RetI (countHd (t.heads 0) hk hi) w) := by
  have H := Lib.hid fun w1 (hb : Below w.heap.size w w1) => Heads_r ht w1 (hw.below hb) hsz hfit
  obtain ⟨t_pa, t_pc, t_qa, t_qc, rfl, rfl, rfl, rfl⟩ := ht.shape
  obtain ⟨t_n, ht_n⟩ : ∃ x, t.binds.length = x := ⟨_, rfl⟩
  obtain ⟨t_m, ht_m⟩ : ∃ x, t.args.length = x := ⟨_, rfl⟩
  obtain ⟨t_k, ht_k⟩ : ∃ x, t.kind = x := ⟨_, rfl⟩
  obtain ⟨t_i, ht_i⟩ : ∃ x, t.index = x := ⟨_, rfl⟩
  rw [ht_n, ht_m, ht_k, ht_i] at ht ⊢
  have Et_n := Lib.hid ht_n
  have Et_m := Lib.hid ht_m
  have Et_k := Lib.hid ht_k
  have Et_i := Lib.hid ht_i
  clear ht_n ht_m ht_k ht_i
  rw [Et_n.out, Et_m.out, Et_k.out, Et_i.out] at H
  obtain ⟨l, hl⟩ : ∃ l, t.heads 0 = l := ⟨_, rfl⟩
  have hlen : l.length ≤ 90000 := by rw [← hl]; have := Tm.heads_len t 0; omega
  rw [hl] at H ⊢
  clear ht hl
  go_enter Try.func82, Try.ntmps82
  go_wp2_with fail
  obtain ⟨w3, hw3⟩ : ∃ w3, (w.alloc (.cells #[.slice t_pa t_n t_pc, .int .i64 t_k, .int .i64 t_i, .slice t_qa t_m t_qc] 29)).alloc (.cells #[.int .i64 hk, .int .i64 hi] 23) = w3 := ⟨_, rfl⟩
  have B_w3 : Below w.heap.size w w3 := by rw [← hw3]; exact ((Below.refl _ _).alloc (Nat.le_refl _) _).alloc (by simp) _
  have x1_w3 : Blk w3 (w.heap.size + 1) #[.int .i64 hk, .int .i64 hi] 23 := by rw [← hw3]; exact Blk.new _ _ _ (by simp)
  rw [hw3]
  clear hw3
  refine (H.out w3 B_w3).mono ?_
  rintro e w4 ⟨ra, rc, rfl, hT, hbx0⟩
  have hbx : Below w3.heap.size w3 w4 := hbx0
  clear hbx0
  have x1_w4 := x1_w3.below hbx
  have B_w4 := B_w3.trans (hbx.mono B_w3.size)
  clear x1_w3 B_w3 hbx
  obtain ⟨_, hm, bl, off, ha, h1⟩ := hds_cells hT
  clear hT H
  go_wp2_with fail
  go_loopw [5, 7] (fun nn ii wr => ∃ (j : Nat), ii = .int .i64 j ∧ nn = .int .i64 (countHd (l.take j) hk hi : Int) ∧ j ≤ l.length ∧ Below w4.heap.size w4 wr) (fun _ ii _ => l.length - (intOf ii).toNat)
  case atStart => exact ⟨0, rfl, by simp [countHd], by omega, Below.refl _ _⟩
  case round =>
    obtain ⟨j, rfl, hn, hj, hbr⟩ := hrel
    have hj0 : (0 : Int) ≤ (j : Int) := Int.natCast_nonneg _
    have hcl := countHd_le l hk hi j
    obtain ⟨N, hN⟩ : ∃ N, countHd (l.take j) hk hi = N := ⟨_, rfl⟩
    rw [hN] at hn hcl
    subst hn
    have B_wr := B_w4.trans (hbr.mono B_w4.size)
    have x1_wr := x1_w4.below hbr
    by_cases hlt : j < l.length
    · have hj1 : (j : Int) < (l.length : Int) := by omega
      obtain ⟨rfl, hF⟩ := ha (by omega)
      have htk := Lib.hid (countHd_take l hk hi j hlt)
      rw [hN] at htk
      obtain ⟨e1, e2⟩ := h1 j hlt
      have e1 := ((Keep.refl (fun _ => True) _).below hbr) _ _ _ trivial e1
      have e2 := ((Keep.refl (fun _ => True) _).below hbr) _ _ _ trivial e2
      obtain ⟨x, hx⟩ : ∃ x, l[j].1 = x := ⟨_, rfl⟩
      obtain ⟨y, hy⟩ : ∃ y, l[j].2 = y := ⟨_, rfl⟩
      rw [hx, hy] at htk
      rw [hx] at e1
      rw [hy] at e2
      clear hx hy
      have cx10 : wr.cell? ⟨w.heap.size + 1, 0, none⟩ = some (.int .i64 hk) := x1_wr.cell rfl
      have cx11 : wr.cell? ⟨w.heap.size + 1, 1, none⟩ = some (.int .i64 hi) := x1_wr.cell rfl
      have lx1 := x1_wr.lt
      have hNN : (N : Int) ≤ 90000 := by omega
      go_wp2_with fail
      refine wp_region_noPanic (wp_region_need (S := fun w' => w'.cell? ⟨bl, off + j * 2, none⟩ = some (.int .i64 x) ∧ w'.cell? ⟨bl, off + j * 2 + 1, none⟩ = some (.int .i64 y) ∧ w'.cell? ⟨w.heap.size + 1, 0, none⟩ = some (.int .i64 hk) ∧ w'.cell? ⟨w.heap.size + 1, 1, none⟩ = some (.int .i64 hi)) (by kernel_rfl) ?_)
      have hS : (wr.drew).cell? ⟨bl, off + j * 2, none⟩ = some (.int .i64 x) ∧ (wr.drew).cell? ⟨bl, off + j * 2 + 1, none⟩ = some (.int .i64 y) ∧ (wr.drew).cell? ⟨w.heap.size + 1, 0, none⟩ = some (.int .i64 hk) ∧ (wr.drew).cell? ⟨w.heap.size + 1, 1, none⟩ = some (.int .i64 hi) := ⟨e1, e2, x1_wr.drew.cell rfl, x1_wr.drew.cell rfl⟩
      refine wpN_take (i := 0) (v := ?v1) rfl (by kernel_rfl) (fun _ _ _ h => h) hS (Or.inl ⟨by rfl, ?hy1⟩) ?hr1
      case hy1 => (intro wS hSw; (try dsimp only at hSw); go_simp; (try with_reducible rfl))
      try simp only [Act.put, List.setIfInBounds_toArray, List.set_cons_zero, List.set_cons_succ, List.getElem_toArray, List.getElem_cons_zero, List.getElem_cons_succ]
      refine wpN_take (i := 1) (v := ?v2) rfl (by kernel_rfl) (fun _ _ _ h => h) hS (Or.inl ⟨by rfl, ?hy2⟩) ?hr2
      case hy2 => (intro wS hSw; (try dsimp only at hSw); go_simp; (try with_reducible rfl))
      try simp only [Act.put, List.setIfInBounds_toArray, List.set_cons_zero, List.set_cons_succ, List.getElem_toArray, List.getElem_cons_zero, List.getElem_cons_succ]
      refine wpN_take (i := 2) (v := ?v3) rfl (by kernel_rfl) (fun _ _ _ h => h) hS (Or.inl ⟨by rfl, ?hy3⟩) ?hr3
      case hy3 => (intro wS hSw; (try dsimp only at hSw); go_simp; (try with_reducible rfl))
      try simp only [Act.put, List.setIfInBounds_toArray, List.set_cons_zero, List.set_cons_succ, List.getElem_toArray, List.getElem_cons_zero, List.getElem_cons_succ]
      refine wpN_take (i := 3) (v := ?v4) rfl (by kernel_rfl) (fun _ _ _ h => h) hS (Or.inl ⟨by rfl, ?hy4⟩) ?hr4
      case hy4 => (intro wS hSw; (try dsimp only at hSw); go_simp; (try with_reducible rfl))
      try simp only [Act.put, List.setIfInBounds_toArray, List.set_cons_zero, List.set_cons_succ, List.getElem_toArray, List.getElem_cons_zero, List.getElem_cons_succ]
      refine wpN_take (i := 4) (v := ?v5) rfl (by kernel_rfl) (fun _ _ _ h => h) hS (Or.inl ⟨by rfl, ?hy5⟩) ?hr5
      case hy5 => (intro wS hSw; (try dsimp only at hSw); go_simp; (try with_reducible rfl))
      try simp only [Act.put, List.setIfInBounds_toArray, List.set_cons_zero, List.set_cons_succ, List.getElem_toArray, List.getElem_cons_zero, List.getElem_cons_succ]
      by_cases hc : x = hk ∧ y = hi
      · obtain ⟨rfl, rfl⟩ := hc
        refine wpN_take (i := 5) (v := ?v6) rfl (by kernel_rfl) (fun _ _ _ h => h) hS (Or.inl ⟨by rfl, ?hy6⟩) ?hr6
        case hy6 => (intro wS hSw; (try dsimp only at hSw); go_simp; (try with_reducible rfl))
        try simp only [Act.put, List.setIfInBounds_toArray, List.set_cons_zero, List.set_cons_succ, List.getElem_toArray, List.getElem_cons_zero, List.getElem_cons_succ]
        refine wpN_done (by kernel_rfl) ?_
        refine NoPanic.normal ?_
        go_wp2_with fail
        go_roundw
        case rel => exact ⟨j + 1, by go_num, by rw [htk.out, if_pos ⟨rfl, rfl⟩]; go_num, by omega, below_drewN hbr _⟩
        case measure => simp [intOf]; omega
      · by_cases hc1 : x = hk
        · have hc2 : ¬ y = hi := fun h => hc ⟨hc1, h⟩
          subst hc1
          refine wpN_take (i := 5) (v := ?v7) rfl (by kernel_rfl) (fun _ _ _ h => h) hS (Or.inl ⟨by rfl, ?hy7⟩) ?hr7
          case hy7 => (intro wS hSw; (try dsimp only at hSw); go_simp; (try with_reducible rfl))
          try simp only [Act.put, List.setIfInBounds_toArray, List.set_cons_zero, List.set_cons_succ, List.getElem_toArray, List.getElem_cons_zero, List.getElem_cons_succ]
          refine wpN_done (by kernel_rfl) ?_
          refine NoPanic.normal ?_
          go_wp2_with fail
          go_roundw
          case rel => exact ⟨j + 1, by go_num, by rw [htk.out, if_neg hc]; go_num, by omega, below_drewN hbr _⟩
          case measure => simp [intOf]; omega
        · skip
          refine wpN_take (i := 5) (v := ?v8) rfl (by kernel_rfl) (fun _ _ _ h => h) hS (Or.inl ⟨by rfl, ?hy8⟩) ?hr8
          case hy8 => (intro wS hSw; (try dsimp only at hSw); go_simp; (try with_reducible rfl))
          try simp only [Act.put, List.setIfInBounds_toArray, List.set_cons_zero, List.set_cons_succ, List.getElem_toArray, List.getElem_cons_zero, List.getElem_cons_succ]
          refine wpN_done (by kernel_rfl) ?_
          refine NoPanic.normal ?_
          go_wp2_with fail
          go_roundw
          case rel => exact ⟨j + 1, by go_num, by rw [htk.out, if_neg hc]; go_num, by omega, below_drewN hbr _⟩
          case measure => simp [intOf]; omega
    · go_wp2_with fail
      go_ret
      refine ⟨?_, B_wr⟩
      rw [← hN, List.take_of_length_le (by omega)]; rfl
end Go.Proofs.Ytejpgifofkiofaa

namespace Go.Proofs.Ytejpgifofkiofaa
open Go.RowKit

theorem ints_cells {F : Nat → Prop} {w : World} {a : Option Addr} {n c : Nat} {l : List Int} (h : IsSl rpInt F w (.slice a n c) l) : n = l.length ∧ (l.length ≤ maxLen ∧ l.length ≤ c) ∧ ∃ (bl off : Nat),
    (0 < l.length → a = some ⟨bl, off, none⟩ ∧ F bl) ∧ ∀ j (hj : j < l.length), w.cell? ⟨bl, off + j, none⟩ = some (.int .i64 l[j]) := by
  obtain ⟨a', c', bl, off, Y, hv, hm, ha, h1, h2⟩ := h
  cases hv
  refine ⟨rfl, hm, bl, off, ha, fun j hj => ?_⟩
  have hy : Y j = [.int .i64 l[j]] := h2 j hj
  have := h1 j 0 _ hj (by rw [hy]; rfl)
  simpa [rpInt] using this

set_option maxRecDepth 100000 in
set_option maxHeartbeats 800000 in
theorem Like_r {F F' : Nat → Prop} {w : World} {a a' : Option Addr} {n n' c c' : Nat} {l l' : List Int} (h : IsSl rpInt F w (.slice a n c) l) (h' : IsSl rpInt F' w (.slice a' n' c') l') :
    Calls Try.prog 78 #[.slice a n c, .slice a' n' c'] w (fun e w' => e = .returned (.bool (decide (l = l'))) ∧ Below w.heap.size w w') := by
  obtain ⟨rfl, hm, bl, off, ha, h1⟩ := ints_cells h
  obtain ⟨rfl, hm', bl', off', ha', h1'⟩ := ints_cells h'
  clear h h'
  go_enter Try.func78, Try.ntmps78
  go_wp2_with fail
  · rename_i hx
    have hlen : ¬ l.length = l'.length := by simp at hx; omega
    go_ret
    refine ⟨?_, Below.refl _ _⟩
    rw [decide_eq_false (fun h => hlen (by rw [h]))]
    rfl
  · have hlen : l.length = l'.length := Decidable.byContradiction fun h => by
      have h2 : ((l.length : Int) != (l'.length : Int)) = true := by simp; omega
      simp_all
    obtain ⟨N, hN⟩ : ∃ N, l.length = N := ⟨_, rfl⟩
    have hN' : l'.length = N := by omega
    rw [hN, hN']
    have hmm : (N : Int) ≤ 9223372036854775807 := by unfold maxLen at hm; omega
    go_loopw [5] (fun ii wr => ∃ (j : Nat), ii = .int .i64 j ∧ l.take j = l'.take j ∧ j ≤ N ∧ Below w.heap.size w wr) (fun ii _ => N - (intOf ii).toNat)
    case atStart => exact ⟨0, rfl, rfl, by omega, Below.refl _ _⟩
    case round =>
      obtain ⟨j, rfl, hn, hj, hbr⟩ := hrel
      have hj0 : (0 : Int) ≤ (j : Int) := Int.natCast_nonneg _
      by_cases hlt : j < N
      · have hj1 : (j : Int) < (N : Int) := by omega
        obtain ⟨rfl, hF⟩ := ha (by omega)
        obtain ⟨rfl, hF'⟩ := ha' (by omega)
        have e1 := h1 j (by omega)
        have e2 := h1' j (by omega)
        have e1 := ((Keep.refl (fun _ => True) _).below hbr) _ _ _ trivial e1
        have e2 := ((Keep.refl (fun _ => True) _).below hbr) _ _ _ trivial e2
        have hp := Lib.hid (And.intro (List.take_succ_eq_append_getElem (l := l) (i := j) (by omega)) (List.take_succ_eq_append_getElem (l := l') (i := j) (by omega)))
        have hg : Hid (l = l' → l[j]'(by omega) = l'[j]'(by omega)) := Lib.hid (fun h => by subst h; rfl)
        obtain ⟨x, hx⟩ : ∃ x, l[j]'(by omega) = x := ⟨_, rfl⟩
        obtain ⟨y, hy⟩ : ∃ y, l'[j]'(by omega) = y := ⟨_, rfl⟩
        rw [hx] at e1 hp hg
        rw [hy] at e2 hp hg
        clear hx hy
        go_wp2_with fail
        refine wp_region_noPanic (wp_region_need (S := fun w' => w'.cell? ⟨bl, off + j, none⟩ = some (.int .i64 x) ∧ w'.cell? ⟨bl', off' + j, none⟩ = some (.int .i64 y)) (by kernel_rfl) ?_)
        have hS : (wr.drew).cell? ⟨bl, off + j, none⟩ = some (.int .i64 x) ∧ (wr.drew).cell? ⟨bl', off' + j, none⟩ = some (.int .i64 y) := ⟨e1, e2⟩
        refine wpN_take (i := 0) (v := ?v1) rfl (by kernel_rfl) (fun _ _ _ h => h) hS (Or.inl ⟨by rfl, ?hy1⟩) ?hr1
        case hy1 => (intro wS hSw; (try dsimp only at hSw); go_simp; (try with_reducible rfl))
        try simp only [Act.put, List.setIfInBounds_toArray, List.set_cons_zero, List.set_cons_succ, List.getElem_toArray, List.getElem_cons_zero, List.getElem_cons_succ]
        refine wpN_take (i := 1) (v := ?v2) rfl (by kernel_rfl) (fun _ _ _ h => h) hS (Or.inl ⟨by rfl, ?hy2⟩) ?hr2
        case hy2 => (intro wS hSw; (try dsimp only at hSw); go_simp; (try with_reducible rfl))
        try simp only [Act.put, List.setIfInBounds_toArray, List.set_cons_zero, List.set_cons_succ, List.getElem_toArray, List.getElem_cons_zero, List.getElem_cons_succ]
        refine wpN_take (i := 2) (v := ?v3) rfl (by kernel_rfl) (fun _ _ _ h => h) hS (Or.inl ⟨by rfl, ?hy3⟩) ?hr3
        case hy3 => (intro wS hSw; (try dsimp only at hSw); go_simp; (try with_reducible rfl))
        try simp only [Act.put, List.setIfInBounds_toArray, List.set_cons_zero, List.set_cons_succ, List.getElem_toArray, List.getElem_cons_zero, List.getElem_cons_succ]
        refine wpN_take (i := 3) (v := ?v4) rfl (by kernel_rfl) (fun _ _ _ h => h) hS (Or.inl ⟨by rfl, ?hy4⟩) ?hr4
        case hy4 => (intro wS hSw; (try dsimp only at hSw); go_simp; (try with_reducible rfl))
        try simp only [Act.put, List.setIfInBounds_toArray, List.set_cons_zero, List.set_cons_succ, List.getElem_toArray, List.getElem_cons_zero, List.getElem_cons_succ]
        refine wpN_take (i := 4) (v := ?v5) rfl (by kernel_rfl) (fun _ _ _ h => h) hS (Or.inl ⟨by rfl, ?hy5⟩) ?hr5
        case hy5 => (intro wS hSw; (try dsimp only at hSw); go_simp; (try with_reducible rfl))
        try simp only [Act.put, List.setIfInBounds_toArray, List.set_cons_zero, List.set_cons_succ, List.getElem_toArray, List.getElem_cons_zero, List.getElem_cons_succ]
        refine wpN_take (i := 5) (v := ?v6) rfl (by kernel_rfl) (fun _ _ _ h => h) hS (Or.inl ⟨by rfl, ?hy6⟩) ?hr6
        case hy6 => (intro wS hSw; (try dsimp only at hSw); go_simp; (try with_reducible rfl))
        try simp only [Act.put, List.setIfInBounds_toArray, List.set_cons_zero, List.set_cons_succ, List.getElem_toArray, List.getElem_cons_zero, List.getElem_cons_succ]
        refine wpN_take (i := 6) (v := ?v7) rfl (by kernel_rfl) (fun _ _ _ h => h) hS (Or.inl ⟨by rfl, ?hy7⟩) ?hr7
        case hy7 => (intro wS hSw; (try dsimp only at hSw); go_simp; (try with_reducible rfl))
        try simp only [Act.put, List.setIfInBounds_toArray, List.set_cons_zero, List.set_cons_succ, List.getElem_toArray, List.getElem_cons_zero, List.getElem_cons_succ]
        refine wpN_take (i := 7) (v := ?v8) rfl (by kernel_rfl) (fun _ _ _ h => h) hS (Or.inl ⟨by rfl, ?hy8⟩) ?hr8
        case hy8 => (intro wS hSw; (try dsimp only at hSw); go_simp; (try with_reducible rfl))
        try simp only [Act.put, List.setIfInBounds_toArray, List.set_cons_zero, List.set_cons_succ, List.getElem_toArray, List.getElem_cons_zero, List.getElem_cons_succ]
        by_cases hc : x = y
        · subst hc
          refine wpN_take (i := 8) (v := ?v9) rfl (by kernel_rfl) (fun _ _ _ h => h) hS (Or.inl ⟨by rfl, ?hy9⟩) ?hr9
          case hy9 => (intro wS hSw; (try dsimp only at hSw); go_simp; (try with_reducible rfl))
          try simp only [Act.put, List.setIfInBounds_toArray, List.set_cons_zero, List.set_cons_succ, List.getElem_toArray, List.getElem_cons_zero, List.getElem_cons_succ]
          refine wpN_done (by kernel_rfl) ?_
          refine NoPanic.normal ?_
          go_wp2_with fail
          go_roundw
          case rel => exact ⟨j + 1, by go_num, by rw [hp.out.1, hp.out.2, hn], by omega, below_drewN hbr _⟩
          case measure => simp [intOf]; omega
        · skip
          refine wpN_take (i := 8) (v := ?v10) rfl (by kernel_rfl) (fun _ _ _ h => h) hS (Or.inl ⟨by rfl, ?hy10⟩) ?hr10
          case hy10 => (intro wS hSw; (try dsimp only at hSw); go_simp; (try with_reducible rfl))
          try simp only [Act.put, List.setIfInBounds_toArray, List.set_cons_zero, List.set_cons_succ, List.getElem_toArray, List.getElem_cons_zero, List.getElem_cons_succ]
          refine wpN_done (by kernel_rfl) ?_
          refine NoPanic.normal ?_
          go_wp2_with fail
          go_ret
          refine ⟨?_, below_drewN hbr _⟩
          rw [decide_eq_false (fun h => hc (hg.out h))]
          rfl
      · go_wp2_with fail
        go_ret
        refine ⟨?_, hbr⟩
        have hjn : j = N := by omega
        subst hjn
        rw [List.take_of_length_le (by omega), List.take_of_length_le (by omega)] at hn
        rw [decide_eq_true hn]
        rfl
end Go.Proofs.Ytejpgifofkiofaa

