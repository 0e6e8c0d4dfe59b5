/-
  The document's Depth, Right, Check; term.Check.
-/
import Derived.Test.YtejpgifofkiofaaRowParts6p27
import Derived.Test.YtejpgifofkiofaaRowParts6p30
import Derived.Test.YtejpgifofkiofaaRowParts6p31
import Derived.Test.YtejpgifofkiofaaRowParts6p21
set_option linter.unusedVariables false
set_option linter.unusedSimpArgs false
namespace Go.Proofs.Ytejpgifofkiofaa
open Go.RowKit

set_option maxRecDepth 100000 in
theorem depth6_r : ∀ t : Tm, ∀ {F : Nat → Prop} {w0 : World} {b k i a : Value} (_ : IsTm F w0 b k i a t) (w : World), t.size ≤ 1000000 → Keep F w0 w → Calls Try.prog 77 #[.agg #[b, k, i, a]] w (RetI t.depth w) := Tm.ind fun binds k0 i0 args ih => by
  intro F w0 b k i a ht w hsz hw
  obtain ⟨pa, pc, qa, qc, rfl, rfl, rfl, rfl⟩ := ht.shape
  simp only [Tm.binds, Tm.kind, Tm.index, Tm.args] at ht ⊢
  obtain ⟨_, _, _, hsl⟩ := ht.inv
  simp only [Tm.args] at hsl
  obtain ⟨_, hm, bl, off, PA, A, PN, PC, N', C, Kd, Ix, ha, h1, h2, h3, h4, h5⟩ := sl_cells6 hsl
  clear ht hsl hm
  have hlen : args.length ≤ 1000000 := by have := Tm.len_sizes args; rw [Tm.size_eq] at hsz; omega
  have Hsz : Hid (∀ i (h : i < args.length), args[i].size ≤ 1000000 ∧ args[i].depth ≤ 1000000 ∧ Tm.depths (args.take i) ≤ 1000000) := fun i h => by
    have := Tm.size_mem (List.getElem_mem h); rw [Tm.size_eq] at hsz
    have := Tm.depth_le_size args[i]
    have := Tm.depths_take_le args i
    have := Tm.depth_le_size (.mk binds k0 i0 args)
    rw [Tm.depth_eq, Tm.size_eq] at this
    omega
  have Hend : Hid ((Tm.mk binds k0 i0 args).depth = Tm.depths args + 1) := Tm.depth_eq _ _ _ _
  have Hend2 : Hid (Tm.depths args ≤ 1000000) := by show _ ≤ _; have := Tm.depth_le_size (.mk binds k0 i0 args); rw [Tm.depth_eq] at this; omega
  have Hih := Lib.hid ih; clear ih hsz
  go_enter Try.func77, Try.ntmps77
  go_wp2_with fail
  go_loopw [3, 4, 5] (fun x i _ wr => ∃ k : Nat, i = .int .i64 k ∧ x = .int .i64 (Tm.depths (args.take k) : Int) ∧ k ≤ args.length ∧ Below w.heap.size w wr ∧ Blk wr w.heap.size #[.slice pa binds.length pc, .int .i64 k0, .int .i64 i0, .slice qa args.length qc] 29) (fun _ i _ _ => args.length - (intOf i).toNat)
  case atStart => exact ⟨0, rfl, rfl, by omega, (Below.refl _ _).alloc (Nat.le_refl _) _, Blk.new _ _ _ rfl⟩
  case round =>
    obtain ⟨k, rfl, rfl, hk, hb, hbox⟩ := hrel
    have c0 : wr.cell? ⟨w.heap.size, 3, none⟩ = some (.slice qa args.length qc) := hbox.cell rfl
    have hlt0 := hbox.lt
    by_cases hlt : k < args.length
    · obtain ⟨rfl, hF⟩ := ha (by omega)
      have e1 := (hw.below hb) _ _ _ hF (h1 k hlt)
      have e2 := (hw.below hb) _ _ _ hF (h2 k hlt)
      have e3 := (hw.below hb) _ _ _ hF (h3 k hlt)
      have e4 := (hw.below hb) _ _ _ hF (h4 k hlt)
      have Ht := Lib.hid (Tm.depths_take args k hlt)
      go_wp2_with fail
      refine (Hih.out _ (List.getElem_mem hlt) (h5 k hlt) _ (Hsz.out k hlt).1 (hw.below hb)).mono ?_
      rintro e w1 ⟨rfl, hb1⟩
      by_cases hg : (args[k].depth : Int) > (Tm.depths (args.take k) : Int)
      · go_wp2_with fail
        go_roundw
        case rel => exact ⟨k + 1, by go_num, by rw [Ht.out, Nat.max_eq_right (by omega)], by omega, hb.trans (hb1.mono (by omega)), hbox.below hb1⟩
        case measure => simp [intOf]; omega
      · go_wp2_with fail
        go_roundw
        case rel => exact ⟨k + 1, by go_num, by rw [Ht.out, Nat.max_eq_left (by omega)], by omega, hb.trans (hb1.mono (by omega)), hbox.below hb1⟩
        case measure => simp [intOf]; omega
    · have Hd : Hid (Tm.depths (args.take k) = Tm.depths args) := by show _ = _; rw [List.take_of_length_le (by omega)]
      have hd2 : (Tm.depths (args.take k) : Int) ≤ 1000000 := by have := Hd.out; have := Hend2.out; omega
      go_wp2_with fail
      go_ret
      refine ⟨?_, hb⟩
      rw [Hend.out, ← Hd.out]; rfl

set_option maxRecDepth 100000 in
theorem Right_r {F : Nat → Prop} {w : World} {b k i a : Value} {t : Tm} (ht : IsTm F w b k i a t) (hz : t.size ≤ 1000000) : Calls Try.prog 74 #[.agg #[b, k, i, a]] w (RetB (t.size ≤ 5000 ∧ t.depth ≤ 60) w) := by
  have Hs := Lib.hid fun (w' : World) (hb : Below w.heap.size w w') => size6_r t ht w' hz ((Keep.refl _ _).below hb)
  have Hd := Lib.hid fun (w' : World) (hb : Below w.heap.size w w') => depth6_r t ht w' hz ((Keep.refl _ _).below hb)
  obtain ⟨t_pa, t_pc, t_qa, t_qc, rfl, rfl, rfl, rfl⟩ := ht.shape
  obtain ⟨t_n, ht_n⟩ : ∃ x, t.binds.length = x := ⟨_, rfl⟩
  obtain ⟨t_m, ht_m⟩ : ∃ x, t.args.length = x := ⟨_, rfl⟩
  obtain ⟨t_k, ht_k⟩ : ∃ x, t.kind = x := ⟨_, rfl⟩
  obtain ⟨t_i, ht_i⟩ : ∃ x, t.index = x := ⟨_, rfl⟩
  rw [ht_n, ht_m, ht_k, ht_i] at ht ⊢
  have Et_n := Lib.hid ht_n
  have Et_m := Lib.hid ht_m
  have Et_k := Lib.hid ht_k
  have Et_i := Lib.hid ht_i
  clear ht_n ht_m ht_k ht_i
  clear ht
  obtain ⟨z, hzz⟩ : ∃ z, t.size = z := ⟨_, rfl⟩
  obtain ⟨d, hdd⟩ : ∃ d, t.depth = d := ⟨_, rfl⟩
  rw [hzz] at Hs ⊢
  rw [hdd] at Hd ⊢
  rw [Et_n.out, Et_m.out, Et_k.out, Et_i.out] at Hs Hd
  clear hzz hdd hz
  go_enter Try.func74, Try.ntmps74
  go_wp2_with fail
  have hb1 : Below w.heap.size w (w.alloc (.cells #[.slice t_pa t_n t_pc, .int .i64 t_k, .int .i64 t_i, .slice t_qa t_m t_qc] 29)) := (Below.refl _ _).alloc (Nat.le_refl _) _
  have x1 : Blk (w.alloc (.cells #[.slice t_pa t_n t_pc, .int .i64 t_k, .int .i64 t_i, .slice t_qa t_m t_qc] 29)) w.heap.size #[.slice t_pa t_n t_pc, .int .i64 t_k, .int .i64 t_i, .slice t_qa t_m t_qc] 29 := Blk.new _ _ _ rfl
  refine (Hs.out _ hb1).mono ?_
  rintro e w1 ⟨rfl, hb2⟩
  have B1 := hb1.trans (hb2.mono hb1.size)
  have x2 := x1.below hb2
  clear hb1 hb2 x1
  by_cases h : z ≤ 5000
  · have h' : (z : Int) ≤ 5000 := by omega
    have c0 : w1.cell? ⟨w.heap.size, 0, none⟩ = some (.slice t_pa t_n t_pc) := x2.cell rfl
    have c1 : w1.cell? ⟨w.heap.size, 1, none⟩ = some (.int .i64 t_k) := x2.cell rfl
    have c2 : w1.cell? ⟨w.heap.size, 2, none⟩ = some (.int .i64 t_i) := x2.cell rfl
    have c3 : w1.cell? ⟨w.heap.size, 3, none⟩ = some (.slice t_qa t_m t_qc) := x2.cell rfl
    have l0 := x2.lt
    go_wp2_with fail
    refine (Hd.out _ B1).mono ?_
    rintro e w2 ⟨rfl, hb3⟩
    go_wp2_with fail
    go_ret
    exact ⟨_, by simp; omega, rfl, B1.trans (hb3.mono B1.size)⟩
  · have h' : ¬ (z : Int) ≤ 5000 := by omega
    have h2 : decide ((z : Int) ≤ 5000) = false := by simpa using h'
    go_wp2_with fail
    go_ret
    exact ⟨_, by simp; omega, rfl, B1⟩

def checkCode (C M : List Ty) (t : Tm) (X : List Ty) (u : Ty) (c : Int) : Prop := (¬ (t.size ≤ 5000 ∧ t.depth ≤ 60) ∧ c = 2) ∨ ((t.size ≤ 5000 ∧ t.depth ≤ 60) ∧ ¬ IsOf C M t X u ∧ c = 5) ∨ ((t.size ≤ 5000 ∧ t.depth ≤ 60) ∧ IsOf C M t X u ∧ c = 0)
theorem checkCode_uniq {C M : List Ty} {t : Tm} {X : List Ty} {u : Ty} {c c' : Int} (h : checkCode C M t X u c) (h' : checkCode C M t X u c') : c = c' := by
  unfold checkCode at h h'
  rcases h with ⟨h1, h2⟩ | ⟨h1, h2, h3⟩ | ⟨h1, h2, h3⟩ <;> rcases h' with ⟨g1, g2⟩ | ⟨g1, g2, g3⟩ | ⟨g1, g2, g3⟩ <;> first | omega | exact absurd h1 g1 | exact absurd g1 h1 | exact absurd h2 g2 | exact absurd g2 h2
theorem checkCode_range {C M : List Ty} {t : Tm} {X : List Ty} {u : Ty} {c : Int} (h : checkCode C M t X u c) : 0 ≤ c ∧ c ≤ 5 := by
  unfold checkCode at h; omega
def RetCheck (C M : List Ty) (t : Tm) (X : List Ty) (u : Ty) (w : World) (e : Ending) (w' : World) : Prop := ∃ c : Int, Hid (checkCode C M t X u c) ∧ e = .returned (.int .i64 c) ∧ Below w.heap.size w w'

set_option maxRecDepth 100000 in
set_option maxHeartbeats 4000000 in
theorem Check_k {F : Nat → Prop} {b : Int} {C M : List Ty} (t : Tm) (w : World) (cv mv xv tb tk ti ta s ub : Value) (X : List Ty) (u : Ty) (hF : ∀ q, F q → q < w.heap.size) (hc : IsSl rpTy F w cv C) (hm : IsSl rpTy F w mv M) (hx : IsSl2 rpTy (fun _ => True) F w xv X) (ht : IsTm F w tb tk ti ta t) (hu : IsTy F w s ub u)
    (hz : X.length + t.full ≤ 90000) (hfit : t.Fit) :
    Calls Try.prog 63 #[.agg #[.int .i64 b, cv, mv], xv, .agg #[tb, tk, ti, ta], .agg #[s, ub]] w (RetCheck C M t X u w) := by
  have Hi := Lib.hid fun (w' : World) (hb : Below w.heap.size w w') => is_k (b := b) t w' cv mv xv tb tk ti ta s ub X u (fun q hq => Nat.lt_of_lt_of_le (hF q hq) hb.size) (hc.bel hb) (hm.bel hb) (hx.bel hb) (ht.bel hb) (hu.bel hb) hz hfit
  have Hrt := Lib.hid fun (w' : World) (hb : Below w.heap.size w w') => right6_k (ht.bel hb) (by omega)
  obtain ⟨ca, cc, rfl⟩ := hc.shape
  obtain ⟨ma, mc, rfl⟩ := hm.shape
  obtain ⟨xa, xc, rfl⟩ := hx.shape
  obtain ⟨ua, uc, rfl, rfl⟩ := hu.shape
  obtain ⟨t_pa, t_pc, t_qa, t_qc, rfl, rfl, rfl, rfl⟩ := ht.shape
  obtain ⟨t_n, ht_n⟩ : ∃ x, t.binds.length = x := ⟨_, rfl⟩
  obtain ⟨t_m, ht_m⟩ : ∃ x, t.args.length = x := ⟨_, rfl⟩
  obtain ⟨t_k, ht_k⟩ : ∃ x, t.kind = x := ⟨_, rfl⟩
  obtain ⟨t_i, ht_i⟩ : ∃ x, t.index = x := ⟨_, rfl⟩
  rw [ht_n, ht_m, ht_k, ht_i] at ht ⊢
  have Et_n := Lib.hid ht_n
  have Et_m := Lib.hid ht_m
  have Et_k := Lib.hid ht_k
  have Et_i := Lib.hid ht_i
  clear ht_n ht_m ht_k ht_i
  obtain ⟨n1, hn1⟩ : ∃ n, u.args.length = n := ⟨_, rfl⟩
  obtain ⟨n2, hn2⟩ : ∃ n, u.base = n := ⟨_, rfl⟩
  rw [hn1, hn2] at Hi ⊢
  rw [Et_n.out, Et_m.out, Et_k.out, Et_i.out] at Hi Hrt
  clear hn1 hn2 hc hm hx ht hu hz hfit hF
  go_enter Try.func63, Try.ntmps63
  go_wp2_with fail
  obtain ⟨w3, hw3⟩ : ∃ w3, ((w.alloc (.cells #[.int .i64 b, .slice ca C.length cc, .slice ma M.length mc] 90)).alloc (.cells #[.slice t_pa t_n t_pc, .int .i64 t_k, .int .i64 t_i, .slice t_qa t_m t_qc] 37)).alloc (.cells #[.slice ua n1 uc, .int .i64 n2] 40) = w3 := ⟨_, rfl⟩
  have B_w3 : Below w.heap.size w w3 := by rw [← hw3]; exact (((Below.refl _ _).alloc (Nat.le_refl _) _).alloc (by simp) _).alloc (by simp; omega) _
  have x0_w3 : Blk w3 w.heap.size #[.int .i64 b, .slice ca C.length cc, .slice ma M.length mc] 90 := by rw [← hw3]; exact ((Blk.new _ _ _ rfl).alloc _).alloc _
  have x1_w3 : Blk w3 (w.heap.size + 1) #[.slice t_pa t_n t_pc, .int .i64 t_k, .int .i64 t_i, .slice t_qa t_m t_qc] 37 := by rw [← hw3]; exact (Blk.new _ _ _ (by simp)).alloc _
  have x2_w3 : Blk w3 (w.heap.size + 1 + 1) #[.slice ua n1 uc, .int .i64 n2] 40 := by rw [← hw3]; exact Blk.new _ _ _ (by simp)
  rw [hw3]
  clear hw3
  refine (Hrt.out w3 B_w3).mono ?_
  intro e w4 h
  obtain ⟨r, Hr, rfl, hbx0⟩ := of_retB' h
  clear h
  have hbx : Below w3.heap.size w3 w4 := hbx0
  clear hbx0
  have x0_w4 := x0_w3.below hbx
  have x1_w4 := x1_w3.below hbx
  have x2_w4 := x2_w3.below hbx
  have B_w4 := B_w3.trans (hbx.mono B_w3.size)
  clear x0_w3 x1_w3 x2_w3 B_w3 hbx
  cases r
  · go_wp2_with fail
    go_ret
    exact ⟨_, .inl ⟨no_of Hr.out, rfl⟩, rfl, B_w4⟩
  have hy := Lib.hid (yes_of Hr.out)
  clear Hr
  have cx00 : w4.cell? ⟨w.heap.size, 0, none⟩ = some (.int .i64 b) := x0_w4.cell rfl
  have cx01 : w4.cell? ⟨w.heap.size, 1, none⟩ = some (.slice ca C.length cc) := x0_w4.cell rfl
  have cx02 : w4.cell? ⟨w.heap.size, 2, none⟩ = some (.slice ma M.length mc) := x0_w4.cell rfl
  have lx0 := x0_w4.lt
  have cx10 : w4.cell? ⟨w.heap.size + 1, 0, none⟩ = some (.slice t_pa t_n t_pc) := x1_w4.cell rfl
  have cx11 : w4.cell? ⟨w.heap.size + 1, 1, none⟩ = some (.int .i64 t_k) := x1_w4.cell rfl
  have cx12 : w4.cell? ⟨w.heap.size + 1, 2, none⟩ = some (.int .i64 t_i) := x1_w4.cell rfl
  have cx13 : w4.cell? ⟨w.heap.size + 1, 3, none⟩ = some (.slice t_qa t_m t_qc) := x1_w4.cell rfl
  have lx1 := x1_w4.lt
  have cx20 : w4.cell? ⟨w.heap.size + 1 + 1, 0, none⟩ = some (.slice ua n1 uc) := x2_w4.cell rfl
  have cx21 : w4.cell? ⟨w.heap.size + 1 + 1, 1, none⟩ = some (.int .i64 n2) := x2_w4.cell rfl
  have lx2 := x2_w4.lt
  go_wp2_with fail
  refine (Hi.out w4 B_w4).mono ?_
  intro e w5 h
  obtain ⟨r2, Hr2, rfl, hbx0⟩ := of_retB' h
  clear h
  have hbx : Below w4.heap.size w4 w5 := hbx0
  clear hbx0
  clear cx00 cx01 cx02 lx0 cx10 cx11 cx12 cx13 lx1 cx20 cx21 lx2
  have x0_w5 := x0_w4.below hbx
  have x1_w5 := x1_w4.below hbx
  have x2_w5 := x2_w4.below hbx
  have B_w5 := B_w4.trans (hbx.mono B_w4.size)
  clear x0_w4 x1_w4 x2_w4 B_w4 hbx
  cases r2
  · go_wp2_with fail
    go_ret
    exact ⟨_, .inr (.inl ⟨hy.out, no_of Hr2.out, rfl⟩), rfl, B_w5⟩
  · have hy2 := Lib.hid (yes_of Hr2.out)
    clear Hr2
    go_wp2_with fail
    go_ret
    exact ⟨_, .inr (.inr ⟨hy.out, hy2.out, rfl⟩), rfl, B_w5⟩
set_option maxRecDepth 100000 in
set_option maxHeartbeats 4000000 in
theorem Check_r {F : Nat → Prop} {b : Int} {C M : List Ty} (t : Tm) (w : World) (cv mv xv tb tk ti ta s ub : Value) (X : List Ty) (u : Ty) (hF : ∀ q, F q → q < w.heap.size) (hc : IsSl rpTy F w cv C) (hm : IsSl rpTy F w mv M) (hx : IsSl2 rpTy (fun _ => True) F w xv X) (ht : IsTm F w tb tk ti ta t) (hu : IsTy F w s ub u)
    (hz : X.length + t.full ≤ 90000) (hfit : t.Fit) :
    Calls Try.prog 64 #[.agg #[.int .i64 b, cv, mv], xv, .agg #[tb, tk, ti, ta], .agg #[s, ub]] w (RetCheck C M t X u w) := by
  have Hi := Lib.hid fun (w' : World) (hb : Below w.heap.size w w') => is_r (b := b) t w' cv mv xv tb tk ti ta s ub X u (fun q hq => Nat.lt_of_lt_of_le (hF q hq) hb.size) (hc.bel hb) (hm.bel hb) (hx.bel hb) (ht.bel hb) (hu.bel hb) hz hfit
  have Hrt := Lib.hid fun (w' : World) (hb : Below w.heap.size w w') => Right_r (ht.bel hb) (by have := Tm.size_le_full t; omega)
  obtain ⟨ca, cc, rfl⟩ := hc.shape
  obtain ⟨ma, mc, rfl⟩ := hm.shape
  obtain ⟨xa, xc, rfl⟩ := hx.shape
  obtain ⟨ua, uc, rfl, rfl⟩ := hu.shape
  obtain ⟨t_pa, t_pc, t_qa, t_qc, rfl, rfl, rfl, rfl⟩ := ht.shape
  obtain ⟨t_n, ht_n⟩ : ∃ x, t.binds.length = x := ⟨_, rfl⟩
  obtain ⟨t_m, ht_m⟩ : ∃ x, t.args.length = x := ⟨_, rfl⟩
  obtain ⟨t_k, ht_k⟩ : ∃ x, t.kind = x := ⟨_, rfl⟩
  obtain ⟨t_i, ht_i⟩ : ∃ x, t.index = x := ⟨_, rfl⟩
  rw [ht_n, ht_m, ht_k, ht_i] at ht ⊢
  have Et_n := Lib.hid ht_n
  have Et_m := Lib.hid ht_m
  have Et_k := Lib.hid ht_k
  have Et_i := Lib.hid ht_i
  clear ht_n ht_m ht_k ht_i
  obtain ⟨n1, hn1⟩ : ∃ n, u.args.length = n := ⟨_, rfl⟩
  obtain ⟨n2, hn2⟩ : ∃ n, u.base = n := ⟨_, rfl⟩
  rw [hn1, hn2] at Hi ⊢
  rw [Et_n.out, Et_m.out, Et_k.out, Et_i.out] at Hi Hrt
  clear hn1 hn2 hc hm hx ht hu hz hfit hF
  go_enter Try.func64, Try.ntmps64
  go_wp2_with fail
  obtain ⟨w3, hw3⟩ : ∃ w3, ((w.alloc (.cells #[.int .i64 b, .slice ca C.length cc, .slice ma M.length mc] 87)).alloc (.cells #[.slice t_pa t_n t_pc, .int .i64 t_k, .int .i64 t_i, .slice t_qa t_m t_qc] 29)).alloc (.cells #[.slice ua n1 uc, .int .i64 n2] 26) = w3 := ⟨_, rfl⟩
  have B_w3 : Below w.heap.size w w3 := by rw [← hw3]; exact (((Below.refl _ _).alloc (Nat.le_refl _) _).alloc (by simp) _).alloc (by simp; omega) _
  have x0_w3 : Blk w3 w.heap.size #[.int .i64 b, .slice ca C.length cc, .slice ma M.length mc] 87 := by rw [← hw3]; exact ((Blk.new _ _ _ rfl).alloc _).alloc _
  have x1_w3 : Blk w3 (w.heap.size + 1) #[.slice t_pa t_n t_pc, .int .i64 t_k, .int .i64 t_i, .slice t_qa t_m t_qc] 29 := by rw [← hw3]; exact (Blk.new _ _ _ (by simp)).alloc _
  have x2_w3 : Blk w3 (w.heap.size + 1 + 1) #[.slice ua n1 uc, .int .i64 n2] 26 := by rw [← hw3]; exact Blk.new _ _ _ (by simp)
  rw [hw3]
  clear hw3
  refine (Hrt.out w3 B_w3).mono ?_
  intro e w4 h
  obtain ⟨r, Hr, rfl, hbx0⟩ := of_retB' h
  clear h
  have hbx : Below w3.heap.size w3 w4 := hbx0
  clear hbx0
  have x0_w4 := x0_w3.below hbx
  have x1_w4 := x1_w3.below hbx
  have x2_w4 := x2_w3.below hbx
  have B_w4 := B_w3.trans (hbx.mono B_w3.size)
  clear x0_w3 x1_w3 x2_w3 B_w3 hbx
  cases r
  · go_wp2_with fail
    go_ret
    exact ⟨_, .inl ⟨no_of Hr.out, rfl⟩, rfl, B_w4⟩
  have hy := Lib.hid (yes_of Hr.out)
  clear Hr
  have cx00 : w4.cell? ⟨w.heap.size, 0, none⟩ = some (.int .i64 b) := x0_w4.cell rfl
  have cx01 : w4.cell? ⟨w.heap.size, 1, none⟩ = some (.slice ca C.length cc) := x0_w4.cell rfl
  have cx02 : w4.cell? ⟨w.heap.size, 2, none⟩ = some (.slice ma M.length mc) := x0_w4.cell rfl
  have lx0 := x0_w4.lt
  have cx10 : w4.cell? ⟨w.heap.size + 1, 0, none⟩ = some (.slice t_pa t_n t_pc) := x1_w4.cell rfl
  have cx11 : w4.cell? ⟨w.heap.size + 1, 1, none⟩ = some (.int .i64 t_k) := x1_w4.cell rfl
  have cx12 : w4.cell? ⟨w.heap.size + 1, 2, none⟩ = some (.int .i64 t_i) := x1_w4.cell rfl
  have cx13 : w4.cell? ⟨w.heap.size + 1, 3, none⟩ = some (.slice t_qa t_m t_qc) := x1_w4.cell rfl
  have lx1 := x1_w4.lt
  have cx20 : w4.cell? ⟨w.heap.size + 1 + 1, 0, none⟩ = some (.slice ua n1 uc) := x2_w4.cell rfl
  have cx21 : w4.cell? ⟨w.heap.size + 1 + 1, 1, none⟩ = some (.int .i64 n2) := x2_w4.cell rfl
  have lx2 := x2_w4.lt
  go_wp2_with fail
  refine (Hi.out w4 B_w4).mono ?_
  intro e w5 h
  obtain ⟨r2, Hr2, rfl, hbx0⟩ := of_retB' h
  clear h
  have hbx : Below w4.heap.size w4 w5 := hbx0
  clear hbx0
  clear cx00 cx01 cx02 lx0 cx10 cx11 cx12 cx13 lx1 cx20 cx21 lx2
  have x0_w5 := x0_w4.below hbx
  have x1_w5 := x1_w4.below hbx
  have x2_w5 := x2_w4.below hbx
  have B_w5 := B_w4.trans (hbx.mono B_w4.size)
  clear x0_w4 x1_w4 x2_w4 B_w4 hbx
  cases r2
  · go_wp2_with fail
    go_ret
    exact ⟨_, .inr (.inl ⟨hy.out, no_of Hr2.out, rfl⟩), rfl, B_w5⟩
  · have hy2 := Lib.hid (yes_of Hr2.out)
    clear Hr2
    go_wp2_with fail
    go_ret
    exact ⟨_, .inr (.inr ⟨hy.out, hy2.out, rfl⟩), rfl, B_w5⟩
end Go.Proofs.Ytejpgifofkiofaa

