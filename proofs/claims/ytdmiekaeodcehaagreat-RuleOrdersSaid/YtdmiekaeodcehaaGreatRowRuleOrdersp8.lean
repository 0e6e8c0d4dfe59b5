/-
  The type of a head: the program's and the document's. The type of a head: the document's. Whether a term is of a type: the plain law. A context with more binders: the program's and the document's. term.is: whether a term is of a type. The document's Is: whether a term is of a type. The document's Depth, Right, Check; term.Check. The document's answer of layer 22: lifted, Over, Closed. What the members of a gathering yield: a list of standard shapes. term.HeadType, term.TypeOf. The document's TypeOf. Whether a world may be: the program's RightWorld and the document's. The laws' worlds: World, Small; the document's RightWorld. The contracts of heads and types once more, where all of memory may be read. Checks of substitutions: what is called, as deep contracts. What rule.Typed and the document's Typed call, as deep contracts. Typed and Check: rule's and the document's. Check: rule's and the document's. The known answer of the laws of layer 17. kind.Compare.
-/
import Derived.Test.YtdmiekaeodcehaaGreatRowRuleOrdersp1
import Derived.Deep.QuietTactic
import Derived.BigQuiet
import Derived.WalkSmall
import Derived.Test.YtdmiekaeodcehaaGreatRowRuleOrdersp7
import Derived.Test.YtdmiekaeodcehaaGreatRowRuleOrdersp5
import Derived.Test.YtdmiekaeodcehaaGreatRowRuleOrdersp4
import Derived.Test.YtdmiekaeodcehaaGreatRowRuleOrdersp6
set_option maxRecDepth 100000
set_option maxHeartbeats 1000000
set_option linter.unusedVariables false
set_option linter.unusedSimpArgs false
namespace Go.Proofs.YtdmiekaeodcehaaGreat
open Go.RowKit

def headTy (C M X : List Ty) (k i : Int) : Option Ty :=
  if i < 0 then none else if k = 0 then X.reverse[i.toNat]? else if k = 1 then C[i.toNat]? else if k = 2 then M[i.toNat]? else none
theorem headTy_neg {C M X : List Ty} {k i : Int} (h : i < 0) : headTy C M X k i = none := by rw [headTy, if_pos h]
theorem headTy_0 {C M X : List Ty} (i : Nat) : headTy C M X 0 i = X.reverse[i]? := by rw [headTy, if_neg (by omega), if_pos rfl]; rfl
theorem headTy_1 {C M X : List Ty} (i : Nat) : headTy C M X 1 i = C[i]? := by rw [headTy, if_neg (by omega), if_neg (by decide), if_pos rfl]; rfl
theorem headTy_2 {C M X : List Ty} (i : Nat) : headTy C M X 2 i = M[i]? := by rw [headTy, if_neg (by omega), if_neg (by decide), if_neg (by decide), if_pos rfl]; rfl
theorem headTy_o {C M X : List Ty} {k i : Int} (h0 : k ≠ 0) (h1 : k ≠ 1) (h2 : k ≠ 2) : headTy C M X k i = none := by
  rw [headTy, if_neg h0, if_neg h1, if_neg h2]; split <;> rfl

def tyZ : Ty := .mk [] 0
theorem isTy_zero (F : Nat → Prop) (w : World) : IsTy F w (.slice none 0 0) (.int .i64 0) tyZ := isTy_mk (isSl_nil rpTy F w) 0
def HeadPost (F : Nat → Prop) (o : Option Ty) (w : World) (e : Ending) (w' : World) : Prop := ∃ s b, e = .returned (.tuple #[.agg #[s, b], .bool o.isSome]) ∧ IsTy F w' s b (o.getD tyZ) ∧ Below w.heap.size w w'

theorem sl_at {G F : Nat → Prop} {w : World} {a : Option Addr} {n c : Nat} {l : List Ty} (h : IsSl2 rpTy G F w (.slice a n c) l) (j : Nat) (hj : j < l.length) : ∃ bl off A N C B, a = some ⟨bl, off, none⟩ ∧ G bl ∧
    w.cell? ⟨bl, off + j * 2, none⟩ = some (.slice A N C) ∧ w.cell? ⟨bl, off + j * 2 + 1, none⟩ = some (.int .i64 B) ∧ IsTy F w (.slice A N C) (.int .i64 B) l[j] := by
  obtain ⟨a', c', bl, off, X, hv, _, ha, h1, h2⟩ := h
  cases hv
  obtain ⟨ha, hG⟩ := ha (by omega)
  obtain ⟨s, b, hx, ht⟩ := h2 j hj
  obtain ⟨sa, sc, rfl, rfl⟩ := ht.shape
  exact ⟨bl, off, _, _, _, _, ha, hG, h1 j 0 _ hj (by rw [hx]; rfl), h1 j 1 _ hj (by rw [hx]; rfl), ht⟩

theorem head_end0 {F : Nat → Prop} {w w3 : World} {o : Option Ty} (B3 : Below w.heap.size w w3) (ho : o = none) :
    HeadPost F o w (.returned (.tuple #[.agg #[.slice none 0 0, .int .i64 0], .bool false])) w3 := by
  subst ho
  exact ⟨_, _, rfl, isTy_zero _ _, B3⟩
theorem head_end {F : Nat → Prop} {w w3 : World} {A B : Value} {t : Ty} {o : Option Ty} {p : Nat} (hF : ∀ q, F q → q < w.heap.size) (hp : w.heap.size ≤ p) (B3 : Below w.heap.size w w3) (ht : IsTy F w A B t) (ho : o.getD tyZ = t) (b : Bool) (hb : b = o.isSome) :
    HeadPost F o w (.returned (.tuple #[.agg #[A, B], .bool b])) ((w3.setCell ⟨p, 0, none⟩ A).setCell ⟨p, 1, none⟩ B) := by
  subst hb ho
  have hn : ¬ F p := fun h => by have := hF p h; omega
  exact ⟨_, _, rfl, ht.keep ((((Keep.refl _ _).below B3).setCell _ _ hn).setCell _ _ hn), (B3.setCell (by simp; omega) _).setCell (by simp; omega) _⟩

set_option maxRecDepth 100000 in
set_option maxHeartbeats 4000000 in
theorem headType_k {F : Nat → Prop} {w : World} {b : Int} {cv mv xv : Value} {C M X : List Ty} (hF : ∀ q, F q → q < w.heap.size) (hc : IsSl rpTy F w cv C) (hm : IsSl rpTy F w mv M) (hx : IsSl2 rpTy (fun _ => True) F w xv X) (k i : Int) (hi : i ≤ 9223372036854775807) :
    Calls Tryz.prog 101 #[.agg #[.int .i64 b, cv, mv], xv, .agg #[.int .i64 k, .int .i64 i]] w (HeadPost F (headTy C M X k i) w) := by
  obtain ⟨ca, cc, rfl⟩ := hc.shape
  obtain ⟨ma, mc, rfl⟩ := hm.shape
  obtain ⟨xa, xc, rfl⟩ := hx.shape
  have Hxl : Hid ((X.length : Int) ≤ 9223372036854775807) := by obtain ⟨_, _, _, _, _, _, h, _⟩ := hx; unfold maxLen at h; show _ ≤ _; omega
  have Hc := Lib.hid (sl_at (IsSl2.of hc)); have Hm := Lib.hid (sl_at (IsSl2.of hm)); have Hx := Lib.hid (sl_at hx)
  have hF := Lib.hid hF
  clear hc hm hx
  obtain ⟨o, ho⟩ : ∃ o, headTy C M X k i = o := ⟨_, rfl⟩
  have Ho := Lib.hid ho
  rw [ho]
  clear ho
  by_cases k1 : k = 1
  · subst k1
    go_enter Tryz.func101, Tryz.ntmps101
    go_wp2_with fail
    obtain ⟨w3, hw3⟩ : ∃ w3, ((w.alloc (.cells #[.int .i64 b, .slice ca C.length cc, .slice ma M.length mc] 48)).alloc (.cells #[.int .i64 1, .int .i64 i] 33)).alloc (.cells #[.slice none 0 0, .int .i64 0] 75) = w3 := ⟨_, rfl⟩
    have B_w3 : Below w.heap.size w w3 := by rw [← hw3]; exact (((Below.refl _ _).alloc (Nat.le_refl _) _).alloc (by simp) _).alloc (by simp; omega) _
    have x0_w3 : Blk w3 w.heap.size #[.int .i64 b, .slice ca C.length cc, .slice ma M.length mc] 48 := by rw [← hw3]; exact ((Blk.new _ _ _ rfl).alloc _).alloc _
    have x1_w3 : Blk w3 (w.heap.size + 1) #[.int .i64 1, .int .i64 i] 33 := by rw [← hw3]; exact (Blk.new _ _ _ (by simp)).alloc _
    have x2_w3 : Blk w3 (w.heap.size + 1 + 1) #[.slice none 0 0, .int .i64 0] 75 := by rw [← hw3]; exact Blk.new _ _ _ (by simp)
    rw [hw3]
    clear hw3
    have cx00 : w3.cell? ⟨w.heap.size, 0, none⟩ = some (.int .i64 b) := x0_w3.cell rfl
    have cx01 : w3.cell? ⟨w.heap.size, 1, none⟩ = some (.slice ca C.length cc) := x0_w3.cell rfl
    have cx02 : w3.cell? ⟨w.heap.size, 2, none⟩ = some (.slice ma M.length mc) := x0_w3.cell rfl
    have lx0 := x0_w3.lt
    have cx10 : w3.cell? ⟨w.heap.size + 1, 0, none⟩ = some (.int .i64 1) := x1_w3.cell rfl
    have cx11 : w3.cell? ⟨w.heap.size + 1, 1, none⟩ = some (.int .i64 i) := x1_w3.cell rfl
    have lx1 := x1_w3.lt
    have cx20 : w3.cell? ⟨w.heap.size + 1 + 1, 0, none⟩ = some (.slice none 0 0) := x2_w3.cell rfl
    have cx21 : w3.cell? ⟨w.heap.size + 1 + 1, 1, none⟩ = some (.int .i64 0) := x2_w3.cell rfl
    have lx2 := x2_w3.lt
    go_quiet (fail)
    clear cx00 cx01 cx02 lx0 cx10 cx11 lx1 cx20 cx21 lx2
    obtain ⟨w5, hw5⟩ : ∃ x, w3.drewN nq = x := ⟨_, rfl⟩
    rw [hw5]
    have hbx : Below w3.heap.size w3 w5 := by rw [← hw5]; exact below_drewN (Below.refl _ _) _
    clear hw5
    have x0_w5 := x0_w3.below hbx
    have x1_w5 := x1_w3.below hbx
    have x2_w5 := x2_w3.below hbx
    have B_w5 := B_w3.trans (hbx.mono B_w3.size)
    clear x0_w3 x1_w3 x2_w3 B_w3 hbx
    have c0 : w5.cell? ⟨w.heap.size + 1 + 1, 0, none⟩ = some (.slice none 0 0) := x2_w5.cell rfl
    have c1 : w5.cell? ⟨w.heap.size + 1 + 1, 1, none⟩ = some (.int .i64 0) := x2_w5.cell rfl
    have f0 := x2_w5.free 0
    have f1 := x2_w5.free 1
    by_cases i0 : i < 0
    · go_wp2_with fail
      have z0_0 := ((x2_w5).set 0 (.slice none 0 0)).cell (i := 0) (v := .slice none 0 0) rfl
      have z0_1 := (((x2_w5).set 0 (.slice none 0 0)).set 1 (.int .i64 0)).cell (i := 0) (v := .slice none 0 0) rfl
      have z1_1 := (((x2_w5).set 0 (.slice none 0 0)).set 1 (.int .i64 0)).cell (i := 1) (v := .int .i64 0) rfl
      refine bodyPost_ret (v := .tuple #[.agg #[.slice none 0 0, .int .i64 0], .bool false]) (by simp [results, Tryz.results101, go_sem, z0_0, z0_1, z1_1]) rfl ?_
      clear z0_0 z0_1 z1_1
      exact head_end hF.out (by omega) B_w5 (isTy_zero _ _) (by rw [← Ho.out, headTy_neg i0]; rfl) _ (by rw [← Ho.out, headTy_neg i0]; rfl)
    obtain ⟨j, rfl⟩ : ∃ j : Nat, i = (j : Int) := ⟨i.toNat, by omega⟩
    by_cases i1 : j < C.length
    · skip
      obtain ⟨bl, off, A, N, Cc, Bb, rfl, _, e1, e2, hT⟩ := Hc.out j i1
      have e1 : w5.cell? ⟨bl, off + j * 2, none⟩ = some (.slice A N Cc) := ((Keep.refl (fun _ => True) _).below B_w5) _ _ _ trivial e1
      have e2 : w5.cell? ⟨bl, off + j * 2 + 1, none⟩ = some (.int .i64 Bb) := ((Keep.refl (fun _ => True) _).below B_w5) _ _ _ trivial e2
      have HT := Lib.hid hT; clear hT
      have l0 := Keep.lt e1
      go_wp2_with fail
      have z0_0 := ((x2_w5).set 0 (.slice A N Cc)).cell (i := 0) (v := .slice A N Cc) rfl
      have z0_1 := (((x2_w5).set 0 (.slice A N Cc)).set 1 (.int .i64 Bb)).cell (i := 0) (v := .slice A N Cc) rfl
      have z1_1 := (((x2_w5).set 0 (.slice A N Cc)).set 1 (.int .i64 Bb)).cell (i := 1) (v := .int .i64 Bb) rfl
      refine bodyPost_ret (v := .tuple #[.agg #[.slice A N Cc, .int .i64 Bb], .bool true]) (by simp [results, Tryz.results101, go_sem, z0_0, z0_1, z1_1]) rfl ?_
      clear z0_0 z0_1 z1_1
      exact head_end hF.out (by omega) B_w5 HT.out (by rw [← Ho.out, headTy_1, List.getElem?_eq_getElem i1]; rfl) _ (by rw [← Ho.out, headTy_1, List.getElem?_eq_getElem i1]; rfl)
    · go_wp2_with fail
      have z0_0 := ((x2_w5).set 0 (.slice none 0 0)).cell (i := 0) (v := .slice none 0 0) rfl
      have z0_1 := (((x2_w5).set 0 (.slice none 0 0)).set 1 (.int .i64 0)).cell (i := 0) (v := .slice none 0 0) rfl
      have z1_1 := (((x2_w5).set 0 (.slice none 0 0)).set 1 (.int .i64 0)).cell (i := 1) (v := .int .i64 0) rfl
      refine bodyPost_ret (v := .tuple #[.agg #[.slice none 0 0, .int .i64 0], .bool false]) (by simp [results, Tryz.results101, go_sem, z0_0, z0_1, z1_1]) rfl ?_
      clear z0_0 z0_1 z1_1
      exact head_end hF.out (by omega) B_w5 (isTy_zero _ _) (by rw [← Ho.out, headTy_1, List.getElem?_eq_none (by omega)]; rfl) _ (by rw [← Ho.out, headTy_1, List.getElem?_eq_none (by omega)]; rfl)
  by_cases k2 : k = 2
  · subst k2
    go_enter Tryz.func101, Tryz.ntmps101
    go_wp2_with fail
    obtain ⟨w3, hw3⟩ : ∃ w3, ((w.alloc (.cells #[.int .i64 b, .slice ca C.length cc, .slice ma M.length mc] 48)).alloc (.cells #[.int .i64 2, .int .i64 i] 33)).alloc (.cells #[.slice none 0 0, .int .i64 0] 75) = w3 := ⟨_, rfl⟩
    have B_w3 : Below w.heap.size w w3 := by rw [← hw3]; exact (((Below.refl _ _).alloc (Nat.le_refl _) _).alloc (by simp) _).alloc (by simp; omega) _
    have x0_w3 : Blk w3 w.heap.size #[.int .i64 b, .slice ca C.length cc, .slice ma M.length mc] 48 := by rw [← hw3]; exact ((Blk.new _ _ _ rfl).alloc _).alloc _
    have x1_w3 : Blk w3 (w.heap.size + 1) #[.int .i64 2, .int .i64 i] 33 := by rw [← hw3]; exact (Blk.new _ _ _ (by simp)).alloc _
    have x2_w3 : Blk w3 (w.heap.size + 1 + 1) #[.slice none 0 0, .int .i64 0] 75 := by rw [← hw3]; exact Blk.new _ _ _ (by simp)
    rw [hw3]
    clear hw3
    have cx00 : w3.cell? ⟨w.heap.size, 0, none⟩ = some (.int .i64 b) := x0_w3.cell rfl
    have cx01 : w3.cell? ⟨w.heap.size, 1, none⟩ = some (.slice ca C.length cc) := x0_w3.cell rfl
    have cx02 : w3.cell? ⟨w.heap.size, 2, none⟩ = some (.slice ma M.length mc) := x0_w3.cell rfl
    have lx0 := x0_w3.lt
    have cx10 : w3.cell? ⟨w.heap.size + 1, 0, none⟩ = some (.int .i64 2) := x1_w3.cell rfl
    have cx11 : w3.cell? ⟨w.heap.size + 1, 1, none⟩ = some (.int .i64 i) := x1_w3.cell rfl
    have lx1 := x1_w3.lt
    have cx20 : w3.cell? ⟨w.heap.size + 1 + 1, 0, none⟩ = some (.slice none 0 0) := x2_w3.cell rfl
    have cx21 : w3.cell? ⟨w.heap.size + 1 + 1, 1, none⟩ = some (.int .i64 0) := x2_w3.cell rfl
    have lx2 := x2_w3.lt
    go_quiet (fail)
    clear cx00 cx01 cx02 lx0 cx10 cx11 lx1 cx20 cx21 lx2
    obtain ⟨w5, hw5⟩ : ∃ x, w3.drewN nq = x := ⟨_, rfl⟩
    rw [hw5]
    have hbx : Below w3.heap.size w3 w5 := by rw [← hw5]; exact below_drewN (Below.refl _ _) _
    clear hw5
    have x0_w5 := x0_w3.below hbx
    have x1_w5 := x1_w3.below hbx
    have x2_w5 := x2_w3.below hbx
    have B_w5 := B_w3.trans (hbx.mono B_w3.size)
    clear x0_w3 x1_w3 x2_w3 B_w3 hbx
    have c0 : w5.cell? ⟨w.heap.size + 1 + 1, 0, none⟩ = some (.slice none 0 0) := x2_w5.cell rfl
    have c1 : w5.cell? ⟨w.heap.size + 1 + 1, 1, none⟩ = some (.int .i64 0) := x2_w5.cell rfl
    have f0 := x2_w5.free 0
    have f1 := x2_w5.free 1
    by_cases i0 : i < 0
    · go_wp2_with fail
      have z0_0 := ((x2_w5).set 0 (.slice none 0 0)).cell (i := 0) (v := .slice none 0 0) rfl
      have z0_1 := (((x2_w5).set 0 (.slice none 0 0)).set 1 (.int .i64 0)).cell (i := 0) (v := .slice none 0 0) rfl
      have z1_1 := (((x2_w5).set 0 (.slice none 0 0)).set 1 (.int .i64 0)).cell (i := 1) (v := .int .i64 0) rfl
      refine bodyPost_ret (v := .tuple #[.agg #[.slice none 0 0, .int .i64 0], .bool false]) (by simp [results, Tryz.results101, go_sem, z0_0, z0_1, z1_1]) rfl ?_
      clear z0_0 z0_1 z1_1
      exact head_end hF.out (by omega) B_w5 (isTy_zero _ _) (by rw [← Ho.out, headTy_neg i0]; rfl) _ (by rw [← Ho.out, headTy_neg i0]; rfl)
    obtain ⟨j, rfl⟩ : ∃ j : Nat, i = (j : Int) := ⟨i.toNat, by omega⟩
    by_cases i1 : j < M.length
    · skip
      obtain ⟨bl, off, A, N, Cc, Bb, rfl, _, e1, e2, hT⟩ := Hm.out j i1
      have e1 : w5.cell? ⟨bl, off + j * 2, none⟩ = some (.slice A N Cc) := ((Keep.refl (fun _ => True) _).below B_w5) _ _ _ trivial e1
      have e2 : w5.cell? ⟨bl, off + j * 2 + 1, none⟩ = some (.int .i64 Bb) := ((Keep.refl (fun _ => True) _).below B_w5) _ _ _ trivial e2
      have HT := Lib.hid hT; clear hT
      have l0 := Keep.lt e1
      go_wp2_with fail
      have z0_0 := ((x2_w5).set 0 (.slice A N Cc)).cell (i := 0) (v := .slice A N Cc) rfl
      have z0_1 := (((x2_w5).set 0 (.slice A N Cc)).set 1 (.int .i64 Bb)).cell (i := 0) (v := .slice A N Cc) rfl
      have z1_1 := (((x2_w5).set 0 (.slice A N Cc)).set 1 (.int .i64 Bb)).cell (i := 1) (v := .int .i64 Bb) rfl
      refine bodyPost_ret (v := .tuple #[.agg #[.slice A N Cc, .int .i64 Bb], .bool true]) (by simp [results, Tryz.results101, go_sem, z0_0, z0_1, z1_1]) rfl ?_
      clear z0_0 z0_1 z1_1
      exact head_end hF.out (by omega) B_w5 HT.out (by rw [← Ho.out, headTy_2, List.getElem?_eq_getElem i1]; rfl) _ (by rw [← Ho.out, headTy_2, List.getElem?_eq_getElem i1]; rfl)
    · go_wp2_with fail
      have z0_0 := ((x2_w5).set 0 (.slice none 0 0)).cell (i := 0) (v := .slice none 0 0) rfl
      have z0_1 := (((x2_w5).set 0 (.slice none 0 0)).set 1 (.int .i64 0)).cell (i := 0) (v := .slice none 0 0) rfl
      have z1_1 := (((x2_w5).set 0 (.slice none 0 0)).set 1 (.int .i64 0)).cell (i := 1) (v := .int .i64 0) rfl
      refine bodyPost_ret (v := .tuple #[.agg #[.slice none 0 0, .int .i64 0], .bool false]) (by simp [results, Tryz.results101, go_sem, z0_0, z0_1, z1_1]) rfl ?_
      clear z0_0 z0_1 z1_1
      exact head_end hF.out (by omega) B_w5 (isTy_zero _ _) (by rw [← Ho.out, headTy_2, List.getElem?_eq_none (by omega)]; rfl) _ (by rw [← Ho.out, headTy_2, List.getElem?_eq_none (by omega)]; rfl)
  by_cases k0 : k = 0
  · subst k0
    by_cases i0 : i < 0
    · skip
      go_enter Tryz.func101, Tryz.ntmps101
      go_wp2_with fail
      obtain ⟨w3, hw3⟩ : ∃ w3, ((w.alloc (.cells #[.int .i64 b, .slice ca C.length cc, .slice ma M.length mc] 48)).alloc (.cells #[.int .i64 0, .int .i64 i] 33)).alloc (.cells #[.slice none 0 0, .int .i64 0] 75) = w3 := ⟨_, rfl⟩
      have B_w3 : Below w.heap.size w w3 := by rw [← hw3]; exact (((Below.refl _ _).alloc (Nat.le_refl _) _).alloc (by simp) _).alloc (by simp; omega) _
      have x0_w3 : Blk w3 w.heap.size #[.int .i64 b, .slice ca C.length cc, .slice ma M.length mc] 48 := by rw [← hw3]; exact ((Blk.new _ _ _ rfl).alloc _).alloc _
      have x1_w3 : Blk w3 (w.heap.size + 1) #[.int .i64 0, .int .i64 i] 33 := by rw [← hw3]; exact (Blk.new _ _ _ (by simp)).alloc _
      have x2_w3 : Blk w3 (w.heap.size + 1 + 1) #[.slice none 0 0, .int .i64 0] 75 := by rw [← hw3]; exact Blk.new _ _ _ (by simp)
      rw [hw3]
      clear hw3
      have c0 : w3.cell? ⟨w.heap.size + 1 + 1, 0, none⟩ = some (.slice none 0 0) := x2_w3.cell rfl
      have c1 : w3.cell? ⟨w.heap.size + 1 + 1, 1, none⟩ = some (.int .i64 0) := x2_w3.cell rfl
      have f0 := x2_w3.free 0
      have f1 := x2_w3.free 1
      go_wp2_with fail
      refine bodyPost_ret (v := .tuple #[.agg #[.slice none 0 0, .int .i64 0], .bool false]) (by simp [results, Tryz.results101, go_sem, c0, c1]) rfl ?_
      exact head_end0 B_w3 (by rw [← Ho.out, headTy_neg i0])
    obtain ⟨j, rfl⟩ : ∃ j : Nat, i = (j : Int) := ⟨i.toNat, by omega⟩
    have hq0 : IntKind.i64.wrap ((X.length : Int) - 1) = (X.length : Int) - 1 := IntWalk.i64_in _ (by have := Hxl.out; omega)
    have hq1 : IntKind.i64.wrap ((X.length : Int) - 1 - j) = (X.length : Int) - 1 - j := IntWalk.i64_in _ (by have := Hxl.out; omega)
    by_cases i1 : j < X.length
    · obtain ⟨m, hm⟩ : ∃ m : Nat, X.length - 1 - j = m := ⟨_, rfl⟩
      have i2 : m < X.length := by omega
      have hq2 : IntKind.i64.wrap ((X.length : Int) - 1 - j) = (m : Int) := by rw [hq1]; omega
      clear hq1
      have Hm2 := Lib.hid hm; have Hi1 := Lib.hid i1
      have i6 : decide ((m : Int) < 0) = false := by simp
      clear hm i1
      go_enter Tryz.func101, Tryz.ntmps101
      go_wp2_with fail
      obtain ⟨w3, hw3⟩ : ∃ w3, ((w.alloc (.cells #[.int .i64 b, .slice ca C.length cc, .slice ma M.length mc] 48)).alloc (.cells #[.int .i64 0, .int .i64 (j : Int)] 33)).alloc (.cells #[.slice none 0 0, .int .i64 0] 75) = w3 := ⟨_, rfl⟩
      have B_w3 : Below w.heap.size w w3 := by rw [← hw3]; exact (((Below.refl _ _).alloc (Nat.le_refl _) _).alloc (by simp) _).alloc (by simp; omega) _
      have x0_w3 : Blk w3 w.heap.size #[.int .i64 b, .slice ca C.length cc, .slice ma M.length mc] 48 := by rw [← hw3]; exact ((Blk.new _ _ _ rfl).alloc _).alloc _
      have x1_w3 : Blk w3 (w.heap.size + 1) #[.int .i64 0, .int .i64 (j : Int)] 33 := by rw [← hw3]; exact (Blk.new _ _ _ (by simp)).alloc _
      have x2_w3 : Blk w3 (w.heap.size + 1 + 1) #[.slice none 0 0, .int .i64 0] 75 := by rw [← hw3]; exact Blk.new _ _ _ (by simp)
      rw [hw3]
      clear hw3
      have c0 : w3.cell? ⟨w.heap.size + 1 + 1, 0, none⟩ = some (.slice none 0 0) := x2_w3.cell rfl
      have c1 : w3.cell? ⟨w.heap.size + 1 + 1, 1, none⟩ = some (.int .i64 0) := x2_w3.cell rfl
      have f0 := x2_w3.free 0
      have f1 := x2_w3.free 1
      obtain ⟨bl, off, A, N, Cc, Bb, rfl, _, e1, e2, hT⟩ := Hx.out m i2
      have e1 : w3.cell? ⟨bl, off + m * 2, none⟩ = some (.slice A N Cc) := ((Keep.refl (fun _ => True) _).below B_w3) _ _ _ trivial e1
      have e2 : w3.cell? ⟨bl, off + m * 2 + 1, none⟩ = some (.int .i64 Bb) := ((Keep.refl (fun _ => True) _).below B_w3) _ _ _ trivial e2
      have HT := Lib.hid hT; clear hT
      have l0 := Keep.lt e1
      go_wp2_with fail
      clear hq0 hq2 i6 hi
      go_simp
      have i4 : (0 : Int) ≤ (m : Int) := by omega
      go_wp2_with fail
      have z0_0 := ((x2_w3).set 0 (.slice A N Cc)).cell (i := 0) (v := .slice A N Cc) rfl
      have z0_1 := (((x2_w3).set 0 (.slice A N Cc)).set 1 (.int .i64 Bb)).cell (i := 0) (v := .slice A N Cc) rfl
      have z1_1 := (((x2_w3).set 0 (.slice A N Cc)).set 1 (.int .i64 Bb)).cell (i := 1) (v := .int .i64 Bb) rfl
      refine bodyPost_ret (v := .tuple #[.agg #[.slice A N Cc, .int .i64 Bb], .bool true]) (by simp [results, Tryz.results101, go_sem, z0_0, z0_1, z1_1]) rfl ?_
      clear z0_0 z0_1 z1_1
      exact head_end hF.out (by omega) B_w3 HT.out (by rw [← Ho.out, headTy_0, List.getElem?_reverse Hi1.out, Hm2.out, List.getElem?_eq_getElem i2]; rfl) _ (by rw [← Ho.out, headTy_0, List.getElem?_reverse Hi1.out, Hm2.out, List.getElem?_eq_getElem i2]; rfl)
    · have i3 : (X.length : Int) - 1 - j < 0 := by omega
      go_enter Tryz.func101, Tryz.ntmps101
      go_wp2_with fail
      obtain ⟨w3, hw3⟩ : ∃ w3, ((w.alloc (.cells #[.int .i64 b, .slice ca C.length cc, .slice ma M.length mc] 48)).alloc (.cells #[.int .i64 0, .int .i64 (j : Int)] 33)).alloc (.cells #[.slice none 0 0, .int .i64 0] 75) = w3 := ⟨_, rfl⟩
      have B_w3 : Below w.heap.size w w3 := by rw [← hw3]; exact (((Below.refl _ _).alloc (Nat.le_refl _) _).alloc (by simp) _).alloc (by simp; omega) _
      have x0_w3 : Blk w3 w.heap.size #[.int .i64 b, .slice ca C.length cc, .slice ma M.length mc] 48 := by rw [← hw3]; exact ((Blk.new _ _ _ rfl).alloc _).alloc _
      have x1_w3 : Blk w3 (w.heap.size + 1) #[.int .i64 0, .int .i64 (j : Int)] 33 := by rw [← hw3]; exact (Blk.new _ _ _ (by simp)).alloc _
      have x2_w3 : Blk w3 (w.heap.size + 1 + 1) #[.slice none 0 0, .int .i64 0] 75 := by rw [← hw3]; exact Blk.new _ _ _ (by simp)
      rw [hw3]
      clear hw3
      have c0 : w3.cell? ⟨w.heap.size + 1 + 1, 0, none⟩ = some (.slice none 0 0) := x2_w3.cell rfl
      have c1 : w3.cell? ⟨w.heap.size + 1 + 1, 1, none⟩ = some (.int .i64 0) := x2_w3.cell rfl
      have f0 := x2_w3.free 0
      have f1 := x2_w3.free 1
      go_wp2_with fail
      refine bodyPost_ret (v := .tuple #[.agg #[.slice none 0 0, .int .i64 0], .bool false]) (by simp [results, Tryz.results101, go_sem, c0, c1]) rfl ?_
      exact head_end0 B_w3 (by rw [← Ho.out, headTy_0, List.getElem?_eq_none (by simp; omega)])
  have g0 : (k == 0) = false := by simpa using k0
  have g1 : (k == 1) = false := by simpa using k1
  have g2 : (k == 2) = false := by simpa using k2
  go_enter Tryz.func101, Tryz.ntmps101
  go_wp2_with fail
  obtain ⟨w3, hw3⟩ : ∃ w3, ((w.alloc (.cells #[.int .i64 b, .slice ca C.length cc, .slice ma M.length mc] 48)).alloc (.cells #[.int .i64 k, .int .i64 i] 33)).alloc (.cells #[.slice none 0 0, .int .i64 0] 75) = w3 := ⟨_, rfl⟩
  have B_w3 : Below w.heap.size w w3 := by rw [← hw3]; exact (((Below.refl _ _).alloc (Nat.le_refl _) _).alloc (by simp) _).alloc (by simp; omega) _
  have x0_w3 : Blk w3 w.heap.size #[.int .i64 b, .slice ca C.length cc, .slice ma M.length mc] 48 := by rw [← hw3]; exact ((Blk.new _ _ _ rfl).alloc _).alloc _
  have x1_w3 : Blk w3 (w.heap.size + 1) #[.int .i64 k, .int .i64 i] 33 := by rw [← hw3]; exact (Blk.new _ _ _ (by simp)).alloc _
  have x2_w3 : Blk w3 (w.heap.size + 1 + 1) #[.slice none 0 0, .int .i64 0] 75 := by rw [← hw3]; exact Blk.new _ _ _ (by simp)
  rw [hw3]
  clear hw3
  have c0 : w3.cell? ⟨w.heap.size + 1 + 1, 0, none⟩ = some (.slice none 0 0) := x2_w3.cell rfl
  have c1 : w3.cell? ⟨w.heap.size + 1 + 1, 1, none⟩ = some (.int .i64 0) := x2_w3.cell rfl
  have f0 := x2_w3.free 0
  have f1 := x2_w3.free 1
  go_wp2_with fail
  refine bodyPost_ret (v := .tuple #[.agg #[.slice none 0 0, .int .i64 0], .bool false]) (by simp [results, Tryz.results101, go_sem, c0, c1]) rfl ?_
  exact head_end0 B_w3 (by rw [← Ho.out, headTy_o k0 k1 k2])

end Go.Proofs.YtdmiekaeodcehaaGreat

namespace Go.Proofs.YtdmiekaeodcehaaGreat
open Go.RowKit

end Go.Proofs.YtdmiekaeodcehaaGreat

namespace Go.Proofs.YtdmiekaeodcehaaGreat
open Go.RowKit

mutual
def IsOf (C M : List Ty) : Tm → List Ty → Ty → Prop
  | .mk b k i a, X, u => b = u.args ∧ ∃ h, headTy C M (X ++ b) k i = some h ∧ h.base = u.base ∧ IsOfs C M a (X ++ b) h.args
def IsOfs (C M : List Ty) : List Tm → List Ty → List Ty → Prop
  | [], _, [] => True
  | [], _, _ :: _ => False
  | _ :: _, _, [] => False
  | t :: l, X, u :: l' => IsOf C M t X u ∧ IsOfs C M l X l'
end
theorem isOf_mk {C M : List Ty} {b : List Ty} {k i : Int} {a : List Tm} {X : List Ty} {u : Ty} : IsOf C M (.mk b k i a) X u ↔ b = u.args ∧ ∃ h, headTy C M (X ++ b) k i = some h ∧ h.base = u.base ∧ IsOfs C M a (X ++ b) h.args := by rw [IsOf]
theorem isOfs_iff {C M : List Ty} {X : List Ty} : ∀ {l : List Tm} {l' : List Ty}, IsOfs C M l X l' ↔ l'.length = l.length ∧ ∀ i (h : i < l.length) (h' : i < l'.length), IsOf C M l[i] X l'[i]
  | [], [] => by simp [IsOfs]
  | [], _ :: _ => by simp [IsOfs]
  | _ :: _, [] => by simp [IsOfs]
  | t :: l, u :: l' => by
    rw [IsOfs, isOfs_iff]
    constructor
    · rintro ⟨h1, h2, h3⟩
      refine ⟨by simp [h2], fun i h h' => ?_⟩
      cases i with
      | zero => exact h1
      | succ i => exact h3 i (by simpa using h) (by simpa using h')
    · rintro ⟨h1, h2⟩
      exact ⟨h2 0 (by simp) (by simp), by simpa using h1, fun i h h' => h2 (i + 1) (by simpa using h) (by simpa using h')⟩
end Go.Proofs.YtdmiekaeodcehaaGreat

namespace Go.Proofs.YtdmiekaeodcehaaGreat
open Go.RowKit

theorem IsSl.bel {α : Type} {r : Rp α} {F : Nat → Prop} {w w' : World} {v : Value} {l : List α} (h : IsSl r F w v l) (hb : Below w.heap.size w w') : IsSl r F w' v l := h.keep ((Keep.refl _ _).below hb)
set_option maxRecDepth 100000 in
set_option maxHeartbeats 1000000 in
theorem within_k {G G' F : Nat → Prop} {w : World} {v v' : Value} {l l' : List Ty} (h : IsSl2 rpTy G F w v l) (h' : IsSl2 rpTy G' F w v' l') (hl : l.length + l'.length ≤ 100000) :
    Calls Tryz.prog 102 #[v, v'] w (OutSl2 F (l ++ l') w) := by
  obtain ⟨a, c, rfl⟩ := h.shape
  obtain ⟨a', c', rfl⟩ := h'.shape
  have H := Lib.hid h; have H' := Lib.hid h'
  clear h h'
  obtain ⟨r, hr⟩ : ∃ r, l ++ l' = r := ⟨_, rfl⟩
  have Hr := Lib.hid hr
  rw [hr]
  clear hr
  go_enter Tryz.func102, Tryz.ntmps102
  go_wp2_with fail
  obtain ⟨w1, hw1⟩ : ∃ w1, w.alloc (.cells #[.slice a l.length c, .slice a' l'.length c'] 32) = w1 := ⟨_, rfl⟩
  have hb1 : Below w.heap.size w w1 := by rw [← hw1]; exact (Below.refl _ _).alloc (Nat.le_refl _) _
  have x : Blk w1 w.heap.size #[.slice a l.length c, .slice a' l'.length c'] 32 := by rw [← hw1]; exact Blk.new _ _ _ rfl
  try rw [hw1]
  clear hw1
  refine (concat_any2 x (H.out.bel hb1) (H'.out.bel hb1) hl).mono ?_
  rintro e w2 ⟨a2, c2, rfl, hT, hb2⟩
  have hs1 := hb1.size
  have HT := Lib.hid (hT.weaken (G' := fun q => w.heap.size ≤ q) (F' := F) (by decide) (fun q _ h => by omega) fun _ _ h => h); clear hT
  rw [Hr.out] at HT ⊢
  go_wp2_with fail
  go_ret
  exact ⟨_, _, rfl, HT.out, hb1.trans (hb2.mono hb1.size)⟩

end Go.Proofs.YtdmiekaeodcehaaGreat

namespace Go.Proofs.YtdmiekaeodcehaaGreat
open Go.RowKit

set_option maxRecDepth 100000 in
set_option maxHeartbeats 8000000 in
theorem is_k {F : Nat → Prop} {b : Int} {C M : List Ty} : ∀ (t : Tm) (w : World) (cv mv xv tb tk ti ta s ub : Value) (X : List Ty) (u : Ty), (∀ q, F q → q < w.heap.size) → IsSl rpTy F w cv C → IsSl rpTy F w mv M → IsSl2 rpTy (fun _ => True) F w xv X → IsTm F w tb tk ti ta t → IsTy F w s ub u →
    X.length + t.full ≤ 90000 → t.Fit →
    Calls Tryz.prog 103 #[.agg #[.int .i64 b, cv, mv], xv, .agg #[tb, tk, ti, ta], .agg #[s, ub]] w (RetB (IsOf C M t X u) w) := Tm.ind fun binds k i args ih => by
  intro w cv mv xv tb tk ti ta s ub X u hF hc hm hx ht hu hz hfit
  obtain ⟨ca, cc, rfl⟩ := hc.shape
  obtain ⟨ma, mc, rfl⟩ := hm.shape
  obtain ⟨xa, xc, rfl⟩ := hx.shape
  obtain ⟨rfl, rfl, hbi, hsa⟩ := ht.inv
  obtain ⟨rfl, hus⟩ := hu.inv
  simp only [Tm.binds, Tm.kind, Tm.index, Tm.args] at hbi hsa ⊢
  obtain ⟨pa, pc, rfl⟩ := hbi.shape
  obtain ⟨qa, qc, rfl⟩ := hsa.shape
  obtain ⟨ua, uc, rfl⟩ := hus.shape
  obtain ⟨_, hma, bl, off, PA, A, PN, PC, N, Cc, Kd, Ix, ha, h1, h2, h3, h4, h5⟩ := sl_cells6 hsa
  unfold maxLen at hma
  have hi : i ≤ 9223372036854775807 := (Tm.fit_iff.1 hfit).2.1
  have Hfit : Hid (∀ t ∈ args, Tm.Fit t) := (Tm.fit_iff.1 hfit).2.2
  obtain ⟨Y, hY⟩ : ∃ Y, X ++ binds = Y := ⟨_, rfl⟩
  have hYl : Y.length = X.length + binds.length := by rw [← hY]; simp
  have hbl : binds.length ≤ Ty.sizes binds := Ty.le_sizes binds
  have Hz : Hid (∀ t ∈ args, Y.length + t.full ≤ 90000) := fun t ht => by have := Tm.full_mem ht; rw [Tm.full_eq] at hz; omega
  have hla : X.length + binds.length ≤ 100000 := by rw [Tm.full_eq] at hz; omega
  have H0 := Lib.hid hF; have Hc := Lib.hid hc; have Hm := Lib.hid hm
  have Heq := Lib.hid fun (w' : World) (hb : Below w.heap.size w w') => equalFunc_k hbi hus (fun t _ => equal_k t) w' ((Keep.refl _ _).below hb) ((Keep.refl _ _).below hb)
  have Hwi := Lib.hid fun (w' : World) (hb : Below w.heap.size w w') => within_k (hx.bel hb) (IsSl2.of (hbi.bel hb)) hla
  have Hhd := Lib.hid fun (w' : World) (yv : Value) (hb : Below w.heap.size w w') (hy : IsSl2 rpTy (fun _ => True) F w' yv Y) => headType_k (b := b) (fun q hq => Nat.lt_of_lt_of_le (hF q hq) hb.size) (hc.bel hb) (hm.bel hb) hy k i hi
  have H5 := Lib.hid h5; have Hih := Lib.hid ih
  have Hh : Hid (∀ o, headTy C M Y k i = o → (IsOf C M (.mk binds k i args) X u ↔ binds = u.args ∧ ∃ h, o = some h ∧ h.base = u.base ∧ IsOfs C M args Y h.args)) := fun o ho => by rw [isOf_mk, hY, ho]
  rw [hY] at Hwi
  obtain ⟨P, hP⟩ : ∃ P, IsOf C M (.mk binds k i args) X u = P := ⟨_, rfl⟩
  rw [hP] at Hh ⊢
  obtain ⟨o, ho⟩ : ∃ o, headTy C M Y k i = o := ⟨_, rfl⟩
  have HP := Lib.hid (Hh.out o ho)
  rw [ho] at Hhd
  obtain ⟨ul, hul⟩ : ∃ ul, u.args = ul := ⟨_, rfl⟩
  obtain ⟨ud, hud⟩ : ∃ ud, u.base = ud := ⟨_, rfl⟩
  rw [hul] at Heq HP hus ⊢
  rw [hud] at HP ⊢
  clear hP ho hul hud Hh hY hF hc hm hx ht hu hz hfit hbi hsa hus h5 ih hla hYl hbl
  go_enter Tryz.func103, Tryz.ntmps103
  go_wp2_with fail
  obtain ⟨w3, hw3⟩ : ∃ w3, ((w.alloc (.cells #[.int .i64 b, .slice ca C.length cc, .slice ma M.length mc] 48)).alloc (.cells #[.slice pa binds.length pc, .int .i64 k, .int .i64 i, .slice qa args.length qc] 36)).alloc (.cells #[.slice ua ul.length uc, .int .i64 ud] 75) = w3 := ⟨_, rfl⟩
  have B_w3 : Below w.heap.size w w3 := by rw [← hw3]; exact (((Below.refl _ _).alloc (Nat.le_refl _) _).alloc (by simp) _).alloc (by simp; omega) _
  have x0_w3 : Blk w3 w.heap.size #[.int .i64 b, .slice ca C.length cc, .slice ma M.length mc] 48 := by rw [← hw3]; exact ((Blk.new _ _ _ rfl).alloc _).alloc _
  have x1_w3 : Blk w3 (w.heap.size + 1) #[.slice pa binds.length pc, .int .i64 k, .int .i64 i, .slice qa args.length qc] 36 := by rw [← hw3]; exact (Blk.new _ _ _ (by simp)).alloc _
  have x2_w3 : Blk w3 (w.heap.size + 1 + 1) #[.slice ua ul.length uc, .int .i64 ud] 75 := by rw [← hw3]; exact Blk.new _ _ _ (by simp)
  rw [hw3]
  clear hw3
  refine (Heq.out w3 B_w3).mono ?_
  intro e w4 h
  obtain ⟨r, Hr, rfl, hbx0⟩ := of_retB' h
  clear h
  have hbx : Below w3.heap.size w3 w4 := hbx0
  clear hbx0
  have x0_w4 := x0_w3.below hbx
  have x1_w4 := x1_w3.below hbx
  have x2_w4 := x2_w3.below hbx
  have B_w4 := B_w3.trans (hbx.mono B_w3.size)
  clear x0_w3 x1_w3 x2_w3 B_w3 hbx
  cases r
  · have hn : ¬ P := fun hp => no_of Hr ((HP.out.1 hp).1)
    go_wp2_with fail
    go_ret
    exact ⟨false, by simp [hn], rfl, B_w4⟩
  have hbu := yes_of Hr
  subst hbu
  clear Hr
  have cx00 : w4.cell? ⟨w.heap.size, 0, none⟩ = some (.int .i64 b) := x0_w4.cell rfl
  have cx01 : w4.cell? ⟨w.heap.size, 1, none⟩ = some (.slice ca C.length cc) := x0_w4.cell rfl
  have cx02 : w4.cell? ⟨w.heap.size, 2, none⟩ = some (.slice ma M.length mc) := x0_w4.cell rfl
  have lx0 := x0_w4.lt
  have cx10 : w4.cell? ⟨w.heap.size + 1, 0, none⟩ = some (.slice pa binds.length pc) := x1_w4.cell rfl
  have cx11 : w4.cell? ⟨w.heap.size + 1, 1, none⟩ = some (.int .i64 k) := x1_w4.cell rfl
  have cx12 : w4.cell? ⟨w.heap.size + 1, 2, none⟩ = some (.int .i64 i) := x1_w4.cell rfl
  have cx13 : w4.cell? ⟨w.heap.size + 1, 3, none⟩ = some (.slice qa args.length qc) := x1_w4.cell rfl
  have lx1 := x1_w4.lt
  have cx20 : w4.cell? ⟨w.heap.size + 1 + 1, 0, none⟩ = some (.slice ua binds.length uc) := x2_w4.cell rfl
  have cx21 : w4.cell? ⟨w.heap.size + 1 + 1, 1, none⟩ = some (.int .i64 ud) := x2_w4.cell rfl
  have lx2 := x2_w4.lt
  go_wp2_with fail
  refine (Hwi.out w4 B_w4).mono ?_
  rintro e w5 ⟨ya, yc, rfl, hT, hbx0⟩
  have hbx : Below w4.heap.size w4 w5 := hbx0
  clear hbx0
  clear cx00 cx01 cx02 lx0 cx10 cx11 cx12 cx13 lx1 cx20 cx21 lx2
  have x0_w5 := x0_w4.below hbx
  have x1_w5 := x1_w4.below hbx
  have x2_w5 := x2_w4.below hbx
  have B_w5 := B_w4.trans (hbx.mono B_w4.size)
  clear x0_w4 x1_w4 x2_w4 B_w4 hbx
  have T_w5 := Lib.hid (hT.anyRow (by decide))
  clear hT
  have cx00 : w5.cell? ⟨w.heap.size, 0, none⟩ = some (.int .i64 b) := x0_w5.cell rfl
  have cx01 : w5.cell? ⟨w.heap.size, 1, none⟩ = some (.slice ca C.length cc) := x0_w5.cell rfl
  have cx02 : w5.cell? ⟨w.heap.size, 2, none⟩ = some (.slice ma M.length mc) := x0_w5.cell rfl
  have lx0 := x0_w5.lt
  have cx10 : w5.cell? ⟨w.heap.size + 1, 0, none⟩ = some (.slice pa binds.length pc) := x1_w5.cell rfl
  have cx11 : w5.cell? ⟨w.heap.size + 1, 1, none⟩ = some (.int .i64 k) := x1_w5.cell rfl
  have cx12 : w5.cell? ⟨w.heap.size + 1, 2, none⟩ = some (.int .i64 i) := x1_w5.cell rfl
  have cx13 : w5.cell? ⟨w.heap.size + 1, 3, none⟩ = some (.slice qa args.length qc) := x1_w5.cell rfl
  have lx1 := x1_w5.lt
  have cx20 : w5.cell? ⟨w.heap.size + 1 + 1, 0, none⟩ = some (.slice ua binds.length uc) := x2_w5.cell rfl
  have cx21 : w5.cell? ⟨w.heap.size + 1 + 1, 1, none⟩ = some (.int .i64 ud) := x2_w5.cell rfl
  have lx2 := x2_w5.lt
  go_wp2_with fail
  refine (Hhd.out w5 _ B_w5 T_w5.out).mono ?_
  rintro e w6 ⟨s6, b6, rfl, hT, hbx0⟩
  have hbx : Below w5.heap.size w5 w6 := hbx0
  clear hbx0
  clear cx00 cx01 cx02 lx0 cx10 cx11 cx12 cx13 lx1 cx20 cx21 lx2
  have x0_w6 := x0_w5.below hbx
  have x1_w6 := x1_w5.below hbx
  have x2_w6 := x2_w5.below hbx
  have T_w6 := Lib.hid (T_w5.out.bel hbx)
  have B_w6 := B_w5.trans (hbx.mono B_w5.size)
  clear x0_w5 x1_w5 x2_w5 T_w5 B_w5 hbx
  obtain ⟨h0, hh0⟩ : ∃ h0, o.getD tyZ = h0 := ⟨_, rfl⟩
  have Hh0 := Lib.hid hh0
  rw [hh0] at hT
  clear hh0
  obtain ⟨ha6, hc6, rfl, rfl⟩ := hT.shape
  have hat := sl_at (IsSl2.of hT.inv.2)
  obtain ⟨n0, hn0⟩ : ∃ n0, h0.args.length = n0 := ⟨_, rfl⟩
  obtain ⟨d0, hd0⟩ : ∃ d0, h0.base = d0 := ⟨_, rfl⟩
  rw [hn0] at hT ⊢
  rw [hd0] at hT ⊢
  have Hn0 := Lib.hid hn0; have Hd0 := Lib.hid hd0
  have Hat := Lib.hid hat
  clear hT hn0 hd0 hat
  cases hs : o.isSome
  · have hn : ¬ P := fun hp => by
      obtain ⟨_, h, e, _⟩ := HP.out.1 hp
      rw [e] at hs; cases hs
    have cx00 : w6.cell? ⟨w.heap.size, 0, none⟩ = some (.int .i64 b) := x0_w6.cell rfl
    have cx01 : w6.cell? ⟨w.heap.size, 1, none⟩ = some (.slice ca C.length cc) := x0_w6.cell rfl
    have cx02 : w6.cell? ⟨w.heap.size, 2, none⟩ = some (.slice ma M.length mc) := x0_w6.cell rfl
    have lx0 := x0_w6.lt
    have cx10 : w6.cell? ⟨w.heap.size + 1, 0, none⟩ = some (.slice pa binds.length pc) := x1_w6.cell rfl
    have cx11 : w6.cell? ⟨w.heap.size + 1, 1, none⟩ = some (.int .i64 k) := x1_w6.cell rfl
    have cx12 : w6.cell? ⟨w.heap.size + 1, 2, none⟩ = some (.int .i64 i) := x1_w6.cell rfl
    have cx13 : w6.cell? ⟨w.heap.size + 1, 3, none⟩ = some (.slice qa args.length qc) := x1_w6.cell rfl
    have lx1 := x1_w6.lt
    have cx20 : w6.cell? ⟨w.heap.size + 1 + 1, 0, none⟩ = some (.slice ua binds.length uc) := x2_w6.cell rfl
    have cx21 : w6.cell? ⟨w.heap.size + 1 + 1, 1, none⟩ = some (.int .i64 ud) := x2_w6.cell rfl
    have lx2 := x2_w6.lt
    go_wp2_with fail
    go_ret
    exact ⟨false, by simp [hn], rfl, by first | exact B_w6.alloc B_w6.size _ | exact B_w6⟩
  obtain ⟨h0', rfl⟩ := Option.isSome_iff_exists.1 hs
  obtain rfl : h0' = h0 := Hh0.out
  have HP2 : Hid (P ↔ d0 = ud ∧ IsOfs C M args Y h0'.args) := by
    show P ↔ _
    rw [HP.out, ← Hd0.out]
    simp
  clear HP hs Hh0
  have cx00 : w6.cell? ⟨w.heap.size, 0, none⟩ = some (.int .i64 b) := x0_w6.cell rfl
  have cx01 : w6.cell? ⟨w.heap.size, 1, none⟩ = some (.slice ca C.length cc) := x0_w6.cell rfl
  have cx02 : w6.cell? ⟨w.heap.size, 2, none⟩ = some (.slice ma M.length mc) := x0_w6.cell rfl
  have lx0 := x0_w6.lt
  have cx10 : w6.cell? ⟨w.heap.size + 1, 0, none⟩ = some (.slice pa binds.length pc) := x1_w6.cell rfl
  have cx11 : w6.cell? ⟨w.heap.size + 1, 1, none⟩ = some (.int .i64 k) := x1_w6.cell rfl
  have cx12 : w6.cell? ⟨w.heap.size + 1, 2, none⟩ = some (.int .i64 i) := x1_w6.cell rfl
  have cx13 : w6.cell? ⟨w.heap.size + 1, 3, none⟩ = some (.slice qa args.length qc) := x1_w6.cell rfl
  have lx1 := x1_w6.lt
  have cx20 : w6.cell? ⟨w.heap.size + 1 + 1, 0, none⟩ = some (.slice ua binds.length uc) := x2_w6.cell rfl
  have cx21 : w6.cell? ⟨w.heap.size + 1 + 1, 1, none⟩ = some (.int .i64 ud) := x2_w6.cell rfl
  have lx2 := x2_w6.lt
  by_cases hd : d0 = ud
  rotate_left
  · have hn : ¬ P := fun hp => hd (HP2.out.1 hp).1
    have g1 : (d0 == ud) = false := by simpa using hd
    have g2 : (d0 != ud) = true := by simpa using hd
    go_wp2_with fail
    go_ret
    exact ⟨false, by simp [hn], rfl, by first | exact B_w6.alloc B_w6.size _ | exact B_w6⟩
  subst hd
  by_cases hn : (n0 : Int) = (args.length : Int)
  rotate_left
  · have hnn : ¬ P := fun hp => by
      have h := (isOfs_iff.1 (HP2.out.1 hp).2).1
      have := Hn0.out
      omega
    have g1 : ((n0 : Int) == (args.length : Int)) = false := by simpa using hn
    have g2 : ((n0 : Int) != (args.length : Int)) = true := by simpa using hn
    go_wp2_with fail
    go_ret
    exact ⟨false, by simp [hnn], rfl, by first | exact B_w6.alloc B_w6.size _ | exact B_w6⟩
  have hnn : n0 = args.length := by omega
  subst hnn
  clear hn
  have HP3 : Hid (P ↔ ∀ j (h : j < args.length) (h' : j < h0'.args.length), IsOf C M args[j] Y h0'.args[j]) := by
    show P ↔ _
    rw [HP2.out, isOfs_iff]
    simp [Hn0.out]
  clear HP2
  go_wp2_with fail
  obtain ⟨w7, hw7⟩ : ∃ w7, w6.alloc (.cells #[.slice ha6 args.length hc6, .int .i64 d0] 75) = w7 := ⟨_, rfl⟩
  have hbx : Below w6.heap.size w6 w7 := by rw [← hw7]; exact (Below.refl _ _).alloc (Nat.le_refl _) _
  obtain ⟨p, hp⟩ : ∃ p, w6.heap.size = p := ⟨_, rfl⟩
  have xh_w7 : Blk w7 p #[.slice ha6 args.length hc6, .int .i64 d0] 75 := by rw [← hw7]; exact Blk.new _ _ _ hp.symm
  try rw [hw7]
  try rw [hp]
  clear cx00 cx01 cx02 cx10 cx11 cx12 cx13 cx20 cx21 lx0 lx1 lx2 hw7
  have Hbx := Lib.hid hbx
  have x0_w7 := x0_w6.below hbx
  have x1_w7 := x1_w6.below hbx
  have x2_w7 := x2_w6.below hbx
  have T_w7 := Lib.hid (T_w6.out.bel hbx)
  have B_w7 := B_w6.trans (hbx.mono B_w6.size)
  clear x0_w6 x1_w6 x2_w6 T_w6 B_w6 hbx
  clear hp
  have H0' := Lib.hid fun q hq => Nat.lt_of_lt_of_le (H0.out q hq) B_w7.size
  have Bw7 := Lib.hid B_w7
  clear B_w7
  go_loopw [12, 13, 53] (fun _ _ c wr => ∃ j : Nat, c = .int .i64 j ∧ j ≤ args.length ∧ Hid (∀ m (h : m < args.length) (h' : m < h0'.args.length), m < j → IsOf C M args[m] Y h0'.args[m]) ∧ Below w7.heap.size w7 wr) (fun _ _ c _ => args.length - (intOf c).toNat)
  case atStart => exact ⟨0, rfl, by omega, fun m _ _ h => absurd h (by omega), Below.refl _ _⟩
  case round =>
    obtain ⟨j, rfl, hj, hrel, hbr⟩ := hrel
    have Hbr := Lib.hid hbr
    have B_wr := Bw7.out.trans (hbr.mono Bw7.out.size)
    have x0_wr := x0_w7.below hbr; have x1_wr := x1_w7.below hbr; have x2_wr := x2_w7.below hbr; have xh_wr := xh_w7.below hbr
    have T_wr := Lib.hid (T_w7.out.bel hbr)
    clear x0_w7 x1_w7 x2_w7 xh_w7 T_w7 hbr
    by_cases hlt : j < args.length
    · obtain ⟨rfl, hF⟩ := ha (by omega)
      have i1 : (j : Int) < (args.length : Int) := by omega
      have hj' : j < h0'.args.length := by have := Hn0.out; omega
      obtain ⟨bl', off', A', N', C', B', rfl, hF', e5, e6, hU⟩ := Hat.out j hj'
      have Kp : Keep F w wr := (Keep.refl _ _).below B_wr
      have e1 := Kp _ _ _ hF (h1 j hlt)
      have e2 := Kp _ _ _ hF (h2 j hlt)
      have e3 := Kp _ _ _ hF (h3 j hlt)
      have e4 := Kp _ _ _ hF (h4 j hlt)
      have B6r : Below w6.heap.size w6 wr := Hbx.out.trans (Hbr.out.mono Hbx.out.size)
      have e5wr := ((Keep.refl (fun _ => True) _).below B6r) _ _ _ trivial e5
      have e6wr := ((Keep.refl (fun _ => True) _).below B6r) _ _ _ trivial e6
      have U_wr := Lib.hid (hU.bel B6r)
      have V_wr := Lib.hid ((H5.out j hlt).bel B_wr)
      clear e5 e6 hU B6r Kp
      go_wp2_with fail
      clear e1 e2 e3 e4
      obtain ⟨v1, hv1⟩ : ∃ v1, wr.alloc (.cells #[.slice (PA j) (PN j) (PC j), .int .i64 (Kd j), .int .i64 (Ix j), .slice (A j) (N j) (Cc j)] 36) = v1 := ⟨_, rfl⟩
      have hbx : Below wr.heap.size wr v1 := by rw [← hv1]; exact (Below.refl _ _).alloc (Nat.le_refl _) _
      obtain ⟨q, hq⟩ : ∃ q, wr.heap.size = q := ⟨_, rfl⟩
      have xa_v1 : Blk v1 q #[.slice (PA j) (PN j) (PC j), .int .i64 (Kd j), .int .i64 (Ix j), .slice (A j) (N j) (Cc j)] 36 := by rw [← hv1]; exact Blk.new _ _ _ hq.symm
      try rw [hv1]
      try rw [hq]
      have e5v1 := ((Keep.refl (fun _ => True) _).below hbx) _ _ _ trivial e5wr
      have e6v1 := ((Keep.refl (fun _ => True) _).below hbx) _ _ _ trivial e6wr
      clear e5wr e6wr hv1
      have B7v : Below w7.heap.size w7 v1 := Hbr.out.trans (hbx.mono Hbr.out.size)
      have x0_v1 := x0_wr.below hbx
      have xh_v1 := xh_wr.below hbx
      have T_v1 := Lib.hid (T_wr.out.bel hbx)
      have U_v1 := Lib.hid (U_wr.out.bel hbx)
      have V_v1 := Lib.hid (V_wr.out.bel hbx)
      have B_v1 := B_wr.trans (hbx.mono B_wr.size)
      clear x0_wr xh_wr T_wr U_wr V_wr B_wr hbx
      clear hq
      refine wp_region_noPanic (wp_region_need (S := fun w' => w'.cell? ⟨w.heap.size, 0, none⟩ = some (.int .i64 b) ∧ w'.cell? ⟨w.heap.size, 1, none⟩ = some (.slice ca C.length cc) ∧ w'.cell? ⟨w.heap.size, 2, none⟩ = some (.slice ma M.length mc) ∧ w'.cell? ⟨p, 0, none⟩ = some (.slice (some ⟨bl', off', none⟩) args.length hc6) ∧ w'.cell? ⟨p, 1, none⟩ = some (.int .i64 d0) ∧ w'.cell? ⟨q, 0, none⟩ = some (.slice (PA j) (PN j) (PC j)) ∧ w'.cell? ⟨q, 1, none⟩ = some (.int .i64 (Kd j)) ∧ w'.cell? ⟨q, 2, none⟩ = some (.int .i64 (Ix j)) ∧ w'.cell? ⟨q, 3, none⟩ = some (.slice (A j) (N j) (Cc j)) ∧ w'.cell? ⟨bl', off' + j * 2, none⟩ = some (.slice A' N' C') ∧ w'.cell? ⟨bl', off' + j * 2 + 1, none⟩ = some (.int .i64 B')) (by kernel_rfl) ?_)
      have hS : (v1.drew).cell? ⟨w.heap.size, 0, none⟩ = some (.int .i64 b) ∧ (v1.drew).cell? ⟨w.heap.size, 1, none⟩ = some (.slice ca C.length cc) ∧ (v1.drew).cell? ⟨w.heap.size, 2, none⟩ = some (.slice ma M.length mc) ∧ (v1.drew).cell? ⟨p, 0, none⟩ = some (.slice (some ⟨bl', off', none⟩) args.length hc6) ∧ (v1.drew).cell? ⟨p, 1, none⟩ = some (.int .i64 d0) ∧ (v1.drew).cell? ⟨q, 0, none⟩ = some (.slice (PA j) (PN j) (PC j)) ∧ (v1.drew).cell? ⟨q, 1, none⟩ = some (.int .i64 (Kd j)) ∧ (v1.drew).cell? ⟨q, 2, none⟩ = some (.int .i64 (Ix j)) ∧ (v1.drew).cell? ⟨q, 3, none⟩ = some (.slice (A j) (N j) (Cc j)) ∧ (v1.drew).cell? ⟨bl', off' + j * 2, none⟩ = some (.slice A' N' C') ∧ (v1.drew).cell? ⟨bl', off' + j * 2 + 1, none⟩ = some (.int .i64 B') := ⟨x0_v1.drew.cell rfl, x0_v1.drew.cell rfl, x0_v1.drew.cell rfl, xh_v1.drew.cell rfl, xh_v1.drew.cell rfl, xa_v1.drew.cell rfl, xa_v1.drew.cell rfl, xa_v1.drew.cell rfl, xa_v1.drew.cell rfl, e5v1, e6v1⟩
      refine wpN_take (i := 0) (v := ?v1) rfl (by kernel_rfl) (fun _ _ _ h => h) hS (Or.inl ⟨by rfl, ?hy1⟩) ?hr1
      case hy1 => (intro wS hSw; (try dsimp only at hSw); go_simp; (try with_reducible rfl))
      try simp only [Act.put, List.setIfInBounds_toArray, List.set_cons_zero, List.set_cons_succ, List.getElem_toArray, List.getElem_cons_zero, List.getElem_cons_succ]
      refine wpN_take (i := 1) (v := ?v2) rfl (by kernel_rfl) (fun _ _ _ h => h) hS (Or.inl ⟨by rfl, ?hy2⟩) ?hr2
      case hy2 => (intro wS hSw; (try dsimp only at hSw); go_simp; (try with_reducible rfl))
      try simp only [Act.put, List.setIfInBounds_toArray, List.set_cons_zero, List.set_cons_succ, List.getElem_toArray, List.getElem_cons_zero, List.getElem_cons_succ]
      refine wpN_take (i := 2) (v := ?v3) rfl (by kernel_rfl) (fun _ _ _ h => h) hS (Or.inl ⟨by rfl, ?hy3⟩) ?hr3
      case hy3 => (intro wS hSw; (try dsimp only at hSw); go_simp; (try with_reducible rfl))
      try simp only [Act.put, List.setIfInBounds_toArray, List.set_cons_zero, List.set_cons_succ, List.getElem_toArray, List.getElem_cons_zero, List.getElem_cons_succ]
      refine wpN_take (i := 3) (v := ?v4) rfl (by kernel_rfl) (fun _ _ _ h => h) hS (Or.inl ⟨by rfl, ?hy4⟩) ?hr4
      case hy4 => (intro wS hSw; (try dsimp only at hSw); go_simp; (try with_reducible rfl))
      try simp only [Act.put, List.setIfInBounds_toArray, List.set_cons_zero, List.set_cons_succ, List.getElem_toArray, List.getElem_cons_zero, List.getElem_cons_succ]
      refine wpN_take (i := 4) (v := ?v5) rfl (by kernel_rfl) (fun _ _ _ h => h) hS (Or.inl ⟨by rfl, ?hy5⟩) ?hr5
      case hy5 => (intro wS hSw; (try dsimp only at hSw); go_simp; (try with_reducible rfl))
      try simp only [Act.put, List.setIfInBounds_toArray, List.set_cons_zero, List.set_cons_succ, List.getElem_toArray, List.getElem_cons_zero, List.getElem_cons_succ]
      refine wpN_take (i := 5) (v := ?v6) rfl (by kernel_rfl) (fun _ _ _ h => h) hS (Or.inl ⟨by rfl, ?hy6⟩) ?hr6
      case hy6 => (intro wS hSw; (try dsimp only at hSw); go_simp; (try with_reducible rfl))
      try simp only [Act.put, List.setIfInBounds_toArray, List.set_cons_zero, List.set_cons_succ, List.getElem_toArray, List.getElem_cons_zero, List.getElem_cons_succ]
      refine wpN_take (i := 6) (v := ?v7) rfl (by kernel_rfl) (fun _ _ _ h => h) hS (Or.inl ⟨by rfl, ?hy7⟩) ?hr7
      case hy7 => (intro wS hSw; (try dsimp only at hSw); go_simp; (try with_reducible rfl))
      try simp only [Act.put, List.setIfInBounds_toArray, List.set_cons_zero, List.set_cons_succ, List.getElem_toArray, List.getElem_cons_zero, List.getElem_cons_succ]
      refine wpN_take (i := 7) (v := ?v8) rfl (by kernel_rfl) (fun _ _ _ h => h) hS (Or.inl ⟨by rfl, ?hy8⟩) ?hr8
      case hy8 => (intro wS hSw; (try dsimp only at hSw); go_simp; (try with_reducible rfl))
      try simp only [Act.put, List.setIfInBounds_toArray, List.set_cons_zero, List.set_cons_succ, List.getElem_toArray, List.getElem_cons_zero, List.getElem_cons_succ]
      refine wpN_step (i := 8) (by kernel_rfl) rfl (fun K hK => ?_)
      go_simp
      have hb0 : Below w.heap.size w v1.drew := B_v1.drew
      refine (Hih.out _ (List.getElem_mem hlt) v1.drew _ _ _ _ _ _ _ _ _ Y h0'.args[j] (fun q hq => Nat.lt_of_lt_of_le (H0.out q hq) hb0.size) (Hc.out.bel hb0) (Hm.out.bel hb0) (T_v1.out.bel (Below.refl _ _).drew) (V_v1.out.bel (Below.refl _ _).drew) (U_v1.out.bel (Below.refl _ _).drew) (Hz.out _ (List.getElem_mem hlt)) (Hfit.out _ (List.getElem_mem hlt))).mono ?_
      intro e v2 h
      obtain ⟨r, Hr, rfl, hbx0⟩ := of_retB' h
      clear h
      have hbx : Below v1.heap.size v1 v2 := (Below.refl _ _).drew.trans hbx0
      have e5v2 := ((Keep.refl (fun _ => True) _).below hbx) _ _ _ trivial e5v1
      have e6v2 := ((Keep.refl (fun _ => True) _).below hbx) _ _ _ trivial e6v1
      have B72 : Below w7.heap.size w7 v2 := B7v.trans (hbx.mono B7v.size)
      have xa_v2 := xa_v1.below hbx
      clear hbx0 hb0 e5v1 e6v1 B7v xa_v1
      have x0_v2 := x0_v1.below hbx
      have xh_v2 := xh_v1.below hbx
      have T_v2 := Lib.hid (T_v1.out.bel hbx)
      have U_v2 := Lib.hid (U_v1.out.bel hbx)
      have V_v2 := Lib.hid (V_v1.out.bel hbx)
      have B_v2 := B_v1.trans (hbx.mono B_v1.size)
      clear x0_v1 xh_v1 T_v1 U_v1 V_v1 B_v1 hbx
      have hS : (v2).cell? ⟨w.heap.size, 0, none⟩ = some (.int .i64 b) ∧ (v2).cell? ⟨w.heap.size, 1, none⟩ = some (.slice ca C.length cc) ∧ (v2).cell? ⟨w.heap.size, 2, none⟩ = some (.slice ma M.length mc) ∧ (v2).cell? ⟨p, 0, none⟩ = some (.slice (some ⟨bl', off', none⟩) args.length hc6) ∧ (v2).cell? ⟨p, 1, none⟩ = some (.int .i64 d0) ∧ (v2).cell? ⟨q, 0, none⟩ = some (.slice (PA j) (PN j) (PC j)) ∧ (v2).cell? ⟨q, 1, none⟩ = some (.int .i64 (Kd j)) ∧ (v2).cell? ⟨q, 2, none⟩ = some (.int .i64 (Ix j)) ∧ (v2).cell? ⟨q, 3, none⟩ = some (.slice (A j) (N j) (Cc j)) ∧ (v2).cell? ⟨bl', off' + j * 2, none⟩ = some (.slice A' N' C') ∧ (v2).cell? ⟨bl', off' + j * 2 + 1, none⟩ = some (.int .i64 B') := ⟨x0_v2.cell rfl, x0_v2.cell rfl, x0_v2.cell rfl, xh_v2.cell rfl, xh_v2.cell rfl, xa_v2.cell rfl, xa_v2.cell rfl, xa_v2.cell rfl, xa_v2.cell rfl, e5v2, e6v2⟩
      refine hK.out _ _ (fun _ => hS) ?_
      clear hK K
      try simp only [Act.put, List.setIfInBounds_toArray, List.set_cons_zero, List.set_cons_succ, List.getElem_toArray, List.getElem_cons_zero, List.getElem_cons_succ]
      refine wpN_take (i := 9) (v := ?v9) rfl (by kernel_rfl) (fun _ _ _ h => h) hS (Or.inl ⟨by rfl, ?hy9⟩) ?hr9
      case hy9 => (intro wS hSw; (try dsimp only at hSw); go_simp; (try with_reducible rfl))
      try simp only [Act.put, List.setIfInBounds_toArray, List.set_cons_zero, List.set_cons_succ, List.getElem_toArray, List.getElem_cons_zero, List.getElem_cons_succ]
      refine wpN_done (by kernel_rfl) ?_
      refine NoPanic.normal ?_
      clear hS
      cases r
      · have hn : ¬ P := fun hp => no_of Hr.out (HP3.out.1 hp j hlt hj')
        go_wp2_with fail
        go_ret
        exact ⟨false, by simp [hn], rfl, B_v2⟩
      · have Hy := Lib.hid (yes_of Hr.out)
        go_wp2_with fail
        go_roundw
        case rel => exact ⟨j + 1, by go_num, by omega, fun m h h' hm => by
          by_cases hmj : m < j
          · exact hrel.out m h h' hmj
          · obtain rfl : m = j := by omega
            exact Hy.out, B72⟩
        case measure => simp [intOf]; omega
    · have hp : P := HP3.out.2 fun m h h' => hrel.out m h h' (by omega)
      go_wp2_with fail
      go_ret
      exact ⟨true, by simp [hp], rfl, B_wr⟩
end Go.Proofs.YtdmiekaeodcehaaGreat

namespace Go.Proofs.YtdmiekaeodcehaaGreat
open Go.RowKit

end Go.Proofs.YtdmiekaeodcehaaGreat

namespace Go.Proofs.YtdmiekaeodcehaaGreat
open Go.RowKit

def checkCode (C M : List Ty) (t : Tm) (X : List Ty) (u : Ty) (c : Int) : Prop := (¬ (t.size ≤ 5000 ∧ t.depth ≤ 60) ∧ c = 2) ∨ ((t.size ≤ 5000 ∧ t.depth ≤ 60) ∧ ¬ IsOf C M t X u ∧ c = 5) ∨ ((t.size ≤ 5000 ∧ t.depth ≤ 60) ∧ IsOf C M t X u ∧ c = 0)
theorem checkCode_uniq {C M : List Ty} {t : Tm} {X : List Ty} {u : Ty} {c c' : Int} (h : checkCode C M t X u c) (h' : checkCode C M t X u c') : c = c' := by
  unfold checkCode at h h'
  rcases h with ⟨h1, h2⟩ | ⟨h1, h2, h3⟩ | ⟨h1, h2, h3⟩ <;> rcases h' with ⟨g1, g2⟩ | ⟨g1, g2, g3⟩ | ⟨g1, g2, g3⟩ <;> first | omega | exact absurd h1 g1 | exact absurd g1 h1 | exact absurd h2 g2 | exact absurd g2 h2
def RetCheck (C M : List Ty) (t : Tm) (X : List Ty) (u : Ty) (w : World) (e : Ending) (w' : World) : Prop := ∃ c : Int, Hid (checkCode C M t X u c) ∧ e = .returned (.int .i64 c) ∧ Below w.heap.size w w'

set_option maxRecDepth 100000 in
set_option maxHeartbeats 4000000 in
theorem Check_k {F : Nat → Prop} {b : Int} {C M : List Ty} (t : Tm) (w : World) (cv mv xv tb tk ti ta s ub : Value) (X : List Ty) (u : Ty) (hF : ∀ q, F q → q < w.heap.size) (hc : IsSl rpTy F w cv C) (hm : IsSl rpTy F w mv M) (hx : IsSl2 rpTy (fun _ => True) F w xv X) (ht : IsTm F w tb tk ti ta t) (hu : IsTy F w s ub u)
    (hz : X.length + t.full ≤ 90000) (hfit : t.Fit) :
    Calls Tryz.prog 59 #[.agg #[.int .i64 b, cv, mv], xv, .agg #[tb, tk, ti, ta], .agg #[s, ub]] w (RetCheck C M t X u w) := by
  have Hi := Lib.hid fun (w' : World) (hb : Below w.heap.size w w') => is_k (b := b) t w' cv mv xv tb tk ti ta s ub X u (fun q hq => Nat.lt_of_lt_of_le (hF q hq) hb.size) (hc.bel hb) (hm.bel hb) (hx.bel hb) (ht.bel hb) (hu.bel hb) hz hfit
  have Hrt := Lib.hid fun (w' : World) (hb : Below w.heap.size w w') => right6_k (ht.bel hb) (by omega)
  obtain ⟨ca, cc, rfl⟩ := hc.shape
  obtain ⟨ma, mc, rfl⟩ := hm.shape
  obtain ⟨xa, xc, rfl⟩ := hx.shape
  obtain ⟨ua, uc, rfl, rfl⟩ := hu.shape
  obtain ⟨t_pa, t_pc, t_qa, t_qc, rfl, rfl, rfl, rfl⟩ := ht.shape
  obtain ⟨t_n, ht_n⟩ : ∃ x, t.binds.length = x := ⟨_, rfl⟩
  obtain ⟨t_m, ht_m⟩ : ∃ x, t.args.length = x := ⟨_, rfl⟩
  obtain ⟨t_k, ht_k⟩ : ∃ x, t.kind = x := ⟨_, rfl⟩
  obtain ⟨t_i, ht_i⟩ : ∃ x, t.index = x := ⟨_, rfl⟩
  rw [ht_n, ht_m, ht_k, ht_i] at ht ⊢
  have Et_n := Lib.hid ht_n
  have Et_m := Lib.hid ht_m
  have Et_k := Lib.hid ht_k
  have Et_i := Lib.hid ht_i
  clear ht_n ht_m ht_k ht_i
  obtain ⟨n1, hn1⟩ : ∃ n, u.args.length = n := ⟨_, rfl⟩
  obtain ⟨n2, hn2⟩ : ∃ n, u.base = n := ⟨_, rfl⟩
  rw [hn1, hn2] at Hi ⊢
  rw [Et_n.out, Et_m.out, Et_k.out, Et_i.out] at Hi Hrt
  clear hn1 hn2 hc hm hx ht hu hz hfit hF
  go_enter Tryz.func59, Tryz.ntmps59
  go_wp2_with fail
  obtain ⟨w3, hw3⟩ : ∃ w3, ((w.alloc (.cells #[.int .i64 b, .slice ca C.length cc, .slice ma M.length mc] 48)).alloc (.cells #[.slice t_pa t_n t_pc, .int .i64 t_k, .int .i64 t_i, .slice t_qa t_m t_qc] 36)).alloc (.cells #[.slice ua n1 uc, .int .i64 n2] 75) = w3 := ⟨_, rfl⟩
  have B_w3 : Below w.heap.size w w3 := by rw [← hw3]; exact (((Below.refl _ _).alloc (Nat.le_refl _) _).alloc (by simp) _).alloc (by simp; omega) _
  have x0_w3 : Blk w3 w.heap.size #[.int .i64 b, .slice ca C.length cc, .slice ma M.length mc] 48 := by rw [← hw3]; exact ((Blk.new _ _ _ rfl).alloc _).alloc _
  have x1_w3 : Blk w3 (w.heap.size + 1) #[.slice t_pa t_n t_pc, .int .i64 t_k, .int .i64 t_i, .slice t_qa t_m t_qc] 36 := by rw [← hw3]; exact (Blk.new _ _ _ (by simp)).alloc _
  have x2_w3 : Blk w3 (w.heap.size + 1 + 1) #[.slice ua n1 uc, .int .i64 n2] 75 := by rw [← hw3]; exact Blk.new _ _ _ (by simp)
  rw [hw3]
  clear hw3
  refine (Hrt.out w3 B_w3).mono ?_
  intro e w4 h
  obtain ⟨r, Hr, rfl, hbx0⟩ := of_retB' h
  clear h
  have hbx : Below w3.heap.size w3 w4 := hbx0
  clear hbx0
  have x0_w4 := x0_w3.below hbx
  have x1_w4 := x1_w3.below hbx
  have x2_w4 := x2_w3.below hbx
  have B_w4 := B_w3.trans (hbx.mono B_w3.size)
  clear x0_w3 x1_w3 x2_w3 B_w3 hbx
  cases r
  · go_wp2_with fail
    go_ret
    exact ⟨_, .inl ⟨no_of Hr.out, rfl⟩, rfl, B_w4⟩
  have hy := Lib.hid (yes_of Hr.out)
  clear Hr
  have cx00 : w4.cell? ⟨w.heap.size, 0, none⟩ = some (.int .i64 b) := x0_w4.cell rfl
  have cx01 : w4.cell? ⟨w.heap.size, 1, none⟩ = some (.slice ca C.length cc) := x0_w4.cell rfl
  have cx02 : w4.cell? ⟨w.heap.size, 2, none⟩ = some (.slice ma M.length mc) := x0_w4.cell rfl
  have lx0 := x0_w4.lt
  have cx10 : w4.cell? ⟨w.heap.size + 1, 0, none⟩ = some (.slice t_pa t_n t_pc) := x1_w4.cell rfl
  have cx11 : w4.cell? ⟨w.heap.size + 1, 1, none⟩ = some (.int .i64 t_k) := x1_w4.cell rfl
  have cx12 : w4.cell? ⟨w.heap.size + 1, 2, none⟩ = some (.int .i64 t_i) := x1_w4.cell rfl
  have cx13 : w4.cell? ⟨w.heap.size + 1, 3, none⟩ = some (.slice t_qa t_m t_qc) := x1_w4.cell rfl
  have lx1 := x1_w4.lt
  have cx20 : w4.cell? ⟨w.heap.size + 1 + 1, 0, none⟩ = some (.slice ua n1 uc) := x2_w4.cell rfl
  have cx21 : w4.cell? ⟨w.heap.size + 1 + 1, 1, none⟩ = some (.int .i64 n2) := x2_w4.cell rfl
  have lx2 := x2_w4.lt
  go_wp2_with fail
  refine (Hi.out w4 B_w4).mono ?_
  intro e w5 h
  obtain ⟨r2, Hr2, rfl, hbx0⟩ := of_retB' h
  clear h
  have hbx : Below w4.heap.size w4 w5 := hbx0
  clear hbx0
  clear cx00 cx01 cx02 lx0 cx10 cx11 cx12 cx13 lx1 cx20 cx21 lx2
  have x0_w5 := x0_w4.below hbx
  have x1_w5 := x1_w4.below hbx
  have x2_w5 := x2_w4.below hbx
  have B_w5 := B_w4.trans (hbx.mono B_w4.size)
  clear x0_w4 x1_w4 x2_w4 B_w4 hbx
  cases r2
  · go_wp2_with fail
    go_ret
    exact ⟨_, .inr (.inl ⟨hy.out, no_of Hr2.out, rfl⟩), rfl, B_w5⟩
  · have hy2 := Lib.hid (yes_of Hr2.out)
    clear Hr2
    go_wp2_with fail
    go_ret
    exact ⟨_, .inr (.inr ⟨hy.out, hy2.out, rfl⟩), rfl, B_w5⟩
end Go.Proofs.YtdmiekaeodcehaaGreat

namespace Go.Proofs.YtdmiekaeodcehaaGreat
open Go.RowKit
namespace Li
def bad (M : List Ty) (x : Int) : Bool := decide (x < 0 ∨ (M.length : Int) ≤ x)
end Li
end Go.Proofs.YtdmiekaeodcehaaGreat

namespace Go.Proofs.YtdmiekaeodcehaaGreat
open Go.RowKit

structure Phi where
  P : Value → Nat → Nat → World → Prop
  up : ∀ {v x y w w'}, P v x y w → Below w.heap.size w w' → P v x y w'
def PhiL (l : List (Nat × Phi)) (j : Nat) (v : Value) (x y : Nat) (w : World) : Prop := ∃ p, l.find? (fun p => p.1 == j) = some p ∧ p.2.P v x y w
theorem phiL_below {l : List (Nat × Phi)} : ∀ j v x y w w', PhiL l j v x y w → Below w.heap.size w w' → PhiL l j v x y w' := fun _ _ _ _ _ _ ⟨p, h1, h2⟩ hb => ⟨p, h1, p.2.up h2 hb⟩
theorem phiL_at {l : List (Nat × Phi)} {j : Nat} {p : Nat × Phi} {v : Value} {x y : Nat} {w : World} (h : l.find? (fun p => p.1 == j) = some p) (hp : PhiL l j v x y w) : p.2.P v x y w := by
  obtain ⟨q, h1, h2⟩ := hp
  rw [h] at h1; cases h1; exact h2
theorem phiL_mk {l : List (Nat × Phi)} {j : Nat} {p : Nat × Phi} {v : Value} {x y : Nat} {w : World} (h : l.find? (fun p => p.1 == j) = some p) (hp : p.2.P v x y w) : PhiL l j v x y w := ⟨p, h, hp⟩
def phiBlk (cs : Array Value) (T : TypeId) : Phi := ⟨fun v x y w => v = .pointer (some ⟨x, 0, none⟩) ∧ x < y ∧ Blk w x cs T, fun ⟨e, h1, h2⟩ hb => ⟨e, h1, h2.below hb⟩⟩
def phiSl2 (r : Rp Ty) (F : Nat → Prop) (l : List Ty) : Phi := ⟨fun v x y w => ∃ a c, v = .slice a l.length c ∧ IsSl2 r (fun q => x ≤ q ∧ q < y) F w (.slice a l.length c) l, fun ⟨a, c, e, h⟩ hb => ⟨a, c, e, h.bel hb⟩⟩
def phiHead (F : Nat → Prop) (o : Option Ty) : Phi := ⟨fun v _ _ w => ∃ s b, v = .tuple #[.agg #[s, b], .bool o.isSome] ∧ IsTy F w s b (o.getD tyZ), fun ⟨s, b, e, h⟩ hb => ⟨s, b, e, h.bel hb⟩⟩
def phiTyF (F : Nat → Prop) (u : Ty) : Phi := ⟨fun v _ _ w => ∃ s b, v = .agg #[s, b] ∧ IsTy F w s b u, fun ⟨s, b, e, h⟩ hb => ⟨s, b, e, h.bel hb⟩⟩
def phiV (u : Value) : Phi := ⟨fun v _ _ _ => v = u, fun h _ => h⟩
theorem upd_self {u : Nat → Value} {k : Nat} {v : Value} (h : u k = v) : ∃ u', u = upd u' k v := ⟨u, funext fun j => by
  unfold upd
  split
  · rename_i hj; rw [hj]; exact h
  · rfl⟩
end Go.Proofs.YtdmiekaeodcehaaGreat

namespace Go.Proofs.YtdmiekaeodcehaaGreat
open Go.RowKit

def TyPostE (F : Nat → Prop) (o : Option Ty) (w : World) (e : Ending) (w' : World) : Prop := ∃ s b, e = .returned (.tuple #[.agg #[s, b], .int .i64 (if o.isSome then 0 else 10)]) ∧ IsTy F w' s b (o.getD tyZ) ∧ Below w.heap.size w w'

theorem IsTy.trueb {F : Nat → Prop} {w : World} {s b : Value} {t : Ty} (h : IsTy F w s b t) : IsTy (fun _ => True) w s b t := h.weaken fun _ _ _ => trivial
set_option maxRecDepth 100000 in
set_option maxHeartbeats 4000000 in
theorem TypeOf_k {F : Nat → Prop} {w : World} {b : Int} {cv mv xv tb tk ti ta : Value} {C M X : List Ty} {t : Tm} (hF : ∀ q, F q → q < w.heap.size) (hc : IsSl rpTy F w cv C) (hm : IsSl rpTy F w mv M) (hx : IsSl2 rpTy (fun _ => True) F w xv X) (ht : IsTm F w tb tk ti ta t) (hi : t.index ≤ 9223372036854775807)
    (hl : X.length ≤ 50000) (hz : t.full ≤ 40000) :
    Calls Tryz.prog 57 #[.agg #[.int .i64 b, cv, mv], xv, .agg #[tb, tk, ti, ta]] w (TyPostE (fun q => w.heap.size ≤ q) ((headTy C M (X ++ t.binds) t.kind t.index).map fun h => .mk t.binds h.base) w) := by
  obtain ⟨ca, cc, rfl⟩ := hc.shape
  obtain ⟨ma, mc, rfl⟩ := hm.shape
  obtain ⟨xa, xc, rfl⟩ := hx.shape
  have Hc := Lib.hid hc; have Hm := Lib.hid hm; have Hx := Lib.hid hx; have hF := Lib.hid hF
  clear hc hm hx
  obtain ⟨_, _, hbi, _⟩ := ht.inv
  have hbz : Ty.sizes t.binds ≤ 40000 := by cases t; rw [Tm.full_eq] at hz; simp only [Tm.binds]; omega
  obtain ⟨t_pa, t_pc, t_qa, t_qc, rfl, rfl, rfl, rfl⟩ := ht.shape
  obtain ⟨t_n, ht_n⟩ : ∃ x, t.binds.length = x := ⟨_, rfl⟩
  obtain ⟨t_m, ht_m⟩ : ∃ x, t.args.length = x := ⟨_, rfl⟩
  obtain ⟨t_k, ht_k⟩ : ∃ x, t.kind = x := ⟨_, rfl⟩
  obtain ⟨t_i, ht_i⟩ : ∃ x, t.index = x := ⟨_, rfl⟩
  rw [ht_n, ht_m, ht_k, ht_i] at ht ⊢
  have Et_n := Lib.hid ht_n
  have Et_m := Lib.hid ht_m
  have Et_k := Lib.hid ht_k
  have Et_i := Lib.hid ht_i
  clear ht_n ht_m ht_k ht_i
  have Hbi := Lib.hid hbi
  have hlb : X.length + t.binds.length ≤ 100000 := by have := Ty.le_sizes t.binds; omega
  have Hlb := Lib.hid hlb; have Hbz := Lib.hid hbz
  clear hbi hz hbz ht hlb
  have hi : t_i ≤ 9223372036854775807 := by rw [← Et_i.out]; exact hi
  obtain ⟨o, ho⟩ : ∃ o, headTy C M (X ++ t.binds) t_k t_i = o := ⟨_, rfl⟩
  have Ho := Lib.hid ho
  rw [ho]
  clear ho
  rw [← Et_n.out]
  obtain ⟨Y, hY⟩ : ∃ Y, X ++ t.binds = Y := ⟨_, rfl⟩
  have Hw := Lib.hid fun (w' : World) (hb : Below w.heap.size w w') => within_k (Hx.out.bel hb) (IsSl2.of (Hbi.out.bel hb)) Hlb.out
  rw [hY] at Ho Hw
  clear hY
  have Hh := Lib.hid fun (w' : World) (yv : Value) (hb : Below w.heap.size w w') (hy : IsSl2 rpTy (fun _ => True) F w' yv Y) => headType_k (b := b) (fun q hq => Nat.lt_of_lt_of_le (hF.out q hq) hb.size) (Hc.out.bel hb) (Hm.out.bel hb) hy t_k t_i hi
  rw [Ho.out] at Hh
  go_enter Tryz.func57, Tryz.ntmps57
  go_wp2_with fail
  obtain ⟨w3, hw3⟩ : ∃ w3, ((w.alloc (.cells #[.int .i64 b, .slice ca C.length cc, .slice ma M.length mc] 48)).alloc (.cells #[.slice t_pa t.binds.length t_pc, .int .i64 t_k, .int .i64 t_i, .slice t_qa t_m t_qc] 36)).alloc (.cells #[.slice none 0 0, .int .i64 0] 75) = w3 := ⟨_, rfl⟩
  have B_w3 : Below w.heap.size w w3 := by rw [← hw3]; exact (((Below.refl _ _).alloc (Nat.le_refl _) _).alloc (by simp) _).alloc (by simp; omega) _
  have x0_w3 : Blk w3 w.heap.size #[.int .i64 b, .slice ca C.length cc, .slice ma M.length mc] 48 := by rw [← hw3]; exact ((Blk.new _ _ _ rfl).alloc _).alloc _
  have x1_w3 : Blk w3 (w.heap.size + 1) #[.slice t_pa t.binds.length t_pc, .int .i64 t_k, .int .i64 t_i, .slice t_qa t_m t_qc] 36 := by rw [← hw3]; exact (Blk.new _ _ _ (by simp)).alloc _
  have x2_w3 : Blk w3 (w.heap.size + 1 + 1) #[.slice none 0 0, .int .i64 0] 75 := by rw [← hw3]; exact Blk.new _ _ _ (by simp)
  rw [hw3]
  clear hw3
  have hs3 : w.heap.size + 3 ≤ w3.heap.size := x2_w3.lt
  refine wp_region_noPanic (wp_region_need (S := fun w' => w'.cell? ⟨w.heap.size, 0, none⟩ = some (.int .i64 b) ∧ w'.cell? ⟨w.heap.size, 1, none⟩ = some (.slice ca C.length cc) ∧ w'.cell? ⟨w.heap.size, 2, none⟩ = some (.slice ma M.length mc) ∧ w'.cell? ⟨w.heap.size + 1, 0, none⟩ = some (.slice t_pa t.binds.length t_pc) ∧ w'.cell? ⟨w.heap.size + 1, 1, none⟩ = some (.int .i64 t_k) ∧ w'.cell? ⟨w.heap.size + 1, 2, none⟩ = some (.int .i64 t_i) ∧ w'.cell? ⟨w.heap.size + 1, 3, none⟩ = some (.slice t_qa t_m t_qc) ∧ w'.cell? ⟨w.heap.size + 1 + 1, 0, none⟩ = some (.slice none 0 0) ∧ w'.cell? ⟨w.heap.size + 1 + 1, 1, none⟩ = some (.int .i64 0)) (by kernel_rfl) ?_)
  have hS : (w3.drew).cell? ⟨w.heap.size, 0, none⟩ = some (.int .i64 b) ∧ (w3.drew).cell? ⟨w.heap.size, 1, none⟩ = some (.slice ca C.length cc) ∧ (w3.drew).cell? ⟨w.heap.size, 2, none⟩ = some (.slice ma M.length mc) ∧ (w3.drew).cell? ⟨w.heap.size + 1, 0, none⟩ = some (.slice t_pa t.binds.length t_pc) ∧ (w3.drew).cell? ⟨w.heap.size + 1, 1, none⟩ = some (.int .i64 t_k) ∧ (w3.drew).cell? ⟨w.heap.size + 1, 2, none⟩ = some (.int .i64 t_i) ∧ (w3.drew).cell? ⟨w.heap.size + 1, 3, none⟩ = some (.slice t_qa t_m t_qc) ∧ (w3.drew).cell? ⟨w.heap.size + 1 + 1, 0, none⟩ = some (.slice none 0 0) ∧ (w3.drew).cell? ⟨w.heap.size + 1 + 1, 1, none⟩ = some (.int .i64 0) := ⟨x0_w3.drew.cell rfl, x0_w3.drew.cell rfl, x0_w3.drew.cell rfl, x1_w3.drew.cell rfl, x1_w3.drew.cell rfl, x1_w3.drew.cell rfl, x1_w3.drew.cell rfl, x2_w3.drew.cell rfl, x2_w3.drew.cell rfl⟩
  refine wpN_take (i := 0) (v := ?v1) rfl (by kernel_rfl) (fun _ _ _ h => h) hS (Or.inl ⟨by rfl, ?hy1⟩) ?hr1
  case hy1 => (intro wS hSw; (try dsimp only at hSw); go_simp; (try with_reducible rfl))
  try simp only [Act.put, List.setIfInBounds_toArray, List.set_cons_zero, List.set_cons_succ, List.getElem_toArray, List.getElem_cons_zero, List.getElem_cons_succ]
  refine wpN_take (i := 1) (v := ?v2) rfl (by kernel_rfl) (fun _ _ _ h => h) hS (Or.inl ⟨by rfl, ?hy2⟩) ?hr2
  case hy2 => (intro wS hSw; (try dsimp only at hSw); go_simp; (try with_reducible rfl))
  try simp only [Act.put, List.setIfInBounds_toArray, List.set_cons_zero, List.set_cons_succ, List.getElem_toArray, List.getElem_cons_zero, List.getElem_cons_succ]
  refine wpN_take (i := 2) (v := ?v3) rfl (by kernel_rfl) (fun _ _ _ h => h) hS (Or.inl ⟨by rfl, ?hy3⟩) ?hr3
  case hy3 => (intro wS hSw; (try dsimp only at hSw); go_simp; (try with_reducible rfl))
  try simp only [Act.put, List.setIfInBounds_toArray, List.set_cons_zero, List.set_cons_succ, List.getElem_toArray, List.getElem_cons_zero, List.getElem_cons_succ]
  refine wpN_take (i := 3) (v := ?v4) rfl (by kernel_rfl) (fun _ _ _ h => h) hS (Or.inl ⟨by rfl, ?hy4⟩) ?hr4
  case hy4 => (intro wS hSw; (try dsimp only at hSw); go_simp; (try with_reducible rfl))
  try simp only [Act.put, List.setIfInBounds_toArray, List.set_cons_zero, List.set_cons_succ, List.getElem_toArray, List.getElem_cons_zero, List.getElem_cons_succ]
  refine wpN_take (i := 5) (v := ?v5) rfl (by kernel_rfl) (fun _ _ _ h => h) hS (Or.inl ⟨by rfl, ?hy5⟩) ?hr5
  case hy5 => (intro wS hSw; (try dsimp only at hSw); go_simp; (try with_reducible rfl))
  try simp only [Act.put, List.setIfInBounds_toArray, List.set_cons_zero, List.set_cons_succ, List.getElem_toArray, List.getElem_cons_zero, List.getElem_cons_succ]
  refine wpN_take (i := 6) (v := ?v6) rfl (by kernel_rfl) (fun _ _ _ h => h) hS (Or.inl ⟨by rfl, ?hy6⟩) ?hr6
  case hy6 => (intro wS hSw; (try dsimp only at hSw); go_simp; (try with_reducible rfl))
  try simp only [Act.put, List.setIfInBounds_toArray, List.set_cons_zero, List.set_cons_succ, List.getElem_toArray, List.getElem_cons_zero, List.getElem_cons_succ]
  refine wpN_gathersQ [(4, 15), (7, 18), (11, 8), (8, 10), (9, 19), (10, 20)] [8, 9, 10] 2 (PhiL [(4, phiSl2 rpTy F Y), (7, phiHead F o), (11, phiBlk #[.slice none 0 0, .int .i64 0] 75), (8, phiHead F o), (9, phiTyF F (o.getD tyZ)), (10, phiV (.bool o.isSome))]) rfl rfl (by kernel_rfl) phiL_below hS ?gop (by kernel_rfl) (fun _ _ _ _ h => h) ?gpu ?gend
  case gop =>
    intro xG hx uG w' hdG hB' hS'
    obtain ⟨q1, q2, q3, q4, q5, q6, q7, q8, q9⟩ := hS'
    have hbw : Below w3.heap.size w3 w' := (Below.refl _ _).drew.trans hB'
    simp only [List.mem_cons, List.not_mem_nil, or_false] at hx
    rcases hx with rfl | rfl | rfl | rfl | rfl | rfl
    · skip
      clear hdG
      refine wpOp_step (i := 4) rfl (fun K hK => ?_)
      have hK := Lib.hid hK
      simp only [fills, List.foldl, Act.put, List.setIfInBounds_toArray, List.set_cons_zero, List.set_cons_succ, List.getElem_toArray, List.getElem_cons_zero, List.getElem_cons_succ]
      go_simp
      refine (Hw.out _ (B_w3.trans (hbw.mono B_w3.size))).mono ?_
      intro e w6 h
      obtain ⟨_, _, rfl, hT, hb6⟩ := h
      have hKp : Keep (fun _ => True) w' w6 := (Keep.refl _ _).below hb6
      exact hK.out _ _ ⟨_, rfl, phiL_mk rfl ⟨_, _, rfl, hT.weaken (by decide) (fun _ h1 h2 => ⟨h2, h1⟩) fun _ _ h => h⟩, hb6, hKp _ _ _ trivial q1, hKp _ _ _ trivial q2, hKp _ _ _ trivial q3, hKp _ _ _ trivial q4, hKp _ _ _ trivial q5, hKp _ _ _ trivial q6, hKp _ _ _ trivial q7, hKp _ _ _ trivial q8, hKp _ _ _ trivial q9⟩
    · skip
      obtain ⟨x4, y4, g4⟩ := hdG 4 (by simp) (by kernel_rfl)
      obtain ⟨m4_a, m4_c, e4, V4⟩ := phiL_at rfl g4
      obtain ⟨uH4, rfl⟩ := upd_self e4
      clear hdG
      refine wpOp_step (i := 7) rfl (fun K hK => ?_)
      have hK := Lib.hid hK
      simp only [fills, List.foldl, Act.put, List.setIfInBounds_toArray, List.set_cons_zero, List.set_cons_succ, List.getElem_toArray, List.getElem_cons_zero, List.getElem_cons_succ]
      simp only [e4]
      go_simp
      refine (Hh.out _ _ (B_w3.trans (hbw.mono B_w3.size)) (V4.anyRow (by decide))).mono ?_
      intro e w6 h
      obtain ⟨_, _, rfl, hT, hb6⟩ := h
      have hKp : Keep (fun _ => True) w' w6 := (Keep.refl _ _).below hb6
      exact hK.out _ _ ⟨_, rfl, phiL_mk rfl ⟨_, _, rfl, hT⟩, hb6, hKp _ _ _ trivial q1, hKp _ _ _ trivial q2, hKp _ _ _ trivial q3, hKp _ _ _ trivial q4, hKp _ _ _ trivial q5, hKp _ _ _ trivial q6, hKp _ _ _ trivial q7, hKp _ _ _ trivial q8, hKp _ _ _ trivial q9⟩
    · skip
      clear hdG
      refine wpOp_step (i := 11) rfl (fun K hK => ?_)
      have hK := Lib.hid hK
      simp only [fills, List.foldl, Act.put, List.setIfInBounds_toArray, List.set_cons_zero, List.set_cons_succ, List.getElem_toArray, List.getElem_cons_zero, List.getElem_cons_succ]
      go_simp
      have hb6 : Below w'.heap.size w' (w'.alloc (.cells #[.slice none 0 0, .int .i64 0] 75)) := (Below.refl _ _).alloc (Nat.le_refl _) _
      have hKp : Keep (fun _ => True) w' (w'.alloc (.cells #[.slice none 0 0, .int .i64 0] 75)) := (Keep.refl _ _).below hb6
      exact hK.out _ _ ⟨_, rfl, phiL_mk rfl ⟨rfl, by simp, Blk.new _ _ _ rfl⟩, hb6, hKp _ _ _ trivial q1, hKp _ _ _ trivial q2, hKp _ _ _ trivial q3, hKp _ _ _ trivial q4, hKp _ _ _ trivial q5, hKp _ _ _ trivial q6, hKp _ _ _ trivial q7, hKp _ _ _ trivial q8, hKp _ _ _ trivial q9⟩
    · skip
      obtain ⟨x7, y7, g7⟩ := hdG 7 (by simp) (by kernel_rfl)
      obtain ⟨_, _, e7, V7⟩ := phiL_at rfl g7
      obtain ⟨m7_a, m7_c, rfl, rfl⟩ := V7.shape
      obtain ⟨uH7, rfl⟩ := upd_self e7
      clear hdG
      refine wpOp_step (i := 8) rfl (fun K hK => ?_)
      have hK := Lib.hid hK
      simp only [fills, List.foldl, Act.put, List.setIfInBounds_toArray, List.set_cons_zero, List.set_cons_succ, List.getElem_toArray, List.getElem_cons_zero, List.getElem_cons_succ]
      simp only [e7]
      go_simp
      have hb6 : Below w'.heap.size w' w' := Below.refl _ _
      exact hK.out _ _ ⟨_, rfl, phiL_mk rfl ⟨_, _, rfl, V7⟩, hb6, q1, q2, q3, q4, q5, q6, q7, q8, q9⟩
    · skip
      obtain ⟨x8, y8, g8⟩ := hdG 8 (by simp) (by kernel_rfl)
      obtain ⟨_, _, e8, V8⟩ := phiL_at rfl g8
      obtain ⟨m8_a, m8_c, rfl, rfl⟩ := V8.shape
      obtain ⟨uH8, rfl⟩ := upd_self e8
      clear hdG
      refine wpOp_step (i := 9) rfl (fun K hK => ?_)
      have hK := Lib.hid hK
      simp only [fills, List.foldl, Act.put, List.setIfInBounds_toArray, List.set_cons_zero, List.set_cons_succ, List.getElem_toArray, List.getElem_cons_zero, List.getElem_cons_succ]
      simp only [e8]
      go_simp
      have hb6 : Below w'.heap.size w' w' := Below.refl _ _
      exact hK.out _ _ ⟨_, rfl, phiL_mk rfl ⟨_, _, rfl, V8⟩, hb6, q1, q2, q3, q4, q5, q6, q7, q8, q9⟩
    · skip
      obtain ⟨x8, y8, g8⟩ := hdG 8 (by simp) (by kernel_rfl)
      obtain ⟨_, _, e8, V8⟩ := phiL_at rfl g8
      obtain ⟨m8_a, m8_c, rfl, rfl⟩ := V8.shape
      obtain ⟨uH8, rfl⟩ := upd_self e8
      clear hdG
      refine wpOp_step (i := 10) rfl (fun K hK => ?_)
      have hK := Lib.hid hK
      simp only [fills, List.foldl, Act.put, List.setIfInBounds_toArray, List.set_cons_zero, List.set_cons_succ, List.getElem_toArray, List.getElem_cons_zero, List.getElem_cons_succ]
      simp only [e8]
      go_simp
      have hb6 : Below w'.heap.size w' w' := Below.refl _ _
      exact hK.out _ _ ⟨_, rfl, phiL_mk rfl rfl, hb6, q1, q2, q3, q4, q5, q6, q7, q8, q9⟩
  case gpu =>
    intro jG hj uG w' hdG
    simp only [List.mem_cons, List.not_mem_nil, or_false] at hj
    rcases hj with rfl | rfl | rfl
    · skip
      obtain ⟨x7, y7, g7⟩ := hdG 7 (by simp) (by kernel_rfl)
      obtain ⟨_, _, e7, V7⟩ := phiL_at rfl g7
      obtain ⟨m7_a, m7_c, rfl, rfl⟩ := V7.shape
      obtain ⟨uH7, rfl⟩ := upd_self e7
      refine ⟨_, .tuple #[.agg #[.slice m7_a (o.getD tyZ).args.length m7_c, .int .i64 (o.getD tyZ).base], .bool o.isSome], rfl, Or.inl ⟨by rfl, fun wS _ => ?_⟩, fills_put _ _ (by simp) (by simp) (by simp), phiL_mk rfl ⟨_, _, rfl, V7⟩⟩
      simp only [fills, List.foldl, Act.put, List.setIfInBounds_toArray, List.set_cons_zero, List.set_cons_succ, List.getElem_toArray, List.getElem_cons_zero, List.getElem_cons_succ]
      simp only [e7]
      go_simp
      try with_reducible rfl
    · skip
      obtain ⟨x8, y8, g8⟩ := hdG 8 (by simp) (by kernel_rfl)
      obtain ⟨_, _, e8, V8⟩ := phiL_at rfl g8
      obtain ⟨m8_a, m8_c, rfl, rfl⟩ := V8.shape
      obtain ⟨uH8, rfl⟩ := upd_self e8
      refine ⟨_, .agg #[.slice m8_a (o.getD tyZ).args.length m8_c, .int .i64 (o.getD tyZ).base], rfl, Or.inl ⟨by rfl, fun wS _ => ?_⟩, fills_put _ _ (by simp) (by simp) (by simp), phiL_mk rfl ⟨_, _, rfl, V8⟩⟩
      simp only [fills, List.foldl, Act.put, List.setIfInBounds_toArray, List.set_cons_zero, List.set_cons_succ, List.getElem_toArray, List.getElem_cons_zero, List.getElem_cons_succ]
      simp only [e8]
      go_simp
      try with_reducible rfl
    · skip
      obtain ⟨x8, y8, g8⟩ := hdG 8 (by simp) (by kernel_rfl)
      obtain ⟨_, _, e8, V8⟩ := phiL_at rfl g8
      obtain ⟨m8_a, m8_c, rfl, rfl⟩ := V8.shape
      obtain ⟨uH8, rfl⟩ := upd_self e8
      refine ⟨_, (.bool o.isSome), rfl, Or.inl ⟨by rfl, fun wS _ => ?_⟩, fills_put _ _ (by simp) (by simp) (by simp), phiL_mk rfl rfl⟩
      simp only [fills, List.foldl, Act.put, List.setIfInBounds_toArray, List.set_cons_zero, List.set_cons_succ, List.getElem_toArray, List.getElem_cons_zero, List.getElem_cons_succ]
      simp only [e8]
      go_simp
      try with_reducible rfl
  case gend =>
    intro uG loG hiG w' hΦ hB' hS'
    have hbw : Below w3.heap.size w3 w' := (Below.refl _ _).drew.trans hB'
    have hsz : w3.drew.heap.size = w3.heap.size := rfl
    have hsB := B_w3.size
    obtain ⟨g4, n4, m4, o4⟩ := hΦ.1 4 (by simp) rfl
    obtain ⟨m4_a, m4_c, e4, V4⟩ := phiL_at rfl g4
    obtain ⟨g7, n7, m7, o7⟩ := hΦ.1 7 (by simp) rfl
    obtain ⟨_, _, e7, V7⟩ := phiL_at rfl g7
    obtain ⟨m7_a, m7_c, rfl, rfl⟩ := V7.shape
    obtain ⟨g11, n11, m11, o11⟩ := hΦ.1 11 (by simp) rfl
    obtain ⟨e11, r11, Z11⟩ := phiL_at rfl g11
    obtain ⟨g8, n8, m8, o8⟩ := hΦ.1 8 (by simp) rfl
    obtain ⟨_, _, e8, V8⟩ := phiL_at rfl g8
    obtain ⟨m8_a, m8_c, rfl, rfl⟩ := V8.shape
    obtain ⟨g9, n9, m9, o9⟩ := hΦ.1 9 (by simp) rfl
    obtain ⟨_, _, e9, V9⟩ := phiL_at rfl g9
    obtain ⟨h_a, h_c, rfl, rfl⟩ := V9.shape
    obtain ⟨g10, n10, m10, o10⟩ := hΦ.1 10 (by simp) rfl
    have e10 : uG 10 = (.bool o.isSome) := phiL_at rfl g10
    have k4_11 := hΦ.2 4 (by simp) 11 (by simp) rfl rfl (by decide)
    have k7_11 := hΦ.2 7 (by simp) 11 (by simp) rfl rfl (by decide)
    have k8_11 := hΦ.2 8 (by simp) 11 (by simp) rfl rfl (by decide)
    have k9_11 := hΦ.2 9 (by simp) 11 (by simp) rfl rfl (by decide)
    have k10_11 := hΦ.2 10 (by simp) 11 (by simp) rfl rfl (by decide)
    clear hΦ g4 g7 g11 g8 g9 g10
    simp only [fills, List.foldl, Act.put, List.setIfInBounds_toArray, List.set_cons_zero, List.set_cons_succ, List.getElem_toArray, List.getElem_cons_zero, List.getElem_cons_succ]
    rw [e4, e7, e11, e8, e9, e10]
    clear e4 e7 e11 e8 e9 e10
    try rw [hsz] at n4 n7 n11 n8 n9 n10
    generalize loG 11 = p at *
    have U9 := Lib.hid V9
    clear V4 V7 V8 V9 k4_11 k7_11 k8_11 k9_11 k10_11
    have rp_0 : w'.cell? ⟨p, 0, none⟩ = some (.slice none 0 0) := Z11.cell rfl
    have fp_0 := Z11.free 0
    have rp_1 : w'.cell? ⟨p, 1, none⟩ = some (.int .i64 0) := Z11.cell rfl
    have fp_1 := Z11.free 1
    refine wpN_step (i := 12) (by kernel_rfl) rfl (fun K hK => ?_)
    have hK := Lib.hid hK
    simp only [Act.put, List.setIfInBounds_toArray, List.set_cons_zero, List.set_cons_succ, List.getElem_toArray, List.getElem_cons_zero, List.getElem_cons_succ]
    go_simp
    refine hK.out.out _ _ (fun h => absurd h (by decide)) ?_
    refine wpN_step (i := 13) (by kernel_rfl) rfl (fun K hK => ?_)
    have hK := Lib.hid hK
    simp only [Act.put, List.setIfInBounds_toArray, List.set_cons_zero, List.set_cons_succ, List.getElem_toArray, List.getElem_cons_zero, List.getElem_cons_succ]
    go_simp
    refine hK.out.out _ _ (fun h => absurd h (by decide)) ?_
    refine wpN_done (by kernel_rfl) ?_
    refine NoPanic.normal ?_
    obtain ⟨w8, hw8⟩ : ∃ x, ((w'.setCell ⟨p, 0, none⟩ (.slice h_a (o.getD tyZ).args.length h_c)).setCell ⟨p, 1, none⟩ (.int .i64 (o.getD tyZ).base)) = x := ⟨_, rfl⟩
    rw [hw8]
    have Lx0 := x0_w3.lt
    have Lx1 := x1_w3.lt
    have Lx2 := x2_w3.lt
    have B6 := B_w3.trans (hbw.mono B_w3.size)
    have x0_w8 : Blk w8 (w.heap.size) #[.int .i64 b, .slice ca C.length cc, .slice ma M.length mc] 48 := by rw [← hw8]; exact ((x0_w3.below hbw).far _ _ (by simp; omega)).far _ _ (by simp; omega)
    have x1_w8 : Blk w8 (w.heap.size + 1) #[.slice t_pa t.binds.length t_pc, .int .i64 t_k, .int .i64 t_i, .slice t_qa t_m t_qc] 36 := by rw [← hw8]; exact ((x1_w3.below hbw).far _ _ (by simp; omega)).far _ _ (by simp; omega)
    have x2_w8 : Blk w8 (w.heap.size + 1 + 1) #[.slice none 0 0, .int .i64 0] 75 := by rw [← hw8]; exact ((x2_w3.below hbw).far _ _ (by simp; omega)).far _ _ (by simp; omega)
    have yp_w8 : Blk w8 p #[.slice h_a (o.getD tyZ).args.length h_c, .int .i64 (o.getD tyZ).base] 75 := by rw [← hw8]; exact ((Z11).set 0 _).set 1 _
    have np : w3.heap.size ≤ p := n11
    have KU : Keep (fun z => z ≠ p) w' w8 := by rw [← hw8]; exact ((Keep.refl _ _).setCell _ _ (by simp)).setCell _ _ (by simp)
    have KT : Keep (fun z => z < w3.heap.size) w3 w8 := by rw [← hw8]; exact (((Keep.refl _ _).below hbw).setCell _ _ (by simp; omega)).setCell _ _ (by simp; omega)
    have B_w8 : Below w.heap.size w w8 := by rw [← hw8]; exact ((B6).setCell (by simp; omega) _).setCell (by simp; omega) _
    have KF : Keep F w' w8 := by rw [← hw8]; exact ((Keep.refl _ _).setCell _ _ (fun h => by have := hF.out _ h; simp at this; omega)).setCell _ _ (fun h => by have := hF.out _ h; simp at this; omega)
    have h_w8 := Lib.hid (U9.out.keep KF)
    clear hw8 KU KT KF U9 x0_w3 x1_w3 x2_w3 B_w3 Z11 rp_0 fp_0 rp_1 fp_1 Lx0 Lx1 Lx2 hbw hB' B6 hS hS' hsz hsB n4 n7 n11 n8 n9 n10 m4 m7 m11 m8 m9 m10 o4 o7 o11 o8 o9 o10 r11
    have hsp : w.heap.size + 3 ≤ p := by omega
    cases hs : o.isSome
    · have ho : o = none := by simpa using hs
      subst ho
      simp only [Option.getD_none, tyZ, Ty.args, Ty.base, List.length_nil, Option.map_none] at *
      have cx20 : w8.cell? ⟨w.heap.size + 1 + 1, 0, none⟩ = some (.slice none 0 0) := x2_w8.cell rfl
      have cx21 : w8.cell? ⟨w.heap.size + 1 + 1, 1, none⟩ = some (.int .i64 0) := x2_w8.cell rfl
      have lx2 := x2_w8.lt
      have cyp0 : w8.cell? ⟨p, 0, none⟩ = some (.slice h_a 0 h_c) := yp_w8.cell rfl
      have cyp1 : w8.cell? ⟨p, 1, none⟩ = some (.int .i64 0) := yp_w8.cell rfl
      have lyp := yp_w8.lt
      have f0 := x2_w8.free 0
      have f1 := x2_w8.free 1
      go_wp2_with fail
      have z0 := (x2_w8.set 0 (.slice none 0 0)).cell (i := 0) (v := .slice none 0 0) rfl
      have z1 := ((x2_w8.set 0 (.slice none 0 0)).set 1 (.int .i64 0)).cell (i := 1) (v := .int .i64 0) rfl
      refine bodyPost_ret (v := .tuple #[.agg #[.slice none 0 0, .int .i64 0], .int .i64 10]) (by first | simp [results, Tryz.results57, go_sem, cx20, cx21] | simp [results, Tryz.results57, go_sem, z0, z1]) rfl ?_
      first
      | exact ⟨_, _, rfl, isTy_zero _ _, (B_w8.setCell (by simp; omega) _).setCell (by simp; omega) _⟩
      | exact ⟨_, _, rfl, isTy_zero _ _, B_w8⟩
    · obtain ⟨t0, rfl⟩ := Option.isSome_iff_exists.1 hs
      simp only [Option.getD_some, Option.map_some] at *
      obtain ⟨d0, hd0⟩ : ∃ d0, t0.base = d0 := ⟨_, rfl⟩
      obtain ⟨n0, hn0⟩ : ∃ n0, t0.args.length = n0 := ⟨_, rfl⟩
      rw [hd0, hn0] at yp_w8 h_w8
      rw [hd0, hn0]
      have Hd0 := Lib.hid hd0
      clear hd0 hn0 Ho Hh Hw hs
      have Hbi8 := Lib.hid (Hbi.out.keep ((Keep.refl _ _).below B_w8))
      have hp8 : w.heap.size + 3 ≤ w8.heap.size := by have := yp_w8.lt; omega
      have cx10 : w8.cell? ⟨w.heap.size + 1, 0, none⟩ = some (.slice t_pa t.binds.length t_pc) := x1_w8.cell rfl
      have cx11 : w8.cell? ⟨w.heap.size + 1, 1, none⟩ = some (.int .i64 t_k) := x1_w8.cell rfl
      have cx12 : w8.cell? ⟨w.heap.size + 1, 2, none⟩ = some (.int .i64 t_i) := x1_w8.cell rfl
      have cx13 : w8.cell? ⟨w.heap.size + 1, 3, none⟩ = some (.slice t_qa t_m t_qc) := x1_w8.cell rfl
      have lx1 := x1_w8.lt
      have cyp0 : w8.cell? ⟨p, 0, none⟩ = some (.slice h_a n0 h_c) := yp_w8.cell rfl
      have cyp1 : w8.cell? ⟨p, 1, none⟩ = some (.int .i64 d0) := yp_w8.cell rfl
      have lyp := yp_w8.lt
      go_wp2_with fail
      refine (of_k d0 Hbi8.out (by have := Hbz.out; omega)).mono ?_
      rintro e w9 ⟨s9, b9, rfl, hT, hbx0⟩
      have hbx : Below w8.heap.size w8 w9 := hbx0
      clear hbx0
      clear cx10 cx11 cx12 cx13 lx1 cyp0 cyp1 lyp
      have x0_w9 := x0_w8.below hbx
      have x1_w9 := x1_w8.below hbx
      have x2_w9 := x2_w8.below hbx
      have yp_w9 := yp_w8.below hbx
      have h_w9 := Lib.hid (h_w8.out.bel hbx)
      have B_w9 := B_w8.trans (hbx.mono B_w8.size)
      clear x0_w8 x1_w8 x2_w8 yp_w8 h_w8 B_w8 hbx
      obtain ⟨a9, c9, rfl, rfl⟩ := hT.shape
      simp only [Ty.args, Ty.base] at hT ⊢
      have hs8 := B_w9.size
      have HT := Lib.hid (hT.weaken (F' := fun q => w.heap.size + 3 ≤ q) fun q _ h => by omega)
      clear hT
      have cx20 : w9.cell? ⟨w.heap.size + 1 + 1, 0, none⟩ = some (.slice none 0 0) := x2_w9.cell rfl
      have cx21 : w9.cell? ⟨w.heap.size + 1 + 1, 1, none⟩ = some (.int .i64 0) := x2_w9.cell rfl
      have lx2 := x2_w9.lt
      have f0 := x2_w9.free 0
      have f1 := x2_w9.free 1
      go_wp2_with fail
      have z0_0 := ((x2_w9).set 0 (.slice a9 t.binds.length c9)).cell (i := 0) (v := .slice a9 t.binds.length c9) rfl
      have z0_1 := (((x2_w9).set 0 (.slice a9 t.binds.length c9)).set 1 (.int .i64 d0)).cell (i := 0) (v := .slice a9 t.binds.length c9) rfl
      have z1_1 := (((x2_w9).set 0 (.slice a9 t.binds.length c9)).set 1 (.int .i64 d0)).cell (i := 1) (v := .int .i64 d0) rfl
      refine bodyPost_ret (v := .tuple #[.agg #[.slice a9 t.binds.length c9, .int .i64 d0], .int .i64 0]) (by simp [results, Tryz.results57, go_sem, z0_0, z0_1, z1_1]) rfl ?_
      clear z0_0 z0_1 z1_1
      have HT2 : IsTy (fun q => w.heap.size ≤ q) ((w9.setCell ⟨w.heap.size + 1 + 1, 0, none⟩ (.slice a9 t.binds.length c9)).setCell ⟨w.heap.size + 1 + 1, 1, none⟩ (.int .i64 d0)) (.slice a9 t.binds.length c9) (.int .i64 d0) (.mk t.binds d0) :=
        (HT.out.keep (((Keep.refl _ _).setCell ⟨w.heap.size + 1 + 1, 0, none⟩ _ (by simp)).setCell ⟨w.heap.size + 1 + 1, 1, none⟩ _ (by simp))).weaken fun q _ h => by omega
      refine ⟨_, _, rfl, ?_, (B_w9.setCell (by simp; omega) _).setCell (by simp; omega) _⟩
      show IsTy _ _ _ _ (Ty.mk t.binds t0.base)
      rw [Hd0.out]
      exact HT2
end Go.Proofs.YtdmiekaeodcehaaGreat

namespace Go.Proofs.YtdmiekaeodcehaaGreat
open Go.RowKit

end Go.Proofs.YtdmiekaeodcehaaGreat

namespace Go.Proofs.YtdmiekaeodcehaaGreat
open Go.RowKit

def RightTy (bases : Int) (t : Ty) : Prop := t.size ≤ 1000 ∧ t.depth ≤ 60 ∧ Ty.Low bases t

set_option maxRecDepth 100000 in
theorem rightWorld1_k {F : Nat → Prop} {w : World} {s d : Value} {t : Ty} {b : Int} {B : Nat} (ht : IsTy F w s d t) (hz : t.size ≤ 400000) (hB : w.cell? ⟨B, 0, none⟩ = some (.int .i64 b)) :
    Calls Tryz.prog 98 #[.agg #[s, d], .pointer (some ⟨B, 0, none⟩)] w (RetB (¬ RightTy b t) w) := by
  have Hr := Lib.hid fun (w' : World) (hb : Below w.heap.size w w') => right_k (ht.bel hb) b (by omega)
  obtain ⟨a, c, rfl, rfl⟩ := ht.shape
  clear ht
  obtain ⟨n1, hn1⟩ : ∃ n, t.args.length = n := ⟨_, rfl⟩
  obtain ⟨n2, hn2⟩ : ∃ n, t.base = n := ⟨_, rfl⟩
  rw [hn1, hn2] at Hr ⊢
  clear hn1 hn2
  have hl := Keep.lt hB
  go_enter Tryz.func98, Tryz.ntmps98
  go_wp2_with fail
  have hb1 : Below w.heap.size w (w.alloc (.cells #[.slice a n1 c, .int .i64 n2] 75)) := (Below.refl _ _).alloc (Nat.le_refl _) _
  refine (Hr.out _ hb1).mono ?_
  intro e w2 h
  obtain ⟨r, Hq, rfl, hb2⟩ := of_retB' h
  clear h
  go_wp2_with fail
  go_ret
  exact ⟨_, by have := Hq.out; unfold RightTy; cases r <;> simp_all, rfl, hb1.trans (hb2.mono hb1.size)⟩

set_option maxRecDepth 100000 in
theorem indexFunc_k {G F : Nat → Prop} {w : World} {v : Value} {l : List Ty} {b : Int} {B : Nat} (h : IsSl2 rpTy G F w v l) (hz : ∀ t ∈ l, t.size ≤ 400000) (hB : w.cell? ⟨B, 0, none⟩ = some (.int .i64 b)) :
    Calls Tryz.prog 123 #[v, .func (.func 98) #[] #[.pointer (some ⟨B, 0, none⟩)]] w fun e w' => ∃ i : Int, Hid (0 ≤ i ↔ ∃ t ∈ l, ¬ RightTy b t) ∧ e = .returned (.int .i64 i) ∧ Below w.heap.size w w' := by
  obtain ⟨a, c, rfl⟩ := h.shape
  have Hat := Lib.hid (sl_at h)
  have hl : (l.length : Int) ≤ 9223372036854775807 := by obtain ⟨_, _, _, _, _, _, hm, _⟩ := h; unfold maxLen at hm; omega
  clear h
  have Hz := Lib.hid hz; clear hz
  go_enter Tryz.func123, Tryz.ntmps123
  go_wp2_with fail
  go_loopw [5, 8] (fun _ i wr => ∃ k : Nat, i = .int .i64 k ∧ k ≤ l.length ∧ Hid (∀ m (h : m < l.length), m < k → RightTy b l[m]) ∧ Below w.heap.size w wr) (fun _ i _ => l.length - (intOf i).toNat)
  case atStart => exact ⟨0, rfl, by omega, fun m _ h => absurd h (by omega), Below.refl _ _⟩
  case round =>
    obtain ⟨k, rfl, hk, hrel, hb⟩ := hrel
    by_cases hlt : k < l.length
    · obtain ⟨bl, off, A, N, C, Bb, rfl, _, e1, e2, hT⟩ := Hat.out k hlt
      have hkx : Keep (fun _ => True) w wr := (Keep.refl _ _).below hb
      have e1 := hkx _ _ _ trivial e1
      have e2 := hkx _ _ _ trivial e2
      have HT := Lib.hid (hT.bel hb); clear hT
      have i1 : (k : Int) < (l.length : Int) := by omega
      have HB := Lib.hid (hkx _ _ _ trivial hB)
      clear hkx
      go_wp2_with fail
      refine (rightWorld1_k HT.out (Hz.out _ (List.getElem_mem hlt)) HB.out).mono ?_
      intro e w2 h
      obtain ⟨r, Hq, rfl, hb2⟩ := of_retB' h
      clear h e1 e2
      cases r
      · have Hq2 := Lib.hid (no_of Hq.out)
        go_wp2_with fail
        go_roundw
        case rel => exact ⟨k + 1, by go_num, by omega, fun m h hm => by
          by_cases hmk : m < k
          · exact hrel.out m h hmk
          · obtain rfl : m = k := by omega
            exact Classical.not_not.1 Hq2.out, hb.trans (hb2.mono hb.size)⟩
        case measure => simp [intOf]; omega
      · have Hq2 := Lib.hid (yes_of Hq.out)
        go_wp2_with fail
        go_ret
        exact ⟨_, ⟨fun _ => ⟨_, List.getElem_mem hlt, Hq2.out⟩, fun _ => by omega⟩, rfl, hb.trans (hb2.mono hb.size)⟩
    · go_wp2_with fail
      go_ret
      refine ⟨_, ⟨fun h => absurd h (by omega), fun ⟨t, ht, hn⟩ => ?_⟩, rfl, hb⟩
      obtain ⟨m, hm, rfl⟩ := List.getElem_of_mem ht
      exact absurd (hrel.out m hm (by omega)) hn

set_option maxRecDepth 100000 in
theorem containsFunc_k {G F : Nat → Prop} {w : World} {v : Value} {l : List Ty} {b : Int} {B : Nat} (h : IsSl2 rpTy G F w v l) (hz : ∀ t ∈ l, t.size ≤ 400000) (hB : w.cell? ⟨B, 0, none⟩ = some (.int .i64 b)) :
    Calls Tryz.prog 97 #[v, .func (.func 98) #[] #[.pointer (some ⟨B, 0, none⟩)]] w (RetB (∃ t ∈ l, ¬ RightTy b t) w) := by
  have Hi := Lib.hid (indexFunc_k h hz hB)
  obtain ⟨a, c, rfl⟩ := h.shape
  clear h hz hB
  go_enter Tryz.func97, Tryz.ntmps97
  go_wp2_with fail
  refine Hi.out.mono ?_
  rintro e w1 ⟨i, hi, rfl, hb⟩
  go_wp2_with fail
  go_ret
  exact ⟨_, by rw [← hi.out]; simp, rfl, hb⟩

def RightWd (b : Int) (C M : List Ty) : Prop := C.length + M.length ≤ 1000 ∧ ∀ t ∈ C ++ M, RightTy b t

set_option maxRecDepth 100000 in
set_option maxHeartbeats 1000000 in
theorem RightWorld_k {F : Nat → Prop} {w : World} {b : Int} {cv mv : Value} {C M : List Ty} (hc : IsSl rpTy F w cv C) (hm : IsSl rpTy F w mv M) (hz : ∀ t ∈ C ++ M, t.size ≤ 400000) :
    Calls Tryz.prog 55 #[.agg #[.int .i64 b, cv, mv]] w (RetB (RightWd b C M) w) := by
  obtain ⟨ca, cc, rfl⟩ := hc.shape
  obtain ⟨ma, mc, rfl⟩ := hm.shape
  have hlc : (C.length : Int) ≤ 9223372036854775807 := by obtain ⟨_, _, _, _, _, _, h, _⟩ := hc; unfold maxLen at h; omega
  have hlm : (M.length : Int) ≤ 9223372036854775807 := by obtain ⟨_, _, _, _, _, _, h, _⟩ := hm; unfold maxLen at h; omega
  have Hc := Lib.hid hc; have Hm := Lib.hid hm; have Hz := Lib.hid hz
  clear hc hm hz
  by_cases g1 : (1000 : Int) < (C.length : Int)
  · skip
    go_enter Tryz.func55, Tryz.ntmps55
    go_wp2_with fail
    go_ret
    exact ⟨false, by unfold RightWd; simp; omega, rfl, (Below.refl _ _).alloc (Nat.le_refl _) _⟩
  have hq : IntKind.i64.wrap (1000 - (C.length : Int)) = 1000 - (C.length : Int) := IntWalk.i64_in _ (by omega)
  by_cases g2 : 1000 - (C.length : Int) < (M.length : Int)
  · skip
    go_enter Tryz.func55, Tryz.ntmps55
    go_wp2_with fail
    go_ret
    exact ⟨false, by unfold RightWd; simp; omega, rfl, (Below.refl _ _).alloc (Nat.le_refl _) _⟩
  go_enter Tryz.func55, Tryz.ntmps55
  go_wp2_with fail
  obtain ⟨w2, hw2⟩ : ∃ w2, (w.alloc (.cells #[.int .i64 b, .slice ca C.length cc, .slice ma M.length mc] 48)).alloc (.cells #[.slice ca C.length cc, .slice ma M.length mc] 32) = w2 := ⟨_, rfl⟩
  have B2 : Below w.heap.size w w2 := by rw [← hw2]; exact ((Below.refl _ _).alloc (Nat.le_refl _) _).alloc (by simp) _
  have x0 : Blk w2 w.heap.size #[.int .i64 b, .slice ca C.length cc, .slice ma M.length mc] 48 := by rw [← hw2]; exact (Blk.new _ _ _ rfl).alloc _
  have x1 : Blk w2 (w.heap.size + 1) #[.slice ca C.length cc, .slice ma M.length mc] 32 := by rw [← hw2]; exact Blk.new _ _ _ (by simp)
  rw [hw2]
  clear hw2
  refine (concat_any2 x1 (IsSl2.of (Hc.out.bel B2)) (IsSl2.of (Hm.out.bel B2)) (by omega)).mono ?_
  rintro e w3 ⟨a3, c3, rfl, hT, hb3⟩
  have HT := Lib.hid hT; clear hT
  have x0' := x0.below hb3
  have B3 := B2.trans (hb3.mono B2.size)
  obtain ⟨Y, hY⟩ : ∃ Y, C ++ M = Y := ⟨_, rfl⟩
  have HY := Lib.hid hY
  rw [hY] at HT Hz ⊢
  clear hY
  go_wp2_with fail
  refine (containsFunc_k HT.out Hz.out (x0'.cell rfl)).mono ?_
  intro e w4 h
  obtain ⟨r, Hq, rfl, hb4⟩ := of_retB' h
  clear h
  go_wp2_with fail
  go_ret
  refine ⟨_, ?_, rfl, B3.trans (hb4.mono B3.size)⟩
  have h2 : (r = true ↔ ∃ t ∈ Y, ¬ RightTy b t) := Hq.out
  have h3 : C.length + M.length ≤ 1000 := by omega
  unfold RightWd
  rw [HY.out]
  cases r
  · simp only [Bool.not_false, true_iff]
    refine ⟨h3, fun t ht => Classical.not_not.1 fun hn => ?_⟩
    exact absurd (h2.2 ⟨t, ht, hn⟩) (by simp)
  · simp only [Bool.not_true, Bool.false_eq_true, false_iff]
    rintro ⟨_, h⟩
    obtain ⟨t, ht, hn⟩ := h2.1 rfl
    exact hn (h t ht)
end Go.Proofs.YtdmiekaeodcehaaGreat

namespace Go.Proofs.YtdmiekaeodcehaaGreat
open Go.RowKit

end Go.Proofs.YtdmiekaeodcehaaGreat

namespace Go.Proofs.YtdmiekaeodcehaaGreat
open Go.RowKit

section
variable {w : World} {b : Int} {cv mv xv tb tk ti ta s ub : Value} {C M X : List Ty} {t : Tm} {u : Ty}
theorem IsSl.low {α : Type} {r : Rp α} {v : Value} {l : List α} (hn : 0 < r.n) (h : IsSl r (fun _ => True) w v l) : IsSl r (fun q => q < w.heap.size) w v l := h.weaken hn fun _ hq _ => hq
theorem TyPostE.true {F : Nat → Prop} {o : Option Ty} {e : Ending} {w' : World} (h : TyPostE F o w e w') : TyPostE (fun _ => True) o w e w' := by
  obtain ⟨s, b, h1, h2, h3⟩ := h
  exact ⟨s, b, h1, h2.trueb, h3⟩
theorem HeadPost.true {F : Nat → Prop} {o : Option Ty} {e : Ending} {w' : World} (h : HeadPost F o w e w') : HeadPost (fun _ => True) o w e w' := by
  obtain ⟨s, b, h1, h2, h3⟩ := h
  exact ⟨s, b, h1, h2.trueb, h3⟩
theorem Check_kT (hc : IsSl rpTy (fun _ => True) w cv C) (hm : IsSl rpTy (fun _ => True) w mv M) (hx : IsSl rpTy (fun _ => True) w xv X) (ht : IsTm (fun _ => True) w tb tk ti ta t) (hu : IsTy (fun _ => True) w s ub u) (hz : X.length + t.full ≤ 90000) (hfit : t.Fit) :
    Calls Tryz.prog 59 #[.agg #[.int .i64 b, cv, mv], xv, .agg #[tb, tk, ti, ta], .agg #[s, ub]] w (RetCheck C M t X u w) :=
  Check_k (F := fun q => q < w.heap.size) t w _ _ _ _ _ _ _ _ _ X u (fun _ h => h) (hc.low (by decide)) (hm.low (by decide)) ((IsSl2.of (hx.low (by decide))).anyRow (by decide)) (ht.weaken fun _ hq _ => hq) (hu.weaken fun _ hq _ => hq) hz hfit
end
def TyRet (z : Ty) (c : Int) (w : World) (e : Ending) (w' : World) : Prop := ∃ s b, e = .returned (.tuple #[.agg #[s, b], .int .i64 c]) ∧ IsTy (fun _ => True) w' s b z ∧ Below w.heap.size w w'
def HdRet (z : Ty) (k : Bool) (w : World) (e : Ending) (w' : World) : Prop := ∃ s b, e = .returned (.tuple #[.agg #[s, b], .bool k]) ∧ IsTy (fun _ => True) w' s b z ∧ Below w.heap.size w w'
theorem TyPostE.to {o : Option Ty} {z : Ty} {k : Bool} {c : Int} {w : World} {e : Ending} {w' : World} (hk : o.isSome = k) (hz : o.getD tyZ = z) (hc : c = if k then 0 else 10) (h : TyPostE (fun _ => True) o w e w') : TyRet z c w e w' := by
  subst hk hz hc; exact h
theorem HeadPost.to {o : Option Ty} {z : Ty} {k : Bool} {w : World} {e : Ending} {w' : World} (hk : o.isSome = k) (hz : o.getD tyZ = z) (h : HeadPost (fun _ => True) o w e w') : HdRet z k w e w' := by
  subst hk hz; exact h
end Go.Proofs.YtdmiekaeodcehaaGreat

namespace Go.Proofs.YtdmiekaeodcehaaGreat
open Go.RowKit

theorem isTrue {F : Nat → Prop} {w : World} {v : Value} {l : List Ty} (h : IsSl rpTy F w v l) : IsSl rpTy (fun _ => True) w v l := h.weaken (by decide) fun _ _ _ => trivial
theorem slTy9 {m : Mp} {Im : Nat → Nat → Prop} {w : World} {v : Value} {l : List Ty} (h : Rel m Im w v (.sl 2 (eTys l) none)) : IsSl rpTy (fun _ => True) w v l :=
  isTrue (sl_of_rel (r := rpTy) (e := eTy) eTy_len (fun x t hx _ => ty_of_rel t hx) (by decide) (by rw [eTys_map] at h; exact h))
theorem agWorld {m : Mp} {Im : Nat → Nat → Prop} {w : World} {x : Value} {b : Int} {C M : List Ty} (h : Rel m Im w x (.ag [.v (.int .i64 b), .sl 2 (eTys C) none, .sl 2 (eTys M) none])) : ∃ cv mv, x = .agg #[.int .i64 b, cv, mv] ∧ IsSl rpTy (fun _ => True) w cv C ∧ IsSl rpTy (fun _ => True) w mv M := by
  obtain ⟨cs, rfl, hr⟩ := rel_ag.1 h
  match cs, hr with
  | [x, y, z], hr =>
    have := rel_v.1 hr.1; subst this
    exact ⟨y, z, rfl, slTy9 hr.2.1, slTy9 hr.2.2.1⟩
theorem agTy9 {m : Mp} {Im : Nat → Nat → Prop} {w : World} {x : Value} {t : Ty} (h : Rel m Im w x (.ag (eTy t))) : ∃ s b, x = .agg #[s, b] ∧ IsTy (fun _ => True) w s b t := by
  obtain ⟨cs, rfl, hr⟩ := rel_ag.1 h
  obtain ⟨s, b, rfl, ht⟩ := ty_of_rel t hr
  exact ⟨s, b, rfl, ht.weaken fun _ _ _ => trivial⟩
theorem check_d (b : Int) (C M X : List Ty) (t : Tm) (u : Ty) (c : Int) (hc : checkCode C M t X u c) (hz : X.length + t.full ≤ 90000) (hfit : t.Fit) :
    PureC Tryz.prog 59 [.ag [.v (.int .i64 b), .sl 2 (eTys C) none, .sl 2 (eTys M) none], .sl 2 (eTys X) none, .ag (eTm t), .ag (eTy u)] (.v (.int .i64 c)) := by
  refine pure_below (by kernel_rfl) fun m Im w vs hv => ?_
  match vs, hv with
  | [x1, x2, x3, x4], hv =>
    obtain ⟨cv, mv, rfl, h1, h2⟩ := agWorld hv.1
    obtain ⟨b0, k, i, a, rfl, ht⟩ := agTm hv.2.2.1
    obtain ⟨s, ub, rfl, hu⟩ := agTy9 hv.2.2.2.1
    refine (Check_kT h1 h2 (slTy9 hv.2.1) (ht.weaken fun _ _ _ => trivial) hu hz hfit).mono ?_
    rintro e w' ⟨c', hc', rfl, hb⟩
    have := checkCode_uniq hc hc'.out; subst this
    exact ⟨_, rfl, hb, fun _ _ _ => .v _⟩
end Go.Proofs.YtdmiekaeodcehaaGreat

namespace Go.Proofs.YtdmiekaeodcehaaGreat
open Go.RowKit
theorem tworld_d (b : Int) (C M : List Ty) (c : Bool) (hc : c = true ↔ RightWd b C M) (hz : ∀ t ∈ C ++ M, t.size ≤ 400000) : PureC Tryz.prog 55 [.ag [.v (.int .i64 b), .sl 2 (eTys C) none, .sl 2 (eTys M) none]] (.v (.bool c)) := by
  refine pure_below (by kernel_rfl) fun m Im w vs hv => ?_
  match vs, hv with
  | [x1], hv =>
    obtain ⟨cv, mv, rfl, h1, h2⟩ := agWorld hv.1
    refine (RightWorld_k h1 h2 hz).mono ?_
    rintro e w' ⟨c', hc', rfl, hb⟩
    have : c' = c := by rw [Bool.eq_iff_iff, hc', hc]
    subst this
    exact ⟨_, rfl, hb, fun _ _ _ => .v _⟩
def tyOf (C M : List Ty) (t : Tm) : Option Ty := (headTy C M ([] ++ t.binds) t.kind t.index).map fun h => .mk t.binds h.base
theorem ttype_d (b : Int) (C M : List Ty) (t : Tm) (hi : t.index ≤ 9223372036854775807) (hz : t.full ≤ 40000) :
    PureC Tryz.prog 57 [.ag [.v (.int .i64 b), .sl 2 (eTys C) none, .sl 2 (eTys M) none], .v (.slice none 0 0), .ag (eTm t)] (.tu [.ag (eTy ((tyOf C M t).getD tyZ)), .v (.int .i64 (if (tyOf C M t).isSome then 0 else 10))]) := by
  unfold tyOf
  refine pure_below (by kernel_rfl) fun m Im w vs hv => ?_
  match vs, hv with
  | [x1, x2, x3], hv =>
    obtain ⟨cv, mv, rfl, h1, h2⟩ := agWorld hv.1
    have := rel_v.1 hv.2.1; subst this
    obtain ⟨b0, k, i, a, rfl, ht⟩ := agTm hv.2.2.1
    refine (TypeOf_k (F := fun q => q < w.heap.size) (fun _ h => h) (h1.low (by decide)) (h2.low (by decide)) ((IsSl2.of ((isSl_nil rpTy (fun _ => True) w).low (by decide))).anyRow (by decide)) (ht.weaken fun _ hq _ => hq) hi (by simp) hz).mono ?_
    rintro e w' ⟨s, ub, rfl, h3, hb⟩
    exact ⟨_, rfl, hb, fun Im' _ hI => rel_tu.2 ⟨_, rfl, rel_ag.2 ⟨_, rfl, rel_of_ty (fun b o v hq hc => hI b o v hq hc) _ h3⟩, .v _, trivial⟩⟩
theorem tcheck_d (b : Int) (C M : List Ty) (t : Tm) (u : Ty) (c : Int) (hc : checkCode C M t [] u c) (hz : t.full ≤ 90000) (hfit : t.Fit) :
    PureC Tryz.prog 59 [.ag [.v (.int .i64 b), .sl 2 (eTys C) none, .sl 2 (eTys M) none], .v (.slice none 0 0), .ag (eTm t), .ag (eTy u)] (.v (.int .i64 c)) :=
  CallC.vle (check_d b C M [] t u c hc (by simp; omega) hfit) (.cons (VLe.refl _) (.cons (VLe.nil _) (.cons (VLe.refl _) (.cons (VLe.refl _) .nil)))) (VLe.refl _)
end Go.Proofs.YtdmiekaeodcehaaGreat

namespace Go.Proofs.YtdmiekaeodcehaaGreat
open Go.RowKit
def TRF_54 : TI := ⟨3, true, [Value.int IntKind.i64 0, Value.slice none 0 0, Value.slice none 0 0], [(0, 1, false), (1, 1, false), (2, 1, false)], none, 56, 6, none, false⟩
theorem TRF_54_ok : TypOk Tryz.prog 54 TRF_54 := ⟨by kernel_rfl, by kernel_rfl, by kernel_rfl, by kernel_rfl, by kernel_rfl⟩
def TRF_3 : TI := ⟨1, false, [Value.int IntKind.i64 0], [], none, 8, 2, none, false⟩
theorem TRF_3_ok : TypOk Tryz.prog 3 TRF_3 := ⟨by kernel_rfl, by kernel_rfl, by kernel_rfl, by kernel_rfl, by kernel_rfl⟩
def TRF_36 : TI := ⟨4, true, [Value.slice none 0 0, Value.int IntKind.i64 0, Value.int IntKind.i64 0, Value.slice none 0 0], [(0, 1, false), (1, 2, true), (3, 1, false)], none, 64, 6, none, false⟩
theorem TRF_36_ok : TypOk Tryz.prog 36 TRF_36 := ⟨by kernel_rfl, by kernel_rfl, by kernel_rfl, by kernel_rfl, by kernel_rfl⟩
def TRF_29 : TI := ⟨9, true, [Value.slice none 0 0, Value.int IntKind.i64 0, Value.int IntKind.i64 0, Value.slice none 0 0, Value.slice none 0 0, Value.int IntKind.i64 0, Value.int IntKind.i64 0, Value.slice none 0 0, Value.slice none 0 0], [(0, 4, true), (4, 4, true), (8, 1, false)], none, 152, 6, none, false⟩
theorem TRF_29_ok : TypOk Tryz.prog 29 TRF_29 := ⟨by kernel_rfl, by kernel_rfl, by kernel_rfl, by kernel_rfl, by kernel_rfl⟩
def TRF_48 : TI := ⟨3, true, [Value.int IntKind.i64 0, Value.slice none 0 0, Value.slice none 0 0], [(0, 1, false), (1, 1, false), (2, 1, false)], none, 56, 6, none, false⟩
theorem TRF_48_ok : TypOk Tryz.prog 48 TRF_48 := ⟨by kernel_rfl, by kernel_rfl, by kernel_rfl, by kernel_rfl, by kernel_rfl⟩
def TRF_27 : TI := ⟨4, true, [Value.slice none 0 0, Value.int IntKind.i64 0, Value.int IntKind.i64 0, Value.slice none 0 0], [(0, 1, false), (1, 2, true), (3, 1, false)], none, 64, 6, none, false⟩
theorem TRF_27_ok : TypOk Tryz.prog 27 TRF_27 := ⟨by kernel_rfl, by kernel_rfl, by kernel_rfl, by kernel_rfl, by kernel_rfl⟩
def TRF_38 : TI := ⟨9, true, [Value.slice none 0 0, Value.int IntKind.i64 0, Value.int IntKind.i64 0, Value.slice none 0 0, Value.slice none 0 0, Value.int IntKind.i64 0, Value.int IntKind.i64 0, Value.slice none 0 0, Value.slice none 0 0], [(0, 4, true), (4, 4, true), (8, 1, false)], none, 152, 6, none, false⟩
theorem TRF_38_ok : TypOk Tryz.prog 38 TRF_38 := ⟨by kernel_rfl, by kernel_rfl, by kernel_rfl, by kernel_rfl, by kernel_rfl⟩
def TRF_82 : TI := ⟨1, false, [Value.slice none 0 0], [], some 3, 24, 5, none, false⟩
theorem TRF_82_ok : TypOk Tryz.prog 82 TRF_82 := ⟨by kernel_rfl, by kernel_rfl, by kernel_rfl, by kernel_rfl, by kernel_rfl⟩
def TRF_22 : TI := ⟨1, false, [Value.slice none 0 0], [], some 91, 24, 5, none, false⟩
theorem TRF_22_ok : TypOk Tryz.prog 22 TRF_22 := ⟨by kernel_rfl, by kernel_rfl, by kernel_rfl, by kernel_rfl, by kernel_rfl⟩
def TRF_91 : TI := ⟨2, true, [Value.slice none 0 0, Value.int IntKind.i64 0], [(0, 1, false), (1, 1, false)], none, 32, 6, none, false⟩
theorem TRF_91_ok : TypOk Tryz.prog 91 TRF_91 := ⟨by kernel_rfl, by kernel_rfl, by kernel_rfl, by kernel_rfl, by kernel_rfl⟩
def TRF_32 : TI := ⟨1, false, [Value.slice none 0 0], [], some 75, 24, 5, none, false⟩
theorem TRF_32_ok : TypOk Tryz.prog 32 TRF_32 := ⟨by kernel_rfl, by kernel_rfl, by kernel_rfl, by kernel_rfl, by kernel_rfl⟩
def TRF_75 : TI := ⟨2, true, [Value.slice none 0 0, Value.int IntKind.i64 0], [(0, 1, false), (1, 1, false)], none, 32, 6, none, false⟩
theorem TRF_75_ok : TypOk Tryz.prog 75 TRF_75 := ⟨by kernel_rfl, by kernel_rfl, by kernel_rfl, by kernel_rfl, by kernel_rfl⟩
def TRF_34 : TI := ⟨1, false, [Value.slice none 0 0], [], some 36, 24, 5, none, false⟩
theorem TRF_34_ok : TypOk Tryz.prog 34 TRF_34 := ⟨by kernel_rfl, by kernel_rfl, by kernel_rfl, by kernel_rfl, by kernel_rfl⟩
def TRF_25 : TI := ⟨1, false, [Value.slice none 0 0], [], some 27, 24, 5, none, false⟩
theorem TRF_25_ok : TypOk Tryz.prog 25 TRF_25 := ⟨by kernel_rfl, by kernel_rfl, by kernel_rfl, by kernel_rfl, by kernel_rfl⟩
def TRF_39 : TI := ⟨1, false, [Value.int IntKind.i64 0], [], none, 8, 2, none, false⟩
theorem TRF_39_ok : TypOk Tryz.prog 39 TRF_39 := ⟨by kernel_rfl, by kernel_rfl, by kernel_rfl, by kernel_rfl, by kernel_rfl⟩
def TRF_115 : TI := ⟨1, false, [Value.nilFunc], [], none, 8, 8, none, false⟩
theorem TRF_115_ok : TypOk Tryz.prog 115 TRF_115 := ⟨by kernel_rfl, by kernel_rfl, by kernel_rfl, by kernel_rfl, by kernel_rfl⟩
def TRF_33 : TI := ⟨2, true, [Value.int IntKind.i64 0, Value.int IntKind.i64 0], [(0, 1, false), (1, 1, false)], none, 16, 6, none, true⟩
theorem TRF_33_ok : TypOk Tryz.prog 33 TRF_33 := ⟨by kernel_rfl, by kernel_rfl, by kernel_rfl, by kernel_rfl, by kernel_rfl⟩
def TRF_24 : TI := ⟨2, true, [Value.int IntKind.i64 0, Value.int IntKind.i64 0], [(0, 1, false), (1, 1, false)], none, 16, 6, none, true⟩
theorem TRF_24_ok : TypOk Tryz.prog 24 TRF_24 := ⟨by kernel_rfl, by kernel_rfl, by kernel_rfl, by kernel_rfl, by kernel_rfl⟩
def TRF : List (Nat × TI) := [(54, TRF_54), (3, TRF_3), (36, TRF_36), (29, TRF_29), (48, TRF_48), (27, TRF_27), (38, TRF_38), (82, TRF_82), (22, TRF_22), (91, TRF_91), (32, TRF_32), (75, TRF_75), (34, TRF_34), (25, TRF_25), (39, TRF_39), (115, TRF_115), (33, TRF_33), (24, TRF_24)]
theorem TRF_ok : TabOk Tryz.prog TRF := (((((((((((((((((((TabOk.nil _).cons TRF_24_ok).cons TRF_33_ok).cons TRF_115_ok).cons TRF_39_ok).cons TRF_25_ok).cons TRF_34_ok).cons TRF_75_ok).cons TRF_32_ok).cons TRF_91_ok).cons TRF_22_ok).cons TRF_82_ok).cons TRF_38_ok).cons TRF_27_ok).cons TRF_48_ok).cons TRF_29_ok).cons TRF_36_ok).cons TRF_3_ok).cons TRF_54_ok)
namespace Ru
structure Good (b : Int) (C : List Ty) (p : Li.Pr) : Prop where
  w : RightWd b C p.m
  l : Li.rt p.l = true
  r : Li.rt p.r = true
  u : ∃ u, tyOf C p.m p.l = some u ∧ u.args = [] ∧ IsOf C p.m p.l [] u ∧ IsOf C p.m p.r [] u
end Ru
theorem ruclos_d (b : Int) (C M : List Ty) (u : Ty) (t : Tm) (c : Int) (hc : checkCode C M t [] u c) (hz : t.full ≤ 90000) (hf : t.Fit) :
  CallC Tryz.prog 58 [.ag (eTm t), .p 10 0, .p 34 0] [(.c 10 0, .v (.int .i64 b)), (.c 10 1, .sl 2 (eTys C) none), (.c 10 2, .sl 2 (eTys M) none), (.c 34 0, .sl 2 (eTys u.args) none), (.c 34 1, .v (.int .i64 u.base))] [(.c 10 0, .v (.int .i64 b)), (.c 10 1, .sl 2 (eTys C) none), (.c 10 2, .sl 2 (eTys M) none), (.c 34 0, .sl 2 (eTys u.args) none), (.c 34 1, .v (.int .i64 u.base))] (.v (.bool (decide (c = 0)))) := by
 have h := tcheck_d b C M t u c hc hz hf
 rw [eTm_eq, eTy_eq] at h
 rw [eTm_eq]
 refine calldw 35 10 [ResultVar.tmp 4] TRF_ok Tryz.func58 rfl Tryz.ntmps58 rfl fun cx hnt hn0 => ?_
 ·skip
  refine dw_seq ?_; refine dwk [] TRF_ok hnt fun K hK => ?_; refine hK _ _ ?_; clear hK K; refine dw_seq ?_; refine dwk [(9, .v (.bool (decide (c = 0))))] TRF_ok hnt fun K hK => ?_; refine dcl (h) ?_; refine And.intro (VLe.of_eq (by by_cases h : c = 0 <;> simp [h])) ?_; refine hK _ _ ?_; clear hK K; refine dw_ret ?_
  exact reta rfl
theorem checkYes {C M : List Ty} {t : Tm} {u : Ty} (h1 : Li.rt t = true) (h2 : IsOf C M t [] u) : checkCode C M t [] u 0 := by
  unfold Li.rt at h1; rw [decide_eq_true_eq] at h1
  exact .inr (.inr ⟨h1, h2, rfl⟩)
set_option maxHeartbeats 2000000 in
theorem rutyped0_d (b : Int) (C Mw : List Ty) (p : Li.Pr) (hg : Ru.Good b C p) (hl : p.l.full ≤ 20000 ∧ p.l.Fit) (hr : p.r.full ≤ 20000 ∧ p.r.Fit) (hs : ∀ t ∈ C ++ p.m, t.size ≤ 400000) :
  PureC Tryz.prog 23 [.ag [.v (.int .i64 b), .sl 2 (eTys C) none, .sl 2 (eTys Mw) none], .ag (ePr p)] (.v (.int .i64 0)) := by
 obtain ⟨hw, hL, hR, u, ho, hu, hi1, hi2⟩ := hg
 have hW1 := tworld_d b C p.m true (by simp [hw]) hs
 have r1 := right_d p.l (by omega)
 have r2 := right_d p.r (by omega)
 rw [show decide (p.l.size ≤ 5000 ∧ p.l.depth ≤ 60) = Li.rt p.l from rfl, hL] at r1
 rw [show decide (p.r.size ≤ 5000 ∧ p.r.depth ≤ 60) = Li.rt p.r from rfl, hR] at r2
 have t1 := ttype_d b C p.m p.l (by have := hl.2; generalize p.l = t at this; cases t; exact (Tm.fit_iff.1 this).2.1) (by omega)
 rw [ho] at t1
 simp only [Option.getD_some, Option.isSome_some, if_true] at t1
 have hu0 : u.args.length = 0 := by rw [hu]; rfl
 have k1 := ruclos_d b C p.m u p.l 0 (checkYes hL hi1) (by omega) hl.2
 have k2 := ruclos_d b C p.m u p.r 0 (checkYes hR hi2) (by omega) hr.2
 rw [decide_eq_true rfl] at k1 k2
 rw [ePr_at]
 rw [eTm_eq] at r1 r2 t1 k1 k2
 rw [eTy_eq] at t1
 refine calldw 0 59 [ResultVar.tmp 4] TRF_ok Tryz.func23 rfl Tryz.ntmps23 rfl fun cx hnt hn0 => ?_
 ·skip
  refine dw_seq ?_; refine dwk [] TRF_ok hnt fun K hK => ?_; refine hK _ _ ?_; clear hK K; refine dw_seq ?_; refine dwk [] TRF_ok hnt fun K hK => ?_; refine hK _ _ ?_; clear hK K; refine dw_seq ?_; refine dw_block ?_; refine dw_seq ?_; refine dwk [] TRF_ok hnt fun K hK => ?_; refine dcl (hW1) ?_; refine hK _ _ ?_; clear hK K; refine dw_cond (t := false) rfl ?_; rw [if_neg (by simp)]; refine dw_seq ?_
  refine dwk [] TRF_ok hnt fun K hK => ?_; refine dcl (r1) ?_; refine dcl (r2) ?_; refine hK _ _ ?_; clear hK K; refine dw_cond (t := false) rfl ?_; rw [if_neg (by simp)]; refine dw_skip ?_; refine dw_seq ?_; refine dwk [] TRF_ok hnt fun K hK => ?_; refine dcl (t1) ?_; refine hK _ _ ?_; clear hK K; refine dw_seq ?_; refine dw_seq ?_; refine dwk [(39, .v (.bool false)), (43, .v (.int .i64 (↑u.args.length))), (44, .v (.bool false))] TRF_ok hnt fun K hK => ?_
  refine And.intro (bneF rfl) ?_; refine And.intro (dintE (by rw [eTys_len])) ?_; refine And.intro auF ?_; refine hK _ _ ?_; clear hK K; refine dw_cond (t := false) rfl ?_; rw [if_neg (by simp)]; refine dw_skip ?_; refine dw_seq ?_; refine dwk [] TRF_ok hnt fun K hK => ?_; refine hK _ _ ?_; clear hK K; refine dw_seq ?_; refine dw_seq ?_; refine dwk [] TRF_ok hnt fun K hK => ?_; refine dcl (k1) ?_; refine dcl (k2) ?_
  refine hK _ _ ?_; clear hK K; refine dw_cond (t := false) rfl ?_; rw [if_neg (by simp)]; refine dw_skip ?_; refine dw_seq ?_; refine dwk [] TRF_ok hnt fun K hK => ?_; refine hK _ _ ?_; clear hK K; refine dw_ret ?_
  exact reta rfl
end Go.Proofs.YtdmiekaeodcehaaGreat

namespace Go.Proofs.YtdmiekaeodcehaaGreat
open Go.RowKit
def TRG_3 : TI := ⟨1, false, [Value.int IntKind.i64 0], [], none, 8, 2, none, false⟩
theorem TRG_3_ok : TypOk Tryz.prog 3 TRG_3 := ⟨by kernel_rfl, by kernel_rfl, by kernel_rfl, by kernel_rfl, by kernel_rfl⟩
def TRG_82 : TI := ⟨1, false, [Value.slice none 0 0], [], some 3, 24, 5, none, false⟩
theorem TRG_82_ok : TypOk Tryz.prog 82 TRG_82 := ⟨by kernel_rfl, by kernel_rfl, by kernel_rfl, by kernel_rfl, by kernel_rfl⟩
def TRG_38 : TI := ⟨9, true, [Value.slice none 0 0, Value.int IntKind.i64 0, Value.int IntKind.i64 0, Value.slice none 0 0, Value.slice none 0 0, Value.int IntKind.i64 0, Value.int IntKind.i64 0, Value.slice none 0 0, Value.slice none 0 0], [(0, 4, true), (4, 4, true), (8, 1, false)], none, 152, 6, none, false⟩
theorem TRG_38_ok : TypOk Tryz.prog 38 TRG_38 := ⟨by kernel_rfl, by kernel_rfl, by kernel_rfl, by kernel_rfl, by kernel_rfl⟩
def TRG_29 : TI := ⟨9, true, [Value.slice none 0 0, Value.int IntKind.i64 0, Value.int IntKind.i64 0, Value.slice none 0 0, Value.slice none 0 0, Value.int IntKind.i64 0, Value.int IntKind.i64 0, Value.slice none 0 0, Value.slice none 0 0], [(0, 4, true), (4, 4, true), (8, 1, false)], none, 152, 6, none, false⟩
theorem TRG_29_ok : TypOk Tryz.prog 29 TRG_29 := ⟨by kernel_rfl, by kernel_rfl, by kernel_rfl, by kernel_rfl, by kernel_rfl⟩
def TRG_36 : TI := ⟨4, true, [Value.slice none 0 0, Value.int IntKind.i64 0, Value.int IntKind.i64 0, Value.slice none 0 0], [(0, 1, false), (1, 2, true), (3, 1, false)], none, 64, 6, none, false⟩
theorem TRG_36_ok : TypOk Tryz.prog 36 TRG_36 := ⟨by kernel_rfl, by kernel_rfl, by kernel_rfl, by kernel_rfl, by kernel_rfl⟩
def TRG_27 : TI := ⟨4, true, [Value.slice none 0 0, Value.int IntKind.i64 0, Value.int IntKind.i64 0, Value.slice none 0 0], [(0, 1, false), (1, 2, true), (3, 1, false)], none, 64, 6, none, false⟩
theorem TRG_27_ok : TypOk Tryz.prog 27 TRG_27 := ⟨by kernel_rfl, by kernel_rfl, by kernel_rfl, by kernel_rfl, by kernel_rfl⟩
def TRG_34 : TI := ⟨1, false, [Value.slice none 0 0], [], some 36, 24, 5, none, false⟩
theorem TRG_34_ok : TypOk Tryz.prog 34 TRG_34 := ⟨by kernel_rfl, by kernel_rfl, by kernel_rfl, by kernel_rfl, by kernel_rfl⟩
def TRG_25 : TI := ⟨1, false, [Value.slice none 0 0], [], some 27, 24, 5, none, false⟩
theorem TRG_25_ok : TypOk Tryz.prog 25 TRG_25 := ⟨by kernel_rfl, by kernel_rfl, by kernel_rfl, by kernel_rfl, by kernel_rfl⟩
def TRG_48 : TI := ⟨3, true, [Value.int IntKind.i64 0, Value.slice none 0 0, Value.slice none 0 0], [(0, 1, false), (1, 1, false), (2, 1, false)], none, 56, 6, none, false⟩
theorem TRG_48_ok : TypOk Tryz.prog 48 TRG_48 := ⟨by kernel_rfl, by kernel_rfl, by kernel_rfl, by kernel_rfl, by kernel_rfl⟩
def TRG_54 : TI := ⟨3, true, [Value.int IntKind.i64 0, Value.slice none 0 0, Value.slice none 0 0], [(0, 1, false), (1, 1, false), (2, 1, false)], none, 56, 6, none, false⟩
theorem TRG_54_ok : TypOk Tryz.prog 54 TRG_54 := ⟨by kernel_rfl, by kernel_rfl, by kernel_rfl, by kernel_rfl, by kernel_rfl⟩
def TRG_115 : TI := ⟨1, false, [Value.nilFunc], [], none, 8, 8, none, false⟩
theorem TRG_115_ok : TypOk Tryz.prog 115 TRG_115 := ⟨by kernel_rfl, by kernel_rfl, by kernel_rfl, by kernel_rfl, by kernel_rfl⟩
def TRG_33 : TI := ⟨2, true, [Value.int IntKind.i64 0, Value.int IntKind.i64 0], [(0, 1, false), (1, 1, false)], none, 16, 6, none, true⟩
theorem TRG_33_ok : TypOk Tryz.prog 33 TRG_33 := ⟨by kernel_rfl, by kernel_rfl, by kernel_rfl, by kernel_rfl, by kernel_rfl⟩
def TRG_39 : TI := ⟨1, false, [Value.int IntKind.i64 0], [], none, 8, 2, none, false⟩
theorem TRG_39_ok : TypOk Tryz.prog 39 TRG_39 := ⟨by kernel_rfl, by kernel_rfl, by kernel_rfl, by kernel_rfl, by kernel_rfl⟩
def TRG_24 : TI := ⟨2, true, [Value.int IntKind.i64 0, Value.int IntKind.i64 0], [(0, 1, false), (1, 1, false)], none, 16, 6, none, true⟩
theorem TRG_24_ok : TypOk Tryz.prog 24 TRG_24 := ⟨by kernel_rfl, by kernel_rfl, by kernel_rfl, by kernel_rfl, by kernel_rfl⟩
def TRG : List (Nat × TI) := [(3, TRG_3), (82, TRG_82), (38, TRG_38), (29, TRG_29), (36, TRG_36), (27, TRG_27), (34, TRG_34), (25, TRG_25), (48, TRG_48), (54, TRG_54), (115, TRG_115), (33, TRG_33), (39, TRG_39), (24, TRG_24)]
theorem TRG_ok : TabOk Tryz.prog TRG := (((((((((((((((TabOk.nil _).cons TRG_24_ok).cons TRG_39_ok).cons TRG_33_ok).cons TRG_115_ok).cons TRG_54_ok).cons TRG_48_ok).cons TRG_25_ok).cons TRG_34_ok).cons TRG_27_ok).cons TRG_36_ok).cons TRG_29_ok).cons TRG_38_ok).cons TRG_82_ok).cons TRG_3_ok)
namespace Ru
def ms (t : Tm) : List Int := sortU (metasL [t])
def chk (p : Li.Pr) : Int := if p.l.kind ≠ 1 then 6 else if (Pn.uses p.l [] []).2 = false then 6 else if ((ms p.r).any fun x => !((ms p.l).contains x)) = true then 7 else 0
end Ru
theorem ruin_d (h : List Int) (x : Int) (hh : h.length ≤ 1000000) : CallC Tryz.prog 68 [.v (.int .i64 x), .p 24 0] [(.c 24 0, .sl 1 (eIs h) none)] [(.c 24 0, .sl 1 (eIs h) none)] (.v (.bool (!(h.contains x)))) := by
 have hc := contains_d x h hh
 rw [show (h.any fun y => decide (y = x)) = h.contains x by rw [Bool.eq_iff_iff]; simp] at hc
 refine calldw 25 8 [ResultVar.tmp 3] TRG_ok Tryz.func68 rfl Tryz.ntmps68 rfl fun cx hnt hn0 => ?_
 ·skip
  refine dw_seq ?_; refine dwk [] TRG_ok hnt fun K hK => ?_; refine hK _ _ ?_; clear hK K; refine dw_seq ?_; refine dwk [] TRG_ok hnt fun K hK => ?_; refine dcl (hc) ?_; refine hK _ _ ?_; clear hK K; refine dw_ret ?_
  exact reta rfl
theorem ruidx_d (h : List Int) (hh : h.length ≤ 1000000) (l : List Int) (hl : l.length ≤ 1000000) : CallC Tryz.prog 110 [.sl 1 (eIs l) none, .fn 68 [.p 24 0]] [(.c 24 0, .sl 1 (eIs h) none)] [(.c 24 0, .sl 1 (eIs h) none)] (.v (.int .i64 (fidx (fun x => !(h.contains x)) l))) := by
 obtain ⟨P, hP⟩ : ∃ P : Int → Bool, (fun x => !(h.contains x)) = P := ⟨_, rfl⟩
 have hmay : ∀ x, CallC Tryz.prog 68 [.v (.int .i64 x), .p 24 0] [(.c 24 0, .sl 1 (eIs h) none)] [(.c 24 0, .sl 1 (eIs h) none)] (.v (.bool (P x))) := fun x => hP ▸ ruin_d h x hh
 rw [hP]
 clear hP
 refine calldw 25 19 [ResultVar.tmp 4] TRG_ok Tryz.func110 rfl Tryz.ntmps110 rfl fun cx hnt hn0 => ?_
 ·skip
  refine dw_seq ?_; refine dwk [] TRG_ok hnt fun K hK => ?_; refine hK _ _ ?_; clear hK K; refine dw_seq ?_; refine dw_seq ?_; refine dwk [(7, .v (.int .i64 (↑l.length)))] TRG_ok hnt fun K hK => ?_; refine And.intro (dintE (by rw [eIs_len])) ?_; refine hK _ _ ?_; clear hK K; refine dw_block ?_
  refine dw_loop (ι := { j : Nat // ∀ i (h : i < l.length), i < j → P l[i] = false }) (fun j => [(.t 0, .sl 1 (eIs l) none), (.t 1, .fn 68 [.p 24 0]), (.t 7, .v (.int .i64 ↑l.length)), (.t 8, .v (.int .i64 ↑j.1)), (.c 24 0, .sl 1 (eIs h) none)]) 25 (fun j => l.length - j.1) (⟨0, fun i h1 h2 => by omega⟩) (VS.toA) fun j => ?_
  obtain ⟨j, hj⟩ := j
  dsimp only
  by_cases hlt : j < l.length
  ·have hf := hmay l[j]
   refine dw_seq ?_; refine dwk [(9, .v (.bool true))] TRG_ok hnt fun K hK => ?_; refine And.intro auT ?_; refine hK _ _ ?_; clear hK K; refine dw_seq ?_; refine dw_cond (t := true) rfl ?_; rw [if_pos rfl]; refine dw_skip ?_; refine dw_seq ?_; refine dw_block ?_; refine dw_seq ?_; refine dwk [] TRG_ok hnt fun K hK => ?_; refine hK _ _ ?_; clear hK K
   cases he : P l[j] with
   | true =>
    rw [he] at hf
    rw [fidx_at hlt he hj]
    refine dw_seq ?_; refine dwk [(14, .q [.v (.int .i64 (l[j]))])] TRG_ok hnt fun K hK => ?_; refine And.intro (elo (eIs_len l)) ?_; refine And.intro (elv (eIs_getD l j) rfl) ?_; refine dcl (hf) ?_; refine hK _ _ ?_; clear hK K; refine dw_cond (t := true) rfl ?_; rw [if_pos rfl]; refine dw_seq ?_; refine dwk [] TRG_ok hnt fun K hK => ?_; refine hK _ _ ?_; clear hK K; refine dw_ret ?_
    exact reta rfl
   | false =>
    rw [he] at hf
    refine dw_seq ?_; refine dwk [(14, .q [.v (.int .i64 (l[j]))])] TRG_ok hnt fun K hK => ?_; refine And.intro (elo (eIs_len l)) ?_; refine And.intro (elv (eIs_getD l j) rfl) ?_; refine dcl (hf) ?_; refine hK _ _ ?_; clear hK K; refine dw_cond (t := false) rfl ?_; rw [if_neg (by simp)]; refine dw_skip ?_; refine dwk [(18, .v (.int .i64 (↑(j + 1))))] TRG_ok hnt fun K hK => ?_; refine And.intro auI ?_; refine hK _ _ ?_; clear hK K
    refine ⟨⟨j + 1, fun i h1 h2 => if e : i = j then by subst e; exact he else hj i h1 (by omega)⟩, by first | omega | (dsimp only; omega), VS.toA⟩
  ·rw [fidx_no fun i h => hj i h (by omega)]
   refine dw_seq ?_; refine dwk [(9, .v (.bool false))] TRG_ok hnt fun K hK => ?_; refine And.intro auF ?_; refine hK _ _ ?_; clear hK K; refine dw_seq ?_; refine dw_cond (t := false) rfl ?_; rw [if_neg (by simp)]; refine dw_exit ?_; refine dw_seq ?_; refine dwk [] TRG_ok hnt fun K hK => ?_; refine hK _ _ ?_; clear hK K; refine dw_ret ?_
   exact reta rfl
theorem rucontains_d (h : List Int) (hh : h.length ≤ 1000000) (l : List Int) (hl : l.length ≤ 1000000) : CallC Tryz.prog 67 [.sl 1 (eIs l) none, .fn 68 [.p 24 0]] [(.c 24 0, .sl 1 (eIs h) none)] [(.c 24 0, .sl 1 (eIs h) none)] (.v (.bool (l.any fun x => !(h.contains x)))) := by
 have hi := ruidx_d h hh l hl
 rw [← fidx_any]
 refine calldw 25 9 [ResultVar.tmp 4] TRG_ok Tryz.func67 rfl Tryz.ntmps67 rfl fun cx hnt hn0 => ?_
 ·skip
  refine dw_seq ?_; refine dwk [] TRG_ok hnt fun K hK => ?_; refine hK _ _ ?_; clear hK K; refine dw_seq ?_; refine dwk [] TRG_ok hnt fun K hK => ?_; refine dcl (hi) ?_; refine hK _ _ ?_; clear hK K; refine dw_ret ?_
  exact reta rfl

theorem ms_len (t : Tm) (h : t.full ≤ 90000) : (Ru.ms t).length ≤ 90000 := by
  have h1 := metasL_len [t] 90000 (by simpa using h)
  have h2 := sortU_len (metasL [t])
  unfold Ru.ms
  simp at h1; omega
theorem eTms_1 (t : Tm) : eTms [t] = [[.sl 2 (eTys t.binds) none, .v (.int .i64 t.kind), .v (.int .i64 t.index), .sl 4 (eTms t.args) none]] := by rw [← eTm_eq]; rfl
set_option maxHeartbeats 2000000 in
theorem rucheck_d (b : Int) (C Mw : List Ty) (p : Li.Pr) (e : Int) (hl : p.l.full ≤ 10000 ∧ p.l.Fit) (hr : p.r.full ≤ 10000 ∧ p.r.Fit) (ht : PureC Tryz.prog 23 [.ag [.v (.int .i64 b), .sl 2 (eTys C) none, .sl 2 (eTys Mw) none], .ag (ePr p)] (.v (.int .i64 e))) :
  PureC Tryz.prog 25 [.ag [.v (.int .i64 b), .sl 2 (eTys C) none, .sl 2 (eTys Mw) none], .ag (ePr p)] (.v (.int .i64 (if e ≠ 0 then e else Ru.chk p))) := by
 have hI := is_d p.l hl.1 hl.2
 have m1 := metas_d [p.l] (by simp) (by simp; omega)
 have m2 := metas_d [p.r] (by simp) (by simp; omega)
 have z1 := ms_len p.l (by omega)
 have z2 := ms_len p.r (by omega)
 rw [show sortU (metasL [p.l]) = Ru.ms p.l from rfl] at m1
 rw [show sortU (metasL [p.r]) = Ru.ms p.r from rfl] at m2
 have hc := rucontains_d (Ru.ms p.l) (by omega) (Ru.ms p.r) (by omega)
 unfold Ru.chk
 have e1 := eTms_1 p.l
 have e2 := eTms_1 p.r
 rw [ePr_at] at ht ⊢
 rw [eTm_eq] at hI
 by_cases he : e = 0
 ·subst he
  rw [if_neg (by simp)]
  by_cases hk : p.l.kind = 1
  ·rw [if_neg (by simp [hk])]
   cases hu : (Pn.uses p.l [] []).2 with
   | false =>
    rw [hu] at hI
    rw [if_pos rfl]
    refine calldw 0 34 [ResultVar.tmp 4] TRG_ok Tryz.func25 rfl Tryz.ntmps25 rfl fun cx hnt hn0 => ?_
    ·skip
     refine dw_seq ?_; refine dwk [] TRG_ok hnt fun K hK => ?_; refine hK _ _ ?_; clear hK K; refine dw_seq ?_; refine dw_seq ?_; refine dwk [] TRG_ok hnt fun K hK => ?_; refine dcl (ht) ?_; refine hK _ _ ?_; clear hK K; refine dw_seq ?_; refine dwk [(11, .v (.bool false))] TRG_ok hnt fun K hK => ?_; refine And.intro (bneF rfl) ?_; refine hK _ _ ?_; clear hK K; refine dw_cond (t := false) rfl ?_; rw [if_neg (by simp)]
     refine dw_skip ?_; refine dw_seq ?_; refine dw_seq ?_; refine dwk [(17, .v (.bool false))] TRG_ok hnt fun K hK => ?_; refine And.intro (bneF hk) ?_; refine dcl (hI) ?_; refine hK _ _ ?_; clear hK K; refine dw_cond (t := true) rfl ?_; rw [if_pos rfl]; refine dw_seq ?_; refine dwk [] TRG_ok hnt fun K hK => ?_; refine hK _ _ ?_; clear hK K; refine dw_ret ?_
     exact reta rfl
   | true =>
    rw [hu] at hI
    rw [if_neg (by simp)]
    cases hA : (Ru.ms p.r).any fun x => !((Ru.ms p.l).contains x) with
    | true =>
     rw [hA] at hc
     rw [if_pos rfl]
     refine calldw 0 34 [ResultVar.tmp 4] TRG_ok Tryz.func25 rfl Tryz.ntmps25 rfl fun cx hnt hn0 => ?_
     ·skip
      refine dw_seq ?_; refine dwk [] TRG_ok hnt fun K hK => ?_; refine hK _ _ ?_; clear hK K; refine dw_seq ?_; refine dw_seq ?_; refine dwk [] TRG_ok hnt fun K hK => ?_; refine dcl (ht) ?_; refine hK _ _ ?_; clear hK K; refine dw_seq ?_; refine dwk [(11, .v (.bool false))] TRG_ok hnt fun K hK => ?_; refine And.intro (bneF rfl) ?_; refine hK _ _ ?_; clear hK K; refine dw_cond (t := false) rfl ?_; rw [if_neg (by simp)]
      refine dw_skip ?_; refine dw_seq ?_; refine dw_seq ?_; refine dwk [(17, .v (.bool false))] TRG_ok hnt fun K hK => ?_; refine And.intro (bneF hk) ?_; refine dcl (hI) ?_; refine hK _ _ ?_; clear hK K; refine dw_cond (t := false) rfl ?_; rw [if_neg (by simp)]; refine dw_skip ?_; refine dw_seq ?_; refine dwk [(26, .sl 4 (eTms [p.l]) none)] TRG_ok hnt fun K hK => ?_; refine And.intro ((by rw [e1]; exact VLe.untag _ _ _)) ?_
      refine dcl (m1) ?_; refine hK _ _ ?_; clear hK K; refine dw_seq ?_; refine dw_seq ?_; refine dwk [(30, .sl 4 (eTms [p.r]) none)] TRG_ok hnt fun K hK => ?_; refine And.intro ((by rw [e2]; exact VLe.untag _ _ _)) ?_; refine dcl (m2) ?_; refine dcl (hc) ?_; refine hK _ _ ?_; clear hK K; refine dw_cond (t := true) rfl ?_; rw [if_pos rfl]; refine dw_seq ?_; refine dwk [] TRG_ok hnt fun K hK => ?_; refine hK _ _ ?_; clear hK K
      refine dw_ret ?_
      exact reta rfl
    | false =>
     rw [hA] at hc
     rw [if_neg (by simp)]
     refine calldw 0 34 [ResultVar.tmp 4] TRG_ok Tryz.func25 rfl Tryz.ntmps25 rfl fun cx hnt hn0 => ?_
     ·skip
      refine dw_seq ?_; refine dwk [] TRG_ok hnt fun K hK => ?_; refine hK _ _ ?_; clear hK K; refine dw_seq ?_; refine dw_seq ?_; refine dwk [] TRG_ok hnt fun K hK => ?_; refine dcl (ht) ?_; refine hK _ _ ?_; clear hK K; refine dw_seq ?_; refine dwk [(11, .v (.bool false))] TRG_ok hnt fun K hK => ?_; refine And.intro (bneF rfl) ?_; refine hK _ _ ?_; clear hK K; refine dw_cond (t := false) rfl ?_; rw [if_neg (by simp)]
      refine dw_skip ?_; refine dw_seq ?_; refine dw_seq ?_; refine dwk [(17, .v (.bool false))] TRG_ok hnt fun K hK => ?_; refine And.intro (bneF hk) ?_; refine dcl (hI) ?_; refine hK _ _ ?_; clear hK K; refine dw_cond (t := false) rfl ?_; rw [if_neg (by simp)]; refine dw_skip ?_; refine dw_seq ?_; refine dwk [(26, .sl 4 (eTms [p.l]) none)] TRG_ok hnt fun K hK => ?_; refine And.intro ((by rw [e1]; exact VLe.untag _ _ _)) ?_
      refine dcl (m1) ?_; refine hK _ _ ?_; clear hK K; refine dw_seq ?_; refine dw_seq ?_; refine dwk [(30, .sl 4 (eTms [p.r]) none)] TRG_ok hnt fun K hK => ?_; refine And.intro ((by rw [e2]; exact VLe.untag _ _ _)) ?_; refine dcl (m2) ?_; refine dcl (hc) ?_; refine hK _ _ ?_; clear hK K; refine dw_cond (t := false) rfl ?_; rw [if_neg (by simp)]; refine dw_skip ?_; refine dw_seq ?_; refine dwk [] TRG_ok hnt fun K hK => ?_
      refine hK _ _ ?_; clear hK K; refine dw_ret ?_
      exact reta rfl
  ·rw [if_pos hk]
   refine calldw 0 34 [ResultVar.tmp 4] TRG_ok Tryz.func25 rfl Tryz.ntmps25 rfl fun cx hnt hn0 => ?_
   ·skip
    refine dw_seq ?_; refine dwk [] TRG_ok hnt fun K hK => ?_; refine hK _ _ ?_; clear hK K; refine dw_seq ?_; refine dw_seq ?_; refine dwk [] TRG_ok hnt fun K hK => ?_; refine dcl (ht) ?_; refine hK _ _ ?_; clear hK K; refine dw_seq ?_; refine dwk [(11, .v (.bool false))] TRG_ok hnt fun K hK => ?_; refine And.intro (bneF rfl) ?_; refine hK _ _ ?_; clear hK K; refine dw_cond (t := false) rfl ?_; rw [if_neg (by simp)]
    refine dw_skip ?_; refine dw_seq ?_; refine dw_seq ?_; refine dwk [(17, .v (.bool true))] TRG_ok hnt fun K hK => ?_; refine And.intro (bneT hk) ?_; refine hK _ _ ?_; clear hK K; refine dw_cond (t := true) rfl ?_; rw [if_pos rfl]; refine dw_seq ?_; refine dwk [] TRG_ok hnt fun K hK => ?_; refine hK _ _ ?_; clear hK K; refine dw_ret ?_
    exact reta rfl
 ·rw [if_pos he]
  refine calldw 0 34 [ResultVar.tmp 4] TRG_ok Tryz.func25 rfl Tryz.ntmps25 rfl fun cx hnt hn0 => ?_
  ·skip
   refine dw_seq ?_; refine dwk [] TRG_ok hnt fun K hK => ?_; refine hK _ _ ?_; clear hK K; refine dw_seq ?_; refine dw_seq ?_; refine dwk [] TRG_ok hnt fun K hK => ?_; refine dcl (ht) ?_; refine hK _ _ ?_; clear hK K; refine dw_seq ?_; refine dwk [(11, .v (.bool true))] TRG_ok hnt fun K hK => ?_; refine And.intro (bneT he) ?_; refine hK _ _ ?_; clear hK K; refine dw_cond (t := true) rfl ?_; rw [if_pos rfl]
   refine dw_seq ?_; refine dwk [] TRG_ok hnt fun K hK => ?_; refine hK _ _ ?_; clear hK K; refine dw_ret ?_
   exact reta rfl
end Go.Proofs.YtdmiekaeodcehaaGreat

namespace Go.Proofs.YtdmiekaeodcehaaGreat
open Go.RowKit
def TRH_38 : TI := ⟨9, true, [Value.slice none 0 0, Value.int IntKind.i64 0, Value.int IntKind.i64 0, Value.slice none 0 0, Value.slice none 0 0, Value.int IntKind.i64 0, Value.int IntKind.i64 0, Value.slice none 0 0, Value.slice none 0 0], [(0, 4, true), (4, 4, true), (8, 1, false)], none, 152, 6, none, false⟩
theorem TRH_38_ok : TypOk Tryz.prog 38 TRH_38 := ⟨by kernel_rfl, by kernel_rfl, by kernel_rfl, by kernel_rfl, by kernel_rfl⟩
def TRH_3 : TI := ⟨1, false, [Value.int IntKind.i64 0], [], none, 8, 2, none, false⟩
theorem TRH_3_ok : TypOk Tryz.prog 3 TRH_3 := ⟨by kernel_rfl, by kernel_rfl, by kernel_rfl, by kernel_rfl, by kernel_rfl⟩
def TRH_36 : TI := ⟨4, true, [Value.slice none 0 0, Value.int IntKind.i64 0, Value.int IntKind.i64 0, Value.slice none 0 0], [(0, 1, false), (1, 2, true), (3, 1, false)], none, 64, 6, none, false⟩
theorem TRH_36_ok : TypOk Tryz.prog 36 TRH_36 := ⟨by kernel_rfl, by kernel_rfl, by kernel_rfl, by kernel_rfl, by kernel_rfl⟩
def TRH_34 : TI := ⟨1, false, [Value.slice none 0 0], [], some 36, 24, 5, none, false⟩
theorem TRH_34_ok : TypOk Tryz.prog 34 TRH_34 := ⟨by kernel_rfl, by kernel_rfl, by kernel_rfl, by kernel_rfl, by kernel_rfl⟩
def TRH_32 : TI := ⟨1, false, [Value.slice none 0 0], [], some 75, 24, 5, none, false⟩
theorem TRH_32_ok : TypOk Tryz.prog 32 TRH_32 := ⟨by kernel_rfl, by kernel_rfl, by kernel_rfl, by kernel_rfl, by kernel_rfl⟩
def TRH_75 : TI := ⟨2, true, [Value.slice none 0 0, Value.int IntKind.i64 0], [(0, 1, false), (1, 1, false)], none, 32, 6, none, false⟩
theorem TRH_75_ok : TypOk Tryz.prog 75 TRH_75 := ⟨by kernel_rfl, by kernel_rfl, by kernel_rfl, by kernel_rfl, by kernel_rfl⟩
def TRH_48 : TI := ⟨3, true, [Value.int IntKind.i64 0, Value.slice none 0 0, Value.slice none 0 0], [(0, 1, false), (1, 1, false), (2, 1, false)], none, 56, 6, none, false⟩
theorem TRH_48_ok : TypOk Tryz.prog 48 TRH_48 := ⟨by kernel_rfl, by kernel_rfl, by kernel_rfl, by kernel_rfl, by kernel_rfl⟩
def TRH_39 : TI := ⟨1, false, [Value.int IntKind.i64 0], [], none, 8, 2, none, false⟩
theorem TRH_39_ok : TypOk Tryz.prog 39 TRH_39 := ⟨by kernel_rfl, by kernel_rfl, by kernel_rfl, by kernel_rfl, by kernel_rfl⟩
def TRH_33 : TI := ⟨2, true, [Value.int IntKind.i64 0, Value.int IntKind.i64 0], [(0, 1, false), (1, 1, false)], none, 16, 6, none, true⟩
theorem TRH_33_ok : TypOk Tryz.prog 33 TRH_33 := ⟨by kernel_rfl, by kernel_rfl, by kernel_rfl, by kernel_rfl, by kernel_rfl⟩
def TRH : List (Nat × TI) := [(38, TRH_38), (3, TRH_3), (36, TRH_36), (34, TRH_34), (32, TRH_32), (75, TRH_75), (48, TRH_48), (39, TRH_39), (33, TRH_33)]
theorem TRH_ok : TabOk Tryz.prog TRH := ((((((((((TabOk.nil _).cons TRH_33_ok).cons TRH_39_ok).cons TRH_48_ok).cons TRH_75_ok).cons TRH_32_ok).cons TRH_34_ok).cons TRH_36_ok).cons TRH_3_ok).cons TRH_38_ok)
namespace Ru
def kA : Ty := .mk [] 0
def kC : List Ty := [.mk [kA, kA] 0, .mk [kA] 0]
def km (i : Int) : Tm := .mk [] 2 i []
def kc (i : Int) (l : List Tm) : Tm := .mk [] 1 i l
def KP : Li.Pr := ⟨kc 0 [km 1, km 0], kc 1 [km 1], [kA, kA]⟩
def KQ : Li.Pr := ⟨kc 0 [km 0, km 1], kc 1 [km 0], [kA, kA]⟩
def KS : Li.Pr := ⟨kc 1 [km 0], kc 1 [km 1], [kA, kA]⟩
theorem km_fit (i : Int) (h1 : -1000 ≤ i) (h2 : i ≤ 1000) : (km i).Fit := Tm.fit_iff.2 ⟨by omega, by omega, nofun⟩
theorem kc_fit {i : Int} {l : List Tm} (h1 : -1000 ≤ i) (h2 : i ≤ 1000) (h : ∀ t ∈ l, t.Fit) : (kc i l).Fit := Tm.fit_iff.2 ⟨by omega, by omega, h⟩
theorem own_P : own KP = (KQ, 0) := by kernel_rfl
theorem own_Q : own KQ = (KQ, 0) := by kernel_rfl
theorem vari_PQ : vari KP KQ = true := by unfold vari; rw [own_P, own_Q]; kernel_rfl
theorem chk_at {p : Li.Pr} (h1 : p.l.kind = 1) (h2 : (Pn.uses p.l [] []).2 = true) : chk p = if ∃ x ∈ metasL [p.r], x ∉ metasL [p.l] then 7 else 0 := by
  unfold chk
  rw [if_neg (by simp [h1]), if_neg (by simp [h2])]
  have e : ((ms p.r).any fun x => !((ms p.l).contains x)) = true ↔ ∃ x ∈ metasL [p.r], x ∉ metasL [p.l] := by
    unfold ms
    rw [List.any_eq_true]
    constructor
    · rintro ⟨x, h, h2⟩
      refine ⟨x, ((sortU_spec _).2 x).1 h, fun h3 => ?_⟩
      rw [List.contains_iff_mem.2 (((sortU_spec _).2 x).2 h3)] at h2
      cases h2
    · rintro ⟨x, h, h2⟩
      refine ⟨x, ((sortU_spec _).2 x).2 h, ?_⟩
      rw [Bool.not_eq_true', Bool.eq_false_iff]
      exact fun h3 => h2 (((sortU_spec _).2 x).1 (List.contains_iff_mem.1 h3))
  by_cases h : ∃ x ∈ metasL [p.r], x ∉ metasL [p.l]
  · rw [if_pos (e.2 h), if_pos h]
  · rw [if_neg (fun g => h (e.1 g)), if_neg h]
theorem chk_P : chk KP = 0 := by
  rw [chk_at rfl (by kernel_rfl), if_neg]
  rw [show metasL [KP.r] = [1] by decide +kernel, show metasL [KP.l] = [1, 0] by decide +kernel]
  simp
theorem chk_S : chk KS = 7 := by
  rw [chk_at rfl (by kernel_rfl), if_pos]
  rw [show metasL [KS.r] = [1] by decide +kernel, show metasL [KS.l] = [0] by decide +kernel]
  exact ⟨1, by simp, by simp⟩
theorem kWd : RightWd 1 kC [kA, kA] := by
  refine ⟨by decide, fun t ht => ?_⟩
  have : t = kA ∨ t = .mk [kA, kA] 0 ∨ t = .mk [kA] 0 := by
    simp [kC] at ht
    rcases ht with h | h | h
    · exact .inr (.inl h)
    · exact .inr (.inr h)
    · exact .inl h
  rcases this with rfl | rfl | rfl
  · exact ⟨by decide, by decide, by simp [kA, Ty.low_iff]⟩
  · exact ⟨by decide, by decide, by simp [kA, Ty.low_iff]⟩
  · exact ⟨by decide, by decide, by simp [kA, Ty.low_iff]⟩
theorem good_P : Good 1 kC KP := ⟨kWd, by decide, by decide, kA, by kernel_rfl, rfl, by simp [KP, kc, km, kC, kA, IsOf, IsOfs, headTy, Ty.args, Ty.base], by simp [KP, kc, km, kC, kA, IsOf, IsOfs, headTy, Ty.args, Ty.base]⟩
theorem good_S : Good 1 kC KS := ⟨kWd, by decide, by decide, kA, by kernel_rfl, rfl, by simp [KS, kc, km, kC, kA, IsOf, IsOfs, headTy, Ty.args, Ty.base], by simp [KS, kc, km, kC, kA, IsOf, IsOfs, headTy, Ty.args, Ty.base]⟩
theorem fit_P : KP.l.Fit ∧ KP.r.Fit := ⟨kc_fit (by decide) (by decide) (by
  intro t ht
  simp at ht
  rcases ht with rfl | rfl
  · exact km_fit _ (by decide) (by decide)
  · exact km_fit _ (by decide) (by decide)), kc_fit (by decide) (by decide) (by
  intro t ht
  simp at ht
  subst ht
  exact km_fit _ (by decide) (by decide))⟩
theorem fit_Q : KQ.l.Fit ∧ KQ.r.Fit := ⟨kc_fit (by decide) (by decide) (by
  intro t ht
  simp at ht
  rcases ht with rfl | rfl
  · exact km_fit _ (by decide) (by decide)
  · exact km_fit _ (by decide) (by decide)), kc_fit (by decide) (by decide) (by
  intro t ht
  simp at ht
  subst ht
  exact km_fit _ (by decide) (by decide))⟩
theorem fit_S : KS.l.Fit ∧ KS.r.Fit := ⟨kc_fit (by decide) (by decide) (by
  intro t ht
  simp at ht
  subst ht
  exact km_fit _ (by decide) (by decide)), kc_fit (by decide) (by decide) (by
  intro t ht
  simp at ht
  subst ht
  exact km_fit _ (by decide) (by decide))⟩
end Ru
theorem rk1_d (i : Int) (l : List Tm) : PureC Tryz.prog 39 [.v (.int .i64 i), .sl 4 (eTms l) none] (.ag [.sl 2 [] none, .v (.int .i64 1), .v (.int .i64 i), .sl 4 (eTms l) none]) := by
 refine calldw 0 9 [ResultVar.cell 4 36] TRH_ok Tryz.func39 rfl Tryz.ntmps39 rfl fun cx hnt hn0 => ?_
 ·skip
  refine dw_seq ?_; refine dwk [] TRH_ok hnt fun K hK => ?_; refine hK _ _ ?_; clear hK K; refine dw_seq ?_; refine dwk [] TRH_ok hnt fun K hK => ?_; refine hK _ _ ?_; clear hK K; refine dw_ret ?_
  exact reta rfl
theorem rk2_d (i : Int) : PureC Tryz.prog 40 [.v (.int .i64 i)] (.ag [.sl 2 [] none, .v (.int .i64 2), .v (.int .i64 i), .sl 4 [] none]) := by
 refine calldw 0 6 [ResultVar.cell 2 36] TRH_ok Tryz.func40 rfl Tryz.ntmps40 rfl fun cx hnt hn0 => ?_
 ·skip
  refine dw_seq ?_; refine dwk [] TRH_ok hnt fun K hK => ?_; refine hK _ _ ?_; clear hK K; refine dw_seq ?_; refine dwk [] TRH_ok hnt fun K hK => ?_; refine hK _ _ ?_; clear hK K; refine dw_ret ?_
  exact reta rfl
theorem rkOf0_d : PureC Tryz.prog 38 [.v (.int .i64 0), .v (.slice none 0 0)] (.ag [.sl 2 [] none, .v (.int .i64 0)]) := CallC.vle (kOf_d 0 [] (by simp [Ty.sizes])) (.cons (VLe.refl _) (.cons (VLe.nil _) .nil)) (VLe.refl _)
theorem kSz : ∀ t ∈ Ru.kC ++ [Ru.kA, Ru.kA], t.size ≤ 400000 := fun t ht => by have := (Ru.kWd.2 t ht).1; omega
theorem kcheck_d (p : Li.Pr) (c : Int) (hm : p.m = [Ru.kA, Ru.kA]) (hg : Ru.Good 1 Ru.kC p) (hc : Ru.chk p = c) (hl : p.l.full ≤ 10000 ∧ p.l.Fit) (hr : p.r.full ≤ 10000 ∧ p.r.Fit) : PureC Tryz.prog 25 [.ag [.v (.int .i64 1), .sl 2 (eTys Ru.kC) none, .sl 2 (eTys []) none], .ag (ePr p)] (.v (.int .i64 c)) := by
  have h1 := rutyped0_d 1 Ru.kC [] p hg ⟨by omega, hl.2⟩ ⟨by omega, hr.2⟩ (by rw [hm]; exact kSz)
  have h := rucheck_d 1 Ru.kC [] p 0 hl hr h1
  rw [if_neg (by simp), hc] at h
  exact h
set_option maxHeartbeats 4000000 in
theorem known17_d : PureC Tryz.prog 7 [] (.v (.bool true)) := by
 have ho := rkOf0_d
 have o1 := kOf_d 0 [Ru.kA, Ru.kA] (by decide)
 have o2 := kOf_d 0 [Ru.kA] (by decide)
 have hown := ruown_d Ru.KP ⟨by decide, Ru.fit_P.1⟩ ⟨by decide, Ru.fit_P.2⟩ (by decide) (by decide)
 rw [Ru.own_P] at hown
 have hv := ruvari_d Ru.KP Ru.KQ ⟨by decide, Ru.fit_P.1⟩ ⟨by decide, Ru.fit_P.2⟩ (by decide) (by decide) ⟨by decide, Ru.fit_Q.1⟩ ⟨by decide, Ru.fit_Q.2⟩ (by decide) (by decide)
 rw [Ru.vari_PQ] at hv
 have c1 := kcheck_d Ru.KP 0 rfl Ru.good_P Ru.chk_P ⟨by decide, Ru.fit_P.1⟩ ⟨by decide, Ru.fit_P.2⟩
 have c2 := kcheck_d Ru.KS 7 rfl Ru.good_S Ru.chk_S ⟨by decide, Ru.fit_S.1⟩ ⟨by decide, Ru.fit_S.2⟩
 have e1 : PureC Tryz.prog 41 [.ag [.sl 2 (eTys Ru.KQ.l.binds) none, .v (.int .i64 Ru.KQ.l.kind), .v (.int .i64 Ru.KQ.l.index), .sl 4 (eTms Ru.KQ.l.args) none], .ag [.sl 2 [] none, .v (.int .i64 1), .v (.int .i64 0), .sl 4 (eTms [Ru.km 0, Ru.km 1]) none]] (.v (.bool true)) := by
  have := equal2_d Ru.KQ.l (Ru.kc 0 [Ru.km 0, Ru.km 1])
  rw [decide_eq_true (show Ru.KQ.l = Ru.kc 0 [Ru.km 0, Ru.km 1] from rfl)] at this
  exact this
 have e2 : PureC Tryz.prog 41 [.ag [.sl 2 (eTys Ru.KQ.r.binds) none, .v (.int .i64 Ru.KQ.r.kind), .v (.int .i64 Ru.KQ.r.index), .sl 4 (eTms Ru.KQ.r.args) none], .ag [.sl 2 [] none, .v (.int .i64 1), .v (.int .i64 1), .sl 4 (eTms [Ru.km 0]) none]] (.v (.bool true)) := by
  have := equal2_d Ru.KQ.r (Ru.kc 1 [Ru.km 0])
  rw [decide_eq_true (show Ru.KQ.r = Ru.kc 1 [Ru.km 0] from rfl)] at this
  exact this
 dsimp only at hown
 rw [ePr_at, ePr_at] at hown hv
 rw [ePr_at] at c1 c2
 refine calldw 0 92 [ResultVar.tmp 0] TRH_ok Tryz.func7 rfl Tryz.ntmps7 rfl fun cx hnt hn0 => ?_
 ·skip
  refine dw_seq ?_; refine dwk [] TRH_ok hnt fun K hK => ?_; refine hK _ _ ?_; clear hK K; refine dw_seq ?_; refine dwk [] TRH_ok hnt fun K hK => ?_; refine dcl (ho) ?_; refine hK _ _ ?_; clear hK K; refine dw_seq ?_; refine dwkD [(9, .ag (eTy Ru.kA)), (10, .ag (eTy Ru.kA)), (11, .sl 2 (eTys [Ru.kA, Ru.kA]) none), (13, .ag (eTy Ru.kA)), (14, .sl 2 (eTys [Ru.kA]) none), (16, .sl 2 (eTys Ru.kC) none)] TRH_ok hnt fun K hK => ?_
  refine And.intro (auV) ?_; refine And.intro (auV) ?_; refine And.intro (VLe.untag _ _ _) ?_; refine dcl (o1) ?_; refine And.intro (auV) ?_; refine And.intro (VLe.untag _ _ _) ?_; refine dcl (o2) ?_; refine And.intro (VLe.untag _ _ _) ?_; refine hK _ _ (by kernel_rfl) ?_; clear hK K; refine dw_seq ?_; refine dwk [] TRH_ok hnt fun K hK => ?_; refine hK _ _ ?_; clear hK K; refine dw_seq ?_; refine dwk [] TRH_ok hnt fun K hK => ?_
  refine hK _ _ ?_; clear hK K; refine dw_seq ?_; refine dwkD [(23, .sl 4 (eTms [Ru.km 1, Ru.km 0]) none), (28, .sl 4 (eTms [Ru.km 1]) none), (30, .ag (eTy Ru.kA)), (31, .ag (eTy Ru.kA)), (32, .sl 2 (eTys [Ru.kA, Ru.kA]) none)] TRH_ok hnt fun K hK => ?_; refine dcl (rk2_d 1) ?_; refine dcl (rk2_d 0) ?_; refine And.intro (VLe.untag _ _ _) ?_; refine dcl (rk1_d 0 _) ?_; refine dcl (rk2_d 1) ?_; refine And.intro (VLe.untag _ _ _) ?_
  refine dcl (rk1_d 1 _) ?_; refine And.intro (auV) ?_; refine And.intro (auV) ?_; refine And.intro (VLe.untag _ _ _) ?_; refine hK _ _ (by kernel_rfl) ?_; clear hK K; refine dw_seq ?_; refine dwk [(35, .ag [.sl 2 (eTys Ru.KP.l.binds) none, .v (.int .i64 Ru.KP.l.kind), .v (.int .i64 Ru.KP.l.index), .sl 4 (eTms Ru.KP.l.args) none, .sl 2 (eTys Ru.KP.r.binds) none, .v (.int .i64 Ru.KP.r.kind), .v (.int .i64 Ru.KP.r.index), .sl 4 (eTms Ru.KP.r.args) none, .sl 2 (eTys Ru.KP.m) none])] TRH_ok hnt fun K hK => ?_
  refine And.intro (auV) ?_; refine dcl (hown) ?_; refine hK _ _ ?_; clear hK K; refine dw_seq ?_; refine dwkD [(40, .v (.bool true)), (49, .sl 4 (eTms [Ru.km 0, Ru.km 1]) none), (59, .sl 4 (eTms [Ru.km 0]) none), (64, .ag [.v (.int .i64 1), .sl 2 (eTys Ru.kC) none, .sl 2 (eTys []) none]), (65, .ag [.sl 2 (eTys Ru.KP.l.binds) none, .v (.int .i64 Ru.KP.l.kind), .v (.int .i64 Ru.KP.l.index), .sl 4 (eTms Ru.KP.l.args) none, .sl 2 (eTys Ru.KP.r.binds) none, .v (.int .i64 Ru.KP.r.kind), .v (.int .i64 Ru.KP.r.index), .sl 4 (eTms Ru.KP.r.args) none, .sl 2 (eTys Ru.KP.m) none]), (67, .v (.bool true)), (70, .ag [.v (.int .i64 1), .sl 2 (eTys Ru.kC) none, .sl 2 (eTys []) none]), (74, .sl 4 (eTms [Ru.km 0]) none), (79, .sl 4 (eTms [Ru.km 1]) none), (83, .ag [.sl 2 (eTys Ru.KS.l.binds) none, .v (.int .i64 Ru.KS.l.kind), .v (.int .i64 Ru.KS.l.index), .sl 4 (eTms Ru.KS.l.args) none, .sl 2 (eTys Ru.KS.r.binds) none, .v (.int .i64 Ru.KS.r.kind), .v (.int .i64 Ru.KS.r.index), .sl 4 (eTms Ru.KS.r.args) none, .sl 2 (eTys Ru.KS.m) none]), (85, .v (.bool true)), (88, .ag [.sl 2 (eTys Ru.KP.l.binds) none, .v (.int .i64 Ru.KP.l.kind), .v (.int .i64 Ru.KP.l.index), .sl 4 (eTms Ru.KP.l.args) none, .sl 2 (eTys Ru.KP.r.binds) none, .v (.int .i64 Ru.KP.r.kind), .v (.int .i64 Ru.KP.r.index), .sl 4 (eTms Ru.KP.r.args) none, .sl 2 (eTys Ru.KP.m) none])] TRH_ok hnt fun K hK => ?_
  refine And.intro (VLe.refl _) ?_; refine dcl (rk2_d 0) ?_; refine dcl (rk2_d 1) ?_; refine And.intro (VLe.untag _ _ _) ?_; refine dcl (rk1_d 0 _) ?_; refine dcl (e1) ?_; refine dcl (rk2_d 0) ?_; refine And.intro (VLe.untag _ _ _) ?_; refine dcl (rk1_d 1 _) ?_; refine dcl (e2) ?_; refine And.intro (auV) ?_; refine And.intro (auV) ?_; refine dcl (c1) ?_; refine And.intro (VLe.refl _) ?_; refine And.intro (auV) ?_
  refine dcl (rk2_d 0) ?_; refine And.intro (VLe.untag _ _ _) ?_; refine dcl (rk1_d 1 _) ?_; refine dcl (rk2_d 1) ?_; refine And.intro (VLe.untag _ _ _) ?_; refine dcl (rk1_d 1 _) ?_; refine And.intro (auV) ?_; refine dcl (c2) ?_; refine And.intro (VLe.refl _) ?_; refine And.intro (auV) ?_; refine dcl (hv) ?_; refine hK _ _ (by kernel_rfl) ?_; clear hK K; refine dw_ret ?_
  exact reta rfl
end Go.Proofs.YtdmiekaeodcehaaGreat

namespace Go.Proofs.YtdmiekaeodcehaaGreat
open Go.RowKit

def CmpKind (t : Ty) : Prop := ∀ (F : Nat → Prop) (w0 : World) (s b : Value), IsTy F w0 s b t → ∀ (F' : Nat → Prop) (w0' : World) (s' b' : Value) (u : Ty), IsTy F' w0' s' b' u → ∀ w : World, Keep F w0 w → Keep F' w0' w → t.size ≤ 500000 → u.size ≤ 500000 →
    Calls Tryz.prog 77 #[.agg #[s, b], .agg #[s', b']] w (RetI (Ty.cmp t u) w)

theorem sizes_get5 {l : List Ty} {b : Int} (h : (Ty.mk l b).size ≤ 500000) (i : Nat) (hi : i < l.length) : l[i].size ≤ 500000 := by have := Ty.size_get (b := b) i hi; omega

set_option maxRecDepth 100000 in
set_option maxHeartbeats 1600000 in
theorem compare_k : ∀ t : Ty, CmpKind t := Ty.ind fun args base ih => by
  intro F w0 s b ht F' w0' s' b' u hu w hw hw' hz hz'
  obtain ⟨args', base'⟩ := u
  have Hs := Lib.hid fun (w : World) (hw : Keep F w0 w) => size_k (ht.keep hw) hz
  have Hs' := Lib.hid fun (w : World) (hw : Keep F' w0' w) => size_k (hu.keep hw) hz'
  obtain ⟨rfl, hs⟩ := ht.inv
  obtain ⟨rfl, hs'⟩ := hu.inv
  obtain ⟨a, c, rfl⟩ := sl_shape' hs
  obtain ⟨a', c', rfl⟩ := sl_shape' hs'
  obtain ⟨_, hm, bl, off, A, N, C, B, ha, h1, h2, h3⟩ := sl_cells' hs
  obtain ⟨_, hm', bl', off', A', N', C', B', ha', h1', h2', h3'⟩ := sl_cells' hs'
  clear hs hs' ht hu
  unfold maxLen at hm hm'
  simp only [args_mk', base_mk'] at *
  have H3 : Hid (∀ i (h : i < args.length) (h' : i < args'.length) (w : World), Keep F w0 w → Keep F' w0' w → Calls Tryz.prog 77 #[.agg #[.slice (A i) (N i) (C i), .int .i64 (B i)], .agg #[.slice (A' i) (N' i) (C' i), .int .i64 (B' i)]] w (RetI (Ty.cmp args[i] args'[i]) w)) :=
    fun i h h' w hw hw' => ih _ (List.getElem_mem h) _ _ _ _ (h3 i h) _ _ _ _ _ (h3' i h') w hw hw' (sizes_get5 hz i h) (sizes_get5 hz' i h')
  clear h3 h3' ih
  obtain ⟨z, hz0⟩ : ∃ z, (Ty.mk args base).size = z := ⟨_, rfl⟩
  obtain ⟨z', hz0'⟩ : ∃ z', (Ty.mk args' base').size = z' := ⟨_, rfl⟩
  obtain ⟨r, hr⟩ : ∃ r, Ty.cmp (.mk args base) (.mk args' base') = r := ⟨_, rfl⟩
  have Hr := Lib.hid (Ty.cmp_mk args args' base base')
  have Hzl : Hid (z = z' → args.length = args'.length → args.length = args'.length) := fun _ h => h
  rw [hr, hz0, hz0'] at Hr
  rw [hz0] at Hs hz
  rw [hz0'] at Hs' hz'
  rw [hr]
  clear hr hz0 hz0'
  obtain ⟨wB, hwB⟩ : ∃ wB, (w.alloc (.cells #[.slice a args.length c, .int .i64 base] 75)).alloc (.cells #[.slice a' args'.length c', .int .i64 base'] 75) = wB := ⟨_, rfl⟩
  have B0 : Below w.heap.size w wB := by rw [← hwB]; exact ((Below.refl _ _).alloc (Nat.le_refl _) _).alloc (by simp) _
  have x0 : Blk wB w.heap.size #[.slice a args.length c, .int .i64 base] 75 := by rw [← hwB]; exact (Blk.new _ _ _ rfl).alloc _
  have x1 : Blk wB (w.heap.size + 1) #[.slice a' args'.length c', .int .i64 base'] 75 := by rw [← hwB]; exact Blk.new _ _ _ (by simp)
  go_enter Tryz.func77, Tryz.ntmps77
  go_wp2_with fail
  clear hwB
  refine wp_region_noPanic (wp_region_need (S := fun w' => w'.cell? ⟨w.heap.size, 0, none⟩ = some (.slice a args.length c) ∧ w'.cell? ⟨w.heap.size, 1, none⟩ = some (.int .i64 base) ∧ w'.cell? ⟨w.heap.size + 1, 0, none⟩ = some (.slice a' args'.length c') ∧ w'.cell? ⟨w.heap.size + 1, 1, none⟩ = some (.int .i64 base')) (by kernel_rfl) ?_)
  have hS : (wB.drew).cell? ⟨w.heap.size, 0, none⟩ = some (.slice a args.length c) ∧ (wB.drew).cell? ⟨w.heap.size, 1, none⟩ = some (.int .i64 base) ∧ (wB.drew).cell? ⟨w.heap.size + 1, 0, none⟩ = some (.slice a' args'.length c') ∧ (wB.drew).cell? ⟨w.heap.size + 1, 1, none⟩ = some (.int .i64 base') := ⟨x0.drew.cell rfl, x0.drew.cell rfl, x1.drew.cell rfl, x1.drew.cell rfl⟩
  refine wpN_take (i := 0) (v := ?v1) rfl (by kernel_rfl) (fun _ _ _ h => h) hS (Or.inl ⟨by rfl, ?hy1⟩) ?hr1
  case hy1 => (intro wS hSw; (try dsimp only at hSw); go_simp; (try with_reducible rfl))
  try simp only [Act.put, List.setIfInBounds_toArray, List.set_cons_zero, List.set_cons_succ, List.getElem_toArray, List.getElem_cons_zero, List.getElem_cons_succ]
  refine wpN_take (i := 2) (v := ?v2) rfl (by kernel_rfl) (fun _ _ _ h => h) hS (Or.inl ⟨by rfl, ?hy2⟩) ?hr2
  case hy2 => (intro wS hSw; (try dsimp only at hSw); go_simp; (try with_reducible rfl))
  try simp only [Act.put, List.setIfInBounds_toArray, List.set_cons_zero, List.set_cons_succ, List.getElem_toArray, List.getElem_cons_zero, List.getElem_cons_succ]
  refine wpN_take (i := 5) (v := ?v3) rfl (by kernel_rfl) (fun _ _ _ h => h) hS (Or.inl ⟨by rfl, ?hy3⟩) ?hr3
  case hy3 => (intro wS hSw; (try dsimp only at hSw); go_simp; (try with_reducible rfl))
  try simp only [Act.put, List.setIfInBounds_toArray, List.set_cons_zero, List.set_cons_succ, List.getElem_toArray, List.getElem_cons_zero, List.getElem_cons_succ]
  refine wpN_take (i := 6) (v := ?v4) rfl (by kernel_rfl) (fun _ _ _ h => h) hS (Or.inl ⟨by rfl, ?hy4⟩) ?hr4
  case hy4 => (intro wS hSw; (try dsimp only at hSw); go_simp; (try with_reducible rfl))
  try simp only [Act.put, List.setIfInBounds_toArray, List.set_cons_zero, List.set_cons_succ, List.getElem_toArray, List.getElem_cons_zero, List.getElem_cons_succ]
  refine wpN_take (i := 7) (v := ?v5) rfl (by kernel_rfl) (fun _ _ _ h => h) hS (Or.inl ⟨by rfl, ?hy5⟩) ?hr5
  case hy5 => (intro wS hSw; (try dsimp only at hSw); go_simp; (try with_reducible rfl))
  try simp only [Act.put, List.setIfInBounds_toArray, List.set_cons_zero, List.set_cons_succ, List.getElem_toArray, List.getElem_cons_zero, List.getElem_cons_succ]
  refine wpN_take (i := 8) (v := ?v6) rfl (by kernel_rfl) (fun _ _ _ h => h) hS (Or.inl ⟨by rfl, ?hy6⟩) ?hr6
  case hy6 => (intro wS hSw; (try dsimp only at hSw); go_simp; (try with_reducible rfl))
  try simp only [Act.put, List.setIfInBounds_toArray, List.set_cons_zero, List.set_cons_succ, List.getElem_toArray, List.getElem_cons_zero, List.getElem_cons_succ]
  refine wpN_take (i := 9) (v := ?v7) rfl (by kernel_rfl) (fun _ _ _ h => h) hS (Or.inl ⟨by rfl, ?hy7⟩) ?hr7
  case hy7 => (intro wS hSw; (try dsimp only at hSw); go_simp; (try with_reducible rfl))
  try simp only [Act.put, List.setIfInBounds_toArray, List.set_cons_zero, List.set_cons_succ, List.getElem_toArray, List.getElem_cons_zero, List.getElem_cons_succ]
  refine wpN_take (i := 10) (v := ?v8) rfl (by kernel_rfl) (fun _ _ _ h => h) hS (Or.inl ⟨by rfl, ?hy8⟩) ?hr8
  case hy8 => (intro wS hSw; (try dsimp only at hSw); go_simp; (try with_reducible rfl))
  try simp only [Act.put, List.setIfInBounds_toArray, List.set_cons_zero, List.set_cons_succ, List.getElem_toArray, List.getElem_cons_zero, List.getElem_cons_succ]
  refine wpN_step (i := 1) (by kernel_rfl) rfl (fun K hK => ?_)
  go_simp
  refine (Hs.out _ (hw.below B0).drew).mono ?_
  rintro e w1 ⟨rfl, hb1⟩
  have B1 := B0.drew.trans (hb1.mono B0.size)
  have y0 := x0.drew.below hb1
  have y1 := x1.drew.below hb1
  have hS : (w1).cell? ⟨w.heap.size, 0, none⟩ = some (.slice a args.length c) ∧ (w1).cell? ⟨w.heap.size, 1, none⟩ = some (.int .i64 base) ∧ (w1).cell? ⟨w.heap.size + 1, 0, none⟩ = some (.slice a' args'.length c') ∧ (w1).cell? ⟨w.heap.size + 1, 1, none⟩ = some (.int .i64 base') := ⟨y0.cell rfl, y0.cell rfl, y1.cell rfl, y1.cell rfl⟩
  refine hK.out _ _ (fun _ => hS) ?_
  clear hK K
  try simp only [Act.put, List.setIfInBounds_toArray, List.set_cons_zero, List.set_cons_succ, List.getElem_toArray, List.getElem_cons_zero, List.getElem_cons_succ]
  refine wpN_step (i := 3) (by kernel_rfl) rfl (fun K hK => ?_)
  go_simp
  refine (Hs'.out _ (hw'.below B1)).mono ?_
  rintro e w2 ⟨rfl, hb2⟩
  have B2 := B1.trans (hb2.mono B1.size)
  have z0 := y0.below hb2
  have z1 := y1.below hb2
  have hS : (w2).cell? ⟨w.heap.size, 0, none⟩ = some (.slice a args.length c) ∧ (w2).cell? ⟨w.heap.size, 1, none⟩ = some (.int .i64 base) ∧ (w2).cell? ⟨w.heap.size + 1, 0, none⟩ = some (.slice a' args'.length c') ∧ (w2).cell? ⟨w.heap.size + 1, 1, none⟩ = some (.int .i64 base') := ⟨z0.cell rfl, z0.cell rfl, z1.cell rfl, z1.cell rfl⟩
  refine hK.out _ _ (fun _ => hS) ?_
  clear hK K
  try simp only [Act.put, List.setIfInBounds_toArray, List.set_cons_zero, List.set_cons_succ, List.getElem_toArray, List.getElem_cons_zero, List.getElem_cons_succ]
  refine wpN_step (i := 4) (by kernel_rfl) rfl (fun K hK => ?_)
  go_simp
  refine (compare_i _ _ _).mono ?_
  rintro e w3 ⟨rfl, hb3⟩
  have B3 := B2.trans (hb3.mono B2.size)
  have u0 := z0.below hb3
  have u1 := z1.below hb3
  have hS : (w3).cell? ⟨w.heap.size, 0, none⟩ = some (.slice a args.length c) ∧ (w3).cell? ⟨w.heap.size, 1, none⟩ = some (.int .i64 base) ∧ (w3).cell? ⟨w.heap.size + 1, 0, none⟩ = some (.slice a' args'.length c') ∧ (w3).cell? ⟨w.heap.size + 1, 1, none⟩ = some (.int .i64 base') := ⟨u0.cell rfl, u0.cell rfl, u1.cell rfl, u1.cell rfl⟩
  refine hK.out _ _ (fun _ => hS) ?_
  clear hK K
  try simp only [Act.put, List.setIfInBounds_toArray, List.set_cons_zero, List.set_cons_succ, List.getElem_toArray, List.getElem_cons_zero, List.getElem_cons_succ]
  refine wpN_step (i := 11) (by kernel_rfl) rfl (fun K hK => ?_)
  go_simp
  refine (compare_i _ _ _).mono ?_
  rintro e w4 ⟨rfl, hb4⟩
  have B4 := B3.trans (hb4.mono B3.size)
  have t0 := u0.below hb4
  have t1 := u1.below hb4
  have hS : (w4).cell? ⟨w.heap.size, 0, none⟩ = some (.slice a args.length c) ∧ (w4).cell? ⟨w.heap.size, 1, none⟩ = some (.int .i64 base) ∧ (w4).cell? ⟨w.heap.size + 1, 0, none⟩ = some (.slice a' args'.length c') ∧ (w4).cell? ⟨w.heap.size + 1, 1, none⟩ = some (.int .i64 base') := ⟨t0.cell rfl, t0.cell rfl, t1.cell rfl, t1.cell rfl⟩
  refine hK.out _ _ (fun _ => hS) ?_
  clear hK K
  try simp only [Act.put, List.setIfInBounds_toArray, List.set_cons_zero, List.set_cons_succ, List.getElem_toArray, List.getElem_cons_zero, List.getElem_cons_succ]
  clear x0 x1 y0 y1 z0 z1 u0 u1 B0 B1 B2 B3 hb1 hb2 hb3 hb4
  refine wpN_step (i := 12) (by kernel_rfl) rfl (fun K hK => ?_)
  go_simp
  have B5 := B4.alloc B4.size (.cells #[.int .i64 (sgn z z'), .int .i64 (sgn args.length args'.length)] 3)
  have y0 := t0.alloc (.cells #[.int .i64 (sgn z z'), .int .i64 (sgn args.length args'.length)] 3)
  have y1 := t1.alloc (.cells #[.int .i64 (sgn z z'), .int .i64 (sgn args.length args'.length)] 3)
  have y2 := Blk.new w4 #[.int .i64 (sgn z z'), .int .i64 (sgn args.length args'.length)] 3 rfl
  have hS : (w4.alloc (.cells #[.int .i64 (sgn z z'), .int .i64 (sgn args.length args'.length)] 3)).cell? ⟨w.heap.size, 0, none⟩ = some (.slice a args.length c) ∧ (w4.alloc (.cells #[.int .i64 (sgn z z'), .int .i64 (sgn args.length args'.length)] 3)).cell? ⟨w.heap.size, 1, none⟩ = some (.int .i64 base) ∧ (w4.alloc (.cells #[.int .i64 (sgn z z'), .int .i64 (sgn args.length args'.length)] 3)).cell? ⟨w.heap.size + 1, 0, none⟩ = some (.slice a' args'.length c') ∧ (w4.alloc (.cells #[.int .i64 (sgn z z'), .int .i64 (sgn args.length args'.length)] 3)).cell? ⟨w.heap.size + 1, 1, none⟩ = some (.int .i64 base') := ⟨y0.cell rfl, y0.cell rfl, y1.cell rfl, y1.cell rfl⟩
  refine hK.out _ _ (fun _ => hS) ?_
  clear hK K
  try simp only [Act.put, List.setIfInBounds_toArray, List.set_cons_zero, List.set_cons_succ, List.getElem_toArray, List.getElem_cons_zero, List.getElem_cons_succ]
  refine wpN_step (i := 13) (by kernel_rfl) rfl (fun K hK => ?_)
  go_simp
  refine (or2_i _ _ _ _ _ y2).mono ?_
  rintro e w6 ⟨rfl, hb6⟩
  have B6 := B5.trans (hb6.mono B5.size)
  have z0 := y0.below hb6
  have z1 := y1.below hb6
  have hS : (w6).cell? ⟨w.heap.size, 0, none⟩ = some (.slice a args.length c) ∧ (w6).cell? ⟨w.heap.size, 1, none⟩ = some (.int .i64 base) ∧ (w6).cell? ⟨w.heap.size + 1, 0, none⟩ = some (.slice a' args'.length c') ∧ (w6).cell? ⟨w.heap.size + 1, 1, none⟩ = some (.int .i64 base') := ⟨z0.cell rfl, z0.cell rfl, z1.cell rfl, z1.cell rfl⟩
  refine hK.out _ _ (fun _ => hS) ?_
  clear hK K
  try simp only [Act.put, List.setIfInBounds_toArray, List.set_cons_zero, List.set_cons_succ, List.getElem_toArray, List.getElem_cons_zero, List.getElem_cons_succ]
  clear y0 y1 y2 t0 t1 B4 B5 hb6
  refine wpN_step (i := 14) (by kernel_rfl) rfl (fun K hK => ?_)
  go_simp
  refine hK.out _ _ (fun h => absurd h (by decide)) ?_
  clear hK K
  try simp only [Act.put, List.setIfInBounds_toArray, List.set_cons_zero, List.set_cons_succ, List.getElem_toArray, List.getElem_cons_zero, List.getElem_cons_succ]
  refine wpN_done (by kernel_rfl) ?_
  refine NoPanic.normal ?_
  have Hm : Hid (orl (sgn z z') (sgn args.length args'.length) = 0 → args.length = args'.length) := fun h => by
    have := sgn_zero.1 (orl_eq_zero.1 h).2; omega
  generalize orl (sgn z z') (sgn args.length args'.length) = m at *
  go_wp2_with fail
  go_loopw [5, 6] (fun x i wr => ∃ (k : Nat) (m : Int), i = .int .i64 k ∧ x = .int .i64 m ∧ k ≤ args.length ∧ Hid (m = 0 → args.length = args'.length) ∧ Hid (r = orl (orl m (Ty.cmps (args.drop k) (args'.drop k))) (sgn base base')) ∧ Below w.heap.size w wr ∧ Blk wr w.heap.size #[.slice a args.length c, .int .i64 base] 75 ∧ Blk wr (w.heap.size + 1) #[.slice a' args'.length c', .int .i64 base'] 75) (fun _ i _ => args.length - (intOf i).toNat)
  case atStart => exact ⟨0, m, rfl, rfl, by omega, Hm, Hr, B6, z0, z1⟩
  case round =>
    clear B6 z0 z1 Hm Hr
    obtain ⟨k, m, rfl, rfl, hk, hm0, hr, hb, hbox, hbox'⟩ := hrel
    have c0 : wr.cell? ⟨w.heap.size, 0, none⟩ = some (.slice a args.length c) := hbox.cell rfl
    have c0' : wr.cell? ⟨w.heap.size + 1, 0, none⟩ = some (.slice a' args'.length c') := hbox'.cell rfl
    have d0 : wr.cell? ⟨w.heap.size, 1, none⟩ = some (.int .i64 base) := hbox.cell rfl
    have d0' : wr.cell? ⟨w.heap.size + 1, 1, none⟩ = some (.int .i64 base') := hbox'.cell rfl
    have hlt0 := hbox'.lt
    by_cases hlt : k < args.length
    · have i1 : (k : Int) < (args.length : Int) := by omega
      by_cases hm0' : m = 0
      · have Hll := Lib.hid (hm0.out hm0')
        subst hm0'
        have hlt' : k < args'.length := by rw [← Hll.out]; exact hlt
        obtain ⟨rfl, hF⟩ := ha (by omega)
        obtain ⟨rfl, hF'⟩ := ha' (by omega)
        have e1 : wr.cell? ⟨bl, off + k * 2, none⟩ = some (.slice (A k) (N k) (C k)) := (hw.below hb) _ _ _ hF (h1 k hlt)
        have e2 : wr.cell? ⟨bl, off + k * 2 + 1, none⟩ = some (.int .i64 (B k)) := (hw.below hb) _ _ _ hF (h2 k hlt)
        have e1' : wr.cell? ⟨bl', off' + k * 2, none⟩ = some (.slice (A' k) (N' k) (C' k)) := (hw'.below hb) _ _ _ hF' (h1' k hlt')
        have e2' : wr.cell? ⟨bl', off' + k * 2 + 1, none⟩ = some (.int .i64 (B' k)) := (hw'.below hb) _ _ _ hF' (h2' k hlt')
        have i0 : (0 : Int) ≤ (k : Int) := Int.natCast_nonneg _
        have i2 : (k : Int) < (args'.length : Int) := by omega
        have Hd := Lib.hid (Ty.cmps_drop hlt hlt')
        go_wp2_with fail
        refine wp_region_noPanic (wp_region_need (S := fun w' => w'.cell? ⟨w.heap.size, 0, none⟩ = some (.slice (some ⟨bl, off, none⟩) args.length c) ∧ w'.cell? ⟨w.heap.size + 1, 0, none⟩ = some (.slice (some ⟨bl', off', none⟩) args'.length c') ∧ w'.cell? ⟨bl, off + k * 2, none⟩ = some (.slice (A k) (N k) (C k)) ∧ w'.cell? ⟨bl, off + k * 2 + 1, none⟩ = some (.int .i64 (B k)) ∧ w'.cell? ⟨bl', off' + k * 2, none⟩ = some (.slice (A' k) (N' k) (C' k)) ∧ w'.cell? ⟨bl', off' + k * 2 + 1, none⟩ = some (.int .i64 (B' k))) (by kernel_rfl) ?_)
        have hS : (wr.drew).cell? ⟨w.heap.size, 0, none⟩ = some (.slice (some ⟨bl, off, none⟩) args.length c) ∧ (wr.drew).cell? ⟨w.heap.size + 1, 0, none⟩ = some (.slice (some ⟨bl', off', none⟩) args'.length c') ∧ (wr.drew).cell? ⟨bl, off + k * 2, none⟩ = some (.slice (A k) (N k) (C k)) ∧ (wr.drew).cell? ⟨bl, off + k * 2 + 1, none⟩ = some (.int .i64 (B k)) ∧ (wr.drew).cell? ⟨bl', off' + k * 2, none⟩ = some (.slice (A' k) (N' k) (C' k)) ∧ (wr.drew).cell? ⟨bl', off' + k * 2 + 1, none⟩ = some (.int .i64 (B' k)) := ⟨c0, c0', e1, e2, e1', e2'⟩
        refine wpN_take (i := 0) (v := ?v9) rfl (by kernel_rfl) (fun _ _ _ h => h) hS (Or.inl ⟨by rfl, ?hy9⟩) ?hr9
        case hy9 => (intro wS hSw; (try dsimp only at hSw); go_simp; (try with_reducible rfl))
        try simp only [Act.put, List.setIfInBounds_toArray, List.set_cons_zero, List.set_cons_succ, List.getElem_toArray, List.getElem_cons_zero, List.getElem_cons_succ]
        refine wpN_take (i := 1) (v := ?v10) rfl (by kernel_rfl) (fun _ _ _ h => h) hS (Or.inl ⟨by rfl, ?hy10⟩) ?hr10
        case hy10 => (intro wS hSw; (try dsimp only at hSw); go_simp; (try with_reducible rfl))
        try simp only [Act.put, List.setIfInBounds_toArray, List.set_cons_zero, List.set_cons_succ, List.getElem_toArray, List.getElem_cons_zero, List.getElem_cons_succ]
        refine wpN_take (i := 2) (v := ?v11) rfl (by kernel_rfl) (fun _ _ _ h => h) hS (Or.inl ⟨by rfl, ?hy11⟩) ?hr11
        case hy11 => (intro wS hSw; (try dsimp only at hSw); go_simp; (try with_reducible rfl))
        try simp only [Act.put, List.setIfInBounds_toArray, List.set_cons_zero, List.set_cons_succ, List.getElem_toArray, List.getElem_cons_zero, List.getElem_cons_succ]
        refine wpN_take (i := 3) (v := ?v12) rfl (by kernel_rfl) (fun _ _ _ h => h) hS (Or.inl ⟨by rfl, ?hy12⟩) ?hr12
        case hy12 => (intro wS hSw; (try dsimp only at hSw); go_simp; (try with_reducible rfl))
        try simp only [Act.put, List.setIfInBounds_toArray, List.set_cons_zero, List.set_cons_succ, List.getElem_toArray, List.getElem_cons_zero, List.getElem_cons_succ]
        refine wpN_take (i := 4) (v := ?v13) rfl (by kernel_rfl) (fun _ _ _ h => h) hS (Or.inl ⟨by rfl, ?hy13⟩) ?hr13
        case hy13 => (intro wS hSw; (try dsimp only at hSw); go_simp; (try with_reducible rfl))
        try simp only [Act.put, List.setIfInBounds_toArray, List.set_cons_zero, List.set_cons_succ, List.getElem_toArray, List.getElem_cons_zero, List.getElem_cons_succ]
        refine wpN_take (i := 5) (v := ?v14) rfl (by kernel_rfl) (fun _ _ _ h => h) hS (Or.inl ⟨by rfl, ?hy14⟩) ?hr14
        case hy14 => (intro wS hSw; (try dsimp only at hSw); go_simp; (try with_reducible rfl))
        try simp only [Act.put, List.setIfInBounds_toArray, List.set_cons_zero, List.set_cons_succ, List.getElem_toArray, List.getElem_cons_zero, List.getElem_cons_succ]
        refine wpN_take (i := 6) (v := ?v15) rfl (by kernel_rfl) (fun _ _ _ h => h) hS (Or.inl ⟨by rfl, ?hy15⟩) ?hr15
        case hy15 => (intro wS hSw; (try dsimp only at hSw); go_simp; (try with_reducible rfl))
        try simp only [Act.put, List.setIfInBounds_toArray, List.set_cons_zero, List.set_cons_succ, List.getElem_toArray, List.getElem_cons_zero, List.getElem_cons_succ]
        refine wpN_take (i := 7) (v := ?v16) rfl (by kernel_rfl) (fun _ _ _ h => h) hS (Or.inl ⟨by rfl, ?hy16⟩) ?hr16
        case hy16 => (intro wS hSw; (try dsimp only at hSw); go_simp; (try with_reducible rfl))
        try simp only [Act.put, List.setIfInBounds_toArray, List.set_cons_zero, List.set_cons_succ, List.getElem_toArray, List.getElem_cons_zero, List.getElem_cons_succ]
        refine wpN_take (i := 8) (v := ?v17) rfl (by kernel_rfl) (fun _ _ _ h => h) hS (Or.inl ⟨by rfl, ?hy17⟩) ?hr17
        case hy17 => (intro wS hSw; (try dsimp only at hSw); go_simp; (try with_reducible rfl))
        try simp only [Act.put, List.setIfInBounds_toArray, List.set_cons_zero, List.set_cons_succ, List.getElem_toArray, List.getElem_cons_zero, List.getElem_cons_succ]
        refine wpN_take (i := 9) (v := ?v18) rfl (by kernel_rfl) (fun _ _ _ h => h) hS (Or.inl ⟨by rfl, ?hy18⟩) ?hr18
        case hy18 => (intro wS hSw; (try dsimp only at hSw); go_simp; (try with_reducible rfl))
        try simp only [Act.put, List.setIfInBounds_toArray, List.set_cons_zero, List.set_cons_succ, List.getElem_toArray, List.getElem_cons_zero, List.getElem_cons_succ]
        refine wpN_step (i := 10) (by kernel_rfl) rfl (fun K hK => ?_)
        go_simp
        refine (H3.out k hlt hlt' _ (hw.below hb).drew (hw'.below hb).drew).mono ?_
        rintro e w1 ⟨rfl, hb1⟩
        have hB : Below w.heap.size w w1 := hb.drew.trans (hb1.mono (by simp; omega))
        have hKp : Keep (fun _ => True) wr w1 := ((Keep.refl _ _).drew).below hb1
        have hS : (w1).cell? ⟨w.heap.size, 0, none⟩ = some (.slice (some ⟨bl, off, none⟩) args.length c) ∧ (w1).cell? ⟨w.heap.size + 1, 0, none⟩ = some (.slice (some ⟨bl', off', none⟩) args'.length c') ∧ (w1).cell? ⟨bl, off + k * 2, none⟩ = some (.slice (A k) (N k) (C k)) ∧ (w1).cell? ⟨bl, off + k * 2 + 1, none⟩ = some (.int .i64 (B k)) ∧ (w1).cell? ⟨bl', off' + k * 2, none⟩ = some (.slice (A' k) (N' k) (C' k)) ∧ (w1).cell? ⟨bl', off' + k * 2 + 1, none⟩ = some (.int .i64 (B' k)) := ⟨hKp _ _ _ trivial c0, hKp _ _ _ trivial c0', hKp _ _ _ trivial e1, hKp _ _ _ trivial e2, hKp _ _ _ trivial e1', hKp _ _ _ trivial e2'⟩
        have hx := Blk.below (w := wr.drew) hbox hb1
        have hx' := Blk.below (w := wr.drew) hbox' hb1
        rw [orl_zero, Hd.out] at hr
        clear Hd
        generalize Ty.cmp args[k] args'[k] = x at *
        refine hK.out _ _ (fun _ => hS) ?_
        clear hK K
        try simp only [Act.put, List.setIfInBounds_toArray, List.set_cons_zero, List.set_cons_succ, List.getElem_toArray, List.getElem_cons_zero, List.getElem_cons_succ]
        refine wpN_step (i := 11) (by kernel_rfl) rfl (fun K hK => ?_)
        go_simp
        refine hK.out _ _ (fun h => absurd h (by decide)) ?_
        clear hK K
        try simp only [Act.put, List.setIfInBounds_toArray, List.set_cons_zero, List.set_cons_succ, List.getElem_toArray, List.getElem_cons_zero, List.getElem_cons_succ]
        refine wpN_done (by kernel_rfl) ?_
        refine NoPanic.normal ?_
        go_wp2_with fail
        go_roundw
        case rel => exact ⟨k + 1, x, by go_num, rfl, by omega, fun _ => Hll.out, hr, hB, hx, hx'⟩
        case measure => simp [intOf]; omega
      · have g1 : (m == 0) = false := by simpa using hm0'
        have hr2 : Hid (r = orl m (sgn base base')) := by
          have h := hr.out
          rw [orl_assoc, orl_ne hm0'] at h
          rw [orl_ne hm0']; exact h
        go_wp2_with fail
        refine (compare_i _ _ _).mono ?_
        rintro e w7 ⟨rfl, hb7⟩
        have B7 := hb.trans (hb7.mono hb.size)
        go_wp2_with fail
        refine (or2_i _ _ _ _ _ (Blk.new _ _ _ rfl)).mono ?_
        rintro e w8 ⟨rfl, hb8⟩
        go_wp2_with fail
        go_ret
        exact ⟨by rw [hr2.out]; rfl, (B7.alloc B7.size _).trans (hb8.mono (by have := B7.size; simp; omega))⟩
    · have hr2 : Hid (r = orl m (sgn base base')) := by
        have h := hr.out
        rw [List.drop_of_length_le (show args.length ≤ k by omega), Ty.cmps_nil, orl_zero_right] at h
        exact h
      have i1 : ¬ (k : Int) < (args.length : Int) := by omega
      go_wp2_with fail
      refine (compare_i _ _ _).mono ?_
      rintro e w7 ⟨rfl, hb7⟩
      have B7 := hb.trans (hb7.mono hb.size)
      go_wp2_with fail
      refine (or2_i _ _ _ _ _ (Blk.new _ _ _ rfl)).mono ?_
      rintro e w8 ⟨rfl, hb8⟩
      go_wp2_with fail
      go_ret
      exact ⟨by rw [hr2.out]; rfl, (B7.alloc B7.size _).trans (hb8.mono (by have := B7.size; simp; omega))⟩
end Go.Proofs.YtdmiekaeodcehaaGreat

