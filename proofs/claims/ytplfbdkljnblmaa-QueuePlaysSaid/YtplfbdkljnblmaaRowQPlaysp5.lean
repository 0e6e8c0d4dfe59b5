/-
  Queue.All: what waits, by ages: the walk. The law's known example: what the queue answers there. Queue.Copy: one of its own. The queue and the document's, side by side in memory.
-/
import Derived.Test.YtplfbdkljnblmaaRowQPlaysp4
import Derived.Shelf.SlSortCmp.NoneTotal
set_option linter.unusedVariables false
set_option linter.unusedSimpArgs false
namespace Go.Proofs.Ytplfbdkljnblmaa
open Go.RowKit Go.Maps Go.Sort

theorem invKE : ∀ key kl, keyOf Try.prog 3 key = some kl → ∃ x, key = Value.int .i64 x := fun key kl h => by
  obtain ⟨x, hx, _⟩ := Maps.keyOf_int_inv key_ty h; exact ⟨x, hx⟩
theorem invVE : ∀ (v : Value) (y : DataW Unit × List MemPlace), rE v = some y → ∃ c : Ent, v = c.v := fun v y h => by
  unfold rE at h
  split at h
  · rename_i a
    split at h
    · rename_i x y z hl
      exact ⟨⟨x, y, z⟩, by unfold Ent.v; congr 1; exact Array.toList_inj.1 (by simpa using hl)⟩
    · cases h
  · cases h

def Met (L : List Ent) (left : Lit → Bool) (acc : List Ent) : Prop := acc.Perm (L.filter fun e => !left (.int .i64 e.key))
theorem Met.start {L : List Ent} {D : DataW Unit} (h : ∀ e ∈ L, Maps.has D (.int .i64 e.key) = true) : Met L (Maps.has D) [] := by
  unfold Met
  rw [List.filter_eq_nil_iff.2 (fun e he => by rw [h e he]; simp)]
theorem Met.step {L : List Ent} {left : Lit → Bool} {acc : List Ent} (h : Met L left acc) (hL : (L.map Ent.key).Nodup) {c : Ent} (hc : c ∈ L) (hl : left (.int .i64 c.key) = true) :
    Met L (fun z => left z && !z.sameKey (.int .i64 c.key)) (acc ++ [c]) := by
  have key : ∀ L : List Ent, (L.map Ent.key).Nodup → c ∈ L → (L.filter fun e => !(left (.int .i64 e.key) && !(Lit.int .i64 e.key).sameKey (.int .i64 c.key))).Perm (c :: L.filter fun e => !left (.int .i64 e.key)) := by
    intro L
    induction L with
    | nil => intro _ h; cases h
    | cons x L ih =>
      intro hL hc
      simp only [List.map_cons, List.nodup_cons] at hL
      by_cases hx : x = c
      · subst hx
        have e1 : (x :: L).filter (fun e => !left (.int .i64 e.key)) = L.filter (fun e => !left (.int .i64 e.key)) := by rw [List.filter_cons_of_neg (by rw [hl]; simp)]
        rw [e1, List.filter_cons_of_pos (by simp [Lit.sameKey])]
        refine List.Perm.cons _ (List.Perm.of_eq (List.filter_congr fun e he => ?_))
        have hne : e.key ≠ x.key := fun h => hL.1 (h ▸ List.mem_map.2 ⟨e, he, rfl⟩)
        have : (Lit.int .i64 e.key).sameKey (.int .i64 x.key) = false := by simp [Lit.sameKey, hne]
        rw [this]; simp
      · have hcL : c ∈ L := by rcases List.mem_cons.1 hc with h | h; exact absurd h.symm hx; exact h
        have hne : x.key ≠ c.key := fun h => hL.1 (h ▸ List.mem_map.2 ⟨c, hcL, rfl⟩)
        have hs : (Lit.int .i64 x.key).sameKey (.int .i64 c.key) = false := by simp [Lit.sameKey, hne]
        have ih := ih hL.2 hcL
        by_cases hlx : left (.int .i64 x.key) = true
        · rw [List.filter_cons_of_neg (by rw [hlx, hs]; simp), List.filter_cons_of_neg (by rw [hlx]; simp)]
          exact ih
        · have hlx' : left (.int .i64 x.key) = false := by simpa using hlx
          rw [List.filter_cons_of_pos (by rw [hlx']; simp), List.filter_cons_of_pos (by rw [hlx']; simp)]
          exact (List.Perm.cons _ ih).trans (List.Perm.swap _ _ _)
  unfold Met at *
  refine (List.perm_append_comm.trans (List.Perm.cons _ h)).trans (key L hL hc).symm
theorem Met.done {L : List Ent} {left : Lit → Bool} {acc : List Ent} (h : Met L left acc) (hl : ∀ kl, left kl = false) : acc.Perm L := by
  unfold Met at h
  rwa [List.filter_eq_self.2 (fun e _ => by rw [hl]; rfl)] at h

set_option maxRecDepth 100000 in
set_option maxHeartbeats 4000000 in
theorem all_q {F : Nat → Prop} {w : World} {q : Nat} {s : QS} (h : QueueAt F w q s) :
    Calls Try.prog 20 #[.pointer (some ⟨q, 0, none⟩)] w fun e w' => ∃ v, e = .returned v ∧ Row w' w.heap.size v s.L ∧ Below w.heap.size w w' := by
  obtain ⟨i0, hi0, hz0, hz1, hz2⟩ := info_parts infoE
  obtain ⟨lv, ov, m, n, light, old, hM⟩ := h
  obtain ⟨D, hown, hsz, hfind⟩ := hM.mp
  have c7 : w.cell? ⟨q, 7, none⟩ = some (.map (some m)) := hM.blk.cell rfl
  have Hk := Lib.hid hM.inv.keys
  have Hages := Lib.hid hM.inv.ages
  have hlenL : s.L.length ≤ 800000 := by
    rw [← hsz]
    have h1 := hM.hn
    have h2 := hM.inv.many
    obtain ⟨es, clock, _, F', hs, rfl⟩ := hown
    rw [Maps.size_eq, length_sorted, List.length_map, Array.length_toList]; omega
  have hmem : ∀ e ∈ s.L, Maps.has D (.int .i64 e.key) = true := fun e he => by
    have h1 := hfind e.key
    rw [findK_of_mem hM.inv.keys he] at h1
    exact h1.1
  have Hfind := Lib.hid hfind
  have hml : m < w.heap.size := hown.lt
  have Hmet := Lib.hid (Met.start hmem)
  have Hlen := Lib.hid hlenL
  have hql := hM.blk.lt
  clear hM hfind hmem hlenL
  go_enter Try.func20, Try.ntmps20
  go_wp2_with (at_range; refine wpList_range_own _ rfl _ 60 rfl 3 30 keyed map_ty rE m n D rfl hown ?_; intro w0 hrg0 hg0 hs0)
  go_frame
  go_loopw [3] (fun lv wr => ∃ (v : Value) (left : Lit → Bool) (cnt : Nat) (acc : List Ent), v = lv ∧ wr.ranges Try.prog 3 rE m w.heap.size n D left cnt ∧ Row wr w.heap.size v acc ∧ (v.ownBlock ≠ some w.heap.size) ∧ Hid (Met s.L left acc) ∧ Below w.heap.size w wr ∧ w.heap.size < wr.heap.size) (fun _ wr => wr.rangeLeft m w.heap.size)
  case atStart =>
    exact ⟨_, _, _, [], rfl, hrg0, Row.nil _ _, by simp [Value.ownBlock], Hmet.out, (Below.refl _ _).grown hg0 (Nat.le_refl _) (fun j hj => by cases hj), by omega⟩
  case round =>
    obtain ⟨v, left, cnt, acc, rfl, hrg, hrow, hne, hmet, hb, hgt⟩ := hrel
    have hacc : acc.length ≤ s.L.length := by rw [hmet.out.length_eq]; exact List.length_filter_le _ _
    have Hacc := Lib.hid hacc
    clear hacc
    go_wp2_with (at_next; refine wpList_next_ranges _ rfl _ rfl 3 keyed rE (Value.int .i64) Ent.v invKE invVE m w.heap.size n _ _ _ rfl hrg ?_ ?_)
    · intro hc0 hl0
      have HP := Lib.hid (hmet.out.done hl0)
      have hL := Hlen.out
      have hA := Hacc.out
      clear hl0 hc0 hmet
      rcases hrow.2 with ⟨rfl, h0⟩ | ⟨g, cap, cur, rfl, hbase, hbk, -, -, -, -⟩
      · have hE : acc = [] := List.eq_nil_of_length_eq_zero h0
        have hcon := AnyF.slices_SortFunc_none Try.sortEnt none 0 (.func (.func 31) #[] #[]) wr
        change Calls Try.prog 30 _ _ _ at hcon
        have HE := Lib.hid hE
        clear h0 hrow hE
        go_wp2_with fail
        refine hcon.mono ?_
        rintro e w' ⟨rfl, rfl⟩
        go_wp2_with fail
        go_ret
        exact ⟨_, rfl, by have h := HP.out; rw [HE.out] at h; rw [List.nil_perm.1 h]; exact Row.nil _ _, hb⟩
      · obtain ⟨hH, hgl⟩ := hrow.holds rfl
        have eg : ∀ args w, (callFunc 31 args).run Try.prog w = .ok (.enter 31 args) w := enters_of Try.func31 (by kernel_rfl) rfl
        have hcon := AnyQ.slices_SortFunc Try.sortEnt 3 Try.isAgg30 Try.sizeOf30 encE (fun _ => rfl) (fun x v hv => by simp [encE] at hv; rcases hv with rfl | rfl | rfl <;> rfl) cfE swoE 31 #[] g 0 cap acc.toArray wr eg (cmpLays_q g 0 _ wr) hH hgl (by simp; omega)
        change Calls Try.prog 30 _ _ _ at hcon
        have e0 : acc.toArray.size = acc.length := by simp
        rw [e0] at hcon
        have HR := Lib.hid hrow; have HB := Lib.hid hb
        clear hH hrow hb hbk eg
        obtain ⟨N, hN⟩ : ∃ N, acc.length = N := ⟨_, rfl⟩
        rw [hN] at hcon ⊢
        have HN := Lib.hid hN
        clear hN e0 hL hA
        go_wp2_with fail
        refine hcon.mono ?_
        rintro e w' ⟨rfl, d', n', os, hP, hS, rfl⟩
        have hd := sorted_is (L := s.L) HP.out Hages.out (by simpa [HN.out] using hP) (by simpa [HN.out] using hS)
        have Hd := Lib.hid hd
        clear hP hS hd hcon
        go_wp2_with fail
        go_ret
        refine ⟨_, rfl, ?_, HB.out.grown (grownBy_sortedK d') HB.out.size (fun j hj => by cases hj; exact hbase)⟩
        have hr := HR.out.sorted (l' := s.L) (n := n') (os := os) (by rw [HP.out.length_eq]) rfl
        have e5 : s.L.toArray = d' := by rw [← Hd.out]
        rw [HN.out, e5] at hr
        exact hr
    · intro x c kl y yp w1 cnt1 hkey hlk hv hat hrg1 hlt hg1 hs1 hen
      obtain ⟨x', ex, rfl, hw⟩ := Maps.keyOf_int_inv key_ty hkey
      cases ex
      have hfx := Hfind.out x
      have hhas := has_true_of_atKey hat
      obtain ⟨e, he⟩ : ∃ e, findK s.L x = some e := by
        cases hf : findK s.L x with
        | none => rw [hf] at hfx; rw [hfx] at hhas; cases hhas
        | some e => exact ⟨e, rfl⟩
      rw [he] at hfx
      have hye : y = encD e := (hat .nil).symm.trans (hfx.2 .nil)
      have hce : c = e := by
        have h1 : rE c.v = some (encD e, yp) := by rw [hv, ← hye]
        have h2 := rE_inv h1
        obtain ⟨c1, c2, c3⟩ := c
        obtain ⟨e1, e2, e3⟩ := e
        simp [Ent.v] at h2
        obtain ⟨rfl, rfl, rfl⟩ := h2
        rfl
      subst hce
      obtain ⟨hcL, rfl⟩ := findK_mem he
      have Hstep := Lib.hid (hmet.out.step Hk.out hcL hlk)
      have hrow1 : Row w1 w.heap.size v acc := hrow.kept hg1 (.inr hne)
      have hb1 : Below w.heap.size w w1 := hb.grown hg1 hb.size (fun j hj => by cases hj; exact Nat.le_refl _)
      have hgt1 : w.heap.size < w1.heap.size := by omega
      clear hs1 hg1 hfx hhas he hye hv hat hkey hmet
      obtain ⟨ck, cw, cg⟩ := c
      unfold Ent.v at hen
      dsimp only at hen hlk hrg1 hw hcL Hstep
      obtain ⟨w3, hw3⟩ : ∃ w3, (w1.alloc (.cells #[.int .i64 ck, .int .i64 cw, .int .i64 cg] 30)).alloc (.cells #[.int .i64 ck, .int .i64 cw, .int .i64 cg] 30) = w3 := ⟨_, rfl⟩
      have hb13 : Below w1.heap.size w1 w3 := by rw [← hw3]; exact ((Below.refl _ _).alloc (Nat.le_refl _) _).alloc (by simp) _
      have n3 : Blk w3 (w1.heap.size + 1) #[.int .i64 ck, .int .i64 cw, .int .i64 cg] 30 := by rw [← hw3]; exact Blk.new _ _ _ (by simp)
      have hrow3 := Lib.hid (hrow1.below hb13)
      have hrg3 := (hrg1.alloc (.cells #[.int .i64 ck, .int .i64 cw, .int .i64 cg] 30)).alloc (.cells #[.int .i64 ck, .int .i64 cw, .int .i64 cg] 30)
      rw [hw3] at hrg3
      have hb3 := hb1.trans (hb13.mono hb1.size)
      have hgt3 : w.heap.size < w3.heap.size := by have := hb13.size; omega
      have hgr3 : w1.grownBy w3 none := ⟨hb13.os, hb13.tape, hb13.output, hb13.size, fun k hk _ => hb13.block k hk⟩
      go_wp2_with (at_builtin; refine wpList_push_sl rpE (by decide) rfl _ _ _ rfl w.heap.size 30 i0 _ 24 Try.underlying53 hi0 hz0 hz1 hz2 rfl (by decide) (fun _ => True) v acc rfl (row_acc hrow3.out) _ [⟨ck, cw, cg⟩] rfl (newE n3) (by have := Hacc.out; have := Hlen.out; simp; omega) hb3.size ?_; intro v' w2 hacc2 hgrow hat2)
      have hvb : ∀ k, v.ownBlock = some k → w.heap.size ≤ k := fun k hk => (hrow3.out.base_le k hk).1
      have hrg2 := hrg3.kept hgrow (fun e => by have := hvb _ e.symm; omega) (fun e => hne e.symm)
      have hne2 : v'.ownBlock ≠ some w.heap.size := fun e => by
        rcases hat2 with h | h
        · exact hne (h.symm.trans e)
        · have : w.heap.size = w3.heap.size := Option.some.inj (e.symm.trans h)
          omega
      have hb2 : RowKit.Below w.heap.size w w2 := hb3.grown hgrow hb3.size (fun j hj => hvb j hj)
      exact ⟨⟨v', _, cnt1, _, rfl, hrg2, acc_row hacc2, hne2, Hstep.out, hb2, Nat.lt_of_lt_of_le hgt3 hgrow.size⟩, by rw [hrg2.left_eq, hrg.left_eq]; exact hlt⟩
end Go.Proofs.Ytplfbdkljnblmaa

namespace Go.Proofs.Ytplfbdkljnblmaa
open Go.RowKit Go.Maps

theorem QueueAt.tight {F : Nat → Prop} {w : World} {q : Nat} {s : QS} (h : QueueAt F w q s) : QueueAt (fun k => F k ∧ k < w.heap.size) w q s := by
  obtain ⟨lv, ov, m, n, light, old, h⟩ := h
  exact ⟨lv, ov, m, n, light, old, { h with fq := h.qb (.inl rfl) |>.symm, fm := h.qb (.inr (.inl rfl)) |>.symm, fl := fun g hg => (h.qb (.inr (.inr (.inl hg)))).symm, fo := fun g hg => (h.qb (.inr (.inr (.inr hg)))).symm }⟩

namespace Kn
def kL : List Ent := [⟨0, 5, 0⟩, ⟨1, 1, 1⟩, ⟨2, 1, 2⟩, ⟨3, 1, 3⟩]
def kp (k : Nat) : QS := ⟨3, 0, k, kL.take k⟩
def rem : Nat → List Ent
  | 0 => kL
  | 1 => [⟨0, 5, 0⟩, ⟨2, 1, 2⟩, ⟨3, 1, 3⟩]
  | 2 => [⟨0, 5, 0⟩, ⟨3, 1, 3⟩]
  | 3 => [⟨3, 1, 3⟩]
  | _ => []
def want : Nat → Int
  | 0 => 1
  | 1 => 2
  | 2 => 0
  | _ => 3
def kn (k : Nat) : QS := ⟨3, k, 4, rem k⟩

theorem put_kp {k : Nat} (hk : k < 4) {key weight : Int} (hkw : kL[k]? = some ⟨key, weight, k⟩) {e : Ending} {s' : QS} (h : PutRes (kp k) key weight e s') : e = .returned (.int .i64 0) ∧ s' = kp (k + 1) := by
  have hn : findK (kp k).L key = none := by
    match k, hk, hkw with
    | 0, _, h => rfl
    | 1, _, h => cases h; decide
    | 2, _, h => cases h; decide
    | 3, _, h => cases h; decide
  have hl : (kp k).L.length ≠ 10000 := by
    have : (kp k).L.length ≤ 4 := by simp [kp, kL]; omega
    omega
  rcases h with ⟨h1, _⟩ | ⟨_, h1, _⟩ | ⟨_, _, h1, h2⟩
  · rw [hn] at h1; cases h1
  · exact absurd h1 hl
  · refine ⟨h1, h2.trans ?_⟩
    match k, hk, hkw with
    | 0, _, h => cases h; rfl
    | 1, _, h => cases h; rfl
    | 2, _, h => cases h; rfl
    | 3, _, h => cases h; rfl

theorem next_kn {k : Nat} (hk : k < 4) {e : Ending} {s' : QS} (h : NextRes (kn k) e s') : ∃ x : Ent, e = .returned (.tuple #[x.v, .bool true]) ∧ x.key = want k ∧ s' = kn (k + 1) := by
  rcases h with ⟨h1, _⟩ | ⟨x, hx, hmin, he, hs⟩
  · exfalso
    match k, hk with
    | 0, _ => cases h1
    | 1, _ => cases h1
    | 2, _ => cases h1
    | 3, _ => cases h1
  · refine ⟨x, he, ?_⟩
    rw [hs]
    match k, hk with
    | 0, _ =>
      have h0 := hmin ⟨1, 1, 1⟩ (by decide)
      simp [kn, rem, kL] at hx
      rcases hx with rfl | rfl | rfl | rfl
      · exact absurd h0 (by decide)
      · exact ⟨rfl, rfl⟩
      · exact absurd h0 (by decide)
      · exact absurd h0 (by decide)
    | 1, _ =>
      have h0 := hmin ⟨2, 1, 2⟩ (by decide)
      simp [kn, rem] at hx
      rcases hx with rfl | rfl | rfl
      · exact absurd h0 (by decide)
      · exact ⟨rfl, rfl⟩
      · exact absurd h0 (by decide)
    | 2, _ =>
      have h0 := hmin ⟨0, 5, 0⟩ (by decide)
      simp [kn, rem] at hx
      rcases hx with rfl | rfl
      · exact ⟨rfl, rfl⟩
      · exact absurd h0 (by decide)
    | 3, _ =>
      simp [kn, rem] at hx
      subst hx
      exact ⟨rfl, rfl⟩
theorem want_cell {k : Nat} (hk : k < 4) : (#[.int .i64 1, .int .i64 2, .int .i64 0, .int .i64 3] : Array Value)[k]? = some (.int .i64 (want k)) := by
  match k, hk with
  | 0, _ => rfl
  | 1, _ => rfl
  | 2, _ => rfl
  | 3, _ => rfl
theorem kL_get {k : Nat} (h1 : 1 ≤ k) (hk : k < 4) : kL[k]? = some ⟨k, 1, k⟩ := by
  match k, h1, hk with
  | 1, _, _ => rfl
  | 2, _, _ => rfl
  | 3, _, _ => rfl
theorem kp_kn : kp 4 = kn 0 := rfl
end Kn

set_option maxRecDepth 100000 in
set_option maxHeartbeats 4000000 in
theorem known25 (w : World) : Calls Try.prog 10 #[] w fun e w' => e = .returned (.bool true) ∧ Below w.heap.size w w' := by
  go_enter Try.func10, Try.ntmps10
  go_wp2_with fail
  refine (new_q w 3 (by decide) (by decide)).mono ?_
  rintro e w1 ⟨q, rfl, hq, hQ, hb⟩
  go_wp2_with fail
  refine (put_q hQ (by decide) (fun k hk => Nat.le_trans hb.size hk) 0 5 (by unfold W64; decide)).mono ?_
  rintro e w2 ⟨s', hres, hQ2, hO⟩
  obtain ⟨rfl, rfl⟩ := Kn.put_kp (k := 0) (by decide) rfl hres
  have hb2 := hb.trans (hO.toBelow hb.size fun k hk => hk)
  clear hb hO hQ hres
  go_wp2_with fail
  go_loopw [3] (fun iv wr => ∃ k : Nat, iv = .int .i64 k ∧ 1 ≤ k ∧ k ≤ 4 ∧ QueueAt (fun k => w.heap.size ≤ k) wr q (Kn.kp k) ∧ Below w.heap.size w wr) (fun iv _ => 4 - (intOf iv).toNat)
  case atStart => exact ⟨1, rfl, by omega, by omega, hQ2, hb2⟩
  case round =>
    obtain ⟨k, rfl, hk1, hk4, hQk, hbk⟩ := hrel
    by_cases hlt : k < 4
    · have hltI : (k : Int) < 4 := by omega
      go_wp2_with fail
      refine (put_q hQk (by show k ≤ 799999; omega) (fun j hj => Nat.le_trans hbk.size hj) k 1 (by unfold W64; omega)).mono ?_
      rintro e w3 ⟨s', hres, hQ3, hO⟩
      obtain ⟨rfl, rfl⟩ := Kn.put_kp (k := k) hlt (Kn.kL_get hk1 hlt) hres
      have hb3 := hbk.trans (hO.toBelow hbk.size fun k hk => hk)
      clear hO hres
      go_wp2_with fail
      go_roundw
      case rel => exact ⟨k + 1, by go_num, by omega, by omega, hQ3, hb3⟩
      case measure => simp [intOf]; omega
    · obtain rfl : k = 4 := by omega
      go_wp2_with fail
      obtain ⟨A, hA⟩ : ∃ A, wr.heap.size = A := ⟨_, rfl⟩
      have hQt := hQk.tight
      rw [hA] at hQt
      have hb4 : Below wr.heap.size wr (wr.alloc (.cells #[.int .i64 1, .int .i64 2, .int .i64 0, .int .i64 3] 64)) := (Below.refl _ _).alloc (Nat.le_refl _) _
      have hA4 : Blk (wr.alloc (.cells #[.int .i64 1, .int .i64 2, .int .i64 0, .int .i64 3] 64)) A #[.int .i64 1, .int .i64 2, .int .i64 0, .int .i64 3] 64 := Blk.new _ _ _ hA.symm
      have hQ4 : QueueAt (fun k => w.heap.size ≤ k ∧ k ≠ A) (wr.alloc (.cells #[.int .i64 1, .int .i64 2, .int .i64 0, .int .i64 3] 64)) q (Kn.kn 0) :=
        (hQt.weaken fun k hk => ⟨hk.1, by omega⟩).below hb4
      have hb4' := hbk.trans (hb4.mono hbk.size)
      have hwA : w.heap.size ≤ A := by rw [← hA]; exact hbk.size
      rw [hA]
      clear hQt hQk hbk hb4
      go_loopw [5] (fun iv wr => ∃ k : Nat, iv = .int .i64 k ∧ k ≤ 4 ∧ QueueAt (fun k => w.heap.size ≤ k ∧ k ≠ A) wr q (Kn.kn k) ∧ Blk wr A #[.int .i64 1, .int .i64 2, .int .i64 0, .int .i64 3] 64 ∧ Below w.heap.size w wr) (fun iv _ => 4 - (intOf iv).toNat)
      case atStart => exact ⟨0, rfl, by omega, hQ4, hA4, hb4'⟩
      case round =>
        obtain ⟨k, rfl, hk4, hQk, hAk, hbk⟩ := hrel
        by_cases hlt : k < 4
        · have hltI : (k : Int) < 4 := by omega
          go_wp2_with fail
          refine (next_q hQk (by show (k : Int) ≤ 799999; omega)).mono ?_
          rintro e w5 ⟨s', hres, hQ5, hO⟩
          obtain ⟨x, rfl, hx, rfl⟩ := Kn.next_kn hlt hres
          have hA5 := hO.blk hAk (fun h => h.2 rfl)
          have hb5 := hbk.trans (hO.toBelow hbk.size fun k hk => hk.1)
          obtain ⟨xk, xw, xg⟩ := x
          dsimp only at hx
          have ca : w5.cell? ⟨A, k, none⟩ = some (.int .i64 xk) := by
            rw [hx]
            exact hA5.cell (Kn.want_cell hlt)
          have hal := hA5.lt
          unfold Ent.v
          dsimp only
          clear hO hres hx
          go_wp2_with fail
          obtain ⟨w6, hw6⟩ : ∃ w6, w5.alloc (.cells #[.int .i64 xk, .int .i64 xw, .int .i64 xg] 30) = w6 := ⟨_, rfl⟩
          obtain ⟨X, hX⟩ : ∃ X, w5.heap.size = X := ⟨_, rfl⟩
          have hb56 : Below w5.heap.size w5 w6 := by rw [← hw6]; exact (Below.refl _ _).alloc (Nat.le_refl _) _
          have x6 : Blk w6 X #[.int .i64 xk, .int .i64 xw, .int .i64 xg] 30 := by rw [← hw6]; exact Blk.new _ _ _ hX.symm
          have hA6 := hA5.below hb56
          have hQ6 := hQ5.below hb56
          have hb6 := hb5.trans (hb56.mono hb5.size)
          have ca6 := (Keep.refl (fun _ => True) w5).below hb56 _ _ _ trivial ca
          rw [hw6]
          rw [hX]
          clear hw6 hX hb56 hA5 hQ5 hb5 ca
          refine wp_region_noPanic (wp_region_need (S := fun w' => w'.cell? ⟨X, 0, none⟩ = some (.int .i64 xk) ∧ w'.cell? ⟨A, k, none⟩ = some (.int .i64 xk)) (by kernel_rfl) ?_)
          have hS : (w6.drew).cell? ⟨X, 0, none⟩ = some (.int .i64 xk) ∧ (w6.drew).cell? ⟨A, k, none⟩ = some (.int .i64 xk) := ⟨x6.drew.cell rfl, ca6⟩
          refine wpN_take (i := 0) (v := ?v1) rfl (by kernel_rfl) (fun _ _ _ h => h) hS (Or.inl ⟨by rfl, ?hy1⟩) ?hr1
          case hy1 => (intro wS hSw; (try dsimp only at hSw); go_simp; (try with_reducible rfl))
          try simp only [Act.put, List.setIfInBounds_toArray, List.set_cons_zero, List.set_cons_succ, List.getElem_toArray, List.getElem_cons_zero, List.getElem_cons_succ]
          refine wpN_take (i := 1) (v := ?v2) rfl (by kernel_rfl) (fun _ _ _ h => h) hS (Or.inl ⟨by rfl, ?hy2⟩) ?hr2
          case hy2 => (intro wS hSw; (try dsimp only at hSw); go_simp; (try with_reducible rfl))
          try simp only [Act.put, List.setIfInBounds_toArray, List.set_cons_zero, List.set_cons_succ, List.getElem_toArray, List.getElem_cons_zero, List.getElem_cons_succ]
          refine wpN_take (i := 2) (v := ?v3) rfl (by kernel_rfl) (fun _ _ _ h => h) hS (Or.inl ⟨by rfl, ?hy3⟩) ?hr3
          case hy3 => (intro wS hSw; (try dsimp only at hSw); go_simp; (try with_reducible rfl))
          try simp only [Act.put, List.setIfInBounds_toArray, List.set_cons_zero, List.set_cons_succ, List.getElem_toArray, List.getElem_cons_zero, List.getElem_cons_succ]
          refine wpN_take (i := 3) (v := ?v4) rfl (by kernel_rfl) (fun _ _ _ h => h) hS (Or.inl ⟨by rfl, ?hy4⟩) ?hr4
          case hy4 => (intro wS hSw; (try dsimp only at hSw); go_simp; (try with_reducible rfl))
          try simp only [Act.put, List.setIfInBounds_toArray, List.set_cons_zero, List.set_cons_succ, List.getElem_toArray, List.getElem_cons_zero, List.getElem_cons_succ]
          refine wpN_take (i := 4) (v := ?v5) rfl (by kernel_rfl) (fun _ _ _ h => h) hS (Or.inl ⟨by rfl, ?hy5⟩) ?hr5
          case hy5 => (intro wS hSw; (try dsimp only at hSw); go_simp; (try with_reducible rfl))
          try simp only [Act.put, List.setIfInBounds_toArray, List.set_cons_zero, List.set_cons_succ, List.getElem_toArray, List.getElem_cons_zero, List.getElem_cons_succ]
          refine wpN_take (i := 5) (v := ?v6) rfl (by kernel_rfl) (fun _ _ _ h => h) hS (Or.inl ⟨by rfl, ?hy6⟩) ?hr6
          case hy6 => (intro wS hSw; (try dsimp only at hSw); go_simp; (try with_reducible rfl))
          try simp only [Act.put, List.setIfInBounds_toArray, List.set_cons_zero, List.set_cons_succ, List.getElem_toArray, List.getElem_cons_zero, List.getElem_cons_succ]
          refine wpN_take (i := 6) (v := ?v7) rfl (by kernel_rfl) (fun _ _ _ h => h) hS (Or.inl ⟨by rfl, ?hy7⟩) ?hr7
          case hy7 => (intro wS hSw; (try dsimp only at hSw); go_simp; (try with_reducible rfl))
          try simp only [Act.put, List.setIfInBounds_toArray, List.set_cons_zero, List.set_cons_succ, List.getElem_toArray, List.getElem_cons_zero, List.getElem_cons_succ]
          refine wpN_take (i := 7) (v := ?v8) rfl (by kernel_rfl) (fun _ _ _ h => h) hS (Or.inl ⟨by rfl, ?hy8⟩) ?hr8
          case hy8 => (intro wS hSw; (try dsimp only at hSw); go_simp; (try with_reducible rfl))
          try simp only [Act.put, List.setIfInBounds_toArray, List.set_cons_zero, List.set_cons_succ, List.getElem_toArray, List.getElem_cons_zero, List.getElem_cons_succ]
          refine wpN_take (i := 8) (v := ?v9) rfl (by kernel_rfl) (fun _ _ _ h => h) hS (Or.inl ⟨by rfl, ?hy9⟩) ?hr9
          case hy9 => (intro wS hSw; (try dsimp only at hSw); go_simp; (try with_reducible rfl))
          try simp only [Act.put, List.setIfInBounds_toArray, List.set_cons_zero, List.set_cons_succ, List.getElem_toArray, List.getElem_cons_zero, List.getElem_cons_succ]
          refine wpN_take (i := 9) (v := ?v10) rfl (by kernel_rfl) (fun _ _ _ h => h) hS (Or.inl ⟨by rfl, ?hy10⟩) ?hr10
          case hy10 => (intro wS hSw; (try dsimp only at hSw); go_simp; (try with_reducible rfl))
          try simp only [Act.put, List.setIfInBounds_toArray, List.set_cons_zero, List.set_cons_succ, List.getElem_toArray, List.getElem_cons_zero, List.getElem_cons_succ]
          refine wpN_done (by kernel_rfl) ?_
          refine NoPanic.normal ?_
          have hd : Below w6.heap.size w6 w6.drew := (Below.refl _ _).drew
          have hA7 := hA6.below hd
          have hQ7 := hQ6.below hd
          have hb7 := hb6.trans (hd.mono hb6.size)
          go_wp2_with fail
          go_roundw
          case rel => exact ⟨k + 1, by go_num, by omega, hQ7, hA7, hb7⟩
          case measure => simp [intOf]; omega
        · obtain rfl : k = 4 := by omega
          go_wp2_with fail
          refine (len_q hQk).mono ?_
          rintro e w5 ⟨rfl, hb5⟩
          have hQ5 := hQk.below hb5
          have hbb5 := hbk.trans (hb5.mono hbk.size)
          have e0 : ((Kn.kn 4).L.length : Int) = 0 := rfl
          rw [e0]
          go_wp2_with fail
          refine (taken_q hQ5).mono ?_
          rintro e w6 ⟨rfl, hb6⟩
          have hbb6 := hbb5.trans (hb6.mono hbb5.size)
          have e1 : (Kn.kn 4).taken = 4 := rfl
          rw [e1]
          go_wp2_with fail
          go_ret
          exact ⟨rfl, hbb6⟩
end Go.Proofs.Ytplfbdkljnblmaa

namespace Go.Proofs.Ytplfbdkljnblmaa
open Go.RowKit Go.Maps

theorem QMem.len {F : Nat → Prop} {w : World} {q : Nat} {s : QS} {lv ov : Value} {m n : Nat} {light old : List Ent} (h : QMem F w q s lv ov m n light old) : s.L.length ≤ s.put := by
  obtain ⟨D, hown, hsz, -⟩ := h.mp
  rw [← hsz]
  have h1 := h.hn
  obtain ⟨es, clock, _, F', hs, rfl⟩ := hown
  rw [Maps.size_eq, length_sorted, List.length_map, Array.length_toList]; omega
theorem QInv.copy {s : QS} {light old light' old' : List Ent} (h : QInv s light old) (hput : s.L.length ≤ s.put) (j : Nat) (hl : light'.Perm (s.L.take j)) (ho : old'.Perm (s.L.take j)) : QInv { s with L := s.L.take j } light' old' :=
  have ht : ∀ e ∈ s.L.take j, e ∈ s.L := fun e he => List.mem_of_mem_take he
  have hlen : (s.L.take j).length ≤ s.put := by rw [List.length_take]; omega
  { per := h.per, tak := h.tak, many := h.many
    keys := h.keys.sublist (List.Sublist.map _ (List.take_sublist _ _)), ages := h.ages.sublist (List.take_sublist _ _)
    inl := fun e he => hl.mem_iff.2 he, ino := fun e he => ho.mem_iff.2 he
    wkl := fun e he => h.wkl e (h.inl e (ht e (hl.mem_iff.1 he))), wko := fun e he => h.wkl e (h.inl e (ht e (ho.mem_iff.1 he)))
    last := fun e he => h.last e (ht e he)
    lenl := by rw [hl.length_eq]; exact hlen, leno := by rw [ho.length_eq]; exact hlen }
theorem findK_take_none {L : List Ent} (hL : (L.map Ent.key).Nodup) {j : Nat} (hj : j < L.length) : findK (L.take j) L[j].key = none := by
  unfold findK
  rw [List.find?_eq_none]
  intro e he hk
  obtain ⟨i, hi, rfl⟩ := List.getElem_of_mem he
  simp at hi
  rw [List.getElem_take] at hk
  have h1 := (List.nodup_iff_pairwise_ne.1 hL)
  rw [List.pairwise_iff_getElem] at h1
  have h2 := h1 i j (by simp; omega) (by simpa using hj) (by omega)
  simp at h2 hk
  exact h2 hk

set_option maxRecDepth 100000 in
set_option maxHeartbeats 8000000 in
theorem copy_q {F : Nat → Prop} {w : World} {q : Nat} {s : QS} (h : QueueAt F w q s) :
    Calls Try.prog 19 #[.pointer (some ⟨q, 0, none⟩)] w fun e w' => ∃ c, e = .returned (.pointer (some ⟨c, 0, none⟩)) ∧ w.heap.size ≤ c ∧ QueueAt (fun k => w.heap.size ≤ k) w' c s ∧ Below w.heap.size w w' := by
  obtain ⟨lv0, ov0, m0, n0, light0, old0, hM0⟩ := h
  obtain ⟨per, tak, put, L⟩ := s
  have p1 := hM0.inv.per.1
  have p2 := hM0.inv.per.2
  have HM0 := Lib.hid hM0
  have q0 : Blk w q (qCells ⟨per, tak, put, L⟩ lv0 ov0 m0) 62 := hM0.blk
  have c0 : w.cell? ⟨q, 0, none⟩ = some (.int .i64 per) := q0.cell rfl
  have hql := q0.lt
  dsimp only at p1 p2
  clear hM0
  go_enter Try.func19, Try.ntmps19
  go_wp2_with fail
  refine (new_q w per p1 p2).mono ?_
  rintro e w1 ⟨c, rfl, hc, hQ, hb⟩
  have q1 := q0.below hb
  obtain ⟨lv, ov, m, n, light, old, hM⟩ := hQ
  have hlE : light = [] := List.eq_nil_of_length_eq_zero (by have := hM.inv.lenl; dsimp only at this; omega)
  have hoE : old = [] := List.eq_nil_of_length_eq_zero (by have := hM.inv.leno; dsimp only at this; omega)
  subst hlE hoE
  have HM := Lib.hid hM
  have Hb := Lib.hid hb
  have b1 : Blk w1 c (qCells ⟨per, 0, 0, []⟩ lv ov m) 62 := hM.blk
  have hcq : ¬ c = q := by omega
  have hqc : ¬ q = c := by omega
  have hcl := b1.lt
  clear hM hb q0 c0
  have c0 : w1.cell? ⟨q, 1, none⟩ = some (.int .i64 tak) := q1.cell rfl
  have c1 : w1.cell? ⟨q, 2, none⟩ = some (.int .i64 put) := q1.cell rfl
  have c2 : w1.cell? ⟨c, 1, none⟩ = some (.int .i64 0) := b1.cell rfl
  have c3 : w1.cell? ⟨c, 2, none⟩ = some (.int .i64 0) := b1.cell rfl
  go_wp2_with fail
  refine wp_region_noPanic (wp_region_need (S := fun w' => w'.cell? ⟨q, 1, none⟩ = some (.int .i64 tak) ∧ w'.cell? ⟨q, 2, none⟩ = some (.int .i64 put)) (by kernel_rfl) ?_)
  have hS : (w1.drew).cell? ⟨q, 1, none⟩ = some (.int .i64 tak) ∧ (w1.drew).cell? ⟨q, 2, none⟩ = some (.int .i64 put) := ⟨c0, c1⟩
  refine wpN_pure (i := 0) (v := ?v1) rfl (by kernel_rfl) (fun _ _ _ h => h) (Or.inl ⟨by rfl, ?hy1⟩) ?hr1
  case hy1 => (intro wS hSw; go_simp; (try with_reducible rfl))
  try simp only [Act.put, List.setIfInBounds_toArray, List.set_cons_zero, List.set_cons_succ, List.getElem_toArray, List.getElem_cons_zero, List.getElem_cons_succ]
  refine wpN_pure (i := 1) (v := ?v2) rfl (by kernel_rfl) (fun _ _ _ h => h) (Or.inl ⟨by rfl, ?hy2⟩) ?hr2
  case hy2 => (intro wS hSw; go_simp; (try with_reducible rfl))
  try simp only [Act.put, List.setIfInBounds_toArray, List.set_cons_zero, List.set_cons_succ, List.getElem_toArray, List.getElem_cons_zero, List.getElem_cons_succ]
  refine wpN_pure (i := 2) (v := ?v3) rfl (by kernel_rfl) (fun _ _ _ h => h) (Or.inl ⟨by rfl, ?hy3⟩) ?hr3
  case hy3 => (intro wS hSw; go_simp; (try with_reducible rfl))
  try simp only [Act.put, List.setIfInBounds_toArray, List.set_cons_zero, List.set_cons_succ, List.getElem_toArray, List.getElem_cons_zero, List.getElem_cons_succ]
  refine wpN_pure (i := 3) (v := ?v4) rfl (by kernel_rfl) (fun _ _ _ h => h) (Or.inl ⟨by rfl, ?hy4⟩) ?hr4
  case hy4 => (intro wS hSw; go_simp; (try with_reducible rfl))
  try simp only [Act.put, List.setIfInBounds_toArray, List.set_cons_zero, List.set_cons_succ, List.getElem_toArray, List.getElem_cons_zero, List.getElem_cons_succ]
  refine wpN_pure (i := 4) (v := ?v5) rfl (by kernel_rfl) (fun _ _ _ h => h) (Or.inl ⟨by rfl, ?hy5⟩) ?hr5
  case hy5 => (intro wS hSw; go_simp; (try with_reducible rfl))
  try simp only [Act.put, List.setIfInBounds_toArray, List.set_cons_zero, List.set_cons_succ, List.getElem_toArray, List.getElem_cons_zero, List.getElem_cons_succ]
  refine wpN_take (i := 5) (v := ?v6) rfl (by kernel_rfl) (fun _ _ _ h => h) hS (Or.inl ⟨by rfl, ?hy6⟩) ?hr6
  case hy6 => (intro wS hSw; (try dsimp only at hSw); go_simp; (try with_reducible rfl))
  try simp only [Act.put, List.setIfInBounds_toArray, List.set_cons_zero, List.set_cons_succ, List.getElem_toArray, List.getElem_cons_zero, List.getElem_cons_succ]
  refine wpN_pure (i := 6) (v := ?v7) rfl (by kernel_rfl) (fun _ _ _ h => h) (Or.inl ⟨by rfl, ?hy7⟩) ?hr7
  case hy7 => (intro wS hSw; go_simp; (try with_reducible rfl))
  try simp only [Act.put, List.setIfInBounds_toArray, List.set_cons_zero, List.set_cons_succ, List.getElem_toArray, List.getElem_cons_zero, List.getElem_cons_succ]
  refine wpN_pure (i := 7) (v := ?v8) rfl (by kernel_rfl) (fun _ _ _ h => h) (Or.inl ⟨by rfl, ?hy8⟩) ?hr8
  case hy8 => (intro wS hSw; go_simp; (try with_reducible rfl))
  try simp only [Act.put, List.setIfInBounds_toArray, List.set_cons_zero, List.set_cons_succ, List.getElem_toArray, List.getElem_cons_zero, List.getElem_cons_succ]
  refine wpN_pure (i := 8) (v := ?v9) rfl (by kernel_rfl) (fun _ _ _ h => h) (Or.inl ⟨by rfl, ?hy9⟩) ?hr9
  case hy9 => (intro wS hSw; go_simp; (try with_reducible rfl))
  try simp only [Act.put, List.setIfInBounds_toArray, List.set_cons_zero, List.set_cons_succ, List.getElem_toArray, List.getElem_cons_zero, List.getElem_cons_succ]
  refine wpN_take (i := 9) (v := ?v10) rfl (by kernel_rfl) (fun _ _ _ h => h) hS (Or.inl ⟨by rfl, ?hy10⟩) ?hr10
  case hy10 => (intro wS hSw; (try dsimp only at hSw); go_simp; (try with_reducible rfl))
  try simp only [Act.put, List.setIfInBounds_toArray, List.set_cons_zero, List.set_cons_succ, List.getElem_toArray, List.getElem_cons_zero, List.getElem_cons_succ]
  refine wpN_pure (i := 10) (v := ?v11) rfl (by kernel_rfl) (fun _ _ _ h => h) (Or.inl ⟨by rfl, ?hy11⟩) ?hr11
  case hy11 => (intro wS hSw; go_simp; (try with_reducible rfl))
  try simp only [Act.put, List.setIfInBounds_toArray, List.set_cons_zero, List.set_cons_succ, List.getElem_toArray, List.getElem_cons_zero, List.getElem_cons_succ]
  refine wpN_pure (i := 11) (v := ?v12) rfl (by kernel_rfl) (fun _ _ _ h => h) (Or.inl ⟨by rfl, ?hy12⟩) ?hr12
  case hy12 => (intro wS hSw; go_simp; (try with_reducible rfl))
  try simp only [Act.put, List.setIfInBounds_toArray, List.set_cons_zero, List.set_cons_succ, List.getElem_toArray, List.getElem_cons_zero, List.getElem_cons_succ]
  have hd : RowKit.Below w1.heap.size w1 w1.drew := (RowKit.Below.refl _ _).drew
  have q2 := q1.below hd
  have b2 := b1.below hd
  have HM2 := Lib.hid (HM.out.off (Off.of_below (fun _ => False) hd) fun _ _ h => h)
  have Hb2 := Lib.hid (Hb.out.trans (hd.mono Hb.out.size))
  obtain ⟨w2, hw2⟩ : ∃ w2, w1.drew = w2 := ⟨_, rfl⟩
  have hcl2 := b2.lt
  rw [hw2] at q2 b2 HM2 Hb2 hS hcl2 ⊢
  clear hd hw2 q1 b1 HM Hb c0 c1 c2 c3 hcl
  have c2 : w2.cell? ⟨c, 1, none⟩ = some (.int .i64 0) := b2.cell rfl
  have f1 := b2.free 1
  refine wpN_step (i := 12) (by kernel_rfl) rfl (fun K hK => ?_)
  go_simp
  have q3 := q2.far ⟨c, 1, none⟩ (.int .i64 tak) hqc
  have b3 := b2.set 1 (.int .i64 tak)
  refine hK.out _ _ (fun h => absurd h (by decide)) ?_
  clear hK K
  try simp only [Act.put, List.setIfInBounds_toArray, List.set_cons_zero, List.set_cons_succ, List.getElem_toArray, List.getElem_cons_zero, List.getElem_cons_succ]
  refine wpN_pure (i := 13) (v := ?v13) rfl (by kernel_rfl) (fun _ _ _ h => h) (Or.inl ⟨by rfl, ?hy13⟩) ?hr13
  case hy13 => (intro wS hSw; go_simp; (try with_reducible rfl))
  try simp only [Act.put, List.setIfInBounds_toArray, List.set_cons_zero, List.set_cons_succ, List.getElem_toArray, List.getElem_cons_zero, List.getElem_cons_succ]
  refine wpN_pure (i := 14) (v := ?v14) rfl (by kernel_rfl) (fun _ _ _ h => h) (Or.inl ⟨by rfl, ?hy14⟩) ?hr14
  case hy14 => (intro wS hSw; go_simp; (try with_reducible rfl))
  try simp only [Act.put, List.setIfInBounds_toArray, List.set_cons_zero, List.set_cons_succ, List.getElem_toArray, List.getElem_cons_zero, List.getElem_cons_succ]
  have c3 : (w2.setCell ⟨c, 1, none⟩ (.int .i64 tak)).cell? ⟨c, 2, none⟩ = some (.int .i64 0) := b3.cell rfl
  have f2 := b3.free 2
  refine wpN_step (i := 15) (by kernel_rfl) rfl (fun K hK => ?_)
  go_simp
  refine hK.out _ _ (fun h => absurd h (by decide)) ?_
  clear hK K
  try simp only [Act.put, List.setIfInBounds_toArray, List.set_cons_zero, List.set_cons_succ, List.getElem_toArray, List.getElem_cons_zero, List.getElem_cons_succ]
  refine wpN_done (by kernel_rfl) ?_
  refine NoPanic.normal ?_
  have b4 := b3.set 2 (.int .i64 put)
  have q4 := q3.far ⟨c, 2, none⟩ (.int .i64 put) hqc
  have hO4 : Off (fun k => k = c) w2 ((w2.setCell ⟨c, 1, none⟩ (.int .i64 tak)).setCell ⟨c, 2, none⟩ (.int .i64 put)) := ((Off.refl (fun k => k = c) w2).set ⟨c, 1, none⟩ _ (.inl rfl)).set ⟨c, 2, none⟩ _ (.inl rfl)
  have Hb4 : RowKit.Below w.heap.size w _ := (Hb2.out.setCell (p := ⟨c, 1, none⟩) hc (.int .i64 tak)).setCell (p := ⟨c, 2, none⟩) hc (.int .i64 put)
  obtain ⟨w4, hw4⟩ : ∃ w4, (w2.setCell ⟨c, 1, none⟩ (.int .i64 tak)).setCell ⟨c, 2, none⟩ (.int .i64 put) = w4 := ⟨_, rfl⟩
  rw [hw4] at b4 q4 hO4 Hb4 ⊢
  have hput := HM0.out.len
  have HQ4 : Hid (QMem (fun k => w.heap.size ≤ k) w4 c ⟨per, tak, put, L.take 0⟩ lv ov m n [] []) := Lib.hid
    { HM2.out with
      inv := HM0.out.inv.copy hput 0 (List.Perm.refl _) (List.Perm.refl _)
      blk := b4
      rl := HM2.out.rl.off hO4 (fun g hg e => HM2.out.lq (by rw [hg, e]))
      ro := HM2.out.ro.off hO4 (fun g hg e => HM2.out.oq (by rw [hg, e]))
      mp := HM2.out.mp.off hO4 HM2.out.mq
      hn := Nat.le_trans HM2.out.hn (Nat.zero_le _) }
  have Hn0 := Lib.hid HM2.out.hn
  have Hqq : Hid (QueueAt (fun k => k < w.heap.size) w4 q ⟨per, tak, put, L⟩) := by
    have h1 := QueueAt.tight ⟨_, _, _, _, _, _, HM0.out⟩
    exact (h1.weaken fun k hk => hk.2).off (Off.of_below (fun _ => False) (Hb4.mono (Nat.le_refl _))) fun _ _ _ h => h
  have HB4 := Lib.hid Hb4
  have hwq : q < w4.heap.size := q4.lt
  clear Hb4 hO4 hw4 HM2 Hb2 q3 b3 q2 b2 f1 f2 c2 c3 hS q4 b4 hcl2
  go_wp2_with fail
  refine (all_q Hqq.out).mono ?_
  rintro e w5 ⟨v, rfl, hrow, hb5⟩
  have HQ5 := Lib.hid (HQ4.out.off (Off.of_below (fun _ => False) hb5) fun _ _ h => h)
  have hB5 := HB4.out.trans (hb5.mono HB4.out.size)
  have hcv : ∀ k, QB c m lv ov k → k < w4.heap.size := fun k hk => (HQ4.out.qb hk).1
  replace hrow : Row w5 w4.heap.size v L := hrow
  obtain ⟨a, cap, rfl⟩ := hrow.shape
  obtain ⟨N, hN⟩ : ∃ N, L.length = N := ⟨_, rfl⟩
  rw [hN] at hrow ⊢
  have HN := Lib.hid hN
  have hNI : (N : Int) ≤ 800000 := by have h1 := HM0.out.len; have h2 := HM0.out.inv.many; dsimp only at h1 h2; omega
  clear hN HQ4 HB4 Hqq hb5
  go_wp2_with fail
  have HQ6 : Hid (QMem (fun k => w.heap.size ≤ k ∧ (Value.slice a N cap).ownBlock ≠ some k) w5 c ⟨per, tak, put, L.take 0⟩ lv ov m n [] []) := Lib.hid
    { HQ5.out with
      fq := ⟨HQ5.out.fq, fun e => by have := (hrow.base_le _ e).1; have := hcv c (.inl rfl); omega⟩
      fm := ⟨HQ5.out.fm, fun e => by have := (hrow.base_le _ e).1; have := hcv m (.inr (.inl rfl)); omega⟩
      fl := fun g hg => ⟨HQ5.out.fl g hg, fun e => by have := (hrow.base_le _ e).1; have := hcv g (.inr (.inr (.inl hg))); omega⟩
      fo := fun g hg => ⟨HQ5.out.fo g hg, fun e => by have := (hrow.base_le _ e).1; have := hcv g (.inr (.inr (.inr hg))); omega⟩ }
  clear HQ5 hcv
  go_loopw [34] (fun iv wr => ∃ (j : Nat) (lv ov : Value) (n : Nat) (light old : List Ent), iv = .int .i64 j ∧ j ≤ N ∧ n ≤ j ∧ Hid (QMem (fun k => w.heap.size ≤ k ∧ (Value.slice a N cap).ownBlock ≠ some k) wr c ⟨per, tak, put, L.take j⟩ lv ov m n light old) ∧ Hid (light.Perm (L.take j)) ∧ Hid (old.Perm (L.take j)) ∧ Row wr w4.heap.size (.slice a N cap) L ∧ RowKit.Below w.heap.size w wr ∧ w5.heap.size ≤ wr.heap.size) (fun iv _ => N - (intOf iv).toNat)
  case atStart => exact ⟨0, lv, ov, n, [], [], rfl, by omega, Hn0.out, HQ6, List.Perm.refl _, List.Perm.refl _, hrow, hB5, Nat.le_refl _⟩
  case round =>
    clear HQ6 Hn0 hrow hB5
    obtain ⟨j, lv, ov, n, light, old, rfl, hj, hnj, HQ, hpl, hpo, hrow, hbw, hsz5⟩ := hrel
    by_cases hlt : j < N
    · have hltI : (j : Int) < N := by omega
      have hjL : j < L.length := by rw [HN.out]; exact hlt
      obtain ⟨g, cap', hv, hgb, -, -, hcell, -⟩ := hrow.open_ (by omega)
      injection hv with v1 v2 v3
      subst v1
      clear v2 v3
      obtain ⟨a0, a1, a2⟩ := hcell j hjL
      obtain ⟨x, hx⟩ : ∃ x, L[j] = x := ⟨_, rfl⟩
      rw [hx] at a0 a1 a2
      have HX := Lib.hid hx
      have hxk : W64 x.key := by rw [← hx]; exact HM0.out.inv.wkl _ (HM0.out.inv.inl _ (List.getElem_mem hjL))
      have hxn : findK (L.take j) x.key = none := by rw [← hx]; exact findK_take_none HM0.out.inv.keys hjL
      have Hxk := Lib.hid hxk; have Hxn := Lib.hid hxn
      have hgw : g < wr.heap.size := (hrow.base_le g rfl).2
      clear hx hcell hxk hxn
      obtain ⟨xk, xw, xg⟩ := x
      dsimp only at a0 a1 a2
      have b0 : Blk wr c (qCells ⟨per, tak, put, L.take j⟩ lv ov m) 62 := HQ.out.blk
      obtain ⟨X, hX⟩ : ∃ X, wr.heap.size = X := ⟨_, rfl⟩
      obtain ⟨w6, hw6⟩ : ∃ w6, wr.alloc (.cells #[.int .i64 xk, .int .i64 xw, .int .i64 xg] 30) = w6 := ⟨_, rfl⟩
      have hb6 : RowKit.Below wr.heap.size wr w6 := by rw [← hw6]; exact (RowKit.Below.refl _ _).alloc (Nat.le_refl _) _
      have x6 : Blk w6 X #[.int .i64 xk, .int .i64 xw, .int .i64 xg] 30 := by rw [← hw6]; exact Blk.new _ _ _ hX.symm
      have b6 := b0.below hb6
      have HQ6 := Lib.hid (HQ.out.off (Off.of_below (fun _ => False) hb6) fun _ _ h => h)
      have hrow6 := hrow.below hb6
      have hB6 := hbw.trans (hb6.mono hbw.size)
      have hXl : ∀ k, QB c m lv ov k → k < X := fun k hk => by have := (HQ.out.qb hk).1; omega
      have hXq : ∀ k, QB c m lv ov k → k ≠ X := fun k hk => by have := hXl k hk; omega
      have hb6s := Nat.le_trans hsz5 hb6.size
      have hXg : X ≠ g := by omega
      have hX6 : X < w6.heap.size := x6.lt
      go_wp2_with fail
      try rw [hw6]
      try rw [hX]
      clear hw6 hX hb6 b0 HQ hrow hbw a0 a1 a2
      have hM := HQ6.out
      have rl6 := hM.rl; have ro6 := hM.ro; have mp6 := hM.mp
      have hmX := hXq m (.inr (.inl rfl)); have hcX := hXq c (.inl rfl)
      have hlX : lv.ownBlock ≠ some X := fun e => hXq X (.inr (.inr (.inl e))) rfl
      have hoX : ov.ownBlock ≠ some X := fun e => hXq X (.inr (.inr (.inr e))) rfl
      have hgm : m ≠ g := fun e => hM.fm.2 (by rw [e]; rfl)
      have hgc : c ≠ g := fun e => hM.fq.2 (by rw [e]; rfl)
      have hgl : lv.ownBlock ≠ some g := fun e => (hM.fl g e).2 rfl
      have hgo : ov.ownBlock ≠ some g := fun e => (hM.fo g e).2 rfl
      have hrg : ∀ (G : Nat → Prop) (wa wb : World), Row wa w4.heap.size (.slice (some ⟨g, 0, none⟩) N cap) L → Off G wa wb → ¬ G g → Row wb w4.heap.size (.slice (some ⟨g, 0, none⟩) N cap) L := fun G wa wb h1 h2 h3 => h1.off h2 (fun k hk => by cases hk; exact h3)
      have Hrg := Lib.hid hrg
      clear hrg
      refine wp_region_noPanic (wp_region_need (S := fun w' => w'.cell? ⟨c, 7, none⟩ = some (.map (some m)) ∧ w'.cell? ⟨X, 0, none⟩ = some (.int .i64 xk) ∧ w'.cell? ⟨X, 1, none⟩ = some (.int .i64 xw) ∧ w'.cell? ⟨X, 2, none⟩ = some (.int .i64 xg)) (by kernel_rfl) ?_)
      have hS : (w6.drew).cell? ⟨c, 7, none⟩ = some (.map (some m)) ∧ (w6.drew).cell? ⟨X, 0, none⟩ = some (.int .i64 xk) ∧ (w6.drew).cell? ⟨X, 1, none⟩ = some (.int .i64 xw) ∧ (w6.drew).cell? ⟨X, 2, none⟩ = some (.int .i64 xg) := ⟨b6.drew.cell rfl, x6.drew.cell rfl, x6.drew.cell rfl, x6.drew.cell rfl⟩
      refine wpN_take (i := 0) (v := ?v15) rfl (by kernel_rfl) (fun _ _ _ h => h) hS (Or.inl ⟨by rfl, ?hy15⟩) ?hr15
      case hy15 => (intro wS hSw; (try dsimp only at hSw); go_simp; (try with_reducible rfl))
      try simp only [Act.put, List.setIfInBounds_toArray, List.set_cons_zero, List.set_cons_succ, List.getElem_toArray, List.getElem_cons_zero, List.getElem_cons_succ]
      refine wpN_take (i := 1) (v := ?v16) rfl (by kernel_rfl) (fun _ _ _ h => h) hS (Or.inl ⟨by rfl, ?hy16⟩) ?hr16
      case hy16 => (intro wS hSw; (try dsimp only at hSw); go_simp; (try with_reducible rfl))
      try simp only [Act.put, List.setIfInBounds_toArray, List.set_cons_zero, List.set_cons_succ, List.getElem_toArray, List.getElem_cons_zero, List.getElem_cons_succ]
      refine wpN_take (i := 2) (v := ?v17) rfl (by kernel_rfl) (fun _ _ _ h => h) hS (Or.inl ⟨by rfl, ?hy17⟩) ?hr17
      case hy17 => (intro wS hSw; (try dsimp only at hSw); go_simp; (try with_reducible rfl))
      try simp only [Act.put, List.setIfInBounds_toArray, List.set_cons_zero, List.set_cons_succ, List.getElem_toArray, List.getElem_cons_zero, List.getElem_cons_succ]
      refine wpN_take (i := 3) (v := ?v18) rfl (by kernel_rfl) (fun _ _ _ h => h) hS (Or.inl ⟨by rfl, ?hy18⟩) ?hr18
      case hy18 => (intro wS hSw; (try dsimp only at hSw); go_simp; (try with_reducible rfl))
      try simp only [Act.put, List.setIfInBounds_toArray, List.set_cons_zero, List.set_cons_succ, List.getElem_toArray, List.getElem_cons_zero, List.getElem_cons_succ]
      refine wpN_take (i := 4) (v := ?v19) rfl (by kernel_rfl) (fun _ _ _ h => h) hS (Or.inl ⟨by rfl, ?hy19⟩) ?hr19
      case hy19 => (intro wS hSw; (try dsimp only at hSw); go_simp; (try with_reducible rfl))
      try simp only [Act.put, List.setIfInBounds_toArray, List.set_cons_zero, List.set_cons_succ, List.getElem_toArray, List.getElem_cons_zero, List.getElem_cons_succ]
      refine wpN_take (i := 5) (v := ?v20) rfl (by kernel_rfl) (fun _ _ _ h => h) hS (Or.inl ⟨by rfl, ?hy20⟩) ?hr20
      case hy20 => (intro wS hSw; (try dsimp only at hSw); go_simp; (try with_reducible rfl))
      try simp only [Act.put, List.setIfInBounds_toArray, List.set_cons_zero, List.set_cons_succ, List.getElem_toArray, List.getElem_cons_zero, List.getElem_cons_succ]
      refine wpN_take (i := 6) (v := ?v21) rfl (by kernel_rfl) (fun _ _ _ h => h) hS (Or.inl ⟨by rfl, ?hy21⟩) ?hr21
      case hy21 => (intro wS hSw; (try dsimp only at hSw); go_simp; (try with_reducible rfl))
      try simp only [Act.put, List.setIfInBounds_toArray, List.set_cons_zero, List.set_cons_succ, List.getElem_toArray, List.getElem_cons_zero, List.getElem_cons_succ]
      have hd : RowKit.Below w6.heap.size w6 w6.drew := (RowKit.Below.refl _ _).drew
      have b7 := b6.below hd
      have x7 := x6.below hd
      have rl7 := rl6.below hd
      have ro7 := ro6.below hd
      have mp7 := mp6.below hd
      have B7 := hB6.trans (hd.mono hB6.size)
      have row7 := hrow6.below hd
      obtain ⟨w7, hw7⟩ : ∃ w7, w6.drew = w7 := ⟨_, rfl⟩
      have hX7 : X < w7.heap.size := by rw [← hw7]; exact hX6
      have hs7 : w5.heap.size ≤ w7.heap.size := by rw [← hw7]; exact hb6s
      rw [hw7] at b7 x7 rl7 ro7 mp7 B7 row7 ⊢
      clear hw7 hd b6 x6 rl6 ro6 mp6 hB6 hS hrow6
      refine wpN_step (i := 7) (by kernel_rfl) rfl (fun K hK => ?_)
      obtain ⟨w8, hrun, mp8, hg⟩ := mp7.store (by simp only [maxLen]; have := HN.out; have h1 := HM0.out.len; have h2 := HM0.out.inv.many; dsimp only at h1 h2; omega) ⟨xk, xw, xg⟩ Hxk.out Hxn.out
      rw [if_pos (by rfl)]
      refine oper_mapUpdate_eq (.tmp 41) (.tmp 43) (.tmp 44) _ rfl hrun ?_
      try simp only [Act.put, List.setIfInBounds_toArray, List.set_cons_zero, List.set_cons_succ, List.getElem_toArray, List.getElem_cons_zero, List.getElem_cons_succ]
      have hO8 : Off (fun k => k = m) w7 w8 := (Off.refl (fun k => k = m) w7).grown hg fun k e => by cases e; rfl
      have x8 := hO8.blk x7 (Ne.symm hmX)
      have b8 := hO8.blk b7 (Ne.symm hM.mq)
      have B8 := B7.trans (hO8.toBelow B7.size fun k hk => by rw [hk]; exact hM.fm.1)
      have rl8 := rl7.off hO8 (fun g hg e => hM.lm (by rw [hg, e]))
      have ro8 := ro7.off hO8 (fun g hg e => hM.om (by rw [hg, e]))
      have row8 := Hrg.out _ _ _ row7 hO8 (fun e => hgm e.symm)
      have hs8 := Nat.le_trans hs7 hO8.size
      have hX8 := Nat.lt_of_lt_of_le hX7 hO8.size
      clear hrun hg hO8 x7 b7 rl7 ro7 mp7 B7 row7 hs7 hX7
      have hS : (w8).cell? ⟨c, 7, none⟩ = some (.map (some m)) ∧ (w8).cell? ⟨X, 0, none⟩ = some (.int .i64 xk) ∧ (w8).cell? ⟨X, 1, none⟩ = some (.int .i64 xw) ∧ (w8).cell? ⟨X, 2, none⟩ = some (.int .i64 xg) := ⟨b8.cell rfl, x8.cell rfl, x8.cell rfl, x8.cell rfl⟩
      refine hK.out _ _ (fun _ => hS) ?_
      clear hK K
      try simp only [Act.put, List.setIfInBounds_toArray, List.set_cons_zero, List.set_cons_succ, List.getElem_toArray, List.getElem_cons_zero, List.getElem_cons_succ]
      refine wpN_done (by kernel_rfl) ?_
      refine NoPanic.normal ?_
      go_wp2_with fail
      refine wp_region_noPanic (wp_region_need (S := fun w' => w'.cell? ⟨X, 0, none⟩ = some (.int .i64 xk) ∧ w'.cell? ⟨X, 1, none⟩ = some (.int .i64 xw) ∧ w'.cell? ⟨X, 2, none⟩ = some (.int .i64 xg)) (by kernel_rfl) ?_)
      have hS : (w8.drew).cell? ⟨X, 0, none⟩ = some (.int .i64 xk) ∧ (w8.drew).cell? ⟨X, 1, none⟩ = some (.int .i64 xw) ∧ (w8.drew).cell? ⟨X, 2, none⟩ = some (.int .i64 xg) := ⟨x8.drew.cell rfl, x8.drew.cell rfl, x8.drew.cell rfl⟩
      refine wpN_take (i := 0) (v := ?v22) rfl (by kernel_rfl) (fun _ _ _ h => h) hS (Or.inl ⟨by rfl, ?hy22⟩) ?hr22
      case hy22 => (intro wS hSw; (try dsimp only at hSw); go_simp; (try with_reducible rfl))
      try simp only [Act.put, List.setIfInBounds_toArray, List.set_cons_zero, List.set_cons_succ, List.getElem_toArray, List.getElem_cons_zero, List.getElem_cons_succ]
      refine wpN_take (i := 1) (v := ?v23) rfl (by kernel_rfl) (fun _ _ _ h => h) hS (Or.inl ⟨by rfl, ?hy23⟩) ?hr23
      case hy23 => (intro wS hSw; (try dsimp only at hSw); go_simp; (try with_reducible rfl))
      try simp only [Act.put, List.setIfInBounds_toArray, List.set_cons_zero, List.set_cons_succ, List.getElem_toArray, List.getElem_cons_zero, List.getElem_cons_succ]
      refine wpN_take (i := 2) (v := ?v24) rfl (by kernel_rfl) (fun _ _ _ h => h) hS (Or.inl ⟨by rfl, ?hy24⟩) ?hr24
      case hy24 => (intro wS hSw; (try dsimp only at hSw); go_simp; (try with_reducible rfl))
      try simp only [Act.put, List.setIfInBounds_toArray, List.set_cons_zero, List.set_cons_succ, List.getElem_toArray, List.getElem_cons_zero, List.getElem_cons_succ]
      refine wpN_take (i := 3) (v := ?v25) rfl (by kernel_rfl) (fun _ _ _ h => h) hS (Or.inl ⟨by rfl, ?hy25⟩) ?hr25
      case hy25 => (intro wS hSw; (try dsimp only at hSw); go_simp; (try with_reducible rfl))
      try simp only [Act.put, List.setIfInBounds_toArray, List.set_cons_zero, List.set_cons_succ, List.getElem_toArray, List.getElem_cons_zero, List.getElem_cons_succ]
      have hd : RowKit.Below w8.heap.size w8 w8.drew := (RowKit.Below.refl _ _).drew
      have b9 := b8.below hd
      have x9 := x8.below hd
      have rl9 := rl8.below hd
      have ro9 := ro8.below hd
      have mp9 := mp8.below hd
      have B9 := B8.trans (hd.mono B8.size)
      have row9 := row8.below hd
      obtain ⟨w9, hw9⟩ : ∃ w9, w8.drew = w9 := ⟨_, rfl⟩
      have hs9 : w5.heap.size ≤ w9.heap.size := by rw [← hw9]; exact hs8
      have hX9 : X < w9.heap.size := by rw [← hw9]; exact hX8
      rw [hw9] at b9 x9 rl9 ro9 mp9 B9 row9 ⊢
      clear hw9 hd b8 x8 rl8 ro8 mp8 B8 hS row8 hs8 hX8
      refine wpN_step (i := 4) (by kernel_rfl) rfl (fun K hK => ?_)
      go_simp
      refine (push_q fst_lighter Hp.lighter_ord (o := 3) b9 rfl rfl rl9 hM.hl hM.lq (Nat.zero_le _) (by have := hM.inv.lenl; have h2 := HM0.out.inv.many; dsimp only at this h2; omega) ⟨xk, xw, xg⟩).mono ?_
      rintro e w10 ⟨rfl, v10, l10, b10, rl10, p10, h10, own10, O10⟩
      have x10 := O10.blk x9 (by rintro (e | e); exact hcX e.symm; exact hlX e)
      have ro10 := ro9.off O10 (fun g hg => by rintro (e | e); exact hM.oq (by rw [hg, e]); exact hM.lo g e hg)
      have mp10 := mp9.off O10 (by rintro (e | e); exact hM.mq e; exact hM.lm e)
      have row10 := Hrg.out _ _ _ row9 O10 (by rintro (e | e); exact hgc e.symm; exact hgl e)
      have B10 := B9.trans (O10.toBelow B9.size fun k hk => by rcases hk with rfl | hk; exact hM.fq.1; exact (hM.fl k hk).1)
      have hs10 := Nat.le_trans hs9 O10.size
      have hX10 := Nat.lt_of_lt_of_le hX9 O10.size
      have own10' : ∀ k, v10.ownBlock = some k → lv.ownBlock = some k ∨ X < k := fun k hk => (own10 k hk).imp id (fun h => by omega)
      have hgX := (row9.base_le g rfl).2
      have own10g : v10.ownBlock ≠ some g := fun e => by rcases own10 g e with h | h; exact hgl h; omega
      have b10' : Blk w10 c #[.int .i64 per, .int .i64 tak, .int .i64 put, v10, .func (.func 22) #[] #[], ov, .func (.func 23) #[] #[], .map (some m)] 62 := b10
      clear b10 O10 own10 b9 x9 rl9 ro9 mp9 B9 row9 hs9 hX9 hgX
      have hS : (w10).cell? ⟨X, 0, none⟩ = some (.int .i64 xk) ∧ (w10).cell? ⟨X, 1, none⟩ = some (.int .i64 xw) ∧ (w10).cell? ⟨X, 2, none⟩ = some (.int .i64 xg) := ⟨x10.cell rfl, x10.cell rfl, x10.cell rfl⟩
      refine hK.out _ _ (fun _ => hS) ?_
      clear hK K
      try simp only [Act.put, List.setIfInBounds_toArray, List.set_cons_zero, List.set_cons_succ, List.getElem_toArray, List.getElem_cons_zero, List.getElem_cons_succ]
      refine wpN_done (by kernel_rfl) ?_
      refine NoPanic.normal ?_
      go_wp2_with fail
      refine wp_region_noPanic (wp_region_need (S := fun w' => w'.cell? ⟨X, 0, none⟩ = some (.int .i64 xk) ∧ w'.cell? ⟨X, 1, none⟩ = some (.int .i64 xw) ∧ w'.cell? ⟨X, 2, none⟩ = some (.int .i64 xg)) (by kernel_rfl) ?_)
      have hS : (w10.drew).cell? ⟨X, 0, none⟩ = some (.int .i64 xk) ∧ (w10.drew).cell? ⟨X, 1, none⟩ = some (.int .i64 xw) ∧ (w10.drew).cell? ⟨X, 2, none⟩ = some (.int .i64 xg) := ⟨x10.drew.cell rfl, x10.drew.cell rfl, x10.drew.cell rfl⟩
      refine wpN_take (i := 0) (v := ?v26) rfl (by kernel_rfl) (fun _ _ _ h => h) hS (Or.inl ⟨by rfl, ?hy26⟩) ?hr26
      case hy26 => (intro wS hSw; (try dsimp only at hSw); go_simp; (try with_reducible rfl))
      try simp only [Act.put, List.setIfInBounds_toArray, List.set_cons_zero, List.set_cons_succ, List.getElem_toArray, List.getElem_cons_zero, List.getElem_cons_succ]
      refine wpN_take (i := 1) (v := ?v27) rfl (by kernel_rfl) (fun _ _ _ h => h) hS (Or.inl ⟨by rfl, ?hy27⟩) ?hr27
      case hy27 => (intro wS hSw; (try dsimp only at hSw); go_simp; (try with_reducible rfl))
      try simp only [Act.put, List.setIfInBounds_toArray, List.set_cons_zero, List.set_cons_succ, List.getElem_toArray, List.getElem_cons_zero, List.getElem_cons_succ]
      refine wpN_take (i := 2) (v := ?v28) rfl (by kernel_rfl) (fun _ _ _ h => h) hS (Or.inl ⟨by rfl, ?hy28⟩) ?hr28
      case hy28 => (intro wS hSw; (try dsimp only at hSw); go_simp; (try with_reducible rfl))
      try simp only [Act.put, List.setIfInBounds_toArray, List.set_cons_zero, List.set_cons_succ, List.getElem_toArray, List.getElem_cons_zero, List.getElem_cons_succ]
      refine wpN_take (i := 3) (v := ?v29) rfl (by kernel_rfl) (fun _ _ _ h => h) hS (Or.inl ⟨by rfl, ?hy29⟩) ?hr29
      case hy29 => (intro wS hSw; (try dsimp only at hSw); go_simp; (try with_reducible rfl))
      try simp only [Act.put, List.setIfInBounds_toArray, List.set_cons_zero, List.set_cons_succ, List.getElem_toArray, List.getElem_cons_zero, List.getElem_cons_succ]
      have hd : RowKit.Below w10.heap.size w10 w10.drew := (RowKit.Below.refl _ _).drew
      have b11 := b10'.below hd
      have x11 := x10.below hd
      have rl11 := rl10.below hd
      have ro11 := ro10.below hd
      have mp11 := mp10.below hd
      have B11 := B10.trans (hd.mono B10.size)
      have row11 := row10.below hd
      obtain ⟨w11, hw11⟩ : ∃ w11, w10.drew = w11 := ⟨_, rfl⟩
      have hs11 : w5.heap.size ≤ w11.heap.size := by rw [← hw11]; exact hs10
      have hX11 : X < w11.heap.size := by rw [← hw11]; exact hX10
      rw [hw11] at b11 x11 rl11 ro11 mp11 B11 row11 ⊢
      clear hw11 hd b10' x10 rl10 ro10 mp10 B10 hS row10 hs10 hX10
      refine wpN_step (i := 4) (by kernel_rfl) rfl (fun K hK => ?_)
      go_simp
      refine (push_q fst_elder Hp.elder_ord (o := 5) b11 rfl rfl ro11 hM.ho hM.oq (Nat.zero_le _) (by have := hM.inv.leno; have h2 := HM0.out.inv.many; dsimp only at this h2; omega) ⟨xk, xw, xg⟩).mono ?_
      rintro e w12 ⟨rfl, v12, l12, b12, ro12, p12, h12, own12, O12⟩
      have n10q : v10.ownBlock ≠ some c := fun e => by rcases own10' c e with h | h; exact hM.lq h; have := hXl c (.inl rfl); omega
      have n10m : v10.ownBlock ≠ some m := fun e => by rcases own10' m e with h | h; exact hM.lm h; have := hXl m (.inr (.inl rfl)); omega
      have n10o : ∀ k, v10.ownBlock = some k → ov.ownBlock ≠ some k := fun k hk e => by
        rcases own10' k hk with h | h
        · exact hM.lo k h e
        · have := hXl k (.inr (.inr (.inr e))); omega
      have rl12 := rl11.off O12 (fun k hk => by rintro (e | e); exact n10q (by rw [hk, e]); exact n10o k hk e)
      have mp12 := mp11.off O12 (by rintro (e | e); exact hM.mq e; exact hM.om e)
      have row12 := Hrg.out _ _ _ row11 O12 (by rintro (e | e); exact hgc e.symm; exact hgo e)
      have x12 := O12.blk x11 (by rintro (e | e); exact hcX e.symm; exact hoX e)
      have B12 := B11.trans (O12.toBelow B11.size fun k hk => by rcases hk with rfl | hk; exact hM.fq.1; exact (hM.fo k hk).1)
      have hs12 := Nat.le_trans hs11 O12.size
      have hgX := (row11.base_le g rfl).2
      have hwX : w.heap.size ≤ X := by have := hM.fq.1; have := hXl c (.inl rfl); omega
      have own12g : v12.ownBlock ≠ some g := fun e => by rcases own12 g e with h | h; exact hgo h; omega
      have htk : L.take (j + 1) = L.take j ++ [⟨xk, xw, xg⟩] := by rw [List.take_succ_eq_append_getElem hjL, HX.out]
      have hp1 : l10.Perm (L.take (j + 1)) := by rw [htk]; exact (p10.trans (List.Perm.cons _ hpl.out)).trans (List.perm_append_comm (l₁ := [(⟨xk, xw, xg⟩ : Ent)]))
      have hp2 : l12.Perm (L.take (j + 1)) := by rw [htk]; exact (p12.trans (List.Perm.cons _ hpo.out)).trans (List.perm_append_comm (l₁ := [(⟨xk, xw, xg⟩ : Ent)]))
      have hfin : QMem (fun k => w.heap.size ≤ k ∧ (Value.slice (some ⟨g, 0, none⟩) N cap).ownBlock ≠ some k) w12 c ⟨per, tak, put, L.take (j + 1)⟩ v10 v12 m (n + 1) l10 l12 :=
        { inv := HM0.out.inv.copy HM0.out.len (j + 1) hp1 hp2
          blk := b12
          rl := rl12
          ro := ro12
          mp := by rw [htk]; exact mp12
          hn := by have := HN.out; have h1 := HM0.out.len; dsimp only at h1 ⊢; omega
          hl := h10
          ho := h12
          lq := n10q
          lm := n10m
          oq := fun e => by rcases own12 c e with h | h; exact hM.oq h; have := hXl c (.inl rfl); omega
          om := fun e => by rcases own12 m e with h | h; exact hM.om h; have := hXl m (.inr (.inl rfl)); omega
          mq := hM.mq
          lo := fun k hk e => by
            rcases own12 k e with h | h
            · exact n10o k hk h
            · have := (rl11.base_le k hk).2; omega
          fq := hM.fq
          fm := hM.fm
          fl := fun k hk => by
            rcases own10' k hk with h | h
            · exact hM.fl k h
            · exact ⟨by omega, fun e => by cases e; exact own10g hk⟩
          fo := fun k hk => by
            rcases own12 k hk with h | h
            · exact hM.fo k h
            · exact ⟨by omega, fun e => by cases e; exact own12g hk⟩ }
      have HF := Lib.hid hfin; have HP1 := Lib.hid hp1; have HP2 := Lib.hid hp2
      clear hfin hp1 hp2 htk own12 O12 b12 ro12 rl12 mp12 b11 rl11 ro11 mp11 row11 x11 B11 hs11
      have hS : (w12).cell? ⟨X, 0, none⟩ = some (.int .i64 xk) ∧ (w12).cell? ⟨X, 1, none⟩ = some (.int .i64 xw) ∧ (w12).cell? ⟨X, 2, none⟩ = some (.int .i64 xg) := ⟨x12.cell rfl, x12.cell rfl, x12.cell rfl⟩
      refine hK.out _ _ (fun _ => hS) ?_
      clear hK K
      try simp only [Act.put, List.setIfInBounds_toArray, List.set_cons_zero, List.set_cons_succ, List.getElem_toArray, List.getElem_cons_zero, List.getElem_cons_succ]
      refine wpN_done (by kernel_rfl) ?_
      refine NoPanic.normal ?_
      go_wp2_with fail
      go_roundw
      case rel => exact ⟨j + 1, v10, v12, n + 1, l10, l12, by go_num, by omega, by omega, HF, HP1, HP2, row12, B12, hs12⟩
      case measure => simp [intOf]; omega
    · have hltI : ¬ (j : Int) < N := by omega
      have hjN : L.take j = L := List.take_of_length_le (by rw [HN.out]; omega)
      rw [hjN] at HQ
      have HF := Lib.hid (QMem.off HQ.out (Off.refl (fun _ => False) wr) fun _ _ h => h)
      have HB := Lib.hid hbw
      clear hjN HQ hpl hpo hbw hrow
      go_wp2_with fail
      go_ret
      exact ⟨c, rfl, hc, QueueAt.weaken ⟨_, _, _, _, _, _, HF.out⟩ fun k hk => hk.1, HB.out⟩
end Go.Proofs.Ytplfbdkljnblmaa

namespace Go.Proofs.Ytplfbdkljnblmaa
open Go.RowKit Go.Maps

theorem QueueAt.sok {F : Nat → Prop} {w : World} {q : Nat} {s : QS} (h : QueueAt F w q s) : SOk s := by
  obtain ⟨lv, ov, m, n, light, old, h⟩ := h
  exact ⟨h.inv.per, h.inv.tak, h.inv.many, h.inv.keys, h.inv.ages, Nat.le_trans h.len h.inv.many⟩

def Two (O : Nat → Prop) (w : World) (q d : Nat) (s t : QS) : Prop :=
  (∀ k, O k → k < w.heap.size) ∧ ∃ F G : Nat → Prop, QueueAt F w q s ∧ RefAt G w d t ∧ (∀ k, F k → k < w.heap.size ∧ ¬ O k) ∧ (∀ k, G k → k < w.heap.size ∧ ¬ O k) ∧ ∀ k, F k → ¬ G k

theorem Two.sok {O : Nat → Prop} {w : World} {q d : Nat} {s t : QS} (h : Two O w q d s t) : SOk s := by
  obtain ⟨_, F, G, h, _⟩ := h
  exact h.sok
theorem Two.grow {O O' : Nat → Prop} {w w' : World} {q d : Nat} {s t : QS} (h : Two O w q d s t) (hb : Below w.heap.size w w') (hO : ∀ k, O' k → k < w'.heap.size ∧ (O k ∨ w.heap.size ≤ k)) : Two O' w' q d s t := by
  obtain ⟨h0, F, G, h1, h2, h3, h4, h5⟩ := h
  have hs := hb.size
  refine ⟨fun k hk => (hO k hk).1, F, G, h1.below hb, h2.below hb, fun k hk => ⟨?_, fun ho => ?_⟩, fun k hk => ⟨?_, fun ho => ?_⟩, h5⟩
  · have := (h3 k hk).1; omega
  · rcases (hO k ho).2 with h | h
    · exact (h3 k hk).2 h
    · have := (h3 k hk).1; omega
  · have := (h4 k hk).1; omega
  · rcases (hO k ho).2 with h | h
    · exact (h4 k hk).2 h
    · have := (h4 k hk).1; omega
theorem Two.less {O O' : Nat → Prop} {w : World} {q d : Nat} {s t : QS} (h : Two O w q d s t) (hO : ∀ k, O' k → O k) : Two O' w q d s t :=
  h.grow (Below.refl _ _) fun k hk => ⟨h.1 k (hO k hk), .inl (hO k hk)⟩

theorem Two.opQ {O : Nat → Prop} {w : World} {q d : Nat} {s t : QS} (h : Two O w q d s t) : ∃ F : Nat → Prop, QueueAt F w q s ∧ (∀ k, w.heap.size ≤ k → F k) ∧ (∀ k, k < w.heap.size → O k → ¬ F k) ∧
    ∀ w' s', QueueAt F w' q s' → Off F w w' → Two O w' q d s' t ∧ Off (fun k => ¬ O k) w w' := by
  obtain ⟨h0, F, G, h1, h2, h3, h4, h5⟩ := h
  refine ⟨fun k => F k ∨ w.heap.size ≤ k, h1.weaken fun k hk => .inl hk, fun k hk => .inr hk, fun k hk ho => ?_, fun w' s' hq ho => ?_⟩
  · rintro (h | h)
    · exact (h3 k h).2 ho
    · omega
  · have hs := ho.size
    refine ⟨⟨fun k hk => by have := h0 k hk; omega, _, G, hq.tight, h2.off ho fun k hk hg => ?_, fun k hk => ⟨hk.2, fun hO => ?_⟩, fun k hk => ⟨by have := (h4 k hk).1; omega, (h4 k hk).2⟩, fun k hk hg => ?_⟩, ho.mono fun k hk hf => ?_⟩
    · rintro (h | h)
      · exact h5 k h hg
      · omega
    · rcases hk.1 with h | h
      · exact (h3 k h).2 hO
      · have := h0 k hO; omega
    · rcases hk.1 with h | h
      · exact h5 k h hg
      · have := (h4 k hg).1; omega
    · rcases hf with h | h
      · exact (h3 k h).2
      · omega
theorem Two.opR {O : Nat → Prop} {w : World} {q d : Nat} {s t : QS} (h : Two O w q d s t) : ∃ G : Nat → Prop, RefAt G w d t ∧ (∀ k, w.heap.size ≤ k → G k) ∧
    ∀ w' t', RefAt G w' d t' → Off G w w' → Two O w' q d s t' ∧ Off (fun k => ¬ O k) w w' := by
  obtain ⟨h0, F, G, h1, h2, h3, h4, h5⟩ := h
  refine ⟨fun k => G k ∨ w.heap.size ≤ k, h2.weaken fun k hk => .inl hk, fun k hk => .inr hk, fun w' s' hq ho => ?_⟩
  have hs := ho.size
  refine ⟨⟨fun k hk => by have := h0 k hk; omega, F, _, h1.off ho fun k hk hf => ?_, hq.tight, fun k hk => ⟨by have := (h3 k hk).1; omega, (h3 k hk).2⟩, fun k hk => ⟨hk.2, fun hO => ?_⟩, fun k hf hk => ?_⟩, ho.mono fun k hk hf => ?_⟩
  · rintro (h | h)
    · exact h5 k hf h
    · omega
  · rcases hk.1 with h | h
    · exact (h4 k h).2 hO
    · have := h0 k hO; omega
  · rcases hk.1 with h | h
    · exact h5 k hf h
    · have := (h3 k hf).1; omega
  · rcases hf with h | h
    · exact (h4 k h).2
    · omega

section
variable {O : Nat → Prop} {w : World} {q d : Nat} {s t : QS}
theorem two_put (h : Two O w q d s t) (hp : s.put ≤ 799999) (key weight : Int) (hk : W64 key) :
    Calls Try.prog 8 #[.pointer (some ⟨q, 0, none⟩), .int .i64 key, .int .i64 weight] w fun e w' => ∃ s', PutRes s key weight e s' ∧ Two O w' q d s' t ∧ Off (fun k => ¬ O k) w w' := by
  obtain ⟨F, h1, h2, -, h3⟩ := h.opQ
  refine (put_q h1 hp h2 key weight hk).mono ?_
  rintro e w' ⟨s', hr, hq, ho⟩
  exact ⟨s', hr, h3 w' s' hq ho⟩
theorem two_next (h : Two O w q d s t) (ht : s.taken ≤ 799999) :
    Calls Try.prog 9 #[.pointer (some ⟨q, 0, none⟩)] w fun e w' => ∃ s', NextRes s e s' ∧ Two O w' q d s' t ∧ Off (fun k => ¬ O k) w w' := by
  obtain ⟨F, h1, h2, -, h3⟩ := h.opQ
  refine (next_q h1 ht).mono ?_
  rintro e w' ⟨s', hr, hq, ho⟩
  exact ⟨s', hr, h3 w' s' hq ho⟩
theorem two_peek (h : Two O w q d s t) :
    Calls Try.prog 16 #[.pointer (some ⟨q, 0, none⟩)] w fun e w' => PeekRes s e ∧ Two O w' q d s t ∧ Off (fun k => ¬ O k) w w' := by
  obtain ⟨F, h1, h2, -, h3⟩ := h.opQ
  refine (peek_q h1).mono ?_
  rintro e w' ⟨hr, hq, ho⟩
  exact ⟨hr, h3 w' s hq ho⟩
theorem two_drop (h : Two O w q d s t) {a : Option Addr} {c : Nat} {l : List Int} (hl : l.length ≤ 100000) (hcell : ∀ j (hj : j < l.length), ∃ bl o, a = some ⟨bl, o, none⟩ ∧ w.cell? ⟨bl, o + j, none⟩ = some (.int .i64 l[j]) ∧ O bl) (hW : ∀ k ∈ l, W64 k) :
    Calls Try.prog 11 #[.pointer (some ⟨q, 0, none⟩), .slice a l.length c] w fun e w' => e = .returned (.int .i64 (l.foldl dr (s, 0)).2) ∧ Two O w' q d (l.foldl dr (s, 0)).1 t ∧ Off (fun k => ¬ O k) w w' := by
  obtain ⟨F, h1, h2, h4, h3⟩ := h.opQ
  refine (drop_q h1 hl (fun j hj => ?_) hW).mono ?_
  · obtain ⟨bl, o, rfl, hc, ho⟩ := hcell j hj
    exact ⟨bl, o, rfl, hc, h4 bl (Keep.lt hc) ho⟩
  · rintro e w' ⟨rfl, hq, ho⟩
    exact ⟨rfl, h3 w' _ hq ho⟩
theorem two_putR (h : Two O w q d s t) (ok : SOk t) (hp : t.put ≤ 799999) (key weight : Int) :
    Calls Try.prog 13 #[.pointer (some ⟨d, 0, none⟩), .int .i64 key, .int .i64 weight] w fun e w' => ∃ t', PutRes t key weight e t' ∧ Two O w' q d s t' ∧ Off (fun k => ¬ O k) w w' := by
  obtain ⟨F, h1, h2, h3⟩ := h.opR
  refine (put_r h1 ok hp h2 key weight).mono ?_
  rintro e w' ⟨s', hr, hq, ho⟩
  exact ⟨s', hr, h3 w' s' hq ho⟩
theorem two_nextR (h : Two O w q d s t) (ok : SOk t) (ht : t.taken ≤ 799999) :
    Calls Try.prog 14 #[.pointer (some ⟨d, 0, none⟩)] w fun e w' => ∃ t', NextRes t e t' ∧ Two O w' q d s t' ∧ Off (fun k => ¬ O k) w w' := by
  obtain ⟨F, h1, h2, h3⟩ := h.opR
  refine (next_r h1 ok ht h2).mono ?_
  rintro e w' ⟨s', hr, hq, ho⟩
  exact ⟨s', hr, h3 w' s' hq ho⟩
theorem two_peekR (h : Two O w q d s t) (ok : SOk t) :
    Calls Try.prog 17 #[.pointer (some ⟨d, 0, none⟩)] w fun e w' => PeekRes t e ∧ Below w.heap.size w w' := by
  obtain ⟨F, ⟨v, h1⟩, -, -⟩ := h.opR
  exact peek_r h1 ok
theorem two_dropR (h : Two O w q d s t) (ok : SOk t) (key : Int) :
    Calls Try.prog 18 #[.pointer (some ⟨d, 0, none⟩), .int .i64 key] w fun e w' => e = .returned (.int .i64 (hasN t.L key : Nat)) ∧ Two O w' q d s (t.gone key) ∧ Off (fun k => ¬ O k) w w' := by
  obtain ⟨F, h1, h2, h3⟩ := h.opR
  refine (drop_r h1 ok h2 key).mono ?_
  rintro e w' ⟨rfl, hq, ho⟩
  exact ⟨rfl, h3 w' _ hq ho⟩
theorem two_all (h : Two O w q d s t) :
    Calls Try.prog 20 #[.pointer (some ⟨q, 0, none⟩)] w fun e w' => ∃ v, e = .returned v ∧ Row w' w.heap.size v s.L ∧ Below w.heap.size w w' := by
  obtain ⟨-, F, G, h1, -⟩ := h
  exact all_q h1
theorem two_len (h : Two O w q d s t) : Calls Try.prog 12 #[.pointer (some ⟨q, 0, none⟩)] w fun e w' => e = .returned (.int .i64 s.L.length) ∧ Below w.heap.size w w' := by
  obtain ⟨-, F, G, h1, -⟩ := h
  exact len_q h1
theorem two_taken (h : Two O w q d s t) : Calls Try.prog 21 #[.pointer (some ⟨q, 0, none⟩)] w fun e w' => e = .returned (.int .i64 s.taken) ∧ Below w.heap.size w w' := by
  obtain ⟨-, F, G, h1, -⟩ := h
  exact taken_q h1
theorem two_copy (h : Two O w q d s t) : Calls Try.prog 19 #[.pointer (some ⟨q, 0, none⟩)] w fun e w' => ∃ c, e = .returned (.pointer (some ⟨c, 0, none⟩)) ∧ QueueAt (fun k => w.heap.size ≤ k ∧ k < w'.heap.size) w' c s ∧ Below w.heap.size w w' := by
  obtain ⟨-, F, G, h1, -⟩ := h
  refine (copy_q h1).mono ?_
  rintro e w' ⟨c, rfl, -, hq, hb⟩
  exact ⟨c, rfl, hq.tight, hb⟩
theorem Two.turn {O O' : Nat → Prop} {w : World} {q d c : Nat} {s s' t : QS} (h : Two O' w q d s t) {F : Nat → Prop} (hc : QueueAt F w c s') (hF : ∀ k, F k → O' k ∧ ¬ O k) (hO : ∀ k, O k → O' k) : Two O w c d s' t := by
  obtain ⟨h0, F', G, h1, h2, h3, h4, h5⟩ := h
  refine ⟨fun k hk => h0 k (hO k hk), F, G, hc, h2, fun k hk => ⟨h0 k (hF k hk).1, (hF k hk).2⟩, fun k hk => ⟨(h4 k hk).1, fun ho => (h4 k hk).2 (hO k ho)⟩, fun k hk hg => (h4 k hg).2 (hF k hk).1⟩
end

theorem results_oneR {fn : Func} {c : Tmp} (h : fn.results = #[.cell c 47]) (tmps : Array Value) (w : World) {r : Nat} (hp : tmps.getD c undef = .pointer (some ⟨r, 0, none⟩)) {e : Ent} (hb : Blk w r #[.int .i64 e.key, .int .i64 e.weight, .int .i64 e.age] 47) :
    (results fn tmps).run Try.prog w = .ok e.v w := by
  have c0 := hb.cell (i := 0) rfl; have c1 := hb.cell (i := 1) rfl; have c2 := hb.cell (i := 2) rfl
  rw [Array.getD_eq_getD_getElem?] at hp
  simp [results, h, hp]
  go_simp
  rfl
theorem of_q (e : Ent) (w : World) : Calls Try.prog 15 #[e.v] w fun e' w' => e' = .returned e.v ∧ Below w.heap.size w w' := by
  obtain ⟨k, x, g⟩ := e
  unfold Ent.v
  go_enter Try.func15, Try.ntmps15
  go_wp2_with fail
  have z := Blk.new (w.alloc (.cells #[.int .i64 k, .int .i64 x, .int .i64 g] 30)) #[.int .i64 k, .int .i64 x, .int .i64 g] 47 (n := w.heap.size + 1) (by simp)
  (try simp only [Exit.inBlock, Exit.then]); refine bodyPost_ret (results_oneR rfl _ _ rfl (e := ⟨k, x, g⟩) z) rfl ?_
  exact ⟨rfl, ((Below.refl _ _).alloc (Nat.le_refl _) _).alloc (by simp) _⟩

theorem new_bad (w : World) (period : Int) (h : period < 1 ∨ 1000 < period) :
    Calls Try.prog 7 #[.int .i64 period] w fun e w' => e = .returned (.tuple #[.pointer none, .int .i64 1]) ∧ Below w.heap.size w w' := by
  by_cases h1 : period < 1
  · clear h
    go_enter Try.func7, Try.ntmps7
    go_wp2_with fail
    go_ret2
    exact ⟨rfl, Below.refl _ _⟩
  · have h2 : period > 1000 := by omega
    clear h
    go_enter Try.func7, Try.ntmps7
    go_wp2_with fail
    go_ret2
    exact ⟨rfl, Below.refl _ _⟩

theorem put_ret {s s' : QS} {k wt : Int} {e : Ending} (h : PutRes s k wt e s') : (∃ c : Int, e = .returned (.int .i64 c)) ∧ s'.put ≤ s.put + 1 ∧ s'.taken = s.taken := by
  rcases h with ⟨_, rfl, rfl⟩ | ⟨_, _, rfl, rfl⟩ | ⟨_, _, rfl, rfl⟩
  · exact ⟨⟨_, rfl⟩, Nat.le_succ _, rfl⟩
  · exact ⟨⟨_, rfl⟩, Nat.le_succ _, rfl⟩
  · exact ⟨⟨_, rfl⟩, Nat.le_refl _, rfl⟩
theorem next_ret {s s' : QS} {e : Ending} (h : NextRes s e s') : (∃ (x : Ent) (b : Bool), e = .returned (.tuple #[x.v, .bool b])) ∧ s'.put = s.put ∧ s'.taken ≤ s.taken + 1 := by
  rcases h with ⟨_, rfl, rfl⟩ | ⟨x, _, _, rfl, rfl⟩
  · exact ⟨⟨_, _, rfl⟩, rfl, by omega⟩
  · exact ⟨⟨_, _, rfl⟩, rfl, Int.le_refl _⟩
theorem peek_ret {s : QS} {e : Ending} (h : PeekRes s e) : ∃ (x : Ent) (b : Bool), e = .returned (.tuple #[x.v, .bool b]) := by
  rcases h with ⟨_, rfl⟩ | ⟨x, _, _, rfl⟩
  · exact ⟨_, _, rfl⟩
  · exact ⟨_, _, rfl⟩
theorem SOk.gone {s : QS} (h : SOk s) (k : Int) : SOk (s.gone k) :=
  ⟨h.per, h.tak, h.many, h.keys.sublist (List.Sublist.map _ List.filter_sublist), h.ages.sublist List.filter_sublist, Nat.le_trans (List.length_filter_le _ _) h.len⟩
theorem SOk.drs {s : QS} (h : SOk s) (l : List Int) : ∀ n, SOk (l.foldl dr (s, n)).1 := by
  induction l generalizing s with
  | nil => intro n; exact h
  | cons k l ih => intro n; exact ih (h.gone k) _
theorem drs_same (s : QS) (l : List Int) : ∀ n, (l.foldl dr (s, n)).1.put = s.put ∧ (l.foldl dr (s, n)).1.taken = s.taken := by
  induction l generalizing s with
  | nil => intro n; exact ⟨rfl, rfl⟩
  | cons k l ih => intro n; exact ih (s.gone k) _
theorem Two.ref {O : Nat → Prop} {w : World} {q d : Nat} {s t : QS} (h : Two O w q d s t) : ∃ (a : Option Addr) (c : Nat), Blk w d #[.int .i64 t.period, .int .i64 t.taken, .int .i64 t.put, .slice a t.L.length c] 43 ∧ RowR w 0 (.slice a t.L.length c) t.L := by
  obtain ⟨-, F, G, -, ⟨v, hM⟩, -⟩ := h
  obtain ⟨a, c, rfl⟩ := hM.row.shape
  exact ⟨a, c, hM.blk, hM.row⟩
end Go.Proofs.Ytplfbdkljnblmaa

