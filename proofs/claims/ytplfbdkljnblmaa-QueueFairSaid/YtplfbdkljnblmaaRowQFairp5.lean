/-
  The queue's map, as a list of the entries that wait. From the readings of a row's arguments to the representations that the walks ask, and from a walk that keeps what was there to the row's end. Queue.waits and heap.top: those ahead that wait no more go; the first that waits is told. A region that draws its order where several operations can come up.
-/
import Derived.Test.YtplfbdkljnblmaaRowQFairp4
import Derived.Maps.OwnSet
import Derived.Test.YtplfbdkljnblmaaRowQFairp1
import Derived.Test.YtplfbdkljnblmaaChecked
import Derived.ProofKit
import Derived.WalkKit
import Derived.WideKeyArgs
import Derived.OpenShut
import Derived.RegionTactic
set_option linter.unusedVariables false
set_option linter.unusedSimpArgs false
namespace Go.Proofs.Ytplfbdkljnblmaa
open Go.RowKit Go.Maps

def encD (e : Ent) : DataW Unit := .agg [.lit (.int .i64 e.key), .lit (.int .i64 e.weight), .lit (.int .i64 e.age)]
def rE (v : Value) : Option (DataW Unit × List MemPlace) :=
  match v with
  | .agg a => (match a.toList with
    | [.int .i64 x, .int .i64 y, .int .i64 z] => some (.agg [.lit (.int .i64 x), .lit (.int .i64 y), .lit (.int .i64 z)], [])
    | _ => none)
  | _ => none
theorem rE_mk (e : Ent) : rE e.v = some (encD e, []) := rfl
theorem rE_inv {v : Value} {e : Ent} {ps : List MemPlace} (h : rE v = some (encD e, ps)) : v = e.v := by
  unfold rE at h
  split at h
  · rename_i a
    split at h
    · rename_i x y z hl
      simp only [encD, Option.some.injEq, Prod.mk.injEq, DataW.agg.injEq, List.cons.injEq, DataW.lit.injEq, Lit.int.injEq, true_and, and_true] at h
      obtain ⟨⟨rfl, rfl, rfl⟩, -⟩ := h
      unfold Ent.v
      congr 1
      exact Array.toList_inj.1 (by simpa using hl)
    · cases h
  · cases h

def W64 (n : Int) : Prop := -9223372036854775808 ≤ n ∧ n ≤ 9223372036854775807
theorem wf_of (n : Int) (h : W64 n) : (Lit.int .i64 n).wf = true := by
  simp [Lit.wf, IntKind.min, IntKind.max, IntKind.signed, IntKind.bits]
  exact h

theorem key_ty : Try.prog.underlying 3 = some (.int .i64) := by kernel_rfl
theorem keyed : Keyed Try.prog 3 := int_keyed key_ty
theorem keyK {k : Int} (h : W64 k) : keyOf Try.prog 3 (.int .i64 k) = some (.int .i64 k) := keyOf_int_mk key_ty (wf_of k h)
theorem map_ty : Try.prog.underlying 60 = some (.map 3 30) := by kernel_rfl
theorem zeroE (w : World) : (zeroValue 30).run Try.prog w = .ok Hp.z0.v w := by kernel_rfl

def findK (L : List Ent) (k : Int) : Option Ent := L.find? fun e => e.key == k
def MapOf (w : World) (b n : Nat) (L : List Ent) : Prop :=
  ∃ D : DataW Unit, w.ownsMap Try.prog 3 rE b n D ∧ Maps.size D = L.length ∧ ∀ k : Int, match findK L k with
    | none => Maps.has D (.int .i64 k) = false
    | some e => Maps.has D (.int .i64 k) = true ∧ ∀ z, D.atKey (.int .i64 k) z = encD e
namespace MapOf
variable {w w' : World} {b n : Nat} {L : List Ent}
theorem of_block (h : MapOf w b n L) (hb : w'.heap[b]? = w.heap[b]?) : MapOf w' b n L := by
  obtain ⟨D, ⟨es, clock, h1, h2⟩, h3⟩ := h
  exact ⟨D, ⟨es, clock, hb.trans h1, h2⟩, h3⟩
theorem lt (h : MapOf w b n L) : b < w.heap.size := h.choose_spec.1.lt
theorem below (h : MapOf w b n L) (hb : Below w.heap.size w w') : MapOf w' b n L := h.of_block (hb.block b h.lt)
theorem off {F : Nat → Prop} (h : MapOf w b n L) (ho : Off F w w') (hF : ¬ F b) : MapOf w' b n L := h.of_block (ho.block b h.lt hF)
theorem drew (h : MapOf w b n L) : MapOf w.drew b n L := h.below (Below.refl _ _).drew
theorem far (h : MapOf w b n L) (p : Addr) (u : Value) (hp : b ≠ p.block) : MapOf (w.setCell p u) b n L := h.of_block (Below.heap_setCell _ _ _ _ hp)
theorem made (w : World) : MapOf (w.alloc (.map #[] 0)) w.heap.size 0 [] := ⟨_, World.ownsMap_made _ _ _ _, rfl, fun k => rfl⟩
theorem mono (h : MapOf w b n L) {m : Nat} (hm : n ≤ m) : MapOf w b m L := by
  obtain ⟨D, h1, h2⟩ := h
  exact ⟨D, h1.mono hm, h2⟩
theorem look (h : MapOf w b n L) {k : Int} (hk : W64 k) : (Instr.lookup 60 (.map (some b)) (.int .i64 k) true).run Try.prog w = .ok (.tuple #[((findK L k).getD Hp.z0).v, .bool (findK L k).isSome]) w := by
  obtain ⟨D, h1, h2, h3⟩ := h
  obtain ⟨v, ps, hr, hv⟩ := h1.look_ok keyed map_ty (zeroE w) (rE_mk Hp.z0) (keyK hk)
  rw [hr]
  have h4 := h3 k
  cases hf : findK L k with
  | none =>
    rw [hf] at h4
    dsimp only at h4
    rw [atKey_of_not_has h4] at hv
    rw [h4, rE_inv hv]; rfl
  | some e =>
    rw [hf] at h4
    dsimp only at h4
    rw [h4.2] at hv
    rw [h4.1, rE_inv hv]; rfl
theorem len (h : MapOf w b n L) (ty : TypeId) : (Builtin.len_ #[60] ty #[.map (some b)]).run Try.prog w = .ok (.int .i64 L.length) w := by
  obtain ⟨D, h1, h2, h3⟩ := h
  rw [← h2]
  exact h1.len map_ty ty

theorem findK_append (L : List Ent) (x : Ent) (k : Int) : findK (L ++ [x]) k = (findK L k).or (if x.key = k then some x else none) := by
  unfold findK
  rw [List.find?_append]
  by_cases h : x.key = k <;> simp [h]

theorem store (h : MapOf w b n L) (hn : n < maxLen) (e : Ent) (he : W64 e.key) (hnew : findK L e.key = none) :
    ∃ w', (Instr.mapUpdate 60 (.map (some b)) (.int .i64 e.key) e.v).run Try.prog w = .ok () w' ∧ MapOf w' b (n + 1) (L ++ [e]) ∧ w.grownBy w' (some b) := by
  obtain ⟨D, h1, h2, h3⟩ := h
  obtain ⟨w', hr, h4, h5⟩ := h1.store keyed map_ty hn (keyK he) (rE_mk e)
  have hno : Maps.has D (.int .i64 e.key) = false := by have := h3 e.key; rw [hnew] at this; exact this
  refine ⟨w', hr, ⟨_, h4, ?_, fun k => ?_⟩, h5.grown⟩
  · rw [size_put (h1.tidy keyed), hno, h2]; simp
  · rw [findK_append]
    by_cases hk : e.key = k
    · subst hk
      rw [hnew, if_pos rfl]
      have hkl : WideAt.IsKeyLit (Lit.int .i64 e.key) := by unfold WideAt.IsKeyLit; trivial
      exact ⟨has_put_same h1.isMap hkl _, fun z => atKey_put_same h1.isMap hkl _ _⟩
    · rw [if_neg hk, Option.or_none]
      have hne : Lit.int .i64 k ≠ Lit.int .i64 e.key := fun h => hk (by cases h; rfl)
      have h6 := h3 k
      cases hf : findK L k with
      | none => rw [hf] at h6; exact (has_put_other hne _).trans h6
      | some e' => rw [hf] at h6; exact ⟨(has_put_other hne _).trans h6.1, fun z => (atKey_put_other hne _ _).trans (h6.2 z)⟩

def less (L : List Ent) (k : Int) : List Ent := L.filter fun e => e.key != k
theorem findK_less (L : List Ent) (k k' : Int) : findK (less L k) k' = if k' = k then none else findK L k' := by
  unfold findK less
  induction L with
  | nil => simp
  | cons e L ih =>
    by_cases h1 : e.key = k
    · subst h1
      simp only [List.filter_cons, bne_self_eq_false, Bool.false_eq_true, if_false]
      rw [ih]
      by_cases h2 : k' = e.key
      · rw [if_pos h2, if_pos h2]
      · rw [if_neg h2, if_neg h2, List.find?_cons_of_neg (by simpa using fun h => h2 h.symm)]
    · have : (e.key != k) = true := by simpa using h1
      simp only [List.filter_cons, this, if_true]
      by_cases h2 : e.key = k'
      · rw [List.find?_cons_of_pos (by simpa using h2), List.find?_cons_of_pos (by simpa using h2), if_neg (by rw [← h2]; exact h1)]
      · rw [List.find?_cons_of_neg (by simpa using h2), List.find?_cons_of_neg (by simpa using h2), ih]
theorem length_less {L : List Ent} (hL : (L.map Ent.key).Nodup) (k : Int) : (less L k).length + (if (findK L k).isSome then 1 else 0) = L.length := by
  induction L with
  | nil => simp [less, findK]
  | cons e L ih =>
    simp only [List.map_cons, List.nodup_cons] at hL
    have ih := ih hL.2
    by_cases h1 : e.key = k
    · subst h1
      have h2 : less L e.key = L := by
        unfold less
        rw [List.filter_eq_self]
        intro x hx
        have : x.key ≠ e.key := fun h => hL.1 (h ▸ List.mem_map.2 ⟨x, hx, rfl⟩)
        simpa using this
      have h3 : less (e :: L) e.key = less L e.key := by simp [less]
      have h4 : (findK (e :: L) e.key).isSome = true := by simp [findK]
      rw [h3, h2, h4]; simp
    · have h3 : less (e :: L) k = e :: less L k := by simp [less, h1]
      have h4 : findK (e :: L) k = findK L k := by unfold findK; rw [List.find?_cons_of_neg (by simpa using h1)]
      rw [h3, h4]; simp only [List.length_cons]; omega
theorem drop (h : MapOf w b n L) (hL : (L.map Ent.key).Nodup) {k : Int} (hk : W64 k) (ty : TypeId) :
    ∃ w', (Builtin.delete_ #[60, 3] ty #[.map (some b), .int .i64 k]).run Try.prog w = .ok (.tuple #[]) w' ∧ MapOf w' b n (less L k) ∧ w.grownBy w' (some b) := by
  obtain ⟨D, h1, h2, h3⟩ := h
  obtain ⟨w', hr, h4, h5⟩ := h1.drop keyed map_ty (keyK hk) ty
  refine ⟨w', hr, ⟨_, h4, ?_, fun k' => ?_⟩, h5.grown⟩
  · have h6 := size_del (k := .int .i64 k) (h1.tidy keyed)
    have h7 := length_less hL k
    have h8 := h3 k
    cases hf : findK L k with
    | none => rw [hf] at h8 h7; rw [h8] at h6; simp at h6 h7; omega
    | some e => rw [hf] at h8 h7; rw [h8.1] at h6; simp at h6 h7; omega
  · rw [findK_less]
    by_cases hkk : k' = k
    · subst hkk; rw [if_pos rfl]; exact has_del_same
    · rw [if_neg hkk]
      have hne : Lit.int .i64 k' ≠ Lit.int .i64 k := fun h => hkk (by cases h; rfl)
      have h6 := h3 k'
      cases hf : findK L k' with
      | none => rw [hf] at h6; exact (has_del_other hne).trans h6
      | some e' => rw [hf] at h6; exact ⟨(has_del_other hne).trans h6.1, fun z => (atKey_del_other hne _).trans (h6.2 z)⟩
end MapOf
end Go.Proofs.Ytplfbdkljnblmaa

namespace Go.Proofs.Ytplfbdkljnblmaa
open Go.RowKit Go.ChangeShapes Go.WideShapes Go.ChangeAt

theorem own : ownKnob Try.prog.godebug = none := by kernel_rfl
theorem laidOut : laidOutB Try.prog = true := by kernel_rfl

def Rd {α H : Type} (enc : TypeId × Value → H) (W : World) (base : Nat) (sp : Nat → Bool) (hd : Bool) (t : TypeId) (r : Rp α) (D : DataW H → α → Prop) (n : Nat) : Prop :=
  ∀ cs x, DataW.trod enc Try.prog W base sp hd n t cs = some x → ∃ v, r.R (fun _ => True) W cs v ∧ D x.1 v

theorem addr_add (bl off n : Nat) : (⟨bl, off, none⟩ : Addr).add n = ⟨bl, off + n, none⟩ := by
  unfold Addr.add; split
  · subst_vars; rfl
  · rfl

theorem sl_of_trod {α H : Type} {enc : TypeId × Value → H} {W : World} {base : Nat} {sp : Nat → Bool} {hd : Bool} {t e : TypeId} {r : Rp α} {D : DataW H → α → Prop} {fuel : Nat} {cs : List Value} {x : DataW H × List MemPlace}
    (ht : Try.prog.underlying t = some (.slice e)) (hn : Try.prog.cellsOf e = r.n) (hpos : 0 < r.n) (hr : ∀ m, m < fuel → Rd enc W base sp hd e r D m) (h : DataW.trod enc Try.prog W base sp hd fuel t cs = some x) :
    ∃ a n c l, cs = [.slice a n c] ∧ n ≤ c ∧ IsSl r (fun _ => True) W (.slice a n c) l ∧ ∀ i (h : i < l.length), ∃ d es spare, x.1 = .slice es spare ∧ d ∈ es ∧ D d l[i] := by
  rcases DataW.trod_slice ht h with ⟨rfl, _⟩ | ⟨a, len, cap, elems, rest, n, rfl, rfl, rfl, hb, hl, hm, hlen, hel, _, _⟩
  · exact ⟨_, _, _, [], rfl, Nat.le_refl _, ⟨none, 0, 0, 0, fun _ => [], rfl, ⟨Nat.zero_le _, Nat.le_refl _⟩, fun h => absurd h (by simp), fun _ _ _ h => absurd h (by simp), fun _ h => absurd h (by simp)⟩, fun _ h => absurd h (by simp)⟩
  · have H : ∀ i : Fin len, ∃ y : List Value × α, W.cells? base (a.add (i * r.n)) r.n = some y.1 ∧ r.R (fun _ => True) W y.1 y.2 ∧ ∃ d ∈ elems.map (·.1), D d y.2 := fun i => by
      have h1 := hel i i.2
      rw [List.getElem?_eq_getElem (by omega), hn] at h1
      obtain ⟨cs', h2, h3⟩ := Option.bind_eq_some_iff.1 h1
      obtain ⟨v, hv, hd⟩ := hr n (by omega) _ _ h3
      exact ⟨⟨cs', v⟩, h2, hv, _, List.mem_map_of_mem (List.getElem_mem _), hd⟩
    obtain ⟨f, hf⟩ := Classical.axiomOfChoice H
    refine ⟨_, _, _, List.ofFn fun i => (f i).2, rfl, hl, ⟨some a, cap, a.block, a.off, fun i => if h : i < len then (f ⟨i, h⟩).1 else [], by simp, by simp; omega, fun h0 => ?_, fun i j u hi hu => ?_, fun i hi => ?_⟩, fun i hi => ?_⟩
    · have h0 : 0 < len := by simpa using h0
      have h1 := (World.cells?_some (hf ⟨0, h0⟩).1)
      have h2 := h1.2.2 0 hpos
      rw [List.getElem?_eq_getElem (by rw [h1.2.1]; exact hpos)] at h2
      have h3 := World.cell?_spot h2
      obtain ⟨bl, off, spot⟩ := a
      have : spot = none := by simpa [Addr.add] using h3
      subst this
      exact ⟨rfl, trivial⟩
    · have hi : i < len := by simpa using hi
      simp only [dif_pos hi] at hu
      have h1 := (World.cells?_some (hf ⟨i, hi⟩).1)
      have hj : j < r.n := by
        rcases Nat.lt_or_ge j r.n with h | h
        · exact h
        · rw [List.getElem?_eq_none (by rw [h1.2.1]; exact h)] at hu; cases hu
      have h2 := h1.2.2 j hj
      rw [hu] at h2
      have h0 := (World.cells?_some (hf ⟨0, by omega⟩).1)
      have h0' := h0.2.2 0 hpos
      rw [List.getElem?_eq_getElem (by rw [h0.2.1]; exact hpos)] at h0'
      have h3 := World.cell?_spot h0'
      obtain ⟨bl, off, spot⟩ := a
      have : spot = none := by simpa [Addr.add] using h3
      subst this
      rw [addr_add, addr_add] at h2
      exact h2
    · have hi : i < len := by simpa using hi
      simp only [dif_pos hi, List.getElem_ofFn]
      exact (hf ⟨i, hi⟩).2.1
    · have hi : i < len := by simpa using hi
      obtain ⟨d, h1, h2⟩ := (hf ⟨i, hi⟩).2.2
      exact ⟨d, _, _, rfl, h1, by simpa using h2⟩

theorem two_of {α : Type} {cs : List α} (h : cs.length = 2) : ∃ a b, cs = [a, b] := by
  match cs, h with
  | [a, b], _ => exact ⟨a, b, rfl⟩
theorem cellsInt : Try.prog.cellsOf 3 = 1 := by kernel_rfl

def rpI : Rp Int where
  n := 1
  R _ _ x v := x = [.int .i64 v]
  len := by rintro F w x a rfl; rfl
  one := by rintro F w x a rfl u hu; simp at hu; subst hu; rfl
  keep := by intro F w w' x a h _; exact h
  weaken := by intro F F' w x a h _; exact h
theorem wf_i64q {k : Int} (h : (Lit.int .i64 k).wf = true) : W64 k := by
  simp [Lit.wf, IntKind.min, IntKind.max, IntKind.signed, IntKind.bits] at h
  exact h
theorem rdI {H : Type} (enc : TypeId × Value → H) (W : World) (base : Nat) (sp : Nat → Bool) (hd : Bool) : ∀ n, Rd enc W base sp hd 3 rpI (fun _ v => W64 v) n := by
  intro n cs x h
  obtain ⟨k, hk, _, hw⟩ := DataW.trod_int Try.underlying3 h
  exact ⟨k, hk, wf_i64q hw⟩
theorem cellsSI : Try.prog.cellsOf 22 = 1 := by kernel_rfl
theorem cellsAct : Try.prog.cellsOf 45 = 4 := by kernel_rfl
theorem four_of {α : Type} {cs : List α} (h : cs.length = 4) : ∃ a b c d, cs = [a, b, c, d] := by
  match cs, h with
  | [a, b, c, d], _ => exact ⟨a, b, c, d, rfl⟩
structure Act25 where
  kind : Int
  key : Int
  weight : Int
  keys : List Int
def rpA : Rp Act25 where
  n := 4
  R F w x v := ∃ a c, x = [.int .i64 v.kind, .int .i64 v.key, .int .i64 v.weight, .slice a v.keys.length c] ∧ IsSl rpI F w (.slice a v.keys.length c) v.keys
  len := by rintro F w x a ⟨_, _, rfl, _⟩; rfl
  one := by
    rintro F w x a ⟨_, _, rfl, _⟩ u hu
    simp at hu
    rcases hu with rfl | rfl | rfl | rfl <;> rfl
  keep := by rintro F w w' x a ⟨p, c, h, hs⟩ hk; exact ⟨p, c, h, hs.keep hk⟩
  weaken := by rintro F F' w x a ⟨p, c, h, hs⟩ hF; exact ⟨p, c, h, hs.weaken (by decide) hF⟩
def Act25.ok (v : Act25) : Prop := W64 v.key ∧ W64 v.weight ∧ ∀ k ∈ v.keys, W64 k
theorem rdA {H : Type} (enc : TypeId × Value → H) (W : World) (base : Nat) (sp : Nat → Bool) (hd : Bool) : ∀ n, Rd enc W base sp hd 45 rpA (fun _ v => v.ok) n := by
  intro n cs x h
  obtain ⟨xs, m, rfl, rfl, hl, hlen, hf⟩ := DataW.trod_struct Try.underlying45 h
  rw [cellsAct] at hl
  obtain ⟨v0, v1, v2, v3, rfl⟩ := four_of hl
  have h0 : DataW.trod enc Try.prog W base sp hd m 3 ([v0, v1, v2, v3].take (Try.prog.cellsOf 3)) = xs[0]? := hf 0 _ rfl
  have h1 : DataW.trod enc Try.prog W base sp hd m 3 ([v1, v2, v3].take (Try.prog.cellsOf 3)) = xs[1]? := hf 1 _ rfl
  have h2 : DataW.trod enc Try.prog W base sp hd m 3 ([v2, v3].take (Try.prog.cellsOf 3)) = xs[2]? := hf 2 _ rfl
  have h3 : DataW.trod enc Try.prog W base sp hd m 22 ([v3].take (Try.prog.cellsOf 22)) = xs[3]? := hf 3 _ rfl
  rw [cellsInt] at h0 h1 h2
  rw [cellsSI] at h3
  have hlen : xs.length = 4 := hlen
  rw [List.getElem?_eq_getElem (by omega)] at h0 h1 h2 h3
  obtain ⟨a, ha, _, _⟩ := DataW.trod_int Try.underlying3 h0
  obtain ⟨b, hb, _, hwb⟩ := DataW.trod_int Try.underlying3 h1
  obtain ⟨c, hc, _, hwc⟩ := DataW.trod_int Try.underlying3 h2
  obtain ⟨pa, pn, pc, l, hv, _, hs, hw⟩ := sl_of_trod Try.underlying22 cellsInt (by decide) (fun j _ => rdI enc W base sp hd j) h3
  have e0 : [v0] = [.int .i64 a] := ha
  have e1 : [v1] = [.int .i64 b] := hb
  have e2 : [v2] = [.int .i64 c] := hc
  have e3 : [v3] = [.slice pa pn pc] := hv
  simp only [List.cons.injEq, and_true] at e0 e1 e2 e3
  subst e0 e1 e2 e3
  have hl : pn = l.length := by
    obtain ⟨_, _, _, _, _, hq, _⟩ := hs
    injection hq
  subst hl
  refine ⟨⟨a, b, c, l⟩, ⟨pa, pc, rfl, hs⟩, wf_i64q hwb, wf_i64q hwc, fun k hk => ?_⟩
  obtain ⟨j, hj, rfl⟩ := List.getElem_of_mem hk
  obtain ⟨_, _, _, _, _, h⟩ := hw j hj
  exact h
set_option maxRecDepth 100000 in
theorem openAct {H : Type} {enc : TypeId × Value → H} {W : World} {base : Nat} {sp : Nat → Bool} {hd : Bool} {r : Reach} {b0 : Nat} {v : Value} {d : DataW H} {p : List MemPlace}
    (hval : Value.okWide Try.prog W r b0 45 v) (h : DataW.Trod enc Try.prog W base sp hd 45 v d p) :
    ∃ (x : Act25) (a : Option Addr) (c : Nat), v = .agg #[.int .i64 x.kind, .int .i64 x.key, .int .i64 x.weight, .slice a x.keys.length c] ∧ IsSl rpI (fun _ => True) W (.slice a x.keys.length c) x.keys ∧ x.ok := by
  obtain ⟨n, h⟩ := h
  obtain ⟨x, ⟨a, c, hx, hs⟩, hok⟩ := rdA enc W base sp hd n _ _ h
  obtain ⟨cs, rfl, _⟩ := okWide_struct Try.underlying45 hval
  refine ⟨x, a, c, ?_, hs, hok⟩
  have : cs.toList = [.int .i64 x.kind, .int .i64 x.key, .int .i64 x.weight, .slice a x.keys.length c] := hx
  rw [← Array.toList_inj.1 (show cs.toList = (#[.int .i64 x.kind, .int .i64 x.key, .int .i64 x.weight, .slice a x.keys.length c] : Array Value).toList from this)]


theorem trodAll_stays {H : Type} {enc : TypeId × Value → H} {W W' : World} {sp : Nat → Bool} : ∀ {ts : List TypeId} {vs : List Value} {ds : List (DataW H)} {p : List MemPlace},
    DataW.TrodAll enc Try.prog W 0 (fun _ => true) true ts vs ds p → (∀ t ∈ ts, Try.prog.readableRec t = true ∧ t < Try.prog.types.size) → (∀ x ∈ p, W.sameAt W' x) → (∀ x ∈ p, sp x.block = true) →
    DataW.TrodAll enc Try.prog W' 0 sp true ts vs ds p := by
  intro ts
  induction ts with
  | nil => intro vs ds p h; cases vs <;> cases ds <;> first | exact fun _ _ _ => h | exact h.elim
  | cons t ts ih =>
    intro vs ds p h hts hs hsp
    cases vs with
    | nil => exact h.elim
    | cons v vs =>
      cases ds with
      | nil => exact h.elim
      | cons d ds =>
        obtain ⟨p, q, h0, h1, rfl⟩ := h
        exact ⟨p, q, WideElems.Trod_stays laidOut (hts t (by simp)).1 (hts t (by simp)).2 h0 (fun x hx => hs x (by simp [hx])) (fun x hx => hsp x (by simp [hx])), ih h1 (fun t ht => hts t (by simp [ht])) (fun x hx => hs x (by simp [hx])) (fun x hx => hsp x (by simp [hx])), rfl⟩

set_option maxRecDepth 100000 in
theorem openSl {α H : Type} {enc : TypeId × Value → H} {W : World} {base : Nat} {sp : Nat → Bool} {hd : Bool} {t e : TypeId} {r : Rp α} {D : DataW H → α → Prop} {v : Value} {d : DataW H} {p : List MemPlace} {rch : Reach} {b0 : Nat}
    (ht : Try.prog.underlying t = some (.slice e)) (hn : Try.prog.cellsOf e = r.n) (hpos : 0 < r.n) (hr : ∀ m, Rd enc W base sp hd e r D m) (hval : Value.okWide Try.prog W rch b0 t v) (h : DataW.Trod enc Try.prog W base sp hd t v d p) :
    ∃ a n c l, v = .slice a n c ∧ n ≤ c ∧ IsSl r (fun _ => True) W (.slice a n c) l ∧ ∀ i (h : i < l.length), ∃ x es spare, d = .slice es spare ∧ x ∈ es ∧ D x l[i] := by
  obtain ⟨fuel, h⟩ := h
  obtain ⟨a, n, c, l, h1, h2, h3, h4⟩ := sl_of_trod ht hn hpos (fun m _ => hr m) h
  refine ⟨a, n, c, l, ?_, h2, h3, h4⟩
  obtain ⟨a', n', c', rfl⟩ := okWide_slice ht hval
  simpa [Value.cells] using h1

set_option maxRecDepth 100000 in
theorem post_true {H : Type} {enc : TypeId × Value → H} {f : Func} {s : ChangeSpec} {fresh handsOn again apart : Bool} {W W' : World} {args : Array Value} {ds gs : List (DataW H)} {before : List MemPlace}
    (hW : DataW.Whole enc Try.prog f.params.toList s.vars apart W args.toList ds gs before) (hv : s.vars = []) (hts : ∀ t ∈ f.params.toList, Try.prog.readableRec t = true ∧ t < Try.prog.types.size)
    (hr : f.resultTypes = #[4]) (hfn : s.fn H (ds ++ gs) = { results := [.lit (.bool true)], args := ds }) (hb : Below W.heap.size W W') :
    s.post enc Try.prog f apart fresh handsOn again W args (.bool true) W' := by
  have hlt := hW.lt
  have hW' := hW
  obtain ⟨p, q, hA, hV, rfl, hz, hn⟩ := hW
  rw [hv] at hV
  obtain ⟨rfl, rfl⟩ := trodVars_none hV
  have hres : ∀ (b : Nat) (sp : Nat → Bool) (hd : Bool), DataW.TrodAll enc Try.prog W' b sp hd f.resultTypes.toList ((Value.bool true).resultList f.resultTypes.size) (s.fn H (ds ++ [])).results [] := fun _ _ _ => by
    rw [hr, hfn]; exact trodAll_cons_mk (shut_bool Try.underlying4 _) trodAll_mk0
  have hargs : ∀ sp : Nat → Bool, (∀ x ∈ p ++ [], sp x.block = true) → DataW.TrodAll enc Try.prog W' 0 sp true f.params.toList args.toList (s.fn H (ds ++ [])).args p := fun sp hs => by
    rw [hfn]; exact trodAll_stays hA hts (fun x hx => hb.same (hlt x (by simp [hx]))) (fun x hx => hs x (by simp [hx]))
  have hvars : ∀ sp : Nat → Bool, DataW.TrodVars enc Try.prog W' sp s.vars (s.fn H (ds ++ [])).vars [] := fun sp => by rw [hv, hfn]; rfl
  have hok := ok_one (P := Try.prog) (W' := W') (f := f) (v := .bool true) hr rfl (okWide_bool_mk Try.underlying4 _)
  refine ⟨ds, [], p ++ [], [], p, [], hW', hres _ _ _, hargs _ (fun x hx => by simpa using hlt x hx), hvars _, World.keptBut_mono (fun p hp => ⟨hp, .inr (by simpa using hp)⟩) (hb.frame _), fun _ => ?_⟩
  refine ⟨hok, _, _, ([] ++ p) ++ [], ⟨[] ++ p, [], trodAll_append (hargs _ (fun _ _ => rfl)) (hres _ _ _), hvars _, rfl, ?_, ?_⟩, ?_⟩
  · intro b off hp
    rw [hb.frozen (hlt (.cell b off) (by simpa using hp))]
    exact hz b off (by simpa using hp)
  · intro ha
    simpa using hn ha
  · intro x hx _
    simpa using hx
end Go.Proofs.Ytplfbdkljnblmaa

namespace Go.Proofs.Ytplfbdkljnblmaa
open Go.RowKit Go.Maps

set_option maxRecDepth 100000 in
set_option maxHeartbeats 4000000 in
theorem waits_q {w : World} {q m n : Nat} {cs : Array Value} {t : TypeId} {L : List Ent} (hq : Blk w q cs t) (h7 : cs[7]? = some (.map (some m))) (hm : MapOf w m n L) (x : Ent) (hx : W64 x.key) :
    Calls Try.prog 29 #[.pointer (some ⟨q, 0, none⟩), x.v] w fun e w' => e = .returned (.bool (decide (findK L x.key = some x))) ∧ Below w.heap.size w w' := by
  obtain ⟨y, hy⟩ : ∃ y, (findK L x.key).getD Hp.z0 = y := ⟨_, rfl⟩
  obtain ⟨ok, hok⟩ : ∃ ok, (findK L x.key).isSome = ok := ⟨_, rfl⟩
  have Hl : Hid (∀ w', MapOf w' m n L → (Instr.lookup 60 (.map (some m)) (.int .i64 x.key) true).run Try.prog w' = .ok (.tuple #[y.v, .bool ok]) w') := fun w' h => by
    rw [← hy, ← hok]; exact h.look hx
  have Hr : Hid (decide (findK L x.key = some x) = (ok && decide (y = x))) := by
    show _ = _
    rw [← hy, ← hok]
    cases findK L x.key <;> simp
  rw [Hr.out]
  clear hy hok Hr
  obtain ⟨xk, xw, xg⟩ := x
  obtain ⟨yk, yw, yg⟩ := y
  unfold Ent.v at *
  dsimp only at *
  obtain ⟨wB, hwB⟩ : ∃ wB, w.alloc (.cells #[.int .i64 xk, .int .i64 xw, .int .i64 xg] 30) = wB := ⟨_, rfl⟩
  have B0 : Below w.heap.size w wB := by rw [← hwB]; exact (Below.refl _ _).alloc (Nat.le_refl _) _
  have x0 : Blk wB w.heap.size #[.int .i64 xk, .int .i64 xw, .int .i64 xg] 30 := by rw [← hwB]; exact Blk.new _ _ _ rfl
  have hqB := hq.below B0
  have hmB := hm.below B0
  go_enter Try.func29, Try.ntmps29
  go_wp2_with fail
  try rw [hwB]
  clear hwB
  refine wp_region_noPanic (wp_region_need (S := fun w' => w'.cell? ⟨q, 7, none⟩ = some (.map (some m)) ∧ w'.cell? ⟨w.heap.size, 0, none⟩ = some (.int .i64 xk) ∧ (Instr.lookup 60 (.map (some m)) (.int .i64 xk) true).run Try.prog w' = .ok (.tuple #[.agg #[.int .i64 yk, .int .i64 yw, .int .i64 yg], .bool ok]) w') (by kernel_rfl) ?_)
  have hS : (wB.drew).cell? ⟨q, 7, none⟩ = some (.map (some m)) ∧ (wB.drew).cell? ⟨w.heap.size, 0, none⟩ = some (.int .i64 xk) ∧ (Instr.lookup 60 (.map (some m)) (.int .i64 xk) true).run Try.prog (wB.drew) = .ok (.tuple #[.agg #[.int .i64 yk, .int .i64 yw, .int .i64 yg], .bool ok]) (wB.drew) := ⟨hqB.drew.cell h7, x0.drew.cell rfl, Hl.out _ hmB.drew⟩
  refine wpN_take (i := 0) (v := ?v1) rfl (by kernel_rfl) (fun _ _ _ h => h) hS (Or.inl ⟨by rfl, ?hy1⟩) ?hr1
  case hy1 => (intro wS hSw; (try dsimp only at hSw); go_simp; (try with_reducible rfl))
  try simp only [Act.put, List.setIfInBounds_toArray, List.set_cons_zero, List.set_cons_succ, List.getElem_toArray, List.getElem_cons_zero, List.getElem_cons_succ]
  refine wpN_take (i := 1) (v := ?v2) rfl (by kernel_rfl) (fun _ _ _ h => h) hS (Or.inl ⟨by rfl, ?hy2⟩) ?hr2
  case hy2 => (intro wS hSw; (try dsimp only at hSw); go_simp; (try with_reducible rfl))
  try simp only [Act.put, List.setIfInBounds_toArray, List.set_cons_zero, List.set_cons_succ, List.getElem_toArray, List.getElem_cons_zero, List.getElem_cons_succ]
  refine wpN_take (i := 2) (v := ?v3) rfl (by kernel_rfl) (fun _ _ _ h => h) hS (Or.inl ⟨by rfl, ?hy3⟩) ?hr3
  case hy3 => (intro wS hSw; (try dsimp only at hSw); go_simp; (try with_reducible rfl))
  try simp only [Act.put, List.setIfInBounds_toArray, List.set_cons_zero, List.set_cons_succ, List.getElem_toArray, List.getElem_cons_zero, List.getElem_cons_succ]
  refine wpN_take (i := 3) (v := ?v4) rfl (by kernel_rfl) (fun _ _ _ h => h) hS (Or.inl ⟨by rfl, ?hy4⟩) ?hr4
  case hy4 => (intro wS hSw; (try dsimp only at hSw); go_simp; (try with_reducible rfl))
  try simp only [Act.put, List.setIfInBounds_toArray, List.set_cons_zero, List.set_cons_succ, List.getElem_toArray, List.getElem_cons_zero, List.getElem_cons_succ]
  refine wpN_take (i := 4) (v := ?v5) rfl (by kernel_rfl) (fun _ _ _ h => h) hS (Or.inl ⟨by rfl, ?hy5⟩) ?hr5
  case hy5 => (intro wS hSw; (try dsimp only at hSw); go_simp; (try with_reducible rfl))
  try simp only [Act.put, List.setIfInBounds_toArray, List.set_cons_zero, List.set_cons_succ, List.getElem_toArray, List.getElem_cons_zero, List.getElem_cons_succ]
  refine wpN_take (i := 5) (v := ?v6) rfl (by kernel_rfl) (fun _ _ _ h => h) hS (Or.inl ⟨by rfl, ?hy6⟩) ?hr6
  case hy6 => (intro wS hSw; (try dsimp only at hSw); go_simp; (try with_reducible rfl))
  try simp only [Act.put, List.setIfInBounds_toArray, List.set_cons_zero, List.set_cons_succ, List.getElem_toArray, List.getElem_cons_zero, List.getElem_cons_succ]
  refine wpN_take (i := 6) (v := ?v7) rfl (by kernel_rfl) (fun _ _ _ h => h) hS (Or.inl ⟨by rfl, ?hy7⟩) ?hr7
  case hy7 => (intro wS hSw; (try dsimp only at hSw); go_simp; (try with_reducible rfl))
  try simp only [Act.put, List.setIfInBounds_toArray, List.set_cons_zero, List.set_cons_succ, List.getElem_toArray, List.getElem_cons_zero, List.getElem_cons_succ]
  refine wpN_pure (i := 7) (v := ?v8) rfl (by kernel_rfl) (fun _ _ _ h => h) (Or.inl ⟨by rfl, ?hy8⟩) ?hr8
  case hy8 => (intro wS hSw; go_simp; (try with_reducible rfl))
  try simp only [Act.put, List.setIfInBounds_toArray, List.set_cons_zero, List.set_cons_succ, List.getElem_toArray, List.getElem_cons_zero, List.getElem_cons_succ]
  refine wpN_pure (i := 8) (v := ?v9) rfl (by kernel_rfl) (fun _ _ _ h => h) (Or.inl ⟨by rfl, ?hy9⟩) ?hr9
  case hy9 => (intro wS hSw; go_simp; (try with_reducible rfl))
  try simp only [Act.put, List.setIfInBounds_toArray, List.set_cons_zero, List.set_cons_succ, List.getElem_toArray, List.getElem_cons_zero, List.getElem_cons_succ]
  refine wpN_pure (i := 9) (v := ?v10) rfl (by kernel_rfl) (fun _ _ _ h => h) (Or.inl ⟨by rfl, ?hy10⟩) ?hr10
  case hy10 => (intro wS hSw; go_simp; (try with_reducible rfl))
  try simp only [Act.put, List.setIfInBounds_toArray, List.set_cons_zero, List.set_cons_succ, List.getElem_toArray, List.getElem_cons_zero, List.getElem_cons_succ]
  refine wpN_step (i := 10) (by kernel_rfl) rfl (fun K hK => ?_)
  go_simp
  have hx1 := x0.alloc (.cells #[.int .i64 0, .int .i64 0, .int .i64 0] 30)
  have hq1 := hqB.alloc (.cells #[.int .i64 0, .int .i64 0, .int .i64 0] 30)
  have B1 := B0.alloc B0.size (.cells #[.int .i64 0, .int .i64 0, .int .i64 0] 30)
  have hm1 := hm.below B1
  have y1 : Blk (wB.alloc (.cells #[.int .i64 0, .int .i64 0, .int .i64 0] 30)) wB.heap.size _ _ := Blk.new _ _ _ rfl
  obtain ⟨w1, hw1⟩ : ∃ w1, (wB.alloc (.cells #[.int .i64 0, .int .i64 0, .int .i64 0] 30)).drew = w1 := ⟨_, rfl⟩
  have hx2 := hx1.drew
  have hq2 := hq1.drew
  have B2 := B1.drew
  have hm2 := hm1.drew
  have y2 := y1.drew
  rw [hw1] at hx2 hq2 B2 hm2 y2 ⊢
  clear hw1 hx1 hq1 B1 hm1 y1
  have hS : (w1).cell? ⟨q, 7, none⟩ = some (.map (some m)) ∧ (w1).cell? ⟨w.heap.size, 0, none⟩ = some (.int .i64 xk) ∧ (Instr.lookup 60 (.map (some m)) (.int .i64 xk) true).run Try.prog (w1) = .ok (.tuple #[.agg #[.int .i64 yk, .int .i64 yw, .int .i64 yg], .bool ok]) (w1) := ⟨hq2.cell h7, hx2.cell rfl, Hl.out _ hm2⟩
  refine hK.out _ _ (fun _ => hS) ?_
  clear hK K
  try simp only [Act.put, List.setIfInBounds_toArray, List.set_cons_zero, List.set_cons_succ, List.getElem_toArray, List.getElem_cons_zero, List.getElem_cons_succ]
  have f1 := y2.free 0; have f2 := y2.free 1; have f3 := y2.free 2
  have d0 := y2.cell (i := 0) rfl; have d1 := y2.cell (i := 1) rfl; have d2 := y2.cell (i := 2) rfl
  refine wpN_step (i := 11) (by kernel_rfl) rfl (fun K hK => ?_)
  go_simp
  obtain ⟨Y, hY⟩ : ∃ Y, wB.heap.size = Y := ⟨_, rfl⟩
  have hYs : w.heap.size < Y := by rw [← hY]; have := x0.lt; exact this
  rw [hY] at y2 ⊢
  have z0 := ((y2.set 0 (.int .i64 yk)).set 1 (.int .i64 yw)).set 2 (.int .i64 yg)
  have zx := ((hx2.far ⟨Y, 0, none⟩ (.int .i64 yk) (by simp; omega)).far ⟨Y, 1, none⟩ (.int .i64 yw) (by simp; omega)).far ⟨Y, 2, none⟩ (.int .i64 yg) (by simp; omega)
  have B3 := ((B2.setCell (p := ⟨Y, 0, none⟩) (by simp; omega) (.int .i64 yk)).setCell (p := ⟨Y, 1, none⟩) (by simp; omega) (.int .i64 yw)).setCell (p := ⟨Y, 2, none⟩) (by simp; omega) (.int .i64 yg)
  obtain ⟨w2, hw2⟩ : ∃ w2, ((w1.setCell ⟨Y, 0, none⟩ (.int .i64 yk)).setCell ⟨Y, 1, none⟩ (.int .i64 yw)).setCell ⟨Y, 2, none⟩ (.int .i64 yg) = w2 := ⟨_, rfl⟩
  rw [hw2] at z0 zx B3 ⊢
  clear hw2
  refine hK.out _ _ (fun h => absurd h (by decide)) ?_
  clear hK K
  try simp only [Act.put, List.setIfInBounds_toArray, List.set_cons_zero, List.set_cons_succ, List.getElem_toArray, List.getElem_cons_zero, List.getElem_cons_succ]
  refine wpN_pure (i := 12) (v := ?v11) rfl (by kernel_rfl) (fun _ _ _ h => h) (Or.inl ⟨by rfl, ?hy11⟩) ?hr11
  case hy11 => (intro wS hSw; go_simp; (try with_reducible rfl))
  try simp only [Act.put, List.setIfInBounds_toArray, List.set_cons_zero, List.set_cons_succ, List.getElem_toArray, List.getElem_cons_zero, List.getElem_cons_succ]
  refine wpN_done (by kernel_rfl) ?_
  refine NoPanic.normal ?_
  have e0 := z0.cell (i := 0) rfl; have e1 := z0.cell (i := 1) rfl; have e2 := z0.cell (i := 2) rfl
  have e3 := zx.cell (i := 0) rfl; have e4 := zx.cell (i := 1) rfl; have e5 := zx.cell (i := 2) rfl
  simp only [List.getElem?_toArray, Array.setIfInBounds, List.getElem?_cons_zero] at e0 e1 e2
  cases ok
  · go_wp2_with fail
    go_ret
    exact ⟨by simp, B3⟩
  · go_wp2_with fail
    all_goals
      go_ret
      refine ⟨?_, B3⟩
      first
        | (simp; done)
        | (simp; omega)
        | (simp_all; done)
        | (simp_all; omega)

theorem results_ent {fn : Func} {c u : Tmp} (h : fn.results = #[.cell c 30, .tmp u]) (tmps : Array Value) (w : World) {r : Nat} (hp : tmps.getD c undef = .pointer (some ⟨r, 0, none⟩)) {e : Ent} (hb : Blk w r #[.int .i64 e.key, .int .i64 e.weight, .int .i64 e.age] 30) :
    (results fn tmps).run Try.prog w = .ok (.tuple #[e.v, tmps.getD u undef]) w := by
  have c0 := hb.cell (i := 0) rfl; have c1 := hb.cell (i := 1) rfl; have c2 := hb.cell (i := 2) rfl
  rw [Array.getD_eq_getD_getElem?] at hp
  simp [results, h, hp]
  go_simp
  rfl

def lenAt (w : World) (q o : Nat) : Nat := match w.cell? ⟨q, o, none⟩ with
  | some (.slice _ n _) => n
  | _ => 0

def TopPost (lt : Ent → Ent → Bool) (q o : Nat) (cs : Array Value) (t : TypeId) (v : Value) (base : Nat) (l L : List Ent) (w : World) (e : Ending) (w' : World) : Prop :=
  ∃ v' l' gone, (Blk w' q (cs.setIfInBounds o v') t ∧ Row w' base v' l' ∧ v'.ownBlock = v.ownBlock) ∧ Hp.Heap lt l' ∧ l.Perm (gone ++ l') ∧ (∀ x ∈ gone, findK L x.key ≠ some x) ∧ Off (Turn q v) w w' ∧
    ((l' = [] ∧ e = .returned (.tuple #[Hp.z0.v, .bool false])) ∨ (0 < l'.length ∧ findK L (Hp.at_ l' 0).key = some (Hp.at_ l' 0) ∧ e = .returned (.tuple #[(Hp.at_ l' 0).v, .bool true])))

set_option maxRecDepth 100000 in
set_option maxHeartbeats 8000000 in
theorem top_q {f : FuncId} {lt : Ent → Ent → Bool} (hf : Fst f lt) (O : Hp.Ord lt) {w : World} {q o m n : Nat} {cs : Array Value} {t : TypeId} {v : Value} {l L : List Ent} {base : Nat} (hq : Blk w q cs t) (ho : cs[o]? = some v) (hf' : cs[o + 1]? = some (.func (.func f) #[] #[]))
    (h7 : cs[7]? = some (.map (some m))) (ho7 : o ≠ 7) (hr : Row w base v l) (hh : Hp.Heap lt l) (hv : v.ownBlock ≠ some q) (hvm : v.ownBlock ≠ some m) (hqm : m ≠ q) (hm : MapOf w m n L) (hw : ∀ e ∈ l, W64 e.key) (hl : l.length ≤ 900001) :
    Calls Try.prog 28 #[.pointer (some ⟨q, o, none⟩), .func (.func 29) #[.pointer (some ⟨q, 0, none⟩)] #[]] w (TopPost lt q o cs t v base l L w) := by
  obtain ⟨wB, hwB⟩ : ∃ wB, w.alloc (.cells #[.int .i64 0, .int .i64 0, .int .i64 0] 30) = wB := ⟨_, rfl⟩
  have B0 : Below w.heap.size w wB := by rw [← hwB]; exact (Below.refl _ _).alloc (Nat.le_refl _) _
  have x0 : Blk wB w.heap.size #[.int .i64 0, .int .i64 0, .int .i64 0] 30 := by rw [← hwB]; exact Blk.new _ _ _ rfl
  have hqB := hq.below B0
  have hmB := hm.below B0
  have hrB := hr.below B0
  go_enter Try.func28, Try.ntmps28
  go_wp2_with fail
  try rw [hwB]
  clear hwB
  have hvl := hr.base_le
  go_loopw [] (fun wr => ∃ (v' : Value) (l' gone : List Ent), Blk wr q (cs.setIfInBounds o v') t ∧ Row wr base v' l' ∧ v'.ownBlock = v.ownBlock ∧ Hid (Hp.Heap lt l') ∧ Hid (l.Perm (gone ++ l')) ∧ Hid (∀ x ∈ gone, findK L x.key ≠ some x) ∧ Off (Turn q v) w wr ∧ Blk wr w.heap.size #[.int .i64 0, .int .i64 0, .int .i64 0] 30) (fun wr => lenAt wr q o)
  case atStart =>
    have hss : cs.setIfInBounds o v = cs := by
      apply Array.ext_getElem?
      intro j
      by_cases hj : j = o
      · subst hj; rw [Array.getElem?_setIfInBounds_self_of_lt (Array.getElem?_eq_some_iff.1 ho).1, ho]
      · rw [Array.getElem?_setIfInBounds_ne (Ne.symm hj)]
    exact ⟨v, l, [], by rw [hss]; exact hqB, hrB, rfl, hh, List.Perm.refl _, fun x hx => by simp at hx, Off.of_below _ B0, x0⟩
  case round =>
    obtain ⟨v', l', gone, hq5, hr5, hvb, hh5, hp5, hg5, B5, hx5⟩ := hrel
    obtain ⟨cs5, hcs⟩ : ∃ cs5, cs.setIfInBounds o v' = cs5 := ⟨_, rfl⟩
    have ho5 : cs5[o]? = some v' := by rw [← hcs, Array.getElem?_setIfInBounds_self_of_lt (Array.getElem?_eq_some_iff.1 ho).1]
    have hf5 : cs5[o + 1]? = some (.func (.func f) #[] #[]) := by rw [← hcs, Array.getElem?_setIfInBounds_ne (by omega)]; exact hf'
    have h75 : cs5[7]? = some (.map (some m)) := by rw [← hcs, Array.getElem?_setIfInBounds_ne ho7]; exact h7
    have hm5 : MapOf wr m n L := hm.off B5 (fun h => by rcases h with h | h; exact hqm h; exact hvm h)
    have Hcs := Lib.hid hcs
    rw [hcs] at hq5
    clear hcs
    have c0 := hq5.cell ho5
    have Hll : Hid (l'.length ≤ 900001) := by show _ ≤ _; have := hp5.out.length_eq; simp at this; omega
    by_cases h0 : 0 < l'.length
    · obtain ⟨g, cap, rfl, hgb, hlc, hcm, hcell, hfree⟩ := hr5.open_ h0
      obtain ⟨a0, a1, a2⟩ := hcell 0 h0
      rw [← Hp.at_get] at a0 a1 a2
      obtain ⟨x, hx⟩ : ∃ x, Hp.at_ l' 0 = x := ⟨_, rfl⟩
      rw [hx] at a0 a1 a2
      simp only [Nat.zero_mul, Nat.zero_add] at a0 a1 a2
      have hxm : x ∈ l' := by rw [← hx, Hp.at_get h0]; exact List.getElem_mem h0
      have hxw : W64 x.key := hw x (hp5.out.mem_iff.2 (List.mem_append_right _ hxm))
      have Hx := Lib.hid hx; have Hxw := Lib.hid hxw
      clear hx hxm hxw hcell hfree
      obtain ⟨N, hN⟩ : ∃ N, l'.length = N := ⟨_, rfl⟩
      have HN := Lib.hid hN
      rw [hN] at c0 h0 Hll ho5 Hcs hr5 hvb
      clear hN
      have h0I : (0 : Int) < N := by omega
      have hNI : (N : Int) ≤ 900001 := by have := Hll.out; omega
      obtain ⟨xk, xw, xg⟩ := x
      dsimp only at a0 a1 a2
      have hxl := hx5.lt
      go_wp2_with fail
      refine (waits_q hq5 h75 hm5 ⟨xk, xw, xg⟩ Hxw.out).mono ?_
      rintro e w6 ⟨rfl, hb6⟩
      have B6 := B5.below hb6
      have hq6 := hq5.below hb6
      have hr6 := hr5.below hb6
      have hx6 := hx5.below hb6
      have hm6 := hm5.below hb6
      have K6 := (Keep.refl (fun _ => True) wr).below hb6
      have cW := Lib.hid c0
      have c0 := K6 _ _ _ trivial c0
      have a0 := K6 _ _ _ trivial a0; have a1 := K6 _ _ _ trivial a1; have a2 := K6 _ _ _ trivial a2
      clear hb6 K6
      by_cases hk : findK L xk = some ⟨xk, xw, xg⟩
      · have hd : decide (findK L (⟨xk, xw, xg⟩ : Ent).key = some ⟨xk, xw, xg⟩) = true := decide_eq_true hk
        rw [hd]
        have Hk := Lib.hid hk; clear hk hd
        have f1 := hx6.free 0; have f2 := hx6.free 1; have f3 := hx6.free 2
        have d0 := hx6.cell (i := 0) rfl; have d1 := hx6.cell (i := 1) rfl; have d2 := hx6.cell (i := 2) rfl
        go_wp2_with fail
        have z := ((hx6.set 0 (.int .i64 xk)).set 1 (.int .i64 xw)).set 2 (.int .i64 xg)
        have hxq : q ≠ w.heap.size := fun e => by have := hq.lt; omega
        have hqz := ((hq6.far ⟨w.heap.size, 0, none⟩ (.int .i64 xk) hxq).far ⟨w.heap.size, 1, none⟩ (.int .i64 xw) hxq).far ⟨w.heap.size, 2, none⟩ (.int .i64 xg) hxq
        have hgx : (Value.slice (some ⟨g, 0, none⟩) N cap).ownBlock ≠ some w.heap.size := fun e => by
          have := (hvl w.heap.size (by rw [← hvb]; exact e)).2; omega
        have hrz := ((hr6.far ⟨w.heap.size, 0, none⟩ (.int .i64 xk) hgx).far ⟨w.heap.size, 1, none⟩ (.int .i64 xw) hgx).far ⟨w.heap.size, 2, none⟩ (.int .i64 xg) hgx
        have Bz := ((B6.set ⟨w.heap.size, 0, none⟩ (.int .i64 xk) (.inr (Nat.le_refl _))).set ⟨w.heap.size, 1, none⟩ (.int .i64 xw) (.inr (Nat.le_refl _))).set ⟨w.heap.size, 2, none⟩ (.int .i64 xg) (.inr (Nat.le_refl _))
        (try simp only [Exit.inBlock, Exit.then]); refine bodyPost_ret (results_ent rfl _ _ rfl (e := ⟨xk, xw, xg⟩) z) rfl ?_
        refine ⟨_, l', gone, ⟨by rw [Hcs.out]; exact hqz, hrz, hvb⟩, hh5.out, hp5.out, hg5.out, Bz, .inr ⟨by rw [HN.out]; exact h0, by rw [Hx.out]; exact Hk.out, by rw [Hx.out]; rfl⟩⟩
      · have hd : decide (findK L (⟨xk, xw, xg⟩ : Ent).key = some ⟨xk, xw, xg⟩) = false := decide_eq_false hk
        rw [hd]
        have Hk := Lib.hid hk; clear hk hd
        go_wp2_with fail
        refine (pop_q hf O hq6 ho5 hf5 hr6 hh5.out (by rw [hvb]; exact hv) (by rw [HN.out]; exact Hll.out) (by rw [HN.out]; exact h0)).mono ?_
        rintro e w7 ⟨rfl, v7, l7, hq7, hr7, hp7, hh7, hvb7, B7⟩
        rw [← Hcs.out, Array.setIfInBounds_setIfInBounds] at hq7
        have Hp7 := Lib.hid hp7; have Hh7 := Lib.hid hh7; clear hp7 hh7
        go_wp2_with fail
        go_roundw
        case rel =>
          refine ⟨v7, l7, gone ++ [⟨xk, xw, xg⟩], hq7, hr7, hvb7.trans hvb, Hh7.out, ?_, ?_, B6.trans (B7.mono fun k hk h => h.imp id fun h => by rw [← hvb]; exact h), B7.blk hx6 ?_⟩
          · have h := Hp7.out
            rw [Hx.out] at h
            have := hp5.out.trans (List.Perm.append_left gone h)
            rw [List.append_assoc]; exact this
          · intro x hx
            rcases List.mem_append.1 hx with hx | hx
            · exact hg5.out x hx
            · simp at hx; subst hx; exact Hk.out
          · rintro (h | h)
            · have := hq.lt; omega
            · have := (hvl w.heap.size (by rw [← hvb]; exact h)).2; omega
        case measure =>
          obtain ⟨a7, c7, rfl⟩ := hr7.shape
          have hlen := Hp7.out.length_eq
          rw [HN.out] at hlen
          have e1 : w7.cell? ⟨q, o, none⟩ = some (.slice a7 l7.length c7) := hq7.cell (by rw [Array.getElem?_setIfInBounds_self_of_lt (Array.getElem?_eq_some_iff.1 ho).1])
          have e2 := cW.out
          unfold lenAt
          rw [e1, e2]
          simp at hlen ⊢
          omega
    · have hl0 : l' = [] := List.length_eq_zero_iff.1 (by omega)
      obtain ⟨a', c', hvs⟩ := hr5.shape
      rw [hl0] at hvs
      simp only [List.length_nil] at hvs
      subst hvs
      have f1 := hx5.free 0; have f2 := hx5.free 1; have f3 := hx5.free 2
      have d0 := hx5.cell (i := 0) rfl; have d1 := hx5.cell (i := 1) rfl; have d2 := hx5.cell (i := 2) rfl
      have hxl := hx5.lt
      go_wp2_with fail
      have z := (((hx5.set 0 (.int .i64 0)).set 1 (.int .i64 0)).set 2 (.int .i64 0)).alloc (.cells #[.int .i64 0, .int .i64 0, .int .i64 0] 30)
      have hxq : q ≠ w.heap.size := fun e => by have := hq.lt; omega
      have hqz := (((hq5.far ⟨w.heap.size, 0, none⟩ (.int .i64 0) hxq).far ⟨w.heap.size, 1, none⟩ (.int .i64 0) hxq).far ⟨w.heap.size, 2, none⟩ (.int .i64 0) hxq).alloc (.cells #[.int .i64 0, .int .i64 0, .int .i64 0] 30)
      have hgx : (Value.slice a' 0 c').ownBlock ≠ some w.heap.size := fun e => by
        have := (hvl w.heap.size (by rw [← hvb]; exact e)).2; omega
      have hrz := (((hr5.far ⟨w.heap.size, 0, none⟩ (.int .i64 0) hgx).far ⟨w.heap.size, 1, none⟩ (.int .i64 0) hgx).far ⟨w.heap.size, 2, none⟩ (.int .i64 0) hgx).below ((Below.refl _ _).alloc (Nat.le_refl _) (.cells #[.int .i64 0, .int .i64 0, .int .i64 0] 30))
      have Bz := (((B5.set ⟨w.heap.size, 0, none⟩ (.int .i64 0) (.inr (Nat.le_refl _))).set ⟨w.heap.size, 1, none⟩ (.int .i64 0) (.inr (Nat.le_refl _))).set ⟨w.heap.size, 2, none⟩ (.int .i64 0) (.inr (Nat.le_refl _))).alloc (.cells #[.int .i64 0, .int .i64 0, .int .i64 0] 30)
      (try simp only [Exit.inBlock, Exit.then]); refine bodyPost_ret (results_ent rfl _ _ rfl (e := ⟨0, 0, 0⟩) z) rfl ?_
      exact ⟨_, l', gone, ⟨by rw [Hcs.out]; exact hqz, hrz, hvb⟩, hh5.out, hp5.out, hg5.out, Bz, .inl ⟨hl0, rfl⟩⟩
end Go.Proofs.Ytplfbdkljnblmaa

namespace Go.Proofs.Ytplfbdkljnblmaa

section
variable {P : Program} {ops : Array Oper} {Q : Exit → Act → World → Prop} {md : Region.Mode} {S : World → Prop}

theorem wpN_pick (rs : List Nat) {n : Nat} {listed : Array Bool} {a : Act} {w : World} (hr : Region.ready md ops listed = rs) (hne : rs ≠ [])
    (h : ∀ i ∈ rs, wpOp P ops Q i (fun a' w' => (asksS ops i = true → S w') ∧ wpN P md ops Q S n (listed.setIfInBounds i true) a' w') a w) : wpN P md ops Q S (n + 1) listed a w :=
  ⟨fun h0 => absurd (hr.symm.trans h0) hne, fun i hi => wpOp_mono (fun _ _ hh => ⟨fun ha _ => hh.1 ha, hh.2⟩) (h i (by rw [hr] at hi; exact hi))⟩

theorem wpN_name {n : Nat} {listed : Array Bool} {a : Act} {w : World}
    (h : ∀ ops' Q' S' a', ops' = ops → Q' = Q → S' = S → a' = a → wpN P md ops' Q' S' n listed a' w) : wpN P md ops Q S n listed a w := h _ _ _ _ rfl rfl rfl rfl

def waitsFor (md : Region.Mode) (ops : Array Oper) (listed : Array Bool) (i : Nat) (D : List Nat) : Bool :=
  D.all fun k => !(listed.getD k true) && match ops[k]? with
    | some o => o.after.any fun e => Region.binds md e && (e.on == i || D.contains e.on)
    | none => false
def freeBut (ops : Array Oper) (listed : Array Bool) (i : Nat) (D : List Nat) : Bool :=
  match ops[i]? with
  | none => false
  | some oi => (List.range ops.size).all fun j => j == i || listed.getD j true || D.contains j || match ops[j]? with
    | some oj => oi.apart ops oj && asksS ops j
    | none => true

theorem waits_not_ready {i j : Nat} {D : List Nat} {listed : Array Bool} (hw : ∀ k ∈ D, listed.getD k true = false ∧ ∃ o, ops[k]? = some o ∧ ∃ e ∈ o.after, Region.binds md e = true ∧ (e.on = i ∨ e.on ∈ D)) (hi : listed.getD i true = false) (hj : j ∈ D) : j ∉ Region.ready md ops listed := by
  intro hr
  obtain ⟨_, o, ho, hall⟩ := mem_ready.1 hr
  obtain ⟨_, o', ho', e, he, hb, hon⟩ := hw j hj
  rw [ho] at ho'; cases ho'
  have hl := hall e he hb
  have hun : listed.getD e.on true = false := by
    rcases hon with h | h
    · rw [h]; exact hi
    · exact (hw _ h).1
  rcases Nat.lt_or_ge e.on listed.size with hlt | hge
  · simp [hlt] at hun hl; rw [hun] at hl; cases hl
  · simp [Array.getElem?_eq_none hge] at hl

theorem wpN_firstD {i : Nat} {oi : Oper} {v : Value} {D : List Nat} (hi : ops[i]? = some oi) (hiD : i ∉ D) (hsel : ∀ (j : Nat) (o : Oper) cs b, ops[j]? = some o → o.op ≠ .select cs b)
    (hQ : ∀ c a w, Q (.panic c) (a.put oi.dst v) w → Q (.panic c) a w) (hai : asksS ops i = true) :
    ∀ (n : Nat) (listed : Array Bool) (a : Act) (w : World),
      (∀ k ∈ D, listed.getD k true = false ∧ ∃ o, ops[k]? = some o ∧ ∃ e ∈ o.after, Region.binds md e = true ∧ (e.on = i ∨ e.on ∈ D)) →
      (∀ j oj, ops[j]? = some oj → j ≠ i → listed.getD j true = false → j ∉ D → oi.apart ops oj = true ∧ asksS ops j = true) →
      i ∈ Region.ready md ops listed → YieldsIf P ops S oi v a → S w →
      wpN P md ops Q S n (listed.setIfInBounds i true) (a.put oi.dst v) w → wpN P md ops Q S (n + 1) listed a w := by
  intro n
  induction n with
  | zero =>
    intro listed a w _ _ hr hy hS H
    refine ⟨fun h0 => (by rw [h0] at hr; cases hr), fun j hj => ?_⟩
    by_cases hji : j = i
    · subst hji; exact hy.wpOp hi hS ⟨fun _ h => h, H⟩
    · have h0 := ready_mono hj hji
      rw [H.1] at h0; cases h0
  | succ n ih =>
    intro listed a w hw hfree hr hy hS H
    refine ⟨fun h0 => (by rw [h0] at hr; cases hr), fun j hj => ?_⟩
    by_cases hji : j = i
    · subst hji; exact hy.wpOp hi hS ⟨fun _ h => h, H⟩
    · have hrest := H.2 j (ready_mono hj hji)
      obtain ⟨hjun, oj, hoj, hall⟩ := mem_ready.1 hj
      have hiun := (mem_ready.1 hr).1
      have hjD : j ∉ D := fun h => waits_not_ready hw hiun h hj
      obtain ⟨hap, haj⟩ := hfree j oj hoj hji hjun hjD
      have hput := wpOp_putIf hoj hap (fun cs b => hsel i oi cs b hi) (fun cs b => hsel j oj cs b hoj) hQ hy hrest
      refine wpOp_mono (fun a' w' hh => ?_) hput
      obtain ⟨hy', hSw, hw'⟩ := hh
      refine ⟨hSw, ih (listed.setIfInBounds j true) a' w' ?_ ?_ (ready_mono hr (Ne.symm hji)) hy' (hSw haj hS) ?_⟩
      · intro k hk
        have hkj : j ≠ k := fun h => hjD (h ▸ hk)
        refine ⟨?_, (hw k hk).2⟩
        rw [getD_set_ne true hkj]; exact (hw k hk).1
      · intro k ok hk hki hun hkD
        refine hfree k ok hk hki ?_ hkD
        by_cases hjk : j = k
        · subst hjk; exact hjun
        · rw [getD_set_ne true hjk] at hun; exact hun
      · rw [Array.setIfInBounds_comm _ _ hji]; exact hw'

theorem wpN_takeD (D : List Nat) {i : Nat} {oi : Oper} {v : Value} {n : Nat} {listed : Array Bool} {a : Act} {w : World} (hi : ops[i]? = some oi)
    (hs : (Region.noSelect ops && freeBut ops listed i D && (Region.ready md ops listed).contains i && asksS ops i && waitsFor md ops listed i D && !(D.contains i)) = true)
    (hQ : ∀ c a w, Q (.panic c) (a.put oi.dst v) w → Q (.panic c) a w) (hS : S w) (hy : YieldsIf P ops S oi v a)
    (h : wpN P md ops Q S n (listed.setIfInBounds i true) (a.put oi.dst v) w) : wpN P md ops Q S (n + 1) listed a w := by
  simp only [Bool.and_eq_true] at hs
  obtain ⟨⟨⟨⟨⟨h1, h2⟩, h3⟩, h4⟩, h5⟩, h6⟩ := hs
  refine wpN_firstD (D := D) hi (by simpa using h6) (Region.noSelect_spec h1) hQ h4 n listed a w (fun k hk => ?_) (fun j oj hj hne hun hD => ?_) (by simpa using h3) hy hS h
  · simp only [waitsFor, List.all_eq_true] at h5
    have h7 := h5 k hk
    simp only [Bool.and_eq_true, Bool.not_eq_true'] at h7
    refine ⟨h7.1, ?_⟩
    have h8 := h7.2
    cases ho : ops[k]? with
    | none => rw [ho] at h8; cases h8
    | some o =>
      rw [ho] at h8
      obtain ⟨e, he, hb⟩ := Array.any_eq_true'.1 h8
      simp only [Bool.and_eq_true, Bool.or_eq_true, beq_iff_eq, List.contains_iff_mem] at hb
      exact ⟨o, rfl, e, he, hb.1, hb.2⟩
  · simp only [freeBut, hi, List.all_eq_true, List.mem_range] at h2
    have h7 := h2 j (Array.getElem?_eq_some_iff.1 hj).1
    simp only [hj, Bool.or_eq_true, beq_iff_eq, hne, hun, Bool.false_eq_true, false_or, List.contains_iff_mem, hD, Bool.and_eq_true] at h7
    exact h7

theorem pick_two {p : Nat → Prop} {i j : Nat} (hi : p i) (hj : p j) : ∀ x ∈ [i, j], p x := by
  intro x hx
  simp only [List.mem_cons, List.not_mem_nil, or_false] at hx
  rcases hx with rfl | rfl
  · exact hi
  · exact hj
theorem pick_three {p : Nat → Prop} {i j k : Nat} (hi : p i) (hj : p j) (hk : p k) : ∀ x ∈ [i, j, k], p x := by
  intro x hx
  simp only [List.mem_cons, List.not_mem_nil, or_false] at hx
  rcases hx with rfl | rfl | rfl
  · exact hi
  · exact hj
  · exact hk
theorem pick_one {p : Nat → Prop} {i : Nat} (hi : p i) : ∀ x ∈ [i], p x := by
  intro x hx
  simp only [List.mem_cons, List.not_mem_nil, or_false] at hx
  rcases hx with rfl
  exact hi
end
end Go.Proofs.Ytplfbdkljnblmaa

