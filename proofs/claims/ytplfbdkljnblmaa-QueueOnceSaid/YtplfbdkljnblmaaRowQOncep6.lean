/-
  The queue's map, as a list of the entries that wait. From the readings of a row's arguments to the representations that the walks ask, and from a walk that keeps what was there to the row's end.
-/
import Derived.Test.YtplfbdkljnblmaaRowQOncep5
import Derived.Maps.OwnSet
import Derived.Test.YtplfbdkljnblmaaRowQOncep1
import Derived.Test.YtplfbdkljnblmaaChecked
import Derived.ProofKit
import Derived.WalkKit
import Derived.WideKeyArgs
import Derived.OpenShut
set_option linter.unusedVariables false
set_option linter.unusedSimpArgs false
namespace Go.Proofs.Ytplfbdkljnblmaa
open Go.RowKit Go.Maps

def encD (e : Ent) : DataW Unit := .agg [.lit (.int .i64 e.key), .lit (.int .i64 e.weight), .lit (.int .i64 e.age)]
def rE (v : Value) : Option (DataW Unit × List MemPlace) :=
  match v with
  | .agg a => (match a.toList with
    | [.int .i64 x, .int .i64 y, .int .i64 z] => some (.agg [.lit (.int .i64 x), .lit (.int .i64 y), .lit (.int .i64 z)], [])
    | _ => none)
  | _ => none
theorem rE_mk (e : Ent) : rE e.v = some (encD e, []) := rfl
theorem rE_inv {v : Value} {e : Ent} {ps : List MemPlace} (h : rE v = some (encD e, ps)) : v = e.v := by
  unfold rE at h
  split at h
  · rename_i a
    split at h
    · rename_i x y z hl
      simp only [encD, Option.some.injEq, Prod.mk.injEq, DataW.agg.injEq, List.cons.injEq, DataW.lit.injEq, Lit.int.injEq, true_and, and_true] at h
      obtain ⟨⟨rfl, rfl, rfl⟩, -⟩ := h
      unfold Ent.v
      congr 1
      exact Array.toList_inj.1 (by simpa using hl)
    · cases h
  · cases h

def W64 (n : Int) : Prop := -9223372036854775808 ≤ n ∧ n ≤ 9223372036854775807
theorem wf_of (n : Int) (h : W64 n) : (Lit.int .i64 n).wf = true := by
  simp [Lit.wf, IntKind.min, IntKind.max, IntKind.signed, IntKind.bits]
  exact h

theorem key_ty : Try.prog.underlying 3 = some (.int .i64) := by kernel_rfl
theorem keyed : Keyed Try.prog 3 := int_keyed key_ty
theorem keyK {k : Int} (h : W64 k) : keyOf Try.prog 3 (.int .i64 k) = some (.int .i64 k) := keyOf_int_mk key_ty (wf_of k h)
theorem map_ty : Try.prog.underlying 60 = some (.map 3 30) := by kernel_rfl
theorem zeroE (w : World) : (zeroValue 30).run Try.prog w = .ok Hp.z0.v w := by kernel_rfl

def findK (L : List Ent) (k : Int) : Option Ent := L.find? fun e => e.key == k
def MapOf (w : World) (b n : Nat) (L : List Ent) : Prop :=
  ∃ D : DataW Unit, w.ownsMap Try.prog 3 rE b n D ∧ Maps.size D = L.length ∧ ∀ k : Int, match findK L k with
    | none => Maps.has D (.int .i64 k) = false
    | some e => Maps.has D (.int .i64 k) = true ∧ ∀ z, D.atKey (.int .i64 k) z = encD e
namespace MapOf
variable {w w' : World} {b n : Nat} {L : List Ent}
theorem of_block (h : MapOf w b n L) (hb : w'.heap[b]? = w.heap[b]?) : MapOf w' b n L := by
  obtain ⟨D, ⟨es, clock, h1, h2⟩, h3⟩ := h
  exact ⟨D, ⟨es, clock, hb.trans h1, h2⟩, h3⟩
theorem lt (h : MapOf w b n L) : b < w.heap.size := h.choose_spec.1.lt
theorem below (h : MapOf w b n L) (hb : Below w.heap.size w w') : MapOf w' b n L := h.of_block (hb.block b h.lt)
theorem off {F : Nat → Prop} (h : MapOf w b n L) (ho : Off F w w') (hF : ¬ F b) : MapOf w' b n L := h.of_block (ho.block b h.lt hF)
theorem drew (h : MapOf w b n L) : MapOf w.drew b n L := h.below (Below.refl _ _).drew
theorem far (h : MapOf w b n L) (p : Addr) (u : Value) (hp : b ≠ p.block) : MapOf (w.setCell p u) b n L := h.of_block (Below.heap_setCell _ _ _ _ hp)
theorem made (w : World) : MapOf (w.alloc (.map #[] 0)) w.heap.size 0 [] := ⟨_, World.ownsMap_made _ _ _ _, rfl, fun k => rfl⟩
theorem mono (h : MapOf w b n L) {m : Nat} (hm : n ≤ m) : MapOf w b m L := by
  obtain ⟨D, h1, h2⟩ := h
  exact ⟨D, h1.mono hm, h2⟩
theorem look (h : MapOf w b n L) {k : Int} (hk : W64 k) : (Instr.lookup 60 (.map (some b)) (.int .i64 k) true).run Try.prog w = .ok (.tuple #[((findK L k).getD Hp.z0).v, .bool (findK L k).isSome]) w := by
  obtain ⟨D, h1, h2, h3⟩ := h
  obtain ⟨v, ps, hr, hv⟩ := h1.look_ok keyed map_ty (zeroE w) (rE_mk Hp.z0) (keyK hk)
  rw [hr]
  have h4 := h3 k
  cases hf : findK L k with
  | none =>
    rw [hf] at h4
    dsimp only at h4
    rw [atKey_of_not_has h4] at hv
    rw [h4, rE_inv hv]; rfl
  | some e =>
    rw [hf] at h4
    dsimp only at h4
    rw [h4.2] at hv
    rw [h4.1, rE_inv hv]; rfl
theorem len (h : MapOf w b n L) (ty : TypeId) : (Builtin.len_ #[60] ty #[.map (some b)]).run Try.prog w = .ok (.int .i64 L.length) w := by
  obtain ⟨D, h1, h2, h3⟩ := h
  rw [← h2]
  exact h1.len map_ty ty

theorem findK_append (L : List Ent) (x : Ent) (k : Int) : findK (L ++ [x]) k = (findK L k).or (if x.key = k then some x else none) := by
  unfold findK
  rw [List.find?_append]
  by_cases h : x.key = k <;> simp [h]

theorem store (h : MapOf w b n L) (hn : n < maxLen) (e : Ent) (he : W64 e.key) (hnew : findK L e.key = none) :
    ∃ w', (Instr.mapUpdate 60 (.map (some b)) (.int .i64 e.key) e.v).run Try.prog w = .ok () w' ∧ MapOf w' b (n + 1) (L ++ [e]) ∧ w.grownBy w' (some b) := by
  obtain ⟨D, h1, h2, h3⟩ := h
  obtain ⟨w', hr, h4, h5⟩ := h1.store keyed map_ty hn (keyK he) (rE_mk e)
  have hno : Maps.has D (.int .i64 e.key) = false := by have := h3 e.key; rw [hnew] at this; exact this
  refine ⟨w', hr, ⟨_, h4, ?_, fun k => ?_⟩, h5.grown⟩
  · rw [size_put (h1.tidy keyed), hno, h2]; simp
  · rw [findK_append]
    by_cases hk : e.key = k
    · subst hk
      rw [hnew, if_pos rfl]
      have hkl : WideAt.IsKeyLit (Lit.int .i64 e.key) := by unfold WideAt.IsKeyLit; trivial
      exact ⟨has_put_same h1.isMap hkl _, fun z => atKey_put_same h1.isMap hkl _ _⟩
    · rw [if_neg hk, Option.or_none]
      have hne : Lit.int .i64 k ≠ Lit.int .i64 e.key := fun h => hk (by cases h; rfl)
      have h6 := h3 k
      cases hf : findK L k with
      | none => rw [hf] at h6; exact (has_put_other hne _).trans h6
      | some e' => rw [hf] at h6; exact ⟨(has_put_other hne _).trans h6.1, fun z => (atKey_put_other hne _ _).trans (h6.2 z)⟩

def less (L : List Ent) (k : Int) : List Ent := L.filter fun e => e.key != k
theorem findK_less (L : List Ent) (k k' : Int) : findK (less L k) k' = if k' = k then none else findK L k' := by
  unfold findK less
  induction L with
  | nil => simp
  | cons e L ih =>
    by_cases h1 : e.key = k
    · subst h1
      simp only [List.filter_cons, bne_self_eq_false, Bool.false_eq_true, if_false]
      rw [ih]
      by_cases h2 : k' = e.key
      · rw [if_pos h2, if_pos h2]
      · rw [if_neg h2, if_neg h2, List.find?_cons_of_neg (by simpa using fun h => h2 h.symm)]
    · have : (e.key != k) = true := by simpa using h1
      simp only [List.filter_cons, this, if_true]
      by_cases h2 : e.key = k'
      · rw [List.find?_cons_of_pos (by simpa using h2), List.find?_cons_of_pos (by simpa using h2), if_neg (by rw [← h2]; exact h1)]
      · rw [List.find?_cons_of_neg (by simpa using h2), List.find?_cons_of_neg (by simpa using h2), ih]
theorem length_less {L : List Ent} (hL : (L.map Ent.key).Nodup) (k : Int) : (less L k).length + (if (findK L k).isSome then 1 else 0) = L.length := by
  induction L with
  | nil => simp [less, findK]
  | cons e L ih =>
    simp only [List.map_cons, List.nodup_cons] at hL
    have ih := ih hL.2
    by_cases h1 : e.key = k
    · subst h1
      have h2 : less L e.key = L := by
        unfold less
        rw [List.filter_eq_self]
        intro x hx
        have : x.key ≠ e.key := fun h => hL.1 (h ▸ List.mem_map.2 ⟨x, hx, rfl⟩)
        simpa using this
      have h3 : less (e :: L) e.key = less L e.key := by simp [less]
      have h4 : (findK (e :: L) e.key).isSome = true := by simp [findK]
      rw [h3, h2, h4]; simp
    · have h3 : less (e :: L) k = e :: less L k := by simp [less, h1]
      have h4 : findK (e :: L) k = findK L k := by unfold findK; rw [List.find?_cons_of_neg (by simpa using h1)]
      rw [h3, h4]; simp only [List.length_cons]; omega
theorem drop (h : MapOf w b n L) (hL : (L.map Ent.key).Nodup) {k : Int} (hk : W64 k) (ty : TypeId) :
    ∃ w', (Builtin.delete_ #[60, 3] ty #[.map (some b), .int .i64 k]).run Try.prog w = .ok (.tuple #[]) w' ∧ MapOf w' b n (less L k) ∧ w.grownBy w' (some b) := by
  obtain ⟨D, h1, h2, h3⟩ := h
  obtain ⟨w', hr, h4, h5⟩ := h1.drop keyed map_ty (keyK hk) ty
  refine ⟨w', hr, ⟨_, h4, ?_, fun k' => ?_⟩, h5.grown⟩
  · have h6 := size_del (k := .int .i64 k) (h1.tidy keyed)
    have h7 := length_less hL k
    have h8 := h3 k
    cases hf : findK L k with
    | none => rw [hf] at h8 h7; rw [h8] at h6; simp at h6 h7; omega
    | some e => rw [hf] at h8 h7; rw [h8.1] at h6; simp at h6 h7; omega
  · rw [findK_less]
    by_cases hkk : k' = k
    · subst hkk; rw [if_pos rfl]; exact has_del_same
    · rw [if_neg hkk]
      have hne : Lit.int .i64 k' ≠ Lit.int .i64 k := fun h => hkk (by cases h; rfl)
      have h6 := h3 k'
      cases hf : findK L k' with
      | none => rw [hf] at h6; exact (has_del_other hne).trans h6
      | some e' => rw [hf] at h6; exact ⟨(has_del_other hne).trans h6.1, fun z => (atKey_del_other hne _).trans (h6.2 z)⟩
end MapOf
end Go.Proofs.Ytplfbdkljnblmaa

namespace Go.Proofs.Ytplfbdkljnblmaa
open Go.RowKit Go.ChangeShapes Go.WideShapes Go.ChangeAt

theorem own : ownKnob Try.prog.godebug = none := by kernel_rfl
theorem laidOut : laidOutB Try.prog = true := by kernel_rfl

def Rd {α H : Type} (enc : TypeId × Value → H) (W : World) (base : Nat) (sp : Nat → Bool) (hd : Bool) (t : TypeId) (r : Rp α) (D : DataW H → α → Prop) (n : Nat) : Prop :=
  ∀ cs x, DataW.trod enc Try.prog W base sp hd n t cs = some x → ∃ v, r.R (fun _ => True) W cs v ∧ D x.1 v

theorem addr_add (bl off n : Nat) : (⟨bl, off, none⟩ : Addr).add n = ⟨bl, off + n, none⟩ := by
  unfold Addr.add; split
  · subst_vars; rfl
  · rfl

theorem sl_of_trod {α H : Type} {enc : TypeId × Value → H} {W : World} {base : Nat} {sp : Nat → Bool} {hd : Bool} {t e : TypeId} {r : Rp α} {D : DataW H → α → Prop} {fuel : Nat} {cs : List Value} {x : DataW H × List MemPlace}
    (ht : Try.prog.underlying t = some (.slice e)) (hn : Try.prog.cellsOf e = r.n) (hpos : 0 < r.n) (hr : ∀ m, m < fuel → Rd enc W base sp hd e r D m) (h : DataW.trod enc Try.prog W base sp hd fuel t cs = some x) :
    ∃ a n c l, cs = [.slice a n c] ∧ n ≤ c ∧ IsSl r (fun _ => True) W (.slice a n c) l ∧ ∀ i (h : i < l.length), ∃ d es spare, x.1 = .slice es spare ∧ d ∈ es ∧ D d l[i] := by
  rcases DataW.trod_slice ht h with ⟨rfl, _⟩ | ⟨a, len, cap, elems, rest, n, rfl, rfl, rfl, hb, hl, hm, hlen, hel, _, _⟩
  · exact ⟨_, _, _, [], rfl, Nat.le_refl _, ⟨none, 0, 0, 0, fun _ => [], rfl, ⟨Nat.zero_le _, Nat.le_refl _⟩, fun h => absurd h (by simp), fun _ _ _ h => absurd h (by simp), fun _ h => absurd h (by simp)⟩, fun _ h => absurd h (by simp)⟩
  · have H : ∀ i : Fin len, ∃ y : List Value × α, W.cells? base (a.add (i * r.n)) r.n = some y.1 ∧ r.R (fun _ => True) W y.1 y.2 ∧ ∃ d ∈ elems.map (·.1), D d y.2 := fun i => by
      have h1 := hel i i.2
      rw [List.getElem?_eq_getElem (by omega), hn] at h1
      obtain ⟨cs', h2, h3⟩ := Option.bind_eq_some_iff.1 h1
      obtain ⟨v, hv, hd⟩ := hr n (by omega) _ _ h3
      exact ⟨⟨cs', v⟩, h2, hv, _, List.mem_map_of_mem (List.getElem_mem _), hd⟩
    obtain ⟨f, hf⟩ := Classical.axiomOfChoice H
    refine ⟨_, _, _, List.ofFn fun i => (f i).2, rfl, hl, ⟨some a, cap, a.block, a.off, fun i => if h : i < len then (f ⟨i, h⟩).1 else [], by simp, by simp; omega, fun h0 => ?_, fun i j u hi hu => ?_, fun i hi => ?_⟩, fun i hi => ?_⟩
    · have h0 : 0 < len := by simpa using h0
      have h1 := (World.cells?_some (hf ⟨0, h0⟩).1)
      have h2 := h1.2.2 0 hpos
      rw [List.getElem?_eq_getElem (by rw [h1.2.1]; exact hpos)] at h2
      have h3 := World.cell?_spot h2
      obtain ⟨bl, off, spot⟩ := a
      have : spot = none := by simpa [Addr.add] using h3
      subst this
      exact ⟨rfl, trivial⟩
    · have hi : i < len := by simpa using hi
      simp only [dif_pos hi] at hu
      have h1 := (World.cells?_some (hf ⟨i, hi⟩).1)
      have hj : j < r.n := by
        rcases Nat.lt_or_ge j r.n with h | h
        · exact h
        · rw [List.getElem?_eq_none (by rw [h1.2.1]; exact h)] at hu; cases hu
      have h2 := h1.2.2 j hj
      rw [hu] at h2
      have h0 := (World.cells?_some (hf ⟨0, by omega⟩).1)
      have h0' := h0.2.2 0 hpos
      rw [List.getElem?_eq_getElem (by rw [h0.2.1]; exact hpos)] at h0'
      have h3 := World.cell?_spot h0'
      obtain ⟨bl, off, spot⟩ := a
      have : spot = none := by simpa [Addr.add] using h3
      subst this
      rw [addr_add, addr_add] at h2
      exact h2
    · have hi : i < len := by simpa using hi
      simp only [dif_pos hi, List.getElem_ofFn]
      exact (hf ⟨i, hi⟩).2.1
    · have hi : i < len := by simpa using hi
      obtain ⟨d, h1, h2⟩ := (hf ⟨i, hi⟩).2.2
      exact ⟨d, _, _, rfl, h1, by simpa using h2⟩

theorem two_of {α : Type} {cs : List α} (h : cs.length = 2) : ∃ a b, cs = [a, b] := by
  match cs, h with
  | [a, b], _ => exact ⟨a, b, rfl⟩
theorem cellsInt : Try.prog.cellsOf 3 = 1 := by kernel_rfl

def rpI : Rp Int where
  n := 1
  R _ _ x v := x = [.int .i64 v]
  len := by rintro F w x a rfl; rfl
  one := by rintro F w x a rfl u hu; simp at hu; subst hu; rfl
  keep := by intro F w w' x a h _; exact h
  weaken := by intro F F' w x a h _; exact h
theorem wf_i64q {k : Int} (h : (Lit.int .i64 k).wf = true) : W64 k := by
  simp [Lit.wf, IntKind.min, IntKind.max, IntKind.signed, IntKind.bits] at h
  exact h
theorem rdI {H : Type} (enc : TypeId × Value → H) (W : World) (base : Nat) (sp : Nat → Bool) (hd : Bool) : ∀ n, Rd enc W base sp hd 3 rpI (fun _ v => W64 v) n := by
  intro n cs x h
  obtain ⟨k, hk, _, hw⟩ := DataW.trod_int Try.underlying3 h
  exact ⟨k, hk, wf_i64q hw⟩
theorem cellsSI : Try.prog.cellsOf 22 = 1 := by kernel_rfl
theorem cellsAct : Try.prog.cellsOf 45 = 4 := by kernel_rfl
theorem four_of {α : Type} {cs : List α} (h : cs.length = 4) : ∃ a b c d, cs = [a, b, c, d] := by
  match cs, h with
  | [a, b, c, d], _ => exact ⟨a, b, c, d, rfl⟩
structure Act25 where
  kind : Int
  key : Int
  weight : Int
  keys : List Int
def rpA : Rp Act25 where
  n := 4
  R F w x v := ∃ a c, x = [.int .i64 v.kind, .int .i64 v.key, .int .i64 v.weight, .slice a v.keys.length c] ∧ IsSl rpI F w (.slice a v.keys.length c) v.keys
  len := by rintro F w x a ⟨_, _, rfl, _⟩; rfl
  one := by
    rintro F w x a ⟨_, _, rfl, _⟩ u hu
    simp at hu
    rcases hu with rfl | rfl | rfl | rfl <;> rfl
  keep := by rintro F w w' x a ⟨p, c, h, hs⟩ hk; exact ⟨p, c, h, hs.keep hk⟩
  weaken := by rintro F F' w x a ⟨p, c, h, hs⟩ hF; exact ⟨p, c, h, hs.weaken (by decide) hF⟩
def Act25.ok (v : Act25) : Prop := W64 v.key ∧ W64 v.weight ∧ ∀ k ∈ v.keys, W64 k
theorem rdA {H : Type} (enc : TypeId × Value → H) (W : World) (base : Nat) (sp : Nat → Bool) (hd : Bool) : ∀ n, Rd enc W base sp hd 45 rpA (fun _ v => v.ok) n := by
  intro n cs x h
  obtain ⟨xs, m, rfl, rfl, hl, hlen, hf⟩ := DataW.trod_struct Try.underlying45 h
  rw [cellsAct] at hl
  obtain ⟨v0, v1, v2, v3, rfl⟩ := four_of hl
  have h0 : DataW.trod enc Try.prog W base sp hd m 3 ([v0, v1, v2, v3].take (Try.prog.cellsOf 3)) = xs[0]? := hf 0 _ rfl
  have h1 : DataW.trod enc Try.prog W base sp hd m 3 ([v1, v2, v3].take (Try.prog.cellsOf 3)) = xs[1]? := hf 1 _ rfl
  have h2 : DataW.trod enc Try.prog W base sp hd m 3 ([v2, v3].take (Try.prog.cellsOf 3)) = xs[2]? := hf 2 _ rfl
  have h3 : DataW.trod enc Try.prog W base sp hd m 22 ([v3].take (Try.prog.cellsOf 22)) = xs[3]? := hf 3 _ rfl
  rw [cellsInt] at h0 h1 h2
  rw [cellsSI] at h3
  have hlen : xs.length = 4 := hlen
  rw [List.getElem?_eq_getElem (by omega)] at h0 h1 h2 h3
  obtain ⟨a, ha, _, _⟩ := DataW.trod_int Try.underlying3 h0
  obtain ⟨b, hb, _, hwb⟩ := DataW.trod_int Try.underlying3 h1
  obtain ⟨c, hc, _, hwc⟩ := DataW.trod_int Try.underlying3 h2
  obtain ⟨pa, pn, pc, l, hv, _, hs, hw⟩ := sl_of_trod Try.underlying22 cellsInt (by decide) (fun j _ => rdI enc W base sp hd j) h3
  have e0 : [v0] = [.int .i64 a] := ha
  have e1 : [v1] = [.int .i64 b] := hb
  have e2 : [v2] = [.int .i64 c] := hc
  have e3 : [v3] = [.slice pa pn pc] := hv
  simp only [List.cons.injEq, and_true] at e0 e1 e2 e3
  subst e0 e1 e2 e3
  have hl : pn = l.length := by
    obtain ⟨_, _, _, _, _, hq, _⟩ := hs
    injection hq
  subst hl
  refine ⟨⟨a, b, c, l⟩, ⟨pa, pc, rfl, hs⟩, wf_i64q hwb, wf_i64q hwc, fun k hk => ?_⟩
  obtain ⟨j, hj, rfl⟩ := List.getElem_of_mem hk
  obtain ⟨_, _, _, _, _, h⟩ := hw j hj
  exact h
set_option maxRecDepth 100000 in
theorem openAct {H : Type} {enc : TypeId × Value → H} {W : World} {base : Nat} {sp : Nat → Bool} {hd : Bool} {r : Reach} {b0 : Nat} {v : Value} {d : DataW H} {p : List MemPlace}
    (hval : Value.okWide Try.prog W r b0 45 v) (h : DataW.Trod enc Try.prog W base sp hd 45 v d p) :
    ∃ (x : Act25) (a : Option Addr) (c : Nat), v = .agg #[.int .i64 x.kind, .int .i64 x.key, .int .i64 x.weight, .slice a x.keys.length c] ∧ IsSl rpI (fun _ => True) W (.slice a x.keys.length c) x.keys ∧ x.ok := by
  obtain ⟨n, h⟩ := h
  obtain ⟨x, ⟨a, c, hx, hs⟩, hok⟩ := rdA enc W base sp hd n _ _ h
  obtain ⟨cs, rfl, _⟩ := okWide_struct Try.underlying45 hval
  refine ⟨x, a, c, ?_, hs, hok⟩
  have : cs.toList = [.int .i64 x.kind, .int .i64 x.key, .int .i64 x.weight, .slice a x.keys.length c] := hx
  rw [← Array.toList_inj.1 (show cs.toList = (#[.int .i64 x.kind, .int .i64 x.key, .int .i64 x.weight, .slice a x.keys.length c] : Array Value).toList from this)]


theorem trodAll_stays {H : Type} {enc : TypeId × Value → H} {W W' : World} {sp : Nat → Bool} : ∀ {ts : List TypeId} {vs : List Value} {ds : List (DataW H)} {p : List MemPlace},
    DataW.TrodAll enc Try.prog W 0 (fun _ => true) true ts vs ds p → (∀ t ∈ ts, Try.prog.readableRec t = true ∧ t < Try.prog.types.size) → (∀ x ∈ p, W.sameAt W' x) → (∀ x ∈ p, sp x.block = true) →
    DataW.TrodAll enc Try.prog W' 0 sp true ts vs ds p := by
  intro ts
  induction ts with
  | nil => intro vs ds p h; cases vs <;> cases ds <;> first | exact fun _ _ _ => h | exact h.elim
  | cons t ts ih =>
    intro vs ds p h hts hs hsp
    cases vs with
    | nil => exact h.elim
    | cons v vs =>
      cases ds with
      | nil => exact h.elim
      | cons d ds =>
        obtain ⟨p, q, h0, h1, rfl⟩ := h
        exact ⟨p, q, WideElems.Trod_stays laidOut (hts t (by simp)).1 (hts t (by simp)).2 h0 (fun x hx => hs x (by simp [hx])) (fun x hx => hsp x (by simp [hx])), ih h1 (fun t ht => hts t (by simp [ht])) (fun x hx => hs x (by simp [hx])) (fun x hx => hsp x (by simp [hx])), rfl⟩

set_option maxRecDepth 100000 in
theorem openSl {α H : Type} {enc : TypeId × Value → H} {W : World} {base : Nat} {sp : Nat → Bool} {hd : Bool} {t e : TypeId} {r : Rp α} {D : DataW H → α → Prop} {v : Value} {d : DataW H} {p : List MemPlace} {rch : Reach} {b0 : Nat}
    (ht : Try.prog.underlying t = some (.slice e)) (hn : Try.prog.cellsOf e = r.n) (hpos : 0 < r.n) (hr : ∀ m, Rd enc W base sp hd e r D m) (hval : Value.okWide Try.prog W rch b0 t v) (h : DataW.Trod enc Try.prog W base sp hd t v d p) :
    ∃ a n c l, v = .slice a n c ∧ n ≤ c ∧ IsSl r (fun _ => True) W (.slice a n c) l ∧ ∀ i (h : i < l.length), ∃ x es spare, d = .slice es spare ∧ x ∈ es ∧ D x l[i] := by
  obtain ⟨fuel, h⟩ := h
  obtain ⟨a, n, c, l, h1, h2, h3, h4⟩ := sl_of_trod ht hn hpos (fun m _ => hr m) h
  refine ⟨a, n, c, l, ?_, h2, h3, h4⟩
  obtain ⟨a', n', c', rfl⟩ := okWide_slice ht hval
  simpa [Value.cells] using h1

set_option maxRecDepth 100000 in
theorem post_true {H : Type} {enc : TypeId × Value → H} {f : Func} {s : ChangeSpec} {fresh handsOn again apart : Bool} {W W' : World} {args : Array Value} {ds gs : List (DataW H)} {before : List MemPlace}
    (hW : DataW.Whole enc Try.prog f.params.toList s.vars apart W args.toList ds gs before) (hv : s.vars = []) (hts : ∀ t ∈ f.params.toList, Try.prog.readableRec t = true ∧ t < Try.prog.types.size)
    (hr : f.resultTypes = #[4]) (hfn : s.fn H (ds ++ gs) = { results := [.lit (.bool true)], args := ds }) (hb : Below W.heap.size W W') :
    s.post enc Try.prog f apart fresh handsOn again W args (.bool true) W' := by
  have hlt := hW.lt
  have hW' := hW
  obtain ⟨p, q, hA, hV, rfl, hz, hn⟩ := hW
  rw [hv] at hV
  obtain ⟨rfl, rfl⟩ := trodVars_none hV
  have hres : ∀ (b : Nat) (sp : Nat → Bool) (hd : Bool), DataW.TrodAll enc Try.prog W' b sp hd f.resultTypes.toList ((Value.bool true).resultList f.resultTypes.size) (s.fn H (ds ++ [])).results [] := fun _ _ _ => by
    rw [hr, hfn]; exact trodAll_cons_mk (shut_bool Try.underlying4 _) trodAll_mk0
  have hargs : ∀ sp : Nat → Bool, (∀ x ∈ p ++ [], sp x.block = true) → DataW.TrodAll enc Try.prog W' 0 sp true f.params.toList args.toList (s.fn H (ds ++ [])).args p := fun sp hs => by
    rw [hfn]; exact trodAll_stays hA hts (fun x hx => hb.same (hlt x (by simp [hx]))) (fun x hx => hs x (by simp [hx]))
  have hvars : ∀ sp : Nat → Bool, DataW.TrodVars enc Try.prog W' sp s.vars (s.fn H (ds ++ [])).vars [] := fun sp => by rw [hv, hfn]; rfl
  have hok := ok_one (P := Try.prog) (W' := W') (f := f) (v := .bool true) hr rfl (okWide_bool_mk Try.underlying4 _)
  refine ⟨ds, [], p ++ [], [], p, [], hW', hres _ _ _, hargs _ (fun x hx => by simpa using hlt x hx), hvars _, World.keptBut_mono (fun p hp => ⟨hp, .inr (by simpa using hp)⟩) (hb.frame _), fun _ => ?_⟩
  refine ⟨hok, _, _, ([] ++ p) ++ [], ⟨[] ++ p, [], trodAll_append (hargs _ (fun _ _ => rfl)) (hres _ _ _), hvars _, rfl, ?_, ?_⟩, ?_⟩
  · intro b off hp
    rw [hb.frozen (hlt (.cell b off) (by simpa using hp))]
    exact hz b off (by simpa using hp)
  · intro ha
    simpa using hn ha
  · intro x hx _
    simpa using hx
end Go.Proofs.Ytplfbdkljnblmaa

