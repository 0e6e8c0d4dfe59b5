/-
  Deep values: a region's walk that reckons itself out. Deep values: a contract with other names. Terms put for variables, in plain Lean: what norm.Put and subst.Apply make of terms and of a budget. A budget in memory: New, Left, Dry, take, Spend. A budget that runs dry: sync.Once, once; Spend of one unit. The budget, as a deep object. Operations of a region that may come up in any order among themselves, each of which asks nothing of the others: each is looked at once. A term, copied cell by cell: To, Of of the laws. term.turned: a term whose loose indexes a function turns. term.Copy, term.Body. A term whose loose indexes have grown: norm.lifted, subst.grown. subst.grown, walked in the deep way. Package norm, walked in the deep way. norm.lifted, walked in the deep way. What is kept where terms are put for variables: counts grow, no term gets wider. Package norm, walked in the deep way: terms put for variables. term.Shift: what its closures do. Indexes that grow: what Shift is in plain Lean. Types and terms can be told apart; patterns in plain Lean. Types, walked in the deep way: Equal, Copy, Arrow; the document's Same, Arrow. Contracts of before, as deep ones; term.Copy. Loops over an iterator that writes cells of its own between two rounds. term.each: all terms within, each ahead of its arguments: what the iterator hands to a loop's body. term.Size, term.Depth, term.Right, term.Loose: what the loops over all terms within hand back. term.Right. term.Equal, and slices.EqualFunc with it. Contracts of before, as deep ones. Deep contracts, as ones of before. Package norm, walked in the deep way: through. Package norm, walked in the deep way: Put. Package subst, walked in the deep way. The readings of a row's arguments that are pairs, and what was opened, told as deep values.
-/
import Derived.Test.YtcblpjheoclkeaaRowMatchFindsp3
import Derived.Test.YtcblpjheoclkeaaRowMatchFindsp1
import Derived.RegionTactic
import Derived.Test.YtcblpjheoclkeaaProg
import Derived.Lib.Hide
import Derived.Laws.LoneSync
import Derived.Deep.RegionHeld3
import Derived.Deep.DrawnRows
import Derived.Tactics2
import Derived.Defers
import Derived.Laws.Pointers
import Derived.RegionCalls
import Derived.ChangeAlike
import Derived.Laws.NewBlocks
import Derived.OwnWalk
import Derived.Laws.EntriesVeiled
import Derived.RangeFuncWrites
set_option maxRecDepth 100000
set_option maxHeartbeats 1000000
set_option linter.unusedVariables false
set_option linter.unusedSimpArgs false
namespace Go.Proofs.Ytcblpjheoclkeaa
open Go.RowKit

def natsL : List Nat := [0, 1, 2, 3, 4, 5, 6, 7, 8, 9, 10, 11, 12, 13, 14, 15, 16, 17, 18, 19, 20, 21, 22, 23, 24, 25, 26, 27, 28, 29, 30, 31, 32, 33, 34, 35, 36, 37, 38, 39, 40, 41, 42, 43, 44, 45, 46, 47, 48, 49, 50, 51, 52, 53, 54, 55, 56, 57, 58, 59, 60, 61, 62, 63, 64, 65, 66, 67, 68, 69, 70, 71, 72, 73, 74, 75, 76, 77, 78, 79, 80, 81, 82, 83, 84, 85, 86, 87, 88, 89, 90, 91, 92, 93, 94, 95, 96, 97, 98, 99, 100, 101, 102, 103, 104, 105, 106, 107, 108, 109, 110, 111, 112, 113, 114, 115, 116, 117, 118, 119, 120, 121, 122, 123, 124, 125, 126, 127, 128, 129, 130, 131, 132, 133, 134, 135, 136, 137, 138, 139, 140, 141, 142, 143, 144, 145, 146, 147, 148, 149, 150, 151, 152, 153, 154, 155, 156, 157, 158, 159, 160, 161, 162, 163, 164, 165, 166, 167, 168, 169, 170, 171, 172, 173, 174, 175, 176, 177, 178, 179, 180, 181, 182, 183, 184, 185, 186, 187, 188, 189, 190, 191, 192, 193, 194, 195, 196, 197, 198, 199, 200, 201, 202, 203, 204, 205, 206, 207, 208, 209, 210, 211, 212, 213, 214, 215, 216, 217, 218, 219, 220, 221, 222, 223, 224, 225, 226, 227, 228, 229, 230, 231, 232, 233, 234, 235, 236, 237, 238, 239, 240, 241, 242, 243, 244, 245, 246, 247, 248, 249, 250, 251, 252, 253, 254, 255]
set_option maxRecDepth 100000 in
theorem natsL_eq : natsL = List.range 256 := by decide
def knat (n : Nat) (c : Nat → Prop) : Prop := match natsL[n]? with
  | some k => c k
  | none => False
theorem knat_some {n : Nat} {c : Nat → Prop} (h : knat n c) : c n := by
  unfold knat at h
  rw [natsL_eq] at h
  by_cases hn : n < 256
  · rw [List.getElem?_range hn] at h; exact h
  · rw [List.getElem?_eq_none (by simpa using hn)] at h; exact h.elim
def kco (k : Nat) : Nat → List D → (List (Key × D) → Prop) → Prop
  | _, [], c => c []
  | o, d :: l, c => knat o fun o => kco k (o + 1) l fun r => c ((.c k o, d) :: r)
theorem kco_some {k : Nat} : ∀ {l : List D} {o : Nat} {c : List (Key × D) → Prop}, kco k o l c → c (cellsOf k o l)
  | [], _, _, h => h
  | d :: l, o, c, h => by
    have h := knat_some h
    exact kco_some (l := l) h
def krows (te : TI) : List D → (List (List D) → Prop) → Prop
  | [], c => c []
  | d :: l, c => kdc te d fun x => krows te l fun r => c (x :: r)
theorem kdc_some {ti : TI} {d : D} {c : List D → Prop} (h : kdc ti d c) : ∃ l, dcells ti d = some l ∧ c l := by
  unfold kdc at h
  cases hg : dcells ti d with
  | none => rw [hg] at h; exact h.elim
  | some l => rw [hg] at h; exact ⟨l, rfl, h⟩
theorem krows_some {te : TI} : ∀ {l : List D} {c : List (List D) → Prop}, krows te l c → ∃ rows, rowsD te l = some rows ∧ c rows
  | [], _, h => ⟨[], rfl, h⟩
  | d :: l, c, h => by
    obtain ⟨x, h1, h2⟩ := kdc_some h
    obtain ⟨rows, h3, h4⟩ := krows_some h2
    exact ⟨x :: rows, by simp [rowsD, h1, h3], h4⟩
def ksrc (n : Nat) (y : D) (c : List (List D) → Prop) : Prop := match y with
  | .sl n' l _ => (match Nat.beq n' n with | true => c l | false => False)
  | .v (.slice _ 0 _) => c []
  | _ => False
theorem ksrc_some {n : Nat} {y : D} {c : List (List D) → Prop} (h : ksrc n y c) : ∃ l, srcD n y = some l ∧ c l := by
  unfold ksrc at h
  unfold srcD
  split at h
  · split at h
    · rename_i hb; exact ⟨_, by simp [Nat.eq_of_beq_eq_true hb], h⟩
    · exact h.elim
  · exact ⟨_, rfl, h⟩
  · exact h.elim
def kapd (T : List (Nat × TI)) (σ : Env) (nm : Nat) (t : Nat) (x y : D) (c : D → List (Key × D) → List Key → Prop) : Prop := kT T t fun ti => match ti.el with
  | none => False
  | some E => kT T E fun te => ksrc te.sz y fun l2 => match Nat.ble 1 te.sz && Nat.ble te.bys 1000 with
    | false => False
    | true => match x with
      | .v (.slice none 0 0) => l2.length ≤ 1000000 ∧ c (.sl te.sz l2 (some nm)) [(.r nm, .rw E te.sz l2.length)] []
      | .sl n l (some g) => kget σ (.r g) fun d => match d with
        | .rw E' n' len => (match Nat.beq E' E && Nat.beq n' te.sz && Nat.beq n te.sz with
          | true => (len = l.length ∧ l.length + l2.length ≤ 1000000) ∧ c (.sl n (l ++ l2) (some g)) [(.r g, .rw E n (l ++ l2).length)] [.r g]
          | false => False)
        | _ => False
      | .ps g len => kget σ (.r g) fun d => (match d with
        | .rp E' n' l => (match Nat.beq E' E && Nat.beq n' te.sz with
          | true => (len = l.length ∧ l.length + l2.length ≤ 1000000) ∧ c (.ps g (len + l2.length)) [(.r g, .rp E' n' (l ++ l2))] [.r g]
          | false => False)
        | .rw E' n' 0 => (match Nat.beq E' E && Nat.beq n' te.sz && Nat.beq len 0 with
          | true => (l2.length ≤ 1000000) ∧ c (.ps g l2.length) [(.r g, .rp E' n' l2)] [.r g]
          | false => False)
        | _ => False)
      | .cl n l => (match Nat.beq n te.sz with
        | true => (0 < l2.length ∧ l.length + l2.length ≤ 1000000) ∧ c (.sl n (l ++ l2) (some nm)) [(.r nm, .rw E n (l ++ l2).length)] []
        | false => False)
      | _ => False
theorem kapd_some {T : List (Nat × TI)} {σ : Env} {nm t : Nat} {x y : D} {c : D → List (Key × D) → List Key → Prop} (h : kapd T σ nm t x y c) : ∃ V W R, appD T σ nm t x y = some (V, W, R) ∧ c V W R := by
  obtain ⟨ti, h1, h⟩ := kT_some h
  unfold appD
  rw [h1]
  cases hE : ti.el with
  | none => rw [hE] at h; exact h.elim
  | some E =>
    rw [hE] at h
    obtain ⟨te, h2, h⟩ := kT_some h
    obtain ⟨l2, h3, h⟩ := ksrc_some h
    split at h
    · exact h.elim
    · rename_i hb
      simp only [Bool.and_eq_true] at hb
      have b1 := Nat.le_of_ble_eq_true hb.1
      have b2 := Nat.le_of_ble_eq_true hb.2
      simp only [hE, h2, h3]
      rw [if_pos ⟨by omega, b2⟩]
      split at h
      · rw [if_pos h.1]; exact ⟨_, _, _, rfl, h.2⟩
      · obtain ⟨d, h4, h⟩ := kget_some h
        split at h
        · split at h
          · rename_i hc
            simp only [Bool.and_eq_true] at hc
            have c1 := Nat.eq_of_beq_eq_true hc.1.1
            have c2 := Nat.eq_of_beq_eq_true hc.1.2
            have c3 := Nat.eq_of_beq_eq_true hc.2
            simp only [h4]
            rw [if_pos ⟨c1, c2, c3, h.1.1, h.1.2⟩]
            exact ⟨_, _, _, rfl, h.2⟩
          · exact h.elim
        · exact h.elim
      · obtain ⟨d, h4, h⟩ := kget_some h
        split at h
        · split at h
          · rename_i hc
            simp only [Bool.and_eq_true] at hc
            have c1 := Nat.eq_of_beq_eq_true hc.1
            have c2 := Nat.eq_of_beq_eq_true hc.2
            simp only [h4]
            rw [if_pos ⟨c1, c2, h.1.1, h.1.2⟩]
            exact ⟨_, _, _, rfl, h.2⟩
          · exact h.elim
        · split at h
          · rename_i hc
            simp only [Bool.and_eq_true] at hc
            have c1 := Nat.eq_of_beq_eq_true hc.1.1
            have c2 := Nat.eq_of_beq_eq_true hc.1.2
            have c3 := Nat.eq_of_beq_eq_true hc.2
            simp only [h4]
            rw [if_pos ⟨c1, c2, c3, h.1⟩]
            exact ⟨_, _, _, rfl, h.2⟩
          · exact h.elim
        · exact h.elim
      · split at h
        · rename_i hc
          dsimp only
          rw [if_pos ⟨Nat.eq_of_beq_eq_true hc, h.1.1, h.1.2⟩]; exact ⟨_, _, _, rfl, h.2⟩
        · exact h.elim
      · exact h.elim
def kclr (T : List (Nat × TI)) (σ : Env) (t : Nat) (x : D) (c : D → List (Key × D) → List Key → Prop) : Prop := kT T t fun ti => match ti.el, x with
  | some E, .pt g len n lo => kT T E fun te => kget σ (.r g) fun d => (match d with
    | .rp E' n' l => (match Nat.beq E' E && Nat.beq n' n && Nat.beq te.sz n && Nat.ble 1 n with
      | true => (l.length = len ∧ lo ≤ len) ∧ c (.tu []) [(.r g, .rp E' n' (l.take lo ++ List.replicate (len - lo) (te.z.map .v)))] [.r g]
      | false => False)
    | _ => False)
  | _, _ => False
theorem kclr_some {T : List (Nat × TI)} {σ : Env} {t : Nat} {x : D} {c : D → List (Key × D) → List Key → Prop} (h : kclr T σ t x c) : ∃ V W R, clrD T σ t x = some (V, W, R) ∧ c V W R := by
  obtain ⟨ti, h1, h⟩ := kT_some h
  unfold clrD
  rw [h1]
  split at h
  · rename_i E g len n lo hel _
    obtain ⟨te, h2, h⟩ := kT_some h
    obtain ⟨d, h3, h⟩ := kget_some h
    split at h
    · split at h
      · rename_i hb
        simp only [Bool.and_eq_true] at hb
        have b1 := Nat.eq_of_beq_eq_true hb.1.1.1
        have b2 := Nat.eq_of_beq_eq_true hb.1.1.2
        have b3 := Nat.eq_of_beq_eq_true hb.1.2
        have b4 := Nat.le_of_ble_eq_true hb.2
        simp only [hel, h2, h3]
        rw [if_pos ⟨b1, b2, b3, by omega, h.1.1, h.1.2⟩]
        exact ⟨_, _, _, rfl, h.2⟩
      · exact h.elim
    · exact h.elim
  · exact h.elim
def klk (T : List (Nat × TI)) (σ : Env) (t : Nat) (x y : D) (ok : Bool) (c : D → List (Key × D) → List Key → Prop) : Prop := kT T t fun ti => match x, y, ti.mv with
  | .mo k, .v (.int .i64 n), some e => kT T e fun te => kget σ (.o k) fun d => (match d with | .mp l => c (lookD te l n ok) [] [.o k] | _ => False)
  | _, _, _ => False
def kupd (T : List (Nat × TI)) (σ : Env) (t : Nat) (x y z : D) (c : D → List (Key × D) → List Key → Prop) : Prop := kT T t fun ti => match x, y, ti.mv with
  | .mo k, .v (.int .i64 n), some _ => kget σ (.o k) fun d => (match d with | .mp l => c (.v undef) [(.o k, .mp (mput l n z))] [.o k] | _ => False)
  | _, _, _ => False
theorem klk_some {T : List (Nat × TI)} {σ : Env} {t : Nat} {x y : D} {ok : Bool} {c : D → List (Key × D) → List Key → Prop} (h : klk T σ t x y ok c) : ∃ V W R, lkD T σ t (some x) (some y) ok = some (V, W, R) ∧ c V W R := by
  obtain ⟨ti, h1, h⟩ := kT_some h
  unfold lkD
  simp only [h1]
  split at h
  · obtain ⟨te, h2, h⟩ := kT_some h
    obtain ⟨d, h3, h⟩ := kget_some h
    split at h
    · exact ⟨_, _, _, by simp [*], h⟩
    · exact h.elim
  · exact h.elim
theorem kupd_some {T : List (Nat × TI)} {σ : Env} {t : Nat} {x y z : D} {c : D → List (Key × D) → List Key → Prop} (h : kupd T σ t x y z c) : ∃ V W R, updD T σ t (some x) (some y) (some z) = some (V, W, R) ∧ c V W R := by
  obtain ⟨ti, h1, h⟩ := kT_some h
  unfold updD
  simp only [h1]
  split at h
  · obtain ⟨d, h3, h⟩ := kget_some h
    split at h
    · exact ⟨_, _, _, by simp [*], h⟩
    · exact h.elim
  · exact h.elim
def kmop (T : List (Nat × TI)) (σ : Env) (nm : Nat) (o : Op) (c : D → List (Key × D) → List Key → Prop) (other : Prop) : Prop := match o with
  | .alloc t => kT T t fun ti => kzs ti.z fun z => kco nm 0 z fun W => c (.p nm 0) W []
  | .box t x => kT T t fun ti => kev σ x fun d => kdc ti d fun l => kco nm 0 l fun W => c (.p nm 0) W []
  | .store t x y => kT T t fun ti => kev σ x fun d => (match d with
    | .p k off => kev σ y fun e => kdc ti e fun l => kcells σ k off ti.sz fun _ => kco k off l fun W => c (.v undef) W ((List.range ti.sz).map fun i => .c k (off + i))
    | .pr g len n i j => kget σ (.r g) fun d => (match d with
      | .rp E n' l => (match Nat.beq n' n && Nat.ble (j + ti.sz) n with
        | true => (l.length = len ∧ i < len) ∧ kev σ y fun e => kdc ti e fun cs => c (.v undef) [(.r g, .rp E n (l.set i (rowPut (l.getD i []) j n cs)))] [.r g]
        | false => False)
      | _ => False)
    | _ => False)
  | .buildSlice t len parts => kT T t fun ti => (match ti.el with
    | none => False
    | some E => kT T E fun te => (match parts.toList.length == len && inOrder 0 (parts.toList.map (·.1)) && decide (0 < te.sz) && decide (len * te.sz ≤ 16777216) with
      | true => kevs σ (parts.toList.map (·.2)) fun ds => krows te ds fun rows => c (.sl te.sz rows (some nm)) [(.r nm, .rw E te.sz len)] []
      | false => False))
  | .makeSlice t l x => kT T t fun ti => (match ti.el with
    | none => False
    | some E => kT T E fun te => kev σ l fun d => kev σ x fun e => (match d, e with
      | .v (.int .i64 0), .v (.int .i64 n) => (match Nat.ble 1 te.sz && Nat.ble te.bys 1000 with
        | true => (0 ≤ n ∧ n ≤ 1000000) ∧ c (.sl te.sz [] (some nm)) [(.r nm, .rw E te.sz 0)] []
        | false => False)
      | _, _ => False))
  | .lookup t x y ok => kev σ x fun d => kev σ y fun e => klk T σ t d e ok c
  | .mapUpdate t x y z => kev σ x fun d => kev σ y fun e => kev σ z fun f => kupd T σ t d e f c
  | .insert t x y z => kev σ x fun d => kev σ y fun e => kev σ z fun f => kupd T σ t d e f c
  | .makeMap _ r => (match r with | none => c (.mo nm) [(.o nm, .mp [])] [] | some _ => False)
  | .call cl => (match cl.callee, cl.args.toList, cl.argTypes.toList with
    | .builtin .append, [x, y], [t, t'] => (match Nat.beq t t' with
      | true => kev σ x fun d => kev σ y fun e => kapd T σ nm t d e c
      | false => False)
    | .builtin .clear, [x], [t] => kev σ x fun d => kclr T σ t d c
    | _, _, _ => other)
  | _ => other
theorem kmop_some {T : List (Nat × TI)} {σ : Env} {nm : Nat} {o : Oper} {c : D → List (Key × D) → List Key → Prop} {other : Prop} (h : kmop T σ nm o.op c other) : (∃ V W R, mop T σ nm o = some (V, W, R) ∧ c V W R) ∨ other := by
  unfold kmop at h
  unfold mop
  split at h
  · rename_i t ho
    rw [ho]
    obtain ⟨ti, h1, h⟩ := kT_some h
    exact .inl ⟨_, _, _, by simp [h1], kco_some (kzs_some h)⟩
  · rename_i t x ho
    rw [ho]
    obtain ⟨ti, h1, h⟩ := kT_some h
    obtain ⟨d, h2, h⟩ := kev_some h
    obtain ⟨l, h3, h⟩ := kdc_some h
    exact .inl ⟨_, _, _, by simp [h1, h2, h3], kco_some h⟩
  · rename_i t x y ho
    rw [ho]
    obtain ⟨ti, h1, h⟩ := kT_some h
    obtain ⟨d, h2, h⟩ := kev_some h
    split at h
    · obtain ⟨e, h3, h⟩ := kev_some h
      obtain ⟨l, h4, h⟩ := kdc_some h
      obtain ⟨l0, h5, h⟩ := kcells_some h
      exact .inl ⟨_, _, _, by simp [h1, h2, h3, h4, h5], kco_some h⟩
    · obtain ⟨d, h3, h⟩ := kget_some h
      split at h
      · split at h
        · rename_i hb
          simp only [Bool.and_eq_true] at hb
          have e1 := Nat.eq_of_beq_eq_true hb.1
          have e2 := Nat.le_of_ble_eq_true hb.2
          obtain ⟨⟨a1, a2⟩, h⟩ := h
          obtain ⟨e, h4, h⟩ := kev_some h
          obtain ⟨cs, h5, h⟩ := kdc_some h
          refine .inl ⟨_, _, _, ?_, h⟩
          simp only [h1, h2, h3, Option.bind_some]
          rw [if_pos ⟨e1, a1, a2, e2⟩, h4]
          simp [h5]
        · exact h.elim
      · exact h.elim
    · exact h.elim
  · rename_i t len parts ho
    rw [ho]
    obtain ⟨ti, h1, h⟩ := kT_some h
    cases hE : ti.el with
    | none => rw [hE] at h; exact h.elim
    | some E =>
      rw [hE] at h
      obtain ⟨te, h2, h⟩ := kT_some h
      split at h
      · rename_i hc
        obtain ⟨ds, h3, h⟩ := kevs_some h
        obtain ⟨rows, h4, h⟩ := krows_some h
        refine .inl ⟨_, _, _, ?_, h⟩
        unfold bslD
        simp only [h1, hE, h2, hc, h3, h4, if_true, Option.map_some]
      · exact h.elim
  · rename_i t l x ho
    rw [ho]
    obtain ⟨ti, h1, h⟩ := kT_some h
    cases hE : ti.el with
    | none => rw [hE] at h; exact h.elim
    | some E =>
      rw [hE] at h
      obtain ⟨te, h2, h⟩ := kT_some h
      obtain ⟨d, h3, h⟩ := kev_some h
      obtain ⟨e, h4, h⟩ := kev_some h
      split at h
      · split at h
        · rename_i hb
          simp only [Bool.and_eq_true] at hb
          refine .inl ⟨_, _, _, ?_, h.2⟩
          unfold mkslD
          simp only [h1, hE, h2, h3, h4]
          rw [if_pos ⟨by have := Nat.le_of_ble_eq_true hb.1; omega, Nat.le_of_ble_eq_true hb.2, h.1.1, h.1.2⟩]
        · exact h.elim
      · exact h.elim
  · rename_i t x y ok ho
    rw [ho]
    obtain ⟨d, h1, h⟩ := kev_some h
    obtain ⟨e, h2, h⟩ := kev_some h
    obtain ⟨V, W, R, h3, h⟩ := klk_some h
    exact .inl ⟨V, W, R, by simp only [h1, h2]; exact h3, h⟩
  · rename_i t x y z ho
    rw [ho]
    obtain ⟨d, h1, h⟩ := kev_some h
    obtain ⟨e, h2, h⟩ := kev_some h
    obtain ⟨f, h3, h⟩ := kev_some h
    obtain ⟨V, W, R, h4, h⟩ := kupd_some h
    exact .inl ⟨V, W, R, by simp only [h1, h2, h3]; exact h4, h⟩
  · rename_i t x y z ho
    rw [ho]
    obtain ⟨d, h1, h⟩ := kev_some h
    obtain ⟨e, h2, h⟩ := kev_some h
    obtain ⟨f, h3, h⟩ := kev_some h
    obtain ⟨V, W, R, h4, h⟩ := kupd_some h
    exact .inl ⟨V, W, R, by simp only [h1, h2, h3]; exact h4, h⟩
  · rename_i t r ho
    rw [ho]
    split at h
    · exact .inl ⟨_, _, _, rfl, h⟩
    · exact h.elim
  · rename_i cl ho
    rw [ho]
    split at h
    · rename_i x y t t' h1 h2 h3
      split at h
      · rename_i hb
        have := Nat.eq_of_beq_eq_true hb
        subst this
        obtain ⟨d, q1, q2⟩ := kev_some h
        obtain ⟨e, q3, q4⟩ := kev_some q2
        obtain ⟨V, W, R, q5, q6⟩ := kapd_some q4
        exact .inl ⟨V, W, R, by simp [h1, h2, h3, q1, q3, q5], q6⟩
      · exact h.elim
    · rename_i x t h1 h2 h3
      obtain ⟨d, q1, q2⟩ := kev_some h
      obtain ⟨V, W, R, q5, q6⟩ := kclr_some q2
      exact .inl ⟨V, W, R, by simp [h1, h2, h3, q1, q5], q6⟩
    · exact .inr h
  · exact .inr h

def kov : List (Nat × D) → Option Tmp → D → (D → Prop) → Prop
  | [], _, V, c => c V
  | _ :: _, none, V, c => c V
  | (t, V') :: r, some d, V, c => match Nat.beq t d with
    | true => VLe V V' ∧ c V'
    | false => kov r (some d) V c
theorem kov_some : ∀ {ov : List (Nat × D)} {dst : Option Tmp} {V : D} {c : D → Prop}, kov ov dst V c → ∃ V', VLe V V' ∧ c V'
  | [], _, _, _, h => ⟨_, VLe.refl _, h⟩
  | _ :: _, none, _, _, h => ⟨_, VLe.refl _, h⟩
  | (t, V') :: r, some d, V, c, h => by
    unfold kov at h
    split at h
    · exact ⟨V', h.1, h.2⟩
    · exact kov_some h
def kputs (σ : Env) : List (Key × D) → (Env → Prop) → Prop
  | [], c => c σ
  | (k, d) :: r, c => kputs ((k, d) :: σ) r c
theorem kputs_some : ∀ {W : List (Key × D)} {σ : Env} {c : Env → Prop}, kputs σ W c → c (puts σ W)
  | [], _, _, h => h
  | (k, d) :: W, σ, c, h => kputs_some (W := W) h
def kdst (σ : Env) (dst : Option Tmp) (V : D) (c : Env → Prop) : Prop := match dst with
  | none => c σ
  | some d => c ((.t d, V) :: σ)
theorem kdst_some {σ : Env} {dst : Option Tmp} {V : D} {c : Env → Prop} (h : kdst σ dst V c) : c (puts σ (dW dst V)) := by
  cases dst with
  | none => exact h
  | some d => exact h
def kR (σ : Env) : List (Key × D) → Prop
  | [] => True
  | (k, d) :: r => (get σ k = some d ∧ ckeyR k = true) ∧ kR σ r
theorem kR_all {σ : Env} : ∀ {R : List (Key × D)}, kR σ R → ∀ p ∈ R, get σ p.1 = some p.2 ∧ ckeyR p.1 = true
  | [], _, p, hp => by cases hp
  | (k, d) :: r, h, p, hp => by
    rcases List.mem_cons.1 hp with rfl | hp
    · exact h.1
    · exact kR_all h.2 p hp
def kdrop1 (R : List (Key × D)) : Env → (Env → Prop) → Prop
  | [], c => c []
  | (k, d) :: σ, c => match touches R k with
    | true => kdrop1 R σ c
    | false => kdrop1 R σ fun s => c ((k, d) :: s)
def kdropT (R : List (Key × D)) (σ : Env) (c : Env → Prop) : Prop := match R with
  | [] => c σ
  | r :: l => kdrop1 (r :: l) σ c
theorem kdrop1_some {R : List (Key × D)} : ∀ {σ : Env} {c : Env → Prop}, kdrop1 R σ c → c (dropT R σ)
  | [], _, h => h
  | (k, d) :: σ, c, h => by
    unfold kdrop1 at h
    unfold dropT
    rw [List.filter_cons]
    split at h
    · rename_i e; simp only [e]; exact kdrop1_some h
    · rename_i e; simp only [e]; exact kdrop1_some (c := fun s => c ((k, d) :: s)) h
theorem kdropT_some {R : List (Key × D)} {σ : Env} {c : Env → Prop} (h : kdropT R σ c) : c (dropT R σ) := by
  cases R with
  | nil => rw [dropT_nil]; exact h
  | cons r l => exact kdrop1_some h
def kcall (σ : Env) (o : Op) (c : FuncId → List D → Prop) : Prop := match o with
  | .call cl => (match cl.callee with
    | .value x => kev σ x fun d => (match d with
      | .fn f caps => kevs σ cl.args.toList fun ars => kapp ars caps fun ars => c f ars
      | _ => False)
    | _ => False)
  | _ => False
theorem kcall_some {σ : Env} {o : Oper} {c : FuncId → List D → Prop} (h : kcall σ o.op c) : ∃ f ars, callD σ o = some (f, ars) ∧ c f ars := by
  unfold kcall at h
  unfold callD
  split at h
  · rename_i cl ho
    try rw [ho]
    split at h
    · rename_i x hc
      obtain ⟨d, h1, h⟩ := kev_some h
      split at h
      · obtain ⟨ars, h2, h⟩ := kevs_some h
        exact ⟨_, _, by simp [hc, h1, h2], kapp_some h⟩
      · exact h.elim
    · exact h.elim
  · exact h.elim
def klg (draw : Bool) (e : Ent) (lg : List Ent) (c : List Ent → Prop) : Prop := match draw with
  | true => c (e :: lg)
  | false => c lg
def DRk (P : Program) (T : List (Nat × TI)) (ops : Array Oper) (nm : Nat) (draw : Bool) (ov : List (Nat × D)) : List Oper → Nat → Env → List Ent → (Env → List Ent → Prop) → Prop
  | [], _, σ, lg, K => K σ lg
  | o :: r, i, σ, lg, K =>
    match gd ops σ o.guard with
    | none => False
    | some false => kdst σ o.dst (.v undef) fun σ' => klg draw (gr ops o.guard, [], dk o.dst) lg fun lg => DRk P T ops nm draw ov r (i + 1) σ' lg K
    | some true =>
      kval T σ o.op (fun V => kov ov o.dst V fun V => kdst σ o.dst V fun σ' => klg draw (gr ops o.guard ++ trd o ++ mrd T σ o, [], dk o.dst) lg fun lg => DRk P T ops nm draw ov r (i + 1) σ' lg K)
        (knat (nm + i) fun k => kmop T σ k o.op (fun V W R => kov ov o.dst V fun V => kputs σ W fun σ1 => kdst σ1 o.dst V fun σ' => klg draw (gr ops o.guard ++ trd o ++ R, [], W.map (·.1) ++ dk o.dst) lg fun lg => DRk P T ops nm draw ov r (i + 1) σ' lg K)
          (kcall σ o.op fun f ars => ∃ R W V, CallX P f ars R k W V ∧ kR σ R ∧ kov ov o.dst V fun V => kdropT R σ fun σ0 => kputs σ0 W fun σ1 => kdst σ1 o.dst V fun σ' => klg draw (gr ops o.guard ++ trd o ++ R.map (·.1), R, W.map (·.1) ++ dk o.dst) lg fun lg => DRk P T ops nm draw ov r (i + 1) σ' lg K))
theorem drk_drg {P : Program} {T : List (Nat × TI)} {ops : Array Oper} {nm : Nat} {draw : Bool} {ov : List (Nat × D)} {K K2 : Env → List Ent → Prop} (hK : ∀ σ' lg lg', (draw = true → lg = lg') → K σ' lg → K2 σ' lg') :
    ∀ (os : List Oper) (i : Nat) (σ : Env) (lg lg' : List Ent), (draw = true → lg = lg') → DRk P T ops nm draw ov os i σ lg K → DRg P T ops nm os i σ lg' K2
  | [], _, σ, lg, lg', hl, h => hK σ lg lg' hl h
  | o :: r, i, σ, lg, lg', hl, h => by
    have hlg : ∀ (e : Ent) (σ' : Env), (klg draw e lg fun lg => DRk P T ops nm draw ov r (i + 1) σ' lg K) → DRg P T ops nm r (i + 1) σ' (e :: lg') K2 := fun e σ' h => by
      cases draw with
      | true => exact drk_drg hK r _ _ _ _ (fun _ => by rw [hl rfl]) h
      | false => exact drk_drg hK r _ _ _ _ (fun e => by cases e) h
    rw [DRg]
    rw [DRk] at h
    cases hg : gd ops σ o.guard with
    | none => rw [hg] at h; exact h.elim
    | some b =>
      rw [hg] at h
      cases b with
      | false => exact hlg _ _ (kdst_some h)
      | true =>
        simp only at h ⊢
        rcases kval_some h with ⟨V, h1, h⟩ | h
        · rw [h1]; obtain ⟨V', hle, h⟩ := kov_some h; exact ⟨V', hle, hlg _ _ (kdst_some h)⟩
        · rcases kmop_some (knat_some h) with ⟨V, W, R, h1, h⟩ | h
          · cases hp : pval T σ o with
            | some V' =>
              exfalso
              have : pval T σ o = none := pval_none_of_mop h1
              rw [this] at hp; cases hp
            | none =>
              simp only [h1]
              obtain ⟨V', hle, h⟩ := kov_some h
              refine ⟨V', hle, ?_⟩
              rw [puts_append]
              exact hlg _ _ (kdst_some (kputs_some h))
          · obtain ⟨f, ars, h1, h⟩ := kcall_some h
            obtain ⟨R, W, V, h2, h3, h⟩ := h
            obtain ⟨n1, n2⟩ := none_of_call (nm := nm + i) (T := T) h1
            simp only [n1, n2, h1]
            obtain ⟨V', hle, h⟩ := kov_some h
            refine ⟨R, W, V, h2, kR_all h3, V', hle, ?_⟩
            rw [puts_append]
            exact hlg _ _ (kdst_some (kputs_some (kdropT_some h)))
section
variable {P : Program} {T : List (Nat × TI)} {cx : Cx} {σ : List (Key × D)} {N : Nat} {Q : Exit → List (Key × D) → Nat → Prop} {nt N1 : Nat}
theorem dw_k (ov : List (Nat × D)) (hT : TabOk P T) (hm : P.follows .mixedOrders = true) (hnt : cx.nt = nt) {id : Nat} {ops : Array Oper} (hd : dstOk nt ops = true) (hN : N + ops.size = N1) (h : ∀ K : Env → List Ent → Prop, (∀ σ' lg, Q .normal σ' N1 → K σ' lg) → DRk P T ops N false ov ops.toList 0 σ [] K) : DW P cx (.region id ops false) σ N Q :=
  dw_region hT hm (by rw [hnt]; exact hd) (drk_drg (K := fun σ' _ => Q .normal σ' N1) (fun σ' lg lg' _ hk => ⟨fun e => (by cases e), hN ▸ hk⟩) _ _ _ _ _ (fun e => by cases e) (h _ fun _ _ h => h))
theorem dw_kD (ov : List (Nat × D)) (hT : TabOk P T) (hm : P.follows .mixedOrders = true) (hnt : cx.nt = nt) {id : Nat} {ops : Array Oper} (hd : dstOk nt ops = true) (hN : N + ops.size = N1) (h : ∀ K : Env → List Ent → Prop, (∀ σ' lg, chkB ops lg = true → Q .normal σ' N1 → K σ' lg) → DRk P T ops N true ov ops.toList 0 σ [] K) : DW P cx (.region id ops true) σ N Q :=
  dw_region hT hm (by rw [hnt]; exact hd) (drk_drg (K := fun σ' lg => chkB ops lg = true ∧ Q .normal σ' N1) (fun σ' lg lg' e hk => by
    rw [← e rfl]; exact ⟨fun _ => hk.1, hN ▸ hk.2⟩) _ _ _ _ _ (fun _ => rfl) (h _ fun _ _ h1 h2 => ⟨h1, h2⟩))
end
theorem dtrue {p : Prop} [Decidable p] (h : p) : VLe (.v (.bool (decide p))) (.v (.bool true)) := .of_eq (by simp [h])
theorem dfalse {p : Prop} [Decidable p] (h : ¬ p) : VLe (.v (.bool (decide p))) (.v (.bool false)) := .of_eq (by simp [h])
theorem dintE {a b : Int} (h : a = b) : VLe (.v (.int .i64 a)) (.v (.int .i64 b)) := .of_eq (by rw [h])
/-! what a walk's steps are proved by, unless it says so -/
theorem auT {x : D} (h : VLe x (.v (.bool true)) := by first | exact dtrue (by omega) | exact VLe.of_eq (by simp [*]; done) | exact dtrue (by first | omega | (simp only [List.length_append, List.length_take, List.length_cons, List.length_nil, eTms_len, eTys_len]; omega) | assumption | (simp_all; done)) | exact VLe.of_eq (by simp_all; done)) : VLe x (.v (.bool true)) := h
theorem auF {x : D} (h : VLe x (.v (.bool false)) := by first | exact dfalse (by omega) | exact VLe.of_eq (by simp [*]; done) | exact dfalse (by first | omega | (simp only [List.length_append, List.length_take, List.length_cons, List.length_nil, eTms_len, eTys_len]; omega) | assumption | (simp_all; done)) | exact VLe.of_eq (by simp_all; done)) : VLe x (.v (.bool false)) := h
theorem auI {x : D} {b : Int} (h : VLe x (.v (.int .i64 b)) := by exact dintE (by first | omega | exact IntWalk.i64_in _ (by omega) | (rw [IntWalk.i64_in _ (by omega)]; omega) | (simp only [List.length_append, List.length_take, List.length_cons, List.length_nil, eTms_len, eTys_len]; omega) | assumption | (simp_all; done))) : VLe x (.v (.int .i64 b)) := h
theorem auV {x y : D} (h : VLe x y := by repeat first | exact VLe.refl _ | exact VLe.nil _ | exact VLe.untag _ _ _ | refine VLe.ag ?_ | refine VLe.tu ?_ | refine VLeL.cons ?_ ?_ | exact VLeL.nil) : VLe x y := h
theorem elo {l : List (List D)} {n j : Nat} (hl : l.length = n) (hj : j < n := by omega) : 0 ≤ ((j : Nat) : Int) ∧ ((j : Nat) : Int) < ((l.length : Nat) : Int) := ⟨by omega, by omega⟩
theorem elv {l : List (List D)} {n j : Nat} {r r' : List D} (h : ∀ _ : j < n, l.getD j [] = r) (e : r = r') (hj : j < n := by omega) : VLe (.q (l.getD (Int.toNat ((j : Nat) : Int)) [])) (.q r') := VLe.of_eq (by rw [Int.toNat_natCast, h hj, e])
theorem dcl {P : Program} {f : FuncId} {ars : List D} {nm : Nat} {σ : Env} {R W : List (Key × D)} {V : D} {c : List (Key × D) → List (Key × D) → D → Prop} (h : CallC P f ars R W V) (hk : c R W V) (hR : kR σ R := by repeat first | exact trivial | refine And.intro ⟨rfl, rfl⟩ ?_) : ∃ R W V, CallX P f ars R nm W V ∧ kR σ R ∧ c R W V := ⟨R, W, V, .inl h, hR, hk⟩
theorem dcn {P : Program} {f : FuncId} {ars : List D} {nm : Nat} {σ : Env} {R W : List (Key × D)} {V : D} {c : List (Key × D) → List (Key × D) → D → Prop} (h : CallN P f ars R nm W V) (hk : c R W V) (hR : kR σ R := by repeat first | exact trivial | refine And.intro ⟨rfl, rfl⟩ ?_) : ∃ R W V, CallX P f ars R nm W V ∧ kR σ R ∧ c R W V := ⟨R, W, V, .inr h, hR, hk⟩
section
variable {P : Program} {T : List (Nat × TI)} {cx : Cx} {σ τ : List (Key × D)} {N : Nat} {Q : Exit → List (Key × D) → Nat → Prop} {nt N1 : Nat}
theorem dwk (ov : List (Nat × D)) (hT : TabOk P T) (hnt : cx.nt = nt) {id : Nat} {ops : Array Oper} (h : ∀ K : Env → List Ent → Prop, (∀ σ' lg, Q .normal σ' N1 → K σ' lg) → DRk P T ops N false ov ops.toList 0 σ [] K) (hm : P.follows .mixedOrders = true := by kernel_rfl) (hd : dstOk nt ops = true := by kernel_rfl) (hN : N + ops.size = N1 := by simp only [List.size_toArray, List.length_cons, List.length_nil, Nat.reduceAdd]; rfl) : DW P cx (.region id ops false) σ N Q := dw_k ov hT hm hnt hd hN h
theorem dwkD (ov : List (Nat × D)) (hT : TabOk P T) (hnt : cx.nt = nt) {id : Nat} {ops : Array Oper} (h : ∀ K : Env → List Ent → Prop, (∀ σ' lg, chkB ops lg = true → Q .normal σ' N1 → K σ' lg) → DRk P T ops N true ov ops.toList 0 σ [] K) (hm : P.follows .mixedOrders = true := by kernel_rfl) (hd : dstOk nt ops = true := by kernel_rfl) (hN : N + ops.size = N1 := by simp only [List.size_toArray, List.length_cons, List.length_nil, Nat.reduceAdd]; rfl) : DW P cx (.region id ops true) σ N Q := dw_kD ov hT hm hnt hd hN h
theorem VS.toA (hN : cx.n0 ≤ N1 := by omega) (h : kV N1 σ τ := by repeat first | exact trivial | refine And.intro (And.intro (by first | rfl | simp [D.ok, D.oks, D.okss, D.okm, upto, keyOk]) (by first | exact Or.inl rfl | (refine Or.inr ⟨_, rfl, ?_, trivial⟩; repeat first | exact VLe.refl _ | exact VLe.nil _ | exact VLe.untag _ _ _ | refine VLe.ag ?_ | refine VLe.tu ?_ | refine VLeL.cons ?_ ?_ | exact VLeL.nil; done) | (simp [get, Key.eq]; done))) ?_) : VS cx σ N τ N1 := VS.toK hN h
theorem calldw {f : FuncId} {fn : Func} {c : Code} {args : List D} {R W : List (Key × D)} {V : D} (N0 nt : Nat) (rs : List ResultVar) (hT : TabOk P T) (hf : P.funcs[f]? = some fn) (hb : fn.body = some c) (hnt : fn.ntmps = nt) (hrs : fn.results.toList = rs) (h : ∀ cx : Cx, cx.nt = nt → cx.n0 = N0 → DW P cx c (argsT 0 args R) N0 (RetOk T rs V W)) (hw : wordsOk args R W V N0 = true := by simp [wordsOk, D.ok, D.oks, D.okss, rnames, inN, ckey]) (hen : entersB P f = true := by kernel_rfl) (hal : args.length ≤ nt := by simp) : CallC P f args R W V := call_of_dw N0 nt rs hT hen hf hb hnt hrs hal hw h
end
end Go.Proofs.Ytcblpjheoclkeaa

namespace Go.Proofs.Ytcblpjheoclkeaa
open Go.RowKit

mutual
def D.ren (ρ : Nat → Nat) : D → D
  | .v x => .v x
  | .sl n l g => .sl n (D.renss ρ l) g
  | .p k off => .p (ρ k) off
  | .q l => .q (D.rens ρ l)
  | .ag l => .ag (D.rens ρ l)
  | .tu l => .tu (D.rens ρ l)
  | .fn f l => .fn f (D.rens ρ l)
  | .rw a b c => .rw a b c
  | .o k => .o (ρ k)
  | .mo k => .mo (ρ k)
  | .mp l => .mp (D.renm ρ l)
  | .ob J => .ob J
  | .j X J => .j X J
  | .cl n l => .cl n (D.renss ρ l)
  | .rp E n l => .rp E n (D.renss ρ l)
  | .ps g len => .ps g len
  | .pr g len n i0 j0 => .pr g len n i0 j0
  | .pt g len n lo => .pt g len n lo
  | .mq bm es clock l => .mq bm es clock (D.renm ρ l)
  | .it k bm es clock rem last => .it (ρ k) bm es clock rem last
def D.rens (ρ : Nat → Nat) : List D → List D
  | [] => []
  | d :: l => D.ren ρ d :: D.rens ρ l
def D.renss (ρ : Nat → Nat) : List (List D) → List (List D)
  | [] => []
  | d :: l => D.rens ρ d :: D.renss ρ l
def D.renm (ρ : Nat → Nat) : List (Int × D) → List (Int × D)
  | [] => []
  | (i, d) :: l => (i, D.ren ρ d) :: D.renm ρ l
end
theorem D.rens_map (ρ : Nat → Nat) : ∀ l : List D, D.rens ρ l = l.map (D.ren ρ)
  | [] => rfl
  | d :: l => by rw [D.rens, D.rens_map ρ l, List.map_cons]
theorem D.renss_map (ρ : Nat → Nat) : ∀ l : List (List D), D.renss ρ l = l.map (D.rens ρ)
  | [] => rfl
  | d :: l => by rw [D.renss, D.renss_map ρ l, List.map_cons]
theorem D.renm_map (ρ : Nat → Nat) : ∀ l : List (Int × D), D.renm ρ l = l.map fun p => (p.1, p.2.ren ρ)
  | [] => rfl
  | (i, d) :: l => by rw [D.renm, D.renm_map ρ l, List.map_cons]
/-! what has no names stays as it is -/
mutual
theorem D.ren_id {f g : Nat → Bool} {ρ : Nat → Nat} (hf : ∀ k, f k = true → ρ k = k) : ∀ d : D, d.ok f g = true → d.ren ρ = d
  | .v _, _ => rfl
  | .sl n l r, h => by simp only [D.ok, Bool.and_eq_true] at h; rw [D.ren, D.renss_id hf l h.1]
  | .p k off, h => by simp only [D.ok] at h; rw [D.ren, hf k h]
  | .q l, h => by simp only [D.ok] at h; rw [D.ren, D.rens_id hf l h]
  | .ag l, h => by simp only [D.ok] at h; rw [D.ren, D.rens_id hf l h]
  | .tu l, h => by simp only [D.ok] at h; rw [D.ren, D.rens_id hf l h]
  | .fn _ l, h => by simp only [D.ok] at h; rw [D.ren, D.rens_id hf l h]
  | .rw _ _ _, _ => rfl
  | .o k, h => by simp only [D.ok] at h; rw [D.ren, hf k h]
  | .mo k, h => by simp only [D.ok] at h; rw [D.ren, hf k h]
  | .mp l, h => by simp only [D.ok] at h; rw [D.ren, D.renm_id hf l h]
  | .ob _, _ => rfl
  | .j _ _, _ => rfl
  | .cl n l, h => by simp only [D.ok] at h; rw [D.ren, D.renss_id hf l h]
  | .rp E n l, h => by simp only [D.ok] at h; rw [D.ren, D.renss_id hf l h]
  | .ps _ _, _ => rfl
  | .pr _ _ _ _ _, _ => rfl
  | .pt _ _ _ _, _ => rfl
  | .mq _ _ _ l, h => by simp only [D.ok] at h; rw [D.ren, D.renm_id hf l h]
  | .it k _ _ _ _ _, h => by simp only [D.ok] at h; rw [D.ren, hf k h]
theorem D.rens_id {f g : Nat → Bool} {ρ : Nat → Nat} (hf : ∀ k, f k = true → ρ k = k) : ∀ l : List D, D.oks f g l = true → D.rens ρ l = l
  | [], _ => rfl
  | d :: l, h => by simp only [D.oks, Bool.and_eq_true] at h; rw [D.rens, D.ren_id hf d h.1, D.rens_id hf l h.2]
theorem D.renss_id {f g : Nat → Bool} {ρ : Nat → Nat} (hf : ∀ k, f k = true → ρ k = k) : ∀ l : List (List D), D.okss f g l = true → D.renss ρ l = l
  | [], _ => rfl
  | d :: l, h => by simp only [D.okss, Bool.and_eq_true] at h; rw [D.renss, D.rens_id hf d h.1, D.renss_id hf l h.2]
theorem D.renm_id {f g : Nat → Bool} {ρ : Nat → Nat} (hf : ∀ k, f k = true → ρ k = k) : ∀ l : List (Int × D), D.okm f g l = true → D.renm ρ l = l
  | [], _ => rfl
  | (i, d) :: l, h => by simp only [D.okm, Bool.and_eq_true] at h; rw [D.renm, D.ren_id hf d h.1, D.renm_id hf l h.2]
end
def Key.ren (ρ : Nat → Nat) : Key → Key
  | .c k off => .c (ρ k) off
  | .o k => .o (ρ k)
  | k => k
def renE (ρ : Nat → Nat) (p : Key × D) : Key × D := (p.1.ren ρ, p.2.ren ρ)

section
variable {P : Program} {m m' : Mp} {Im Im' : Nat → Nat → Prop} {w w' : World} {ρ : Nat → Nat} {f : Nat → Bool}
def Mp.ren (m : Mp) (ρ : Nat → Nat) (f : Nat → Bool) : Mp := ⟨fun k => if f k then m.blk (ρ k) else none, fun _ => none, fun k => if f k then m.obj (ρ k) else none⟩
theorem Mp.ren_blk {k b : Nat} (h : (m.ren ρ f).blk k = some b) : f k = true ∧ m.blk (ρ k) = some b := by
  by_cases hk : f k = true
  · exact ⟨hk, by simpa [Mp.ren, hk] using h⟩
  · simp [Mp.ren, hk] at h
theorem Mp.ren_obj {k b : Nat} (h : (m.ren ρ f).obj k = some b) : f k = true ∧ m.obj (ρ k) = some b := by
  by_cases hk : f k = true
  · exact ⟨hk, by simpa [Mp.ren, hk] using h⟩
  · simp [Mp.ren, hk] at h
theorem Rel.unren {x : Value} {d e : D} (h : Rel m Im w x e) (he : d.ren ρ = e) (hd : d.ok f noR = true) : Rel (m.ren ρ f) Im w x d := by
  induction h generalizing d with
  | v x => cases d <;> simp only [D.ren] at he <;> cases he; exact .v x
  | p k off b h =>
    cases d <;> simp only [D.ren] at he <;> cases he
    simp only [D.ok] at hd
    exact .p _ _ b (by simp only [Mp.ren, hd, if_true]; exact h)
  | o k b h =>
    cases d <;> simp only [D.ren] at he <;> cases he
    simp only [D.ok] at hd
    exact .o _ b (by simp only [Mp.ren, hd, if_true]; exact h)
  | mo k b h =>
    cases d <;> simp only [D.ren] at he <;> cases he
    simp only [D.ok] at hd
    exact .mo _ b (by simp only [Mp.ren, hd, if_true]; exact h)
  | q bl off X l h hr ih =>
    cases d <;> simp only [D.ren] at he <;> cases he
    rename_i l0
    simp only [D.ok] at hd
    have hl : (D.rens ρ l0).length = l0.length := by rw [D.rens_map]; simp
    refine .q bl off X l0 (fun i hi => h i (by omega)) fun i hi => ?_
    exact ih i (by omega) (by simp [D.rens_map]) (D.oks_get hd i hi)
  | ag cs l hn hr ih =>
    cases d <;> simp only [D.ren] at he <;> cases he
    rename_i l0
    simp only [D.ok] at hd
    have hl : (D.rens ρ l0).length = l0.length := by rw [D.rens_map]; simp
    exact .ag cs l0 (by omega) fun i hi => ih i (by omega) (by simp [D.rens_map]) (D.oks_get hd i hi)
  | tu cs l hn hr ih =>
    cases d <;> simp only [D.ren] at he <;> cases he
    rename_i l0
    simp only [D.ok] at hd
    have hl : (D.rens ρ l0).length = l0.length := by rw [D.rens_map]; simp
    exact .tu cs l0 (by omega) fun i hi => ih i (by omega) (by simp [D.rens_map]) (D.oks_get hd i hi)
  | fn g cs l hn hr ih =>
    cases d <;> simp only [D.ren] at he <;> cases he
    rename_i l0
    simp only [D.ok] at hd
    have hl : (D.rens ρ l0).length = l0.length := by rw [D.rens_map]; simp
    exact .fn g cs l0 (by omega) fun i hi => ih i (by omega) (by simp [D.rens_map]) (D.oks_get hd i hi)
  | sl a c bl off n X l g h1 ha hc hn ho hr hg ih =>
    cases d <;> simp only [D.ren] at he <;> cases he
    rename_i l0
    simp only [D.ok, Bool.and_eq_true] at hd
    have hl : (D.renss ρ l0).length = l0.length := by rw [D.renss_map]; simp
    have hl2 : ∀ i (hi : i < l0.length), ((D.renss ρ l0)[i]'(by omega)) = D.rens ρ l0[i] := fun i hi => by simp [D.renss_map]
    have hl3 : ∀ i (hi : i < l0.length), ((D.renss ρ l0)[i]'(by omega)).length = l0[i].length := fun i hi => by rw [hl2 i hi, D.rens_map]; simp
    rw [hl] at h1 ha ⊢
    refine .sl a c bl off n X l0 g h1 ha (fun i j hi hj => hc i j (by omega) hj) (fun i hi => by rw [← hl3 i hi]; exact hn i (by omega)) (fun i j hi hj => ho i j (by omega) hj)
      (fun i hi j hj => ih i (by omega) j (by rw [hl3 i hi]; exact hj) (by simp [D.renss_map, D.rens_map]) (D.oks_get (D.okss_get hd.1 i hi) j hj)) fun r e => ?_
    have := hd.2
    subst e
    simp [noR] at this
  | cl a n l h ih =>
    cases d <;> simp only [D.ren] at he <;> cases he
    rename_i l0
    have hl : (D.renss ρ l0).length = l0.length := by rw [D.renss_map]; simp
    have := ih (d := .sl n l0 none) (by rw [D.ren]) (by simp only [D.ok] at hd ⊢; simp [hd])
    rw [hl] at this ⊢
    exact .cl a n l0 this
  | ps a c g len ha hcp h =>
    cases d <;> simp only [D.ren] at he <;> cases he
    simp [D.ok, noR] at hd
  | pt a c g len n lo h =>
    cases d <;> simp only [D.ren] at he <;> cases he
    simp [D.ok, noR] at hd
  | pr g len n i j b h =>
    cases d <;> simp only [D.ren] at he <;> cases he
    simp [D.ok, noR] at hd
theorem Rel.ren {x : Value} {d : D} (h : Rel m' Im w x d) (hb : ∀ k b, m'.blk k = some b → m.blk (ρ k) = some b) (ho' : ∀ k b, m'.obj k = some b → m.obj (ρ k) = some b) (hrow : ∀ r, m'.row r = none) : Rel m Im w x (d.ren ρ) := by
  induction h with
  | v x => exact .v x
  | p k off b h => exact .p _ off b (hb k b h)
  | o k b h => exact .o _ b (ho' k b h)
  | mo k b h => exact .mo _ b (ho' k b h)
  | q bl off X l h hr ih =>
    rw [D.ren, D.rens_map]
    exact .q bl off X _ (fun i hi => h i (by simpa using hi)) fun i hi => by rw [List.getElem_map]; exact ih i (by simpa using hi)
  | ag cs l hn hr ih =>
    rw [D.ren, D.rens_map]
    exact .ag cs _ (by simpa using hn) fun i hi => by rw [List.getElem_map]; exact ih i (by simpa using hi)
  | tu cs l hn hr ih =>
    rw [D.ren, D.rens_map]
    exact .tu cs _ (by simpa using hn) fun i hi => by rw [List.getElem_map]; exact ih i (by simpa using hi)
  | fn g cs l hn hr ih =>
    rw [D.ren, D.rens_map]
    exact .fn g cs _ (by simpa using hn) fun i hi => by rw [List.getElem_map]; exact ih i (by simpa using hi)
  | sl a c bl off n X l g h1 ha hc hn ho hr hg ih =>
    rw [D.ren, D.renss_map]
    have hl : (l.map (D.rens ρ)).length = l.length := by simp
    rw [← hl] at h1 ha ⊢
    refine .sl a c bl off n X _ g h1 ha (fun i j hi hj => hc i j (by omega) hj) (fun i hi => by rw [List.getElem_map, D.rens_map, List.length_map]; exact hn i (by omega)) (fun i j hi hj => ho i j (by omega) hj)
      (fun i hi j hj => ?_) fun r e => ?_
    · have : (l.map (D.rens ρ))[i] = (l[i]'(by omega)).map (D.ren ρ) := by simp [D.rens_map]
      simp only [this, List.getElem_map]
      exact ih i (by omega) j (by rw [List.getElem_map, D.rens_map, List.length_map] at hj; exact hj)
    · obtain ⟨R, q, _⟩ := hg r e
      rw [hrow r] at q; cases q
  | cl a n l h ih =>
    have hl : (D.renss ρ l).length = l.length := by rw [D.renss_map]; simp
    simp only [D.ren] at ih ⊢
    rw [← hl] at ih ⊢
    exact .cl a n _ ih
  | ps a c g len ha hcp h =>
    obtain ⟨R, q, _⟩ := h
    rw [hrow g] at q; cases q
  | pt a c g len n lo h =>
    obtain ⟨R, q, _⟩ := h
    rw [hrow g] at q; cases q
  | pr g len n i j b h =>
    obtain ⟨R, q, _⟩ := h
    rw [hrow g] at q; cases q
theorem ObOk.unren {b : Nat} {d e : D} (h : ObOk m Im w b e) (he : d.ren ρ = e) (hd : d.ok f noR = true) : ObOk (m.ren ρ f) Im w b d := by
  cases h with
  | mp es clock l h1 h2 h3 h4 h5 =>
    cases d <;> simp only [D.ren] at he <;> cases he
    rename_i l0
    simp only [D.ok] at hd
    have hl : (D.renm ρ l0).length = l0.length := by rw [D.renm_map]; simp
    refine .mp es clock l0 h1 (by omega) (fun i hi => ?_) (fun i hi v hv => ?_) h5
    · have := h3 i (by omega); simpa [D.renm_map] using this
    · exact (h4 i (by omega) v hv).unren (by simp [D.renm_map]) (D.okm_get hd i hi)
  | mq es clock l h1 h2 h3 h4 h5 =>
    cases d <;> simp only [D.ren] at he <;> cases he
    rename_i l0
    simp only [D.ok] at hd
    have hl : (D.renm ρ l0).length = l0.length := by rw [D.renm_map]; simp
    refine .mq es clock l0 h1 (by omega) (fun i hi => ?_) (fun i hi v hv => ?_) h5
    · have := h3 i (by omega); simpa [D.renm_map] using this
    · exact (h4 i (by omega) v hv).unren (by simp [D.renm_map]) (D.okm_get hd i hi)
  | it k bm es clock rem last seen h1 h2 h3 h4 h5 h6 =>
    cases d <;> simp only [D.ren] at he <;> cases he
    simp only [D.ok] at hd
    exact .it _ bm es clock rem last seen (by simp only [Mp.ren, hd, if_true]; exact h1) h2 h3 h4 h5 h6
  | ob J h hs =>
    cases d <;> simp only [D.ren] at he <;> cases he
    exact .ob J h hs
theorem ObOk.ren {b : Nat} {d : D} (h : ObOk m' Im w b d) (hb : ∀ k b, m'.blk k = some b → m.blk (ρ k) = some b) (ho' : ∀ k b, m'.obj k = some b → m.obj (ρ k) = some b) (hrow : ∀ r, m'.row r = none) : ObOk m Im w b (d.ren ρ) := by
  cases h with
  | mp es clock l h1 h2 h3 h4 h5 =>
    rw [D.ren, D.renm_map]
    exact .mp es clock _ h1 (by simpa using h2) (fun i hi => by simpa using h3 i (by simpa using hi)) (fun i hi v hv => by
      have := (h4 i (by simpa using hi) v hv).ren hb ho' hrow
      simpa using this) h5
  | mq es clock l h1 h2 h3 h4 h5 =>
    rw [D.ren, D.renm_map]
    exact .mq es clock _ h1 (by simpa using h2) (fun i hi => by simpa using h3 i (by simpa using hi)) (fun i hi v hv => by
      have := (h4 i (by simpa using hi) v hv).ren hb ho' hrow
      simpa using this) h5
  | it k bm es clock rem last seen h1 h2 h3 h4 h5 h6 => exact .it _ bm es clock rem last seen (ho' k bm h1) h2 h3 h4 h5 h6
  | ob J h hs => exact .ob J h hs

def renOk (args : List D) (R W : List (Key × D)) (V : D) : Bool :=
  args.all (fun d => d.ok (inN R) noR) && R.all (fun p => p.2.ok (inN R) noR && ckey p.1) && W.all (fun p => p.2.ok (inN R) noR && (match p.1 with | .c k _ => inN R k | .o k => inN R k | .j => R.any fun p => isJ p.1 | _ => false)) && V.ok (inN R) noR
theorem CallC.ren {g : FuncId} {args : List D} {R W : List (Key × D)} {V : D} (h : CallC P g args R W V) (ρ : Nat → Nat) (hw : renOk args R W V = true) (hinj : ∀ k ∈ rnames R, ∀ k' ∈ rnames R, ρ k = ρ k' → k = k') :
    CallC P g (args.map (D.ren ρ)) (R.map (renE ρ)) (W.map (renE ρ)) (V.ren ρ) := by
  refine ⟨h.1, fun cx Fr m Im w vs hmem hargs hR => ?_⟩
  simp only [renOk, Bool.and_eq_true, List.all_eq_true] at hw
  obtain ⟨⟨⟨w1, w2⟩, w3⟩, w4⟩ := hw
  have hinj : ∀ k k', inN R k = true → inN R k' = true → ρ k = ρ k' → k = k' := fun k k' hk hk' => by
    unfold inN at hk hk'
    rw [List.contains_iff_mem] at hk hk'
    exact hinj k hk k' hk'
  have hmemR : ∀ p ∈ R, renE ρ p ∈ R.map (renE ρ) := fun p hp => List.mem_map.2 ⟨p, hp, rfl⟩
  have hTb : ∀ k b, inN R k = true → m.blk (ρ k) = some b → Tch m (R.map (renE ρ)) b := fun k b hk hb => by
    rcases of_rnames hk with ⟨off, d, hm⟩ | ⟨d, hm⟩
    · exact .inl ⟨ρ k, off, d.ren ρ, hmemR _ hm, hb⟩
    · obtain ⟨b', q1, _⟩ := hR _ (hmemR _ hm)
      have := hmem.dis _ b hb
      rw [this] at q1; cases q1
  have hTo : ∀ k b, inN R k = true → m.obj (ρ k) = some b → Tch m (R.map (renE ρ)) b := fun k b hk hb => by
    rcases of_rnames hk with ⟨off, d, hm⟩ | ⟨d, hm⟩
    · obtain ⟨b', v, q1, _⟩ := hR _ (hmemR _ hm)
      have := hmem.dis _ b' q1
      rw [this] at hb; cases hb
    · exact .inr (.inr ⟨ρ k, d.ren ρ, hmemR _ hm, hb⟩)
  have hX : ∀ X J, (Key.j, D.j X J) ∈ R → XOk cx m Im w X J := fun X J hm => by
    obtain ⟨X', J', e, hx⟩ := hR _ (hmemR _ hm)
    have e : D.j X J = D.j X' J' := e
    cases e; exact hx
  let m' := m.ren ρ (inN R)
  let cx' : Cx := { w0 := w, C := Tch m (R.map (renE ρ)), Im0 := Im, m0 := ⟨fun _ => none, fun _ => none, fun _ => none⟩, nt := 0, n0 := 0, h0 := (fun k b hk => by cases hk), h0o := (fun k b hk => by cases hk) }
  have hmem' : MemOk cx' (fun _ => False) m' Im w := {
    off := Off.refl _ _, im := hmem.im, imb := fun b o hi => .inl hi, im0 := fun b o hi => hi
    own := fun k b hk => .inl (hTb k b (Mp.ren_blk hk).1 (Mp.ren_blk hk).2)
    lt := fun k b hk => hmem.lt _ b (Mp.ren_blk hk).2
    free := fun k b o hk => hmem.free _ b o (Mp.ren_blk hk).2
    nim := fun k b o hk => hmem.nim _ b o (Mp.ren_blk hk).2
    inj := fun k k' b hk hk' => hinj k k' (Mp.ren_blk hk).1 (Mp.ren_blk hk').1 (hmem.inj _ _ b (Mp.ren_blk hk).2 (Mp.ren_blk hk').2)
    row := fun g R hg => by cases hg
    k0 := KeepI.refl _ _
    rown := fun g R b hg => by cases hg
    m0r := fun g R hg => by cases hg
    rIm := fun g R b o hg => by cases hg
    rblk := fun g R b k hg => by cases hg
    rinj := fun g g' R R' b hg => by cases hg
    fr := fun k hk => hk.elim
    m0 := fun k b hk => by cases hk
    m0o := fun k b hk => by cases hk
    oown := fun k b hk => .inl (hTo k b (Mp.ren_obj hk).1 (Mp.ren_obj hk).2)
    olt := fun k b hk => hmem.olt _ b (Mp.ren_obj hk).2
    onim := fun k b o hk => hmem.onim _ b o (Mp.ren_obj hk).2
    oinj := fun k k' b hk hk' => hinj k k' (Mp.ren_obj hk).1 (Mp.ren_obj hk').1 (hmem.oinj _ _ b (Mp.ren_obj hk).2 (Mp.ren_obj hk').2)
    oblk := fun k k' b hk hk' => hmem.oblk _ _ b (Mp.ren_obj hk).2 (Mp.ren_blk hk').2
    orow := fun k g R b hk hg => by cases hg
    dis := fun k b hk => by
      have := hmem.dis _ b (Mp.ren_blk hk).2
      show (if _ then m.obj (ρ k) else none) = none
      rw [this]; simp }
  have hargs' : RelL m' Im w vs args := by
    rw [relL_iff] at hargs ⊢
    refine ⟨by simpa using hargs.1, fun i hi => ?_⟩
    exact (hargs.2 i (by simpa using hi)).unren (by simp) (w1 _ (List.getElem_mem hi))
  have hR' : Holds cx' m' Im w R := fun p hp => by
    have hh := hR _ (hmemR _ hp)
    have hok := w2 p hp
    obtain ⟨key, d⟩ := p
    cases key with
    | c k off =>
      obtain ⟨b, v, q1, q2, q3⟩ := hh
      have hk := mem_rnames hp
      exact ⟨b, v, by show (if inN R k then m.blk (ρ k) else none) = _; rw [if_pos hk]; exact q1, q2, q3.unren rfl hok.1⟩
    | o k =>
      obtain ⟨b, q1, q2⟩ := hh
      have hk := mem_rnamesO hp
      exact ⟨b, by show (if inN R k then m.obj (ρ k) else none) = _; rw [if_pos hk]; exact q1, q2.unren rfl hok.1⟩
    | j =>
      obtain ⟨X, J, e, hx⟩ := hh
      cases d <;> simp only [renE, D.ren] at e <;> cases e
      exact ⟨X, J, rfl, { hx with own := fun b hb => .inl (.inr (.inl ⟨X, J, hmemR _ hp, hb⟩)), blk := fun b k hb hk => hx.blk b _ hb (Mp.ren_blk hk).2, row := (fun b g R hb hg => by cases hg), obj := fun b k hb hk => hx.obj b _ hb (Mp.ren_obj hk).2 }⟩
    | t x => cases hok.2
    | r g => cases hok.2
  have hTch : ∀ b, Tch m' R b → Tch m (R.map (renE ρ)) b := fun b hb => by
    rcases hb with ⟨k, off, d, hm, hb⟩ | ⟨X, J, hm, hb⟩ | ⟨k, d, hm, hb⟩
    · exact .inl ⟨ρ k, off, d.ren ρ, hmemR _ hm, (Mp.ren_blk hb).2⟩
    · exact .inr (.inl ⟨X, J, hmemR _ hm, hb⟩)
    · exact .inr (.inr ⟨ρ k, d.ren ρ, hmemR _ hm, (Mp.ren_obj hb).2⟩)
  refine (h.2 cx' _ m' Im w vs hmem' hargs' hR').mono ?_
  rintro e w' ⟨v, Im', rfl, q1, q2, q3, q4, q5, q6, q7⟩
  have hoff : Off (Tch m (R.map (renE ρ))) w w' := ⟨q1.os, q1.tape, q1.output, q1.size, fun b hb hn => q1.block b hb fun ht => hn (hTch b ht)⟩
  refine ⟨v, Im', rfl, hoff, q2, q3, q4, fun k b o hk => ?_, q6.ren (fun k b hk => (Mp.ren_blk hk).2) (fun k b hk => (Mp.ren_obj hk).2) (fun _ => rfl), fun p hp => ?_⟩
  · by_cases hb : Tch m' R b
    · rcases hb with ⟨k', off, d, hm, hb⟩ | ⟨X, J, hm, hb⟩ | ⟨k', d, hm, hb⟩
      · exact q5 k' b o hb
      · exact absurd hk ((hX X J hm).blk b k hb)
      · exact absurd hk (hmem.oblk _ k b (Mp.ren_obj hb).2)
    · exact (World.frozen?_of_block (a := ⟨b, o, none⟩) (q1.block b (hmem.lt k b hk) hb)).trans (hmem.free k b o hk)
  · obtain ⟨p0, hp0, rfl⟩ := List.mem_map.1 hp
    have hh := q7 p0 hp0
    have hok := w3 p0 hp0
    obtain ⟨key, d⟩ := p0
    cases key with
    | c k off =>
      obtain ⟨b, x, r1, r2, r3⟩ := hh
      exact ⟨b, x, (Mp.ren_blk r1).2, r2, r3.ren (fun k b hk => (Mp.ren_blk hk).2) (fun k b hk => (Mp.ren_obj hk).2) (fun _ => rfl)⟩
    | o k =>
      obtain ⟨b, r1, r2⟩ := hh
      exact ⟨b, (Mp.ren_obj r1).2, r2.ren (fun k b hk => (Mp.ren_blk hk).2) (fun k b hk => (Mp.ren_obj hk).2) (fun _ => rfl)⟩
    | j =>
      obtain ⟨X, J, e, hx⟩ := hh
      have e : d = .j X J := e
      subst e
      have hold : ∀ b, X b → b < w.heap.size → ∃ X0 J0, (Key.j, D.j X0 J0) ∈ R ∧ X0 b := fun b hb hlt => by
        rcases hx.own b hb with hc | hc
        · have hc : Tch m (R.map (renE ρ)) b := hc
          rcases hc with ⟨k', off, d', hm, hb'⟩ | ⟨X0, J0, hm, hb'⟩ | ⟨k', d', hm, hb'⟩
          · obtain ⟨⟨key, d0⟩, hm0, e0⟩ := List.mem_map.1 hm
            cases key with
            | c k0 o0 =>
              simp only [renE, Key.ren] at e0
              cases e0
              refine absurd ?_ (hx.blk b k0 hb)
              show (if inN R k0 then m.blk (ρ k0) else none) = _
              rw [if_pos (mem_rnames hm0)]; exact hb'
            | _ => simp [renE, Key.ren] at e0
          · obtain ⟨⟨key, d0⟩, hm0, e0⟩ := List.mem_map.1 hm
            cases key <;> simp only [renE, Key.ren, Prod.mk.injEq, reduceCtorEq, false_and] at e0
            have e0 := e0.2
            cases d0 <;> simp only [D.ren] at e0 <;> cases e0
            exact ⟨X0, J0, hm0, hb'⟩
          · obtain ⟨⟨key, d0⟩, hm0, e0⟩ := List.mem_map.1 hm
            cases key with
            | o k0 =>
              simp only [renE, Key.ren] at e0
              cases e0
              refine absurd ?_ (hx.obj b k0 hb)
              show (if inN R k0 then m.obj (ρ k0) else none) = _
              rw [if_pos (mem_rnamesO hm0)]; exact hb'
            | _ => simp [renE, Key.ren] at e0
        · exact absurd hc (Nat.not_le.2 hlt)
      refine ⟨X, J, rfl, { hx with own := fun b hb => ?_, blk := fun b k hb hk => ?_, row := fun b g R' hb hg e2 => ?_, obj := fun b k hb hk => ?_ }⟩
      · by_cases hlt : b < w.heap.size
        · obtain ⟨X0, J0, hm, hb0⟩ := hold b hb hlt
          exact (hX X0 J0 hm).own b hb0
        · exact .inr (Nat.le_trans hmem.off.size (Nat.le_of_not_lt hlt))
      · obtain ⟨X0, J0, hm, hb0⟩ := hold b hb (hmem.lt k b hk)
        exact (hX X0 J0 hm).blk b k hb0 hk
      · obtain ⟨xs, hxs⟩ := hmem.row g R' hg
        obtain ⟨X0, J0, hm, hb0⟩ := hold b hb (row_lt hxs e2).2
        exact (hX X0 J0 hm).row b g R' hb0 hg e2
      · obtain ⟨X0, J0, hm, hb0⟩ := hold b hb (hmem.olt k b hk)
        exact (hX X0 J0 hm).obj b k hb0 hk
    | t x => cases hok.2
    | r g => cases hok.2
end
end Go.Proofs.Ytcblpjheoclkeaa

namespace Go.Proofs.Ytcblpjheoclkeaa
namespace Nm
abbrev wr (x : Int) : Int := RowKit.wrap64 x

def tz : Tm := .mk [] 0 0 []

structure St where
  left : Int
  dry : Bool
  count : Int
  e : Int
deriving DecidableEq

def spend (s : St) : Bool × St :=
  if s.dry = true ∨ s.left < 1 then (false, { s with left := 0, dry := true }) else (true, { s with left := s.left - 1 })
def fail (s : St) (c : Int) : St := if s.e = 0 then { s with e := c } else s
def unit (s : St) : Bool × St :=
  if s.e ≠ 0 then (false, s)
  else if s.count = 100000 then (false, { s with count := s.count + 1, e := 2 })
  else match spend s with
    | (false, s') => (false, { s' with count := s'.count + 1, e := 11 })
    | (true, s') => (true, { s' with count := s'.count + 1 })

mutual
def lift (by_ : Int) : Tm → Int → Tm
  | .mk b k i a, ins => .mk b k (if k = 0 ∧ wr (ins + b.length) ≤ i then wr (i + by_) else i) (lifts by_ a (wr (ins + b.length)))
def lifts (by_ : Int) : List Tm → Int → List Tm
  | [], _ => []
  | t :: l, ins => lift by_ t ins :: lifts by_ l ins
end
theorem lift_eq (y : Int) (b : List Ty) (k i : Int) (a : List Tm) (ins : Int) : lift y (.mk b k i a) ins = .mk b k (if k = 0 ∧ wr (ins + b.length) ≤ i then wr (i + y) else i) (lifts y a (wr (ins + b.length))) := by rw [lift]
theorem lifts_map (y : Int) (l : List Tm) (ins : Int) : lifts y l ins = l.map fun t => lift y t ins := by
  induction l with
  | nil => rfl
  | cons t l ih => rw [lifts, ih]; rfl
def grown (t : Tm) (y : Int) : Tm := if y = 0 then t else lift y t 0

def seqM (g : Tm → St → Tm × St) : List Tm → St → List Tm × St
  | [], s => ([], s)
  | t :: l, s => ((g t s).1 :: (seqM g l (g t s).2).1, (seqM g l (g t s).2).2)
abbrev Thr := List Tm → Nat → Tm → Int → St → Tm × St
def putW (thr : Thr) (t : Tm) (xs : List Tm) (s : St) : Tm × St :=
  if s.e ≠ 0 ∨ xs.length > t.binds.length then (tz, fail s 1)
  else
    let r := thr xs t.binds.length (.mk [] t.kind t.index t.args) 0 s
    (.mk (t.binds.drop xs.length) r.1.kind r.1.index r.1.args, r.2)
def hit (thr : Thr) (xs : List Tm) (n : Nat) (t : Tm) (ins : Int) (args : List Tm) (s : St) : Tm × St :=
  if t.kind ≠ 0 ∨ t.index < ins then (.mk t.binds t.kind t.index args, s)
  else
    let i := wr (t.index - ins)
    if i < (n : Int) - xs.length then (.mk t.binds t.kind t.index args, s)
    else if (n : Int) ≤ i then (.mk t.binds t.kind (wr (t.index - xs.length)) args, s)
    else
      let u := grown (xs.getD ((n : Int) - 1 - i).toNat tz) (wr (wr (ins + n) - xs.length))
      if u.binds.length ≠ args.length then (tz, fail s 1)
      else
        let r := putW thr u args s
        (.mk t.binds r.1.kind r.1.index r.1.args, r.2)
def through : Nat → Thr
  | 0 => fun _ _ _ _ s => (tz, s)
  | f + 1 => fun xs n t ins s =>
    if (unit s).1 = true then
      let q := seqM (fun a s => through f xs n a (wr (ins + t.binds.length)) s) t.args (unit s).2
      hit (through f) xs n t (wr (ins + t.binds.length)) q.1 q.2
    else (tz, (unit s).2)
def put (f : Nat) : Tm → List Tm → St → Tm × St := putW (through f)

def done (p : Tm × St) : Tm × St :=
  let s := if p.2.e = 0 ∧ ¬ (p.1.size ≤ 5000 ∧ p.1.depth ≤ 60) then fail p.2 2 else p.2
  if s.e ≠ 0 then (tz, s) else (p.1, s)
def Put (t : Tm) (xs : List Tm) (left : Int) (dry : Bool) : Tm × St := done (put 100001 t xs ⟨left, dry, 0, 0⟩)
end Nm

namespace Sb
open Go.Proofs.Ytcblpjheoclkeaa.Nm
abbrev Pair := Int × Tm
def right (s : List Pair) : Bool := decide (s.Pairwise fun a b => a.1 < b.1)
def find (s : List Pair) (m : Int) : Option Tm := (s.find? fun p => p.1 == m).map (·.2)
def replaced (t u : Tm) (s : Nm.St) : Tm × Nm.St :=
  if u.binds.length ≠ t.args.length then (tz, { s with e := 1 })
  else
    let r := Put u t.args s.left s.dry
    if r.2.e ≠ 0 then (tz, { s with left := r.2.left, dry := r.2.dry, e := r.2.e }) else (.mk t.binds r.1.kind r.1.index r.1.args, { s with left := r.2.left, dry := r.2.dry })
mutual
def through (l : List Pair) : Tm → Int → Nm.St → Tm × Nm.St
  | .mk b k i a, ins, s =>
    if s.e ≠ 0 then (tz, s)
    else if (spend s).1 = false then (tz, { (spend s).2 with e := 11 })
    else
      let q := throughs l a (wr (ins + b.length)) (spend s).2
      if k ≠ 2 ∨ q.2.e ≠ 0 then (.mk b k i q.1, q.2)
      else match find l i with
        | none => (.mk b k i q.1, q.2)
        | some u => replaced (.mk b k i q.1) (lift (wr (ins + b.length)) u 0) q.2
def throughs (l : List Pair) : List Tm → Int → Nm.St → List Tm × Nm.St
  | [], _, s => ([], s)
  | t :: r, ins, s => ((through l t ins s).1 :: (throughs l r ins (through l t ins s).2).1, (throughs l r ins (through l t ins s).2).2)
end
def apply (l : List Pair) (t : Tm) (left : Int) (dry : Bool) : Tm × Nm.St :=
  if right l = false then (tz, ⟨left, dry, 0, 1⟩)
  else
    let r := through l t 0 ⟨left, dry, 0, 0⟩
    let s := if r.2.e = 0 ∧ ¬ (r.1.size ≤ 5000 ∧ r.1.depth ≤ 60) then { r.2 with e := 2 } else r.2
    if s.e ≠ 0 then (tz, s) else (r.1, s)

end Sb
end Go.Proofs.Ytcblpjheoclkeaa

namespace Go.Proofs.Ytcblpjheoclkeaa
open Go.RowKit

def bi (d : Bool) : Int := if d = true then 1 else 0
end Go.Proofs.Ytcblpjheoclkeaa

namespace Go.Proofs.Ytcblpjheoclkeaa
open Go.RowKit

end Go.Proofs.Ytcblpjheoclkeaa

namespace Go.Proofs.Ytcblpjheoclkeaa
open Go.RowKit

end Go.Proofs.Ytcblpjheoclkeaa

namespace Go.Proofs.Ytcblpjheoclkeaa
open Go.RowKit

def subs : List Nat → List (List Nat)
  | [] => [[]]
  | a :: l => subs l ++ (subs l).map (a :: ·)
section
variable {P : Program} {ops : Array Oper} {Q : Exit → Act → World → Prop} {md : Region.Mode} {S : World → Prop}

end
end Go.Proofs.Ytcblpjheoclkeaa

namespace Go.Proofs.Ytcblpjheoclkeaa
open Go.RowKit

end Go.Proofs.Ytcblpjheoclkeaa

namespace Go.Proofs.Ytcblpjheoclkeaa
open Go.RowKit

namespace Tm
mutual
def turn {σ : Type} (f : σ → Int → σ × Int) : Tm → σ → Int → σ × Tm
  | .mk b k i a, s, n =>
    ((turns f a (if k = 0 ∧ n + (b.length : Nat) ≤ i then (f s (i - (n + (b.length : Nat)))).1 else s) (n + (b.length : Nat))).1,
      .mk b k (if k = 0 ∧ n + (b.length : Nat) ≤ i then n + (b.length : Nat) + (f s (i - (n + (b.length : Nat)))).2 else i) (turns f a (if k = 0 ∧ n + (b.length : Nat) ≤ i then (f s (i - (n + (b.length : Nat)))).1 else s) (n + (b.length : Nat))).2)
def turns {σ : Type} (f : σ → Int → σ × Int) : List Tm → σ → Int → σ × List Tm
  | [], s, _ => (s, [])
  | t :: l, s, n => ((turns f l (turn f t s n).1 n).1, (turn f t s n).2 :: (turns f l (turn f t s n).1 n).2)
end
variable {σ : Type} (f : σ → Int → σ × Int)
end Tm

theorem Acc.other {α : Type} {r : Rp α} {E : TypeId} {base : Nat} {F : Nat → Prop} {w w' : World} {v : Value} {l : List α} {row : Option Nat} (h : Acc r E base F w v l) (hg : w.grownBy w' row) (hr : ∀ k, row = some k → ¬ F k ∧ k < base) : Acc r E base F w' v l := by
  obtain ⟨X, h1, h2, h3⟩ := h
  refine ⟨X, h1, h2.kept hg ?_, fun i hi => ?_⟩
  · cases hv : v.ownBlock with
    | none => exact .inl rfl
    | some k => exact .inr fun e => by have := (h2.lt k hv).1; have := (hr k e.symm).2; omega
  · obtain ⟨x, hx, hrr⟩ := h3 i hi
    exact ⟨x, hx, r.keep hrr ((Keep.refl _ _).grown hg fun k hk hf => (hr k hk).1 hf.1)⟩

end Go.Proofs.Ytcblpjheoclkeaa

namespace Go.Proofs.Ytcblpjheoclkeaa
open Go.RowKit

end Go.Proofs.Ytcblpjheoclkeaa

namespace Go.Proofs.Ytcblpjheoclkeaa
open Go.RowKit

inductive Wide : Tm → Prop where
  | mk (b : List Ty) (k i : Int) (a : List Tm) : b.length ≤ 100000 → a.length ≤ 100000 → (∀ t ∈ a, Wide t) → Wide (.mk b k i a)
theorem Wide.inv {b : List Ty} {k i : Int} {a : List Tm} (h : Wide (.mk b k i a)) : b.length ≤ 100000 ∧ a.length ≤ 100000 ∧ ∀ t ∈ a, Wide t := by
  cases h with
  | mk _ _ _ _ h1 h2 h3 => exact ⟨h1, h2, h3⟩
theorem Nm.lift_len (y : Int) (l : List Tm) (m : Int) : (Nm.lifts y l m).length = l.length := by rw [Nm.lifts_map]; simp
theorem Wide.lift {t : Tm} (y : Int) (h : Wide t) : ∀ m, Wide (Nm.lift y t m) := by
  induction h with
  | mk b k i a h1 h2 h3 ih =>
    intro m
    rw [Nm.lift_eq]
    refine .mk _ _ _ _ h1 (by rw [Nm.lift_len]; exact h2) fun t ht => ?_
    rw [Nm.lifts_map] at ht
    obtain ⟨u, hu, rfl⟩ := List.mem_map.1 ht
    exact ih u hu _

end Go.Proofs.Ytcblpjheoclkeaa

namespace Go.Proofs.Ytcblpjheoclkeaa
open Go.RowKit
end Go.Proofs.Ytcblpjheoclkeaa

namespace Go.Proofs.Ytcblpjheoclkeaa
open Go.RowKit
def kW (σ : List (Key × D)) : List (Key × D) → Prop
  | [] => True
  | (k, d) :: r => get σ k = some d ∧ kW σ r
theorem kW_all {σ : List (Key × D)} : ∀ {W : List (Key × D)}, kW σ W → ∀ p ∈ W, get σ p.1 = some p.2 ∨ ∃ d, get σ p.1 = some d ∧ VLe d p.2 ∧ (match p.1 with | .c _ _ => True | _ => False)
  | [], _, p, hp => by cases hp
  | (k, d) :: r, h, p, hp => by
    rcases List.mem_cons.1 hp with rfl | hp
    · exact .inl h.1
    · exact kW_all h.2 p hp

end Go.Proofs.Ytcblpjheoclkeaa

namespace Go.Proofs.Ytcblpjheoclkeaa
open Go.RowKit
end Go.Proofs.Ytcblpjheoclkeaa

namespace Go.Proofs.Ytcblpjheoclkeaa
namespace Nm
end Nm
end Go.Proofs.Ytcblpjheoclkeaa

namespace Go.Proofs.Ytcblpjheoclkeaa
open Go.RowKit
theorem retv {T : List (Nat × TI)} {rs : List ResultVar} {V V' : D} {W σ : List (Key × D)} {e : Exit} {N : Nat} (he : e = .normal ∨ e = .ret) (h1 : resD T σ rs = some V') (hv : VLe V' V) (h2 : kW σ W) : RetOk T rs V W e σ N := ⟨he, ⟨V', h1, hv⟩, kW_all h2⟩
theorem reta {T : List (Nat × TI)} {rs : List ResultVar} {V V' : D} {W σ : List (Key × D)} {e : Exit} (h1 : resD T σ rs = some V') (h2 : kW σ W := by repeat first | exact trivial | refine And.intro rfl ?_) (hv : VLe V' V := by repeat first | exact VLe.refl _ | exact VLe.nil _ | exact VLe.untag _ _ _ | refine VLe.ag ?_ | refine VLe.tu ?_ | refine VLeL.cons ?_ ?_ | exact VLeL.nil) (he : e = .normal ∨ e = .ret := by first | exact .inr rfl | exact .inl rfl) : RetOk T rs V W e σ 0 := retv he h1 hv h2

end Go.Proofs.Ytcblpjheoclkeaa

namespace Go.Proofs.Ytcblpjheoclkeaa
open Go.RowKit

def argBad (b f x : Int) : Prop := f ≤ x ∧ b < 0 ∧ (b = -9223372036854775808 ∨ x - f < -b)
def longBad (b f x : Int) : Prop := f ≤ x ∧ ((1000 < b) ∨ (0 ≤ b ∧ 1000 - b < x) ∨ (b < 0 ∧ 1000 < x + b))
instance (b f x : Int) : Decidable (argBad b f x) := by unfold argBad; infer_instance
instance (b f x : Int) : Decidable (longBad b f x) := by unfold longBad; infer_instance
end Go.Proofs.Ytcblpjheoclkeaa

namespace Go.Proofs.Ytcblpjheoclkeaa
open Go.RowKit

namespace Tm
mutual
def looses : Tm → Int → List Int
  | .mk b k i a, n => (if k = 0 ∧ n + (b.length : Nat) ≤ i then [i - (n + (b.length : Nat))] else []) ++ loosess a (n + (b.length : Nat))
def loosess : List Tm → Int → List Int
  | [], _ => []
  | t :: l, n => looses t n ++ loosess l n
end
mutual
def mapl (v : Int → Int) : Tm → Int → Tm
  | .mk b k i a, n => .mk b k (if k = 0 ∧ n + (b.length : Nat) ≤ i then n + (b.length : Nat) + v (i - (n + (b.length : Nat))) else i) (mapls v a (n + (b.length : Nat)))
def mapls (v : Int → Int) : List Tm → Int → List Tm
  | [], _ => []
  | t :: l, n => mapl v t n :: mapls v l n
end
theorem looses_eq (b : List Ty) (k i : Int) (a : List Tm) (n m : Int) (hm : n + (b.length : Int) = m) : looses (.mk b k i a) n = (if k = 0 ∧ m ≤ i then [i - m] else []) ++ loosess a m := by subst hm; rw [looses]
theorem loosess_append (l l' : List Tm) (n : Int) : loosess (l ++ l') n = loosess l n ++ loosess l' n := by
  induction l with
  | nil => simp [loosess]
  | cons t l ih => simp [loosess, ih]
theorem loosess_take (l : List Tm) (n : Int) (j : Nat) (h : j < l.length) : loosess (l.take (j + 1)) n = loosess (l.take j) n ++ looses l[j] n := by
  rw [List.take_succ_eq_append_getElem h, loosess_append]; simp [loosess]
section
variable {σ : Type} (g : σ → Int → σ) (v : Int → Int)
end
end Tm

def grow (b f x : Int) : Int := if x < f then x else x + b
def shiftCode (b f : Int) (l : List Int) : Int := if ∃ x ∈ l, argBad b f x then 1 else if ∃ x ∈ l, longBad b f x then 2 else 0

def Tm.shift (t : Tm) (b f : Int) : Tm × Int :=
  if f < 0 then (Tm.zero, 1) else if shiftCode b f (t.looses 0) = 0 then (t.mapl (grow b f) 0, 0) else (Tm.zero, shiftCode b f (t.looses 0))

end Go.Proofs.Ytcblpjheoclkeaa

namespace Go.Proofs.Ytcblpjheoclkeaa
open Go.RowKit

mutual
def Ty.eqb : Ty → Ty → Bool
  | .mk a b, .mk c d => Ty.eqbs a c && decide (b = d)
def Ty.eqbs : List Ty → List Ty → Bool
  | [], [] => true
  | x :: l, y :: r => Ty.eqb x y && Ty.eqbs l r
  | _, _ => false
end
theorem Ty.eqbs_iff {l : List Ty} (h : ∀ t ∈ l, ∀ u, Ty.eqb t u = true ↔ t = u) : ∀ r, Ty.eqbs l r = true ↔ l = r := by
  induction l with
  | nil => intro r; cases r <;> simp [Ty.eqbs]
  | cons t l ih =>
    intro r
    cases r with
    | nil => simp [Ty.eqbs]
    | cons u r => simp [Ty.eqbs, h t (by simp) u, ih (fun t ht => h t (by simp [ht])) r]
theorem Ty.eqb_iff (t : Ty) : ∀ u, Ty.eqb t u = true ↔ t = u := by
  induction t using Ty.ind with
  | h a b ih =>
    intro u
    obtain ⟨c, d⟩ := u
    simp [Ty.eqb, Ty.eqbs_iff ih c]
instance : DecidableEq Ty := fun t u => decidable_of_iff _ (Ty.eqb_iff t u)
mutual
def Tm.eqb : Tm → Tm → Bool
  | .mk b k i a, .mk c m j d => decide (b = c) && (decide (k = m) && (decide (i = j) && Tm.eqbs a d))
def Tm.eqbs : List Tm → List Tm → Bool
  | [], [] => true
  | x :: l, y :: r => Tm.eqb x y && Tm.eqbs l r
  | _, _ => false
end
theorem Tm.eqbs_iff {l : List Tm} (h : ∀ t ∈ l, ∀ u, Tm.eqb t u = true ↔ t = u) : ∀ r, Tm.eqbs l r = true ↔ l = r := by
  induction l with
  | nil => intro r; cases r <;> simp [Tm.eqbs]
  | cons t l ih =>
    intro r
    cases r with
    | nil => simp [Tm.eqbs]
    | cons u r => simp [Tm.eqbs, h t (by simp) u, ih (fun t ht => h t (by simp [ht])) r]
theorem Tm.eqb_iff (t : Tm) : ∀ u, Tm.eqb t u = true ↔ t = u := by
  induction t using Tm.ind with
  | h b k i a ih =>
    intro u
    obtain ⟨c, m, j, d⟩ := u
    simp [Tm.eqb, Tm.eqbs_iff ih d]
instance : DecidableEq Tm := fun t u => decidable_of_iff _ (Tm.eqb_iff t u)

def longB (t : Tm) : Bool := decide (t.args = Ty.etas t.binds) && (!decide (t.kind = 0) || decide ((t.binds.length : Int) ≤ t.index))
theorem longB_iff (t : Tm) : longB t = true ↔ t.Long := by
  unfold longB Tm.Long
  simp only [Bool.and_eq_true, Bool.or_eq_true, Bool.not_eq_true', decide_eq_true_eq, decide_eq_false_iff_not]
  by_cases h : t.kind = 0 <;> simp [h]

namespace Pn
def isVar (n : Int) (acc : List Int) (a : Tm) : Bool := longB a && (decide (a.kind = 0) && (decide (a.headIx < n) && !acc.contains a.headIx))
def varsL (n : Int) : List Tm → List Int → Option (List Int)
  | [], acc => some acc
  | a :: l, acc => if isVar n acc a then varsL n l (acc ++ [a.headIx]) else none
def vars (t : Tm) (n : Int) : List Int × Int := if t.kind ≠ 2 ∨ n < 0 then ([], 1) else match varsL n t.args [] with
  | some l => (l, 0)
  | none => ([], 6)
structure Use where
  mt : Int
  vars : List Int
  binds : List Ty
  path : List Int
mutual
def uses : Tm → List Ty → List Int → List Use × Bool
  | .mk bs k i a, ar, p => if k = 2 then (match varsL ((ar ++ bs).length : Nat) a [] with | some v => ([⟨i, v, ar ++ bs, p⟩], true) | none => ([], false)) else usess a (ar ++ bs) p 0
def usess : List Tm → List Ty → List Int → Nat → List Use × Bool
  | [], _, _, _ => ([], true)
  | t :: l, ar, p, j => if (uses t ar (p ++ [(j : Int)])).2 then ((uses t ar (p ++ [(j : Int)])).1 ++ (usess l ar p (j + 1)).1, (usess l ar p (j + 1)).2) else ((uses t ar (p ++ [(j : Int)])).1, false)
end
theorem uses_eq (bs : List Ty) (k i : Int) (a : List Tm) (ar : List Ty) (p : List Int) : uses (.mk bs k i a) ar p = if k = 2 then (match varsL ((ar ++ bs).length : Nat) a [] with | some v => ([⟨i, v, ar ++ bs, p⟩], true) | none => ([], false)) else usess a (ar ++ bs) p 0 := by rw [uses]
def may (p : Tm) : Int := if p.looses 0 ≠ [] then 1 else if (uses p [] []).2 = false then 6 else 0
def mayL (n : Int) : List Int → List Int → Bool
  | [], _ => true
  | v :: l, acc => decide (0 ≤ v) && (decide (v < n) && (!acc.contains v && mayL n l (acc ++ [v])))
def mayV (n : Int) (vs : List Int) : Bool := mayL n vs []
def ix (v : Int) : List Int → Option Nat
  | [] => none
  | u :: l => if u = v then some 0 else (ix v l).map (· + 1)
def go (n : Int) (vs : List Int) (d : Int) : Int := if n ≤ d then d - n + vs.length else (vs.length : Int) - 1 - (match ix d vs with | some k => (k : Int) | none => 0)
mutual
def tk (n : Int) (vs : List Int) : Tm → Int → Tm
  | .mk bs k i a, ins => .mk bs k (if k = 0 ∧ ins + (bs.length : Nat) ≤ i then ins + (bs.length : Nat) + go n vs (i - (ins + (bs.length : Nat))) else i) (tks n vs a (ins + (bs.length : Nat)))
def tks (n : Int) (vs : List Int) : List Tm → Int → List Tm
  | [], _ => []
  | t :: l, ins => tk n vs t ins :: tks n vs l ins
end
mutual
def tkB (n : Int) (vs : List Int) : Tm → Int → Bool
  | .mk bs k i a, ins => (!(decide (k = 0) && decide (ins + (bs.length : Nat) ≤ i) && (decide (i - (ins + (bs.length : Nat)) < n) && (ix (i - (ins + (bs.length : Nat))) vs).isNone))) && tkBs n vs a (ins + (bs.length : Nat))
def tkBs (n : Int) (vs : List Int) : List Tm → Int → Bool
  | [], _ => true
  | t :: l, ins => tkB n vs t ins && tkBs n vs l ins
end
def types (binds : List Ty) (vs : List Int) : List Ty := vs.map fun v => binds.getD ((binds.length : Int) - 1 - v).toNat (.mk [] 0)
def take (t : Tm) (binds : List Ty) (vs : List Int) : Tm × Int := if mayV binds.length vs then (if tkB binds.length vs t 0 then (.mk (types binds vs ++ t.binds) (tk binds.length vs t 0).kind (tk binds.length vs t 0).index (tk binds.length vs t 0).args, 0) else (Tm.zero, 9)) else (Tm.zero, 1)
abbrev Bd := List (Int × Tm)
def bfind (b : Bd) (m : Int) : Option Tm := (b.find? fun p => p.1 == m).map (·.2)
def bput (b : Bd) (m : Int) (t : Tm) : Bool × Bd := match bfind b m with
  | some u => (decide (t = u), b)
  | none => (true, b ++ [(m, t)])
def flex (b : Bd) (p t : Tm) (ar : List Ty) : Bool × Bd := match varsL ar.length p.args [] with
  | none => (false, b)
  | some v => if (take (.mk [] t.kind t.index t.args) ar v).2 = 0 then bput b p.index (take (.mk [] t.kind t.index t.args) ar v).1 else (false, b)
mutual
def walk : Tm → Tm → List Ty → Bd → Bool × Bd
  | .mk bs k i a, t, ar, b => if bs ≠ t.binds then (false, b) else if k = 2 then flex b (.mk bs k i a) t (ar ++ bs) else if (k ≠ t.kind ∨ i ≠ t.index) ∨ a.length ≠ t.args.length then (false, b) else walks a t.args (ar ++ bs) b
def walks : List Tm → List Tm → List Ty → Bd → Bool × Bd
  | [], _, _, b => (true, b)
  | p :: l, ts, ar, b => if (walk p (ts.headD Tm.zero) ar b).1 then walks l ts.tail ar (walk p (ts.headD Tm.zero) ar b).2 else (walk p (ts.headD Tm.zero) ar b)
end
end Pn
end Go.Proofs.Ytcblpjheoclkeaa

namespace Go.Proofs.Ytcblpjheoclkeaa
open Go.RowKit
def TTY_83 : TI := ⟨2, true, [Value.slice none 0 0, Value.int IntKind.i64 0], [(0, 1, false), (1, 1, false)], none, 32, 6, none, false⟩
theorem TTY_83_ok : TypOk Try.prog 83 TTY_83 := ⟨by kernel_rfl, by kernel_rfl, by kernel_rfl, by kernel_rfl, by kernel_rfl⟩
def TTY_3 : TI := ⟨1, false, [Value.int IntKind.i64 0], [], none, 8, 2, none, false⟩
theorem TTY_3_ok : TypOk Try.prog 3 TTY_3 := ⟨by kernel_rfl, by kernel_rfl, by kernel_rfl, by kernel_rfl, by kernel_rfl⟩
def TTY_30 : TI := ⟨1, false, [Value.slice none 0 0], [], some 83, 24, 5, none, false⟩
theorem TTY_30_ok : TypOk Try.prog 30 TTY_30 := ⟨by kernel_rfl, by kernel_rfl, by kernel_rfl, by kernel_rfl, by kernel_rfl⟩
def TTY_123 : TI := ⟨2, true, [Value.slice none 0 0, Value.int IntKind.i64 0], [(0, 1, false), (1, 1, false)], none, 32, 6, none, false⟩
theorem TTY_123_ok : TypOk Try.prog 123 TTY_123 := ⟨by kernel_rfl, by kernel_rfl, by kernel_rfl, by kernel_rfl, by kernel_rfl⟩
def TTY_22 : TI := ⟨1, false, [Value.slice none 0 0], [], some 123, 24, 5, none, false⟩
theorem TTY_22_ok : TypOk Try.prog 22 TTY_22 := ⟨by kernel_rfl, by kernel_rfl, by kernel_rfl, by kernel_rfl, by kernel_rfl⟩
def TTY_43 : TI := ⟨1, false, [Value.slice none 0 0], [], some 3, 24, 5, none, false⟩
theorem TTY_43_ok : TypOk Try.prog 43 TTY_43 := ⟨by kernel_rfl, by kernel_rfl, by kernel_rfl, by kernel_rfl, by kernel_rfl⟩
def TTY_192 : TI := ⟨1, false, [Value.slice none 0 0], [], some 30, 24, 5, none, false⟩
theorem TTY_192_ok : TypOk Try.prog 192 TTY_192 := ⟨by kernel_rfl, by kernel_rfl, by kernel_rfl, by kernel_rfl, by kernel_rfl⟩
def TTY_161 : TI := ⟨1, false, [Value.nilFunc], [], none, 8, 8, none, false⟩
theorem TTY_161_ok : TypOk Try.prog 161 TTY_161 := ⟨by kernel_rfl, by kernel_rfl, by kernel_rfl, by kernel_rfl, by kernel_rfl⟩
def TTY : List (Nat × TI) := [(83, TTY_83), (3, TTY_3), (30, TTY_30), (123, TTY_123), (22, TTY_22), (43, TTY_43), (192, TTY_192), (161, TTY_161)]
theorem TTY_ok : TabOk Try.prog TTY := (((((((((TabOk.nil _).cons TTY_161_ok).cons TTY_192_ok).cons TTY_43_ok).cons TTY_22_ok).cons TTY_123_ok).cons TTY_30_ok).cons TTY_3_ok).cons TTY_83_ok)

theorem CallC.vle {P : Program} {f : FuncId} {args args' : List D} {R W : List (Key × D)} {V V' : D} (h : CallC P f args R W V) (ha : VLeL args' args) (hv : VLe V V') : CallC P f args' R W V' := by
  refine ⟨h.1, fun cx Fr m Im w vs hm hr hR => (h.2 cx Fr m Im w vs hm ?_ hR).mono ?_⟩
  · rw [relL_iff] at hr ⊢
    refine ⟨hr.1.trans ha.1, fun i hi => ?_⟩
    have hi' : i < args'.length := by rw [ha.1]; exact hi
    exact ha.2 i hi' hi m Im w _ (hr.2 i hi')
  · rintro e w' ⟨v, Im', rfl, h1, h2, h3, h4, h5, h6, h7⟩
    exact ⟨v, Im', rfl, h1, h2, h3, h4, h5, hv _ _ _ _ h6, h7⟩

def eTyss (ls : List (List Ty)) : List (List D) := ls.map fun l => [.sl 2 (eTys l) none]
theorem eTyss_len (l : List (List Ty)) : (eTyss l).length = l.length := List.length_map ..
theorem eTyss_getD (l : List (List Ty)) (i : Nat) (h : i < l.length) : (eTyss l).getD i [] = [.sl 2 (eTys l[i]) none] := by
  rw [eTyss, List.getD_eq_getElem?_getD, List.getElem?_map, List.getElem?_eq_getElem h]; rfl
@[simp] theorem eTyss_ok (f g : Nat → Bool) (l : List (List Ty)) : D.okss f g (eTyss l) = true := D.okss_map _ l fun l _ => by simp [D.oks, D.ok, eTys_ok]

theorem bneT {a b : Int} (h : a ≠ b) : VLe (.v (.bool (a != b))) (.v (.bool true)) := VLe.of_eq (by simp [h])
theorem bneF {a b : Int} (h : a = b) : VLe (.v (.bool (a != b))) (.v (.bool false)) := VLe.of_eq (by simp [h])
theorem beqT {a b : Int} (h : a = b) : VLe (.v (.bool (a == b))) (.v (.bool true)) := VLe.of_eq (by simp [h])
theorem beqF {a b : Int} (h : a ≠ b) : VLe (.v (.bool (a == b))) (.v (.bool false)) := VLe.of_eq (by simp [h])
theorem eq_of_take {α : Type} {l r : List α} {j : Nat} (h : l.take j = r.take j) (h1 : l.length ≤ j) (h2 : r.length ≤ j) : l = r := by
  rwa [List.take_of_length_le h1, List.take_of_length_le h2] at h
theorem take_succ_eq {α : Type} {l r : List α} {j : Nat} (h : l.take j = r.take j) (h1 : j < l.length) (h2 : j < r.length) (he : l[j] = r[j]) : l.take (j + 1) = r.take (j + 1) := by
  rw [List.take_add_one, List.take_add_one, h, List.getElem?_eq_getElem h1, List.getElem?_eq_getElem h2, he]
theorem ne_at {α : Type} {l r : List α} {j : Nat} (h1 : j < l.length) (h2 : j < r.length) (he : l[j] ≠ r[j]) : l ≠ r := fun e => he (by subst e; rfl)
def sl1 : D → Prop
  | .sl _ l _ => l.length ≤ 9223372036854775807
  | _ => True
def slOk : D → Prop
  | .ag cs => ∀ c ∈ cs, sl1 c
  | d => sl1 d
theorem Rel.sl1 {m : Mp} {Im : Nat → Nat → Prop} {w : World} {x : Value} {d : D} (h : Rel m Im w x d) : sl1 d := by
  cases h with
  | sl a c bl off n X l g h1 ha hc hn ho hr hg => exact h1.1
  | _ => trivial
theorem Rel.slOk {m : Mp} {Im : Nat → Nat → Prop} {w : World} {x : Value} {d : D} (h : Rel m Im w x d) : slOk d := by
  cases d with
  | ag cs =>
    cases h with
    | ag vs l hn hr =>
      intro c hc
      obtain ⟨i, hi, rfl⟩ := List.getElem_of_mem hc
      exact (hr i hi).sl1
  | _ => exact h.sl1
theorem CallC.lens {P : Program} {f : FuncId} {args : List D} {R W : List (Key × D)} {V : D} (h : (∀ d ∈ args, slOk d) → CallC P f args R W V) (hen : entersB P f = true := by kernel_rfl) : CallC P f args R W V := by
  refine ⟨hen, fun cx Fr m Im w vs hm hr hR => ?_⟩
  refine (h fun d hd => ?_).2 cx Fr m Im w vs hm hr hR
  obtain ⟨i, hi, rfl⟩ := List.getElem_of_mem hd
  exact ((relL_iff.1 hr).2 i hi).slOk
theorem eqTysA (l r : List Ty) (h : ∀ t ∈ l, ∀ u, PureC Try.prog 76 [.ag (eTy t), .ag (eTy u)] (.v (.bool (decide (t = u))))) : PureC Try.prog 75 [.sl 2 (eTys l) none, .sl 2 (eTys r) none, .fn 76 []] (.v (.bool (decide (l = r)))) := CallC.lens fun hlen => by
 have hl : l.length ≤ 9223372036854775807 := by have := hlen _ (List.mem_cons_self ..); simp only [slOk, sl1, eTys_len] at this; exact this
 by_cases hlr : l.length = r.length
 ·skip
  refine calldw 0 32 [ResultVar.tmp 6] TTY_ok Try.func75 rfl Try.ntmps75 rfl fun cx hnt hn0 => ?_
  ·skip
   refine dw_seq ?_; refine dwk [] TTY_ok hnt fun K hK => ?_; refine hK _ _ ?_; clear hK K; refine dw_seq ?_; refine dw_seq ?_; refine dwk [(11, .v (.int .i64 (↑l.length))), (13, .v (.int .i64 (↑r.length))), (14, .v (.bool false))] TTY_ok hnt fun K hK => ?_; refine And.intro (dintE (by rw [eTys_len])) ?_; refine And.intro (dintE (by rw [eTys_len])) ?_; refine And.intro (bneF (by omega)) ?_; refine hK _ _ ?_; clear hK K
   refine dw_cond (t := false) rfl ?_; rw [if_neg (by simp)]; refine dw_skip ?_; refine dw_seq ?_; refine dw_seq ?_; refine dwk [(16, .v (.int .i64 (↑l.length)))] TTY_ok hnt fun K hK => ?_; refine And.intro (dintE (by rw [eTys_len])) ?_; refine hK _ _ ?_; clear hK K; refine dw_block ?_
   refine dw_loop (ι := { j : Nat // l.take j = r.take j }) (fun j => [(.t 1, .sl 2 (eTys r) none), (.t 2, .fn 76 []), (.t 15, .sl 2 (eTys l) none), (.t 16, .v (.int .i64 ↑l.length)), (.t 17, .v (.int .i64 ↑j.1))]) 0 (fun j => l.length - j.1) (⟨0, rfl⟩) (VS.toA) fun j => ?_
   obtain ⟨j, hj⟩ := j
   dsimp only
   by_cases hlt : j < l.length
   ·have hlt2 : j < r.length := by omega
    have hq := h l[j] (List.getElem_mem hlt) r[j]
    rw [eTy_eq, eTy_eq] at hq
    by_cases he : l[j] = r[j]
    ·rw [decide_eq_true he] at hq
     refine dw_seq ?_; refine dwk [(18, .v (.bool true))] TTY_ok hnt fun K hK => ?_; refine And.intro auT ?_; refine hK _ _ ?_; clear hK K; refine dw_seq ?_; refine dw_cond (t := true) rfl ?_; rw [if_pos rfl]; refine dw_skip ?_; refine dw_seq ?_; refine dw_block ?_; refine dw_seq ?_; refine dwk [(20, .q [.sl 2 (eTys l[j].args) none, .v (.int .i64 l[j].base)])] TTY_ok hnt fun K hK => ?_; refine And.intro (elo (eTys_len l)) ?_
     refine And.intro (elv (eTys_getD l j) (eTy_eq _)) ?_; refine hK _ _ ?_; clear hK K; refine dw_seq ?_; refine dwk [(24, .q [.sl 2 (eTys r[j].args) none, .v (.int .i64 r[j].base)])] TTY_ok hnt fun K hK => ?_; refine And.intro (elo (eTys_len r)) ?_; refine And.intro (elv (eTys_getD r j) (eTy_eq _)) ?_; refine hK _ _ ?_; clear hK K; refine dw_seq ?_; refine dwk [] TTY_ok hnt fun K hK => ?_; refine dcl (hq) ?_
     refine hK _ _ ?_; clear hK K; refine dw_cond (t := false) rfl ?_; rw [if_neg (by simp)]; refine dw_skip ?_; refine dwk [(31, .v (.int .i64 (↑(j + 1))))] TTY_ok hnt fun K hK => ?_; refine And.intro auI ?_; refine hK _ _ ?_; clear hK K
     refine ⟨⟨j + 1, take_succ_eq hj hlt hlt2 he⟩, by first | omega | (dsimp only; omega), VS.toA⟩
    ·rw [decide_eq_false he] at hq
     rw [decide_eq_false (ne_at hlt hlt2 he)]
     refine dw_seq ?_; refine dwk [(18, .v (.bool true))] TTY_ok hnt fun K hK => ?_; refine And.intro auT ?_; refine hK _ _ ?_; clear hK K; refine dw_seq ?_; refine dw_cond (t := true) rfl ?_; rw [if_pos rfl]; refine dw_skip ?_; refine dw_seq ?_; refine dw_block ?_; refine dw_seq ?_; refine dwk [(20, .q [.sl 2 (eTys l[j].args) none, .v (.int .i64 l[j].base)])] TTY_ok hnt fun K hK => ?_; refine And.intro (elo (eTys_len l)) ?_
     refine And.intro (elv (eTys_getD l j) (eTy_eq _)) ?_; refine hK _ _ ?_; clear hK K; refine dw_seq ?_; refine dwk [(24, .q [.sl 2 (eTys r[j].args) none, .v (.int .i64 r[j].base)])] TTY_ok hnt fun K hK => ?_; refine And.intro (elo (eTys_len r)) ?_; refine And.intro (elv (eTys_getD r j) (eTy_eq _)) ?_; refine hK _ _ ?_; clear hK K; refine dw_seq ?_; refine dwk [] TTY_ok hnt fun K hK => ?_; refine dcl (hq) ?_
     refine hK _ _ ?_; clear hK K; refine dw_cond (t := true) rfl ?_; rw [if_pos rfl]; refine dw_seq ?_; refine dwk [] TTY_ok hnt fun K hK => ?_; refine hK _ _ ?_; clear hK K; refine dw_ret ?_
     exact reta rfl
   ·rw [decide_eq_true (eq_of_take hj (by omega) (by omega))]
    refine dw_seq ?_; refine dwk [(18, .v (.bool false))] TTY_ok hnt fun K hK => ?_; refine And.intro auF ?_; refine hK _ _ ?_; clear hK K; refine dw_seq ?_; refine dw_cond (t := false) rfl ?_; rw [if_neg (by simp)]; refine dw_exit ?_; refine dw_seq ?_; refine dwk [] TTY_ok hnt fun K hK => ?_; refine hK _ _ ?_; clear hK K; refine dw_ret ?_
    exact reta rfl
 ·rw [decide_eq_false (fun e => hlr (by rw [e]))]
  refine calldw 0 32 [ResultVar.tmp 6] TTY_ok Try.func75 rfl Try.ntmps75 rfl fun cx hnt hn0 => ?_
  ·skip
   refine dw_seq ?_; refine dwk [] TTY_ok hnt fun K hK => ?_; refine hK _ _ ?_; clear hK K; refine dw_seq ?_; refine dw_seq ?_; refine dwk [(11, .v (.int .i64 (↑l.length))), (13, .v (.int .i64 (↑r.length))), (14, .v (.bool true))] TTY_ok hnt fun K hK => ?_; refine And.intro (dintE (by rw [eTys_len])) ?_; refine And.intro (dintE (by rw [eTys_len])) ?_; refine And.intro (bneT (by omega)) ?_; refine hK _ _ ?_; clear hK K
   refine dw_cond (t := true) rfl ?_; rw [if_pos rfl]; refine dw_seq ?_; refine dwk [] TTY_ok hnt fun K hK => ?_; refine hK _ _ ?_; clear hK K; refine dw_ret ?_
   exact reta rfl
theorem keq_d : ∀ t u : Ty, PureC Try.prog 76 [.ag (eTy t), .ag (eTy u)] (.v (.bool (decide (t = u)))) := by
 intro t
 induction t using Ty.ind with
 | h a b ih =>
 intro u
 have hq := eqTysA a u.args ih
 rw [eTy_eq, eTy_eq]
 simp only [args_mk', base_mk']
 by_cases hb : b = u.base
 ·have e : decide (Ty.mk a b = u) = decide (a = u.args) := by
   obtain ⟨c, d⟩ := u
   rw [Bool.eq_iff_iff, decide_eq_true_iff, decide_eq_true_iff, base_mk'] at *
   subst hb
   simp [args_mk']
  rw [e]
  refine calldw 0 17 [ResultVar.tmp 4] TTY_ok Try.func76 rfl Try.ntmps76 rfl fun cx hnt hn0 => ?_
  ·skip
   refine dw_seq ?_; refine dwk [] TTY_ok hnt fun K hK => ?_; refine hK _ _ ?_; clear hK K; refine dw_seq ?_; refine dwk [(9, .v (.bool true))] TTY_ok hnt fun K hK => ?_; refine And.intro (beqT hb) ?_; refine dcl (hq) ?_; refine hK _ _ ?_; clear hK K; refine dw_ret ?_
   exact reta rfl
 ·have e : decide (Ty.mk a b = u) = false := decide_eq_false fun e => hb (by rw [← e]; rfl)
  rw [e]
  refine calldw 0 17 [ResultVar.tmp 4] TTY_ok Try.func76 rfl Try.ntmps76 rfl fun cx hnt hn0 => ?_
  ·skip
   refine dw_seq ?_; refine dwk [] TTY_ok hnt fun K hK => ?_; refine hK _ _ ?_; clear hK K; refine dw_seq ?_; refine dwk [(9, .v (.bool false))] TTY_ok hnt fun K hK => ?_; refine And.intro (beqF hb) ?_; refine hK _ _ ?_; clear hK K; refine dw_ret ?_
   exact reta rfl
theorem eqTys_d (l r : List Ty) (f : FuncId) (hf : f = 76) : PureC Try.prog 75 [.sl 2 (eTys l) none, .sl 2 (eTys r) none, .fn f []] (.v (.bool (decide (l = r)))) := by
  subst hf
  exact eqTysA l r fun t _ => keq_d t
theorem ty_mem {a : List Ty} {t : Ty} (h : t ∈ a) : t.size ≤ Ty.sizes a := by
  induction a with
  | nil => cases h
  | cons u a ih =>
    simp only [Ty.sizes]
    rcases List.mem_cons.1 h with rfl | h
    · omega
    · have := ih h; omega
theorem ty_size (a : List Ty) (b : Int) : (Ty.mk a b).size = Ty.sizes a + 1 := by simp [Ty.size]
theorem eTys_snoc (l : List Ty) (j : Nat) (h : j < l.length) : eTys (l.take j) ++ [[.sl 2 (eTys l[j].args) none, .v (.int .i64 l[j].base)]] = eTys (l.take (j + 1)) := by
  rw [List.take_add_one, List.getElem?_eq_getElem h, Option.toList_some, eTys_append, eTys, eTys, eTy_eq]
theorem kcopied_d : ∀ t : Ty, t.size ≤ 1000000 → PureC Try.prog 70 [.ag (eTy t)] (.ag (eTy t)) := by
 intro t
 induction t using Ty.ind with
 | h a b ih =>
 intro hz
 rw [ty_size] at hz
 have hal := Ty.le_sizes a
 rw [eTy_eq]
 simp only [args_mk', base_mk']
 refine calldw 0 25 [ResultVar.cell 2 83] TTY_ok Try.func70 rfl Try.ntmps70 rfl fun cx hnt hn0 => ?_
 ·skip
  refine dw_seq ?_; refine dwk [] TTY_ok hnt fun K hK => ?_; refine hK _ _ ?_; clear hK K; refine dw_seq ?_; refine dwk [] TTY_ok hnt fun K hK => ?_; refine hK _ _ ?_; clear hK K; refine dw_seq ?_; refine dw_seq ?_; refine dwk [(11, .v (.int .i64 (↑a.length)))] TTY_ok hnt fun K hK => ?_; refine And.intro (dintE (by rw [eTys_len])) ?_; refine hK _ _ ?_; clear hK K
  refine DW.vs (VS.row (k := 5) (off := 0) 83 2 rfl) ?_
  refine dw_block ?_
  refine dw_loop (ι := { j : Nat // j ≤ a.length }) (fun j => [(.t 2, .p 1 0), (.t 3, .p 5 0), (.t 10, .sl 2 (eTys a) none), (.t 11, .v (.int .i64 ↑a.length)), (.t 12, .v (.int .i64 ↑j.1)), (.c 1 0, .v (.slice none 0 0)), (.c 1 1, .v (.int .i64 0)), (.c 5 0, .sl 2 (eTys (a.take j.1)) (some 11)), (.c 5 1, .v (.int .i64 b)), (.r 11, .rw 83 2 j.1)]) 12 (fun j => a.length - j.1) (⟨0, Nat.zero_le _⟩) (VS.toA) fun j => ?_
  obtain ⟨j, hj⟩ := j
  dsimp only
  by_cases hlt : j < a.length
  ·have hmem := ty_mem (List.getElem_mem hlt)
   have hih := ih a[j] (List.getElem_mem hlt) (by omega)
   have hsn := eTys_snoc a j hlt
   have hlq : (eTys (a.take j)).length = j := by rw [eTys_len, List.length_take]; omega
   rw [eTy_eq] at hih
   refine dw_seq ?_; refine dwk [(13, .v (.bool true))] TTY_ok hnt fun K hK => ?_; refine And.intro auT ?_; refine hK _ _ ?_; clear hK K; refine dw_seq ?_; refine dw_cond (t := true) rfl ?_; rw [if_pos rfl]; refine dw_skip ?_; refine dw_seq ?_; refine dw_block ?_; refine dw_seq ?_; refine dwk [(14, .q [.sl 2 (eTys a[j].args) none, .v (.int .i64 a[j].base)])] TTY_ok hnt fun K hK => ?_; refine And.intro (elo (eTys_len a)) ?_
   refine And.intro (elv (eTys_getD a j) (eTy_eq _)) ?_; refine hK _ _ ?_; clear hK K; refine dwkD [(21, .sl 2 (eTys (a.take (j + 1))) (some 11))] TTY_ok hnt fun K hK => ?_; refine dcl (hih) ?_; refine And.intro (⟨by rw [hlq], by rw [hlq]; simp; omega⟩) ?_; refine And.intro (VLe.of_eq (by rw [hsn])) ?_; refine hK _ _ (by kernel_rfl) ?_; clear hK K; refine dwk [(23, .v (.int .i64 (↑(j + 1))))] TTY_ok hnt fun K hK => ?_
   refine And.intro auI ?_; refine hK _ _ ?_; clear hK K
   refine ⟨⟨j + 1, by omega⟩, by first | omega | (dsimp only; omega), (by try simp only [List.length_append, List.length_take, List.length_cons, List.length_nil, Nat.zero_add, hlq]; exact VS.toA)⟩
  ·rw [List.take_of_length_le (by omega)]
   refine dw_seq ?_; refine dwk [(13, .v (.bool false))] TTY_ok hnt fun K hK => ?_; refine And.intro auF ?_; refine hK _ _ ?_; clear hK K; refine dw_seq ?_; refine dw_cond (t := false) rfl ?_; rw [if_neg (by simp)]; refine dw_exit ?_; refine dw_seq ?_; refine dwk [] TTY_ok hnt fun K hK => ?_; refine hK _ _ ?_; clear hK K; refine dw_ret ?_
   exact reta rfl
set_option maxRecDepth 100000 in
set_option maxHeartbeats 400000 in
theorem grow_at (n : Nat) (m : Int) (w : World) (hnm : m = n) (hn : n ≤ 1000000) :
    Calls Try.prog 100 #[.slice none 0 0, .int .i64 m] w fun e w' => ∃ v, e = .returned v ∧ Below w.heap.size w w' ∧ (v = .slice none 0 0 ∨ (v.ownBlock = some w.heap.size ∧ ∃ g, v = .slice (some ⟨w.heap.size, 0, none⟩) 0 g ∧ w'.ownsRow w.heap.size 83 2 v 0 [])) := by
  subst hnm
  obtain ⟨i0, hi0, hz0, hz1, hz2⟩ := info_parts infoK
  by_cases h0 : n = 0
  · subst h0
    go_enter Try.func100, Try.ntmps100
    go_wp2_with fail
    go_ret
    exact ⟨_, rfl, Below.refl _ _, .inl rfl⟩
  · have hr : ∀ ty, (Builtin.append_ #[30, 3] ty #[.slice none 0 0, .int .i64 (n : Int)]).run Try.prog w = _ := fun ty =>
      Lib.run_append_grow_zeros w 30 3 ty 83 i0 (.agg #[.slice none 0 0, .int .i64 0]) .i64 .i64 Try.underlying30 Try.underlying3 hi0 hz0 none 0 0 [] (run_firstCells_none _ _ _ _ _) n (by omega) (by rw [hz1]; decide) (by omega) (by omega) (by rw [hz2]; omega) (by rw [hz2]; exact growslice_fits (by omega) (by omega))
    have hr' : ∃ g, n ≤ g ∧ g ≤ maxLen ∧ ∀ ty, (Builtin.append_ #[30, 3] ty #[.slice none 0 0, .int .i64 (n : Int)]).run Try.prog w = .ok (.slice (some ⟨w.heap.size, 0, none⟩) n g) (w.drew.alloc (.cells (Builtin.zeroCells (#[.slice none 0 0, .int .i64 0]) n ++ Builtin.zeroCells (#[.slice none 0 0, .int .i64 0]) (g - n)) 83)) := by
      refine ⟨grownCap w n 0 83, grownCap_ge _ _ _ _, grownCap_le_maxLen _ _ _ _ (by unfold maxLen; omega), fun ty => ?_⟩
      have := hr ty
      simpa [Value.cells] using this
    obtain ⟨g, hg1, hg2, hg⟩ := hr'
    have hg2' := hg2
    clear hg2
    clear hr
    have hn0 : 0 < (n : Int) := by omega
    have Hg := Lib.hid hg; clear hg
    go_enter Try.func100, Try.ntmps100
    go_wp2_with (at_builtin; refine wpList_append_eq rfl _ _ _ _ _ rfl (Hg.out _) ?_)
    go_ret
    refine ⟨_, rfl, (Below.refl _ _).drew.alloc (Nat.le_refl _) _, .inr ⟨rfl, g, rfl, rfl, .inr ⟨w.heap.size, g, _, rfl, Nat.le_refl _, heap_alloc_new w.drew _, Nat.zero_le _, hg2', ?_, rfl⟩⟩⟩
    first | (simp [size_zeroCells]; done) | (simp [size_zeroCells]; omega)
theorem grow_d (n : Int) (h0 : 0 ≤ n) (h1 : n ≤ 1000000) (nm : Nat) : CallN Try.prog 100 [.v (.slice none 0 0), .v (.int .i64 n)] [] nm [(.r nm, .rw 83 2 0)] (.sl 2 [] (some nm)) := by
  refine ⟨by kernel_rfl, fun cx Fr m Im w a σ vs hn hs hv _ => ?_⟩
  match vs, hv with
  | [x, y], hv =>
    have := rel_v.1 hv.1; subst this
    have := rel_v.1 hv.2.1; subst this
    refine (grow_at n.toNat n w (by omega) (by omega)).mono ?_
    rintro e w' ⟨v, rfl, hb, hv⟩
    rw [dropT_nil]
    rcases hv with rfl | ⟨ho, g, rfl, hr⟩
    · have hg : (m.setR nm ⟨.slice none 0 0, 0, 83, 2⟩).row nm = some ⟨.slice none 0 0, 0, 83, 2⟩ := by simp [Mp.setR]
      exact ⟨_, _, Im, rfl, (hs.newRow hn 83 2).below0 hb, rel_nil hg⟩
    · obtain ⟨s1, s2⟩ := hs.rowMade hn (.slice (some ⟨w.heap.size, 0, none⟩) 0 g) 83 2 hb ⟨hr.1, hr.2.imp id fun ⟨g, cap, cur, q1, q2, q3⟩ => ⟨g, cap, cur, q1, Nat.zero_le _, q3⟩⟩ ho
      refine ⟨_, _, Im, rfl, s1, ?_⟩
      exact .sl _ _ 0 0 2 (fun _ _ => undef) [] (some nm) ⟨Nat.zero_le _, Nat.zero_le _⟩ (fun h => absurd h (by simp)) (fun i _ h => absurd h (by simp)) (fun i h => absurd h (by simp)) (fun i _ h => absurd h (by simp)) (fun i h => absurd h (by simp)) fun r e => by
        cases e; exact ⟨_, by simp [Mp.setR]; rfl, Nat.le_refl _, fun _ => rfl⟩
def lens : List (List Ty) → Nat
  | [] => 0
  | l :: r => l.length + lens r
theorem lens_take (ls : List (List Ty)) (j : Nat) (h : j < ls.length) : lens (ls.take (j + 1)) = lens (ls.take j) + ls[j].length := by
  induction ls generalizing j with
  | nil => simp at h
  | cons l r ih =>
    cases j with
    | zero => simp [lens]
    | succ j => simp only [List.take_succ_cons, lens, List.getElem_cons_succ]; rw [ih j (by simpa using h)]; omega
theorem lens_flat (ls : List (List Ty)) : ls.flatten.length = lens ls := by
  induction ls with
  | nil => rfl
  | cons l r ih => simp [lens, ih]
theorem lens_le (ls : List (List Ty)) (j : Nat) : lens (ls.take j) ≤ lens ls := by
  induction ls generalizing j with
  | nil => simp [lens]
  | cons l r ih =>
    cases j with
    | zero => simp [lens]
    | succ j => simp only [List.take_succ_cons, lens]; have := ih j; omega
theorem flat_take (ls : List (List Ty)) (j : Nat) (h : j < ls.length) : (ls.take (j + 1)).flatten = (ls.take j).flatten ++ ls[j] := by
  rw [List.take_add_one, List.getElem?_eq_getElem h, List.flatten_append]; simp
set_option maxHeartbeats 1000000 in
theorem concat_d (ls : List (List Ty)) (hl : lens ls ≤ 900000) (hn : ls.length ≤ 1000) : PureC Try.prog 62 [.sl 1 (eTyss ls) none] (.sl 2 (eTys ls.flatten) none) := by
 refine calldw 0 36 [ResultVar.tmp 2] TTY_ok Try.func62 rfl Try.ntmps62 rfl fun cx hnt hn0 => ?_
 ·skip
  refine dw_seq ?_; refine dwk [] TTY_ok hnt fun K hK => ?_; refine hK _ _ ?_; clear hK K; refine dw_seq ?_; refine dwk [] TTY_ok hnt fun K hK => ?_; refine hK _ _ ?_; clear hK K; refine dw_seq ?_; refine dw_seq ?_; refine dwk [(10, .v (.int .i64 (ls.length)))] TTY_ok hnt fun K hK => ?_; refine And.intro (dintE (by rw [eTyss_len])) ?_; refine hK _ _ ?_; clear hK K; refine dw_block ?_
  refine dw_loop (ι := Nat) (fun j => [(.t 0, .sl 1 (eTyss ls) none), (.t 9, .sl 1 (eTyss ls) none), (.t 10, .v (.int .i64 ls.length)), (.t 11, .v (.int .i64 (j : Int))), (.t 3, .v (.int .i64 (lens (ls.take j) : Nat)))]) 0 (fun j => ls.length - j) (0) ((VS.toK (by omega) (by repeat first | exact trivial | refine And.intro (And.intro (by first | rfl | simp [D.ok, D.oks, D.okss, D.okm, upto, keyOk, lens]) (by first | exact Or.inl rfl | exact Or.inr ⟨_, rfl, (by repeat first | exact VLe.refl _ | exact VLe.nil _ | exact VLe.untag _ _ _ | refine VLe.ag ?_ | refine VLe.tu ?_ | refine VLeL.cons ?_ ?_ | exact VLeL.nil), trivial⟩ | simp [get, Key.eq, lens])) ?_))) fun j => ?_
  by_cases hlt : j < ls.length
  ·have h1 := lens_take ls j hlt
   have h2 := lens_le ls (j + 1)
   refine dw_seq ?_; refine dwk [(12, .v (.bool true))] TTY_ok hnt fun K hK => ?_; refine And.intro auT ?_; refine hK _ _ ?_; clear hK K; refine dw_seq ?_; refine dw_cond (t := true) rfl ?_; rw [if_pos rfl]; refine dw_skip ?_; refine dw_seq ?_; refine dw_block ?_; refine dw_seq ?_; refine dwk [(13, .q [.sl 2 (eTys ls[j]) none])] TTY_ok hnt fun K hK => ?_; refine And.intro (⟨by omega, by rw [eTyss_len]; omega⟩) ?_
   refine And.intro (VLe.of_eq (by rw [Int.toNat_natCast, eTyss_getD ls j hlt])) ?_; refine hK _ _ ?_; clear hK K; refine dw_seq ?_; refine dwk [(18, .v (.int .i64 (↑(lens (ls.take (j + 1))))))] TTY_ok hnt fun K hK => ?_; refine And.intro (dintE (by rw [eTys_len, IntWalk.i64_in _ (by omega)]; omega)) ?_; refine hK _ _ ?_; clear hK K; refine dw_seq ?_; refine dwk [(20, .v (.bool false))] TTY_ok hnt fun K hK => ?_
   refine And.intro auF ?_; refine hK _ _ ?_; clear hK K; refine dw_cond (t := false) rfl ?_; rw [if_neg (by simp)]; refine dw_skip ?_; refine dwk [(22, .v (.int .i64 (↑(j + 1))))] TTY_ok hnt fun K hK => ?_; refine And.intro auI ?_; refine hK _ _ ?_; clear hK K
   refine ⟨j + 1, by first | omega | (dsimp only; omega), VS.toA⟩
  ·have h3 : ls.take j = ls := List.take_of_length_le (by omega)
   have hg := grow_d (lens (ls.take j) : Nat) (by omega) (by rw [h3]; omega)
   rw [h3] at hg ⊢
   refine dw_seq ?_; refine dwk [(12, .v (.bool false))] TTY_ok hnt fun K hK => ?_; refine And.intro auF ?_; refine hK _ _ ?_; clear hK K; refine dw_seq ?_; refine dw_cond (t := false) rfl ?_; rw [if_neg (by simp)]; refine dw_exit ?_; refine dw_seq ?_; refine dwk [] TTY_ok hnt fun K hK => ?_; refine dcn (hg _) ?_; refine hK _ _ ?_; clear hK K; refine dw_seq ?_; refine dw_seq ?_; refine dwk [(26, .v (.int .i64 (ls.length)))] TTY_ok hnt fun K hK => ?_
   refine And.intro (dintE (by rw [eTyss_len])) ?_; refine hK _ _ ?_; clear hK K; refine dw_block ?_
   refine dw_loop (ι := Nat) (fun j => [(.t 25, .sl 1 (eTyss ls) none), (.t 26, .v (.int .i64 ls.length)), (.t 27, .v (.int .i64 (j : Int))), (.t 6, .sl 2 (eTys (ls.take j).flatten) (some 2)), (.r 2, .rw 83 2 (ls.take j).flatten.length)]) 3 (fun j => ls.length - j) (0) (VS.toA) fun i => ?_
   by_cases hli : i < ls.length
   ·have h4 := lens_take ls i hli
    have h5 := lens_le ls (i + 1)
    have h6 := flat_take ls i hli
    have h7 := lens_flat (ls.take i)
    refine dw_seq ?_; refine dwk [(28, .v (.bool true))] TTY_ok hnt fun K hK => ?_; refine And.intro auT ?_; refine hK _ _ ?_; clear hK K; refine dw_seq ?_; refine dw_cond (t := true) rfl ?_; rw [if_pos rfl]; refine dw_skip ?_; refine dw_seq ?_; refine dw_block ?_; refine dw_seq ?_; refine dwk [(29, .q [.sl 2 (eTys ls[i]) none])] TTY_ok hnt fun K hK => ?_; refine And.intro (⟨by omega, by rw [eTyss_len]; omega⟩) ?_
    refine And.intro (VLe.of_eq (by rw [Int.toNat_natCast, eTyss_getD ls i hli])) ?_; refine hK _ _ ?_; clear hK K; refine dwk [(33, .sl 2 (eTys (ls.take (i + 1)).flatten) (some 2))] TTY_ok hnt fun K hK => ?_; refine And.intro (⟨by rw [eTys_len], by rw [eTys_len, eTys_len, h7]; omega⟩) ?_; refine And.intro (VLe.of_eq (by rw [h6, eTys_append])) ?_; refine hK _ _ ?_; clear hK K; refine dwk [(34, .v (.int .i64 (↑(i + 1))))] TTY_ok hnt fun K hK => ?_
    refine And.intro auI ?_; refine hK _ _ ?_; clear hK K
    have h8 : (eTys (ls.take i).flatten ++ eTys ls[i]).length = (ls.take (i + 1)).flatten.length := by rw [h6, ← eTys_append, eTys_len]
    refine ⟨i + 1, by first | omega | (dsimp only; omega), (by try simp only [List.length_append, List.length_take, List.length_cons, List.length_nil, Nat.zero_add, h8]; exact VS.toA)⟩
   ·have h9 : ls.take i = ls := List.take_of_length_le (by omega)
    rw [h9]
    refine dw_seq ?_; refine dwk [(28, .v (.bool false))] TTY_ok hnt fun K hK => ?_; refine And.intro auF ?_; refine hK _ _ ?_; clear hK K; refine dw_seq ?_; refine dw_cond (t := false) rfl ?_; rw [if_neg (by simp)]; refine dw_exit ?_; refine dw_seq ?_; refine dwk [] TTY_ok hnt fun K hK => ?_; refine hK _ _ ?_; clear hK K; refine dw_ret ?_
    exact reta rfl
theorem arrow_d (t : Ty) (l : List Ty) (hl : Ty.sizes l + t.size ≤ 900000) : PureC Try.prog 63 [.ag (eTy t), .sl 2 (eTys l) none] (.ag (eTy (.mk (l ++ t.args) t.base))) := by
 have h1 := Ty.le_sizes l
 have h2 : t.size = Ty.sizes t.args + 1 := by obtain ⟨a, b⟩ := t; exact ty_size a b
 have h3 := Ty.le_sizes t.args
 have hcat := concat_d [l, t.args] (by simp [lens]; omega) (by simp)
 simp only [List.flatten_cons, List.flatten_nil, List.append_nil] at hcat
 have hco := kcopied_d (.mk (l ++ t.args) t.base) (by rw [ty_size, Ty.sizes_append]; omega)
 rw [eTy_eq] at hco ⊢
 rw [eTy_eq]
 simp only [args_mk', base_mk'] at hco ⊢
 refine calldw 0 14 [ResultVar.cell 4 83] TTY_ok Try.func63 rfl Try.ntmps63 rfl fun cx hnt hn0 => ?_
 ·skip
  refine dw_seq ?_; refine dwk [] TTY_ok hnt fun K hK => ?_; refine hK _ _ ?_; clear hK K; refine dw_seq ?_; refine dwkD [(8, .sl 1 (eTyss [l, t.args]) none)] TTY_ok hnt fun K hK => ?_; refine And.intro (VLe.untag _ _ _) ?_; refine dcl (hcat) ?_; refine dcl (hco) ?_; refine hK _ _ (by kernel_rfl) ?_; clear hK K; refine dw_ret ?_
  exact reta rfl
theorem rsame4_d : ∀ t u : Ty, PureC Try.prog 81 [.ag (eTy t), .ag (eTy u)] (.v (.bool (decide (t = u)))) := by
 intro t
 induction t using Ty.ind with
 | h a b ih =>
 intro u
 refine CallC.lens fun hlen => ?_
 have hl : a.length ≤ 9223372036854775807 := by
  have := hlen _ (List.mem_cons_self ..)
  rw [eTy_eq] at this
  have := this _ (List.mem_cons_self ..)
  simp only [sl1, eTys_len, args_mk'] at this; exact this
 rw [eTy_eq, eTy_eq]
 simp only [args_mk', base_mk']
 by_cases hb : b = u.base
 ·have e : decide (Ty.mk a b = u) = decide (a = u.args) := by
   obtain ⟨c, d⟩ := u
   rw [Bool.eq_iff_iff, decide_eq_true_iff, decide_eq_true_iff, base_mk'] at *
   subst hb
   simp [args_mk']
  rw [e]
  by_cases hlr : a.length = u.args.length
  ·skip
   refine calldw 0 39 [ResultVar.tmp 4] TTY_ok Try.func81 rfl Try.ntmps81 rfl fun cx hnt hn0 => ?_
   ·skip
    refine dw_seq ?_; refine dwk [] TTY_ok hnt fun K hK => ?_; refine hK _ _ ?_; clear hK K; refine dw_seq ?_; refine dw_seq ?_; refine dwk [(10, .v (.bool false)), (14, .v (.int .i64 (↑a.length))), (17, .v (.int .i64 (↑u.args.length))), (18, .v (.bool false))] TTY_ok hnt fun K hK => ?_; refine And.intro (bneF hb) ?_; refine And.intro (dintE (by rw [eTys_len])) ?_; refine And.intro (dintE (by rw [eTys_len])) ?_
    refine And.intro (bneF (by omega)) ?_; refine hK _ _ ?_; clear hK K; refine dw_cond (t := false) rfl ?_; rw [if_neg (by simp)]; refine dw_skip ?_; refine dw_seq ?_; refine dw_seq ?_; refine dwk [] TTY_ok hnt fun K hK => ?_; refine hK _ _ ?_; clear hK K; refine dw_block ?_
    refine dw_loop (ι := { j : Nat // a.take j = u.args.take j }) (fun j => [(.t 2, .p 0 0), (.t 3, .p 1 0), (.t 5, .v (.int .i64 ↑j.1)), (.c 0 0, .sl 2 (eTys a) none), (.c 1 0, .sl 2 (eTys u.args) none)]) 2 (fun j => a.length - j.1) (⟨0, rfl⟩) (VS.toA) fun j => ?_
    obtain ⟨j, hj⟩ := j
    dsimp only
    by_cases hlt : j < a.length
    ·have hlt2 : j < u.args.length := by omega
     have hq := ih a[j] (List.getElem_mem hlt) u.args[j]
     rw [eTy_eq, eTy_eq] at hq
     by_cases he : a[j] = u.args[j]
     ·rw [decide_eq_true he] at hq
      refine dw_seq ?_; refine dw_seq ?_; refine dwk [(23, .v (.int .i64 (↑a.length))), (24, .v (.bool true))] TTY_ok hnt fun K hK => ?_; refine And.intro (dintE (by rw [eTys_len])) ?_; refine And.intro auT ?_; refine hK _ _ ?_; clear hK K; refine dw_cond (t := true) rfl ?_; rw [if_pos rfl]; refine dw_skip ?_; refine dw_seq ?_; refine dw_block ?_; refine dw_seq ?_; refine dwkD [(30, .q [.sl 2 (eTys a[j].args) none, .v (.int .i64 a[j].base)]), (35, .q [.sl 2 (eTys u.args[j].args) none, .v (.int .i64 u.args[j].base)])] TTY_ok hnt fun K hK => ?_
      refine And.intro (elo (eTys_len a)) ?_; refine And.intro (elv (eTys_getD a j) (eTy_eq _)) ?_; refine And.intro (elo (eTys_len u.args)) ?_; refine And.intro (elv (eTys_getD u.args j) (eTy_eq _)) ?_; refine dcl (hq) ?_; refine hK _ _ (by kernel_rfl) ?_; clear hK K; refine dw_cond (t := false) rfl ?_; rw [if_neg (by simp)]; refine dw_skip ?_; refine dwk [(26, .v (.int .i64 (↑(j + 1))))] TTY_ok hnt fun K hK => ?_
      refine And.intro auI ?_; refine hK _ _ ?_; clear hK K
      refine ⟨⟨j + 1, take_succ_eq hj hlt hlt2 he⟩, by first | omega | (dsimp only; omega), VS.toA⟩
     ·rw [decide_eq_false he] at hq
      rw [decide_eq_false (ne_at hlt hlt2 he)]
      refine dw_seq ?_; refine dw_seq ?_; refine dwk [(23, .v (.int .i64 (↑a.length))), (24, .v (.bool true))] TTY_ok hnt fun K hK => ?_; refine And.intro (dintE (by rw [eTys_len])) ?_; refine And.intro auT ?_; refine hK _ _ ?_; clear hK K; refine dw_cond (t := true) rfl ?_; rw [if_pos rfl]; refine dw_skip ?_; refine dw_seq ?_; refine dw_block ?_; refine dw_seq ?_; refine dwkD [(30, .q [.sl 2 (eTys a[j].args) none, .v (.int .i64 a[j].base)]), (35, .q [.sl 2 (eTys u.args[j].args) none, .v (.int .i64 u.args[j].base)])] TTY_ok hnt fun K hK => ?_
      refine And.intro (elo (eTys_len a)) ?_; refine And.intro (elv (eTys_getD a j) (eTy_eq _)) ?_; refine And.intro (elo (eTys_len u.args)) ?_; refine And.intro (elv (eTys_getD u.args j) (eTy_eq _)) ?_; refine dcl (hq) ?_; refine hK _ _ (by kernel_rfl) ?_; clear hK K; refine dw_cond (t := true) rfl ?_; rw [if_pos rfl]; refine dw_seq ?_; refine dwk [] TTY_ok hnt fun K hK => ?_; refine hK _ _ ?_; clear hK K
      refine dw_ret ?_
      exact reta rfl
    ·rw [decide_eq_true (eq_of_take hj (by omega) (by omega))]
     refine dw_seq ?_; refine dw_seq ?_; refine dwk [(23, .v (.int .i64 (↑a.length))), (24, .v (.bool false))] TTY_ok hnt fun K hK => ?_; refine And.intro (dintE (by rw [eTys_len])) ?_; refine And.intro auF ?_; refine hK _ _ ?_; clear hK K; refine dw_cond (t := false) rfl ?_; rw [if_neg (by simp)]; refine dw_exit ?_; refine dw_seq ?_; refine dwk [] TTY_ok hnt fun K hK => ?_; refine hK _ _ ?_; clear hK K
     refine dw_ret ?_
     exact reta rfl
  ·rw [decide_eq_false (fun e => hlr (by rw [e]))]
   refine calldw 0 39 [ResultVar.tmp 4] TTY_ok Try.func81 rfl Try.ntmps81 rfl fun cx hnt hn0 => ?_
   ·skip
    refine dw_seq ?_; refine dwk [] TTY_ok hnt fun K hK => ?_; refine hK _ _ ?_; clear hK K; refine dw_seq ?_; refine dw_seq ?_; refine dwk [(10, .v (.bool false)), (14, .v (.int .i64 (↑a.length))), (17, .v (.int .i64 (↑u.args.length))), (18, .v (.bool true))] TTY_ok hnt fun K hK => ?_; refine And.intro (bneF hb) ?_; refine And.intro (dintE (by rw [eTys_len])) ?_; refine And.intro (dintE (by rw [eTys_len])) ?_
    refine And.intro (bneT (by omega)) ?_; refine hK _ _ ?_; clear hK K; refine dw_cond (t := true) rfl ?_; rw [if_pos rfl]; refine dw_seq ?_; refine dwk [] TTY_ok hnt fun K hK => ?_; refine hK _ _ ?_; clear hK K; refine dw_ret ?_
    exact reta rfl
 ·have e : decide (Ty.mk a b = u) = false := decide_eq_false fun e => hb (by rw [← e]; rfl)
  rw [e]
  refine calldw 0 39 [ResultVar.tmp 4] TTY_ok Try.func81 rfl Try.ntmps81 rfl fun cx hnt hn0 => ?_
  ·skip
   refine dw_seq ?_; refine dwk [] TTY_ok hnt fun K hK => ?_; refine hK _ _ ?_; clear hK K; refine dw_seq ?_; refine dw_seq ?_; refine dwk [(10, .v (.bool true))] TTY_ok hnt fun K hK => ?_; refine And.intro (bneT hb) ?_; refine hK _ _ ?_; clear hK K; refine dw_cond (t := true) rfl ?_; rw [if_pos rfl]; refine dw_seq ?_; refine dwk [] TTY_ok hnt fun K hK => ?_; refine hK _ _ ?_; clear hK K; refine dw_ret ?_
   exact reta rfl
theorem rtypesEq_d (l r : List Ty) : PureC Try.prog 45 [.sl 2 (eTys l) none, .sl 2 (eTys r) none] (.v (.bool (decide (l = r)))) := CallC.lens fun hlen => by
 have hl : l.length ≤ 9223372036854775807 := by have := hlen _ (List.mem_cons_self ..); simp only [slOk, sl1, eTys_len] at this; exact this
 by_cases hlr : l.length = r.length
 ·skip
  refine calldw 0 27 [ResultVar.tmp 4] TTY_ok Try.func45 rfl Try.ntmps45 rfl fun cx hnt hn0 => ?_
  ·skip
   refine dw_seq ?_; refine dwk [] TTY_ok hnt fun K hK => ?_; refine hK _ _ ?_; clear hK K; refine dw_seq ?_; refine dw_seq ?_; refine dwk [(7, .v (.int .i64 (↑l.length))), (9, .v (.int .i64 (↑r.length))), (10, .v (.bool false))] TTY_ok hnt fun K hK => ?_; refine And.intro (dintE (by rw [eTys_len])) ?_; refine And.intro (dintE (by rw [eTys_len])) ?_; refine And.intro (bneF (by omega)) ?_; refine hK _ _ ?_; clear hK K
   refine dw_cond (t := false) rfl ?_; rw [if_neg (by simp)]; refine dw_skip ?_; refine dw_seq ?_; refine dw_seq ?_; refine dwk [] TTY_ok hnt fun K hK => ?_; refine hK _ _ ?_; clear hK K; refine dw_block ?_
   refine dw_loop (ι := { j : Nat // l.take j = r.take j }) (fun j => [(.t 0, .sl 2 (eTys l) none), (.t 1, .sl 2 (eTys r) none), (.t 5, .v (.int .i64 ↑j.1))]) 0 (fun j => l.length - j.1) (⟨0, rfl⟩) ((by unfold argsT; exact (VS.toK (by omega) (by repeat first | exact trivial | refine And.intro (And.intro (by first | rfl | simp [D.ok, D.oks, D.okss, D.okm, upto, keyOk, argsT]) (by first | exact Or.inl rfl | exact Or.inr ⟨_, rfl, (by repeat first | exact VLe.refl _ | exact VLe.nil _ | exact VLe.untag _ _ _ | refine VLe.ag ?_ | refine VLe.tu ?_ | refine VLeL.cons ?_ ?_ | exact VLeL.nil), trivial⟩ | simp [get, Key.eq, argsT])) ?_)))) fun j => ?_
   obtain ⟨j, hj⟩ := j
   dsimp only
   by_cases hlt : j < l.length
   ·have hlt2 : j < r.length := by omega
    have hq := rsame4_d l[j] r[j]
    rw [eTy_eq, eTy_eq] at hq
    by_cases he : l[j] = r[j]
    ·rw [decide_eq_true he] at hq
     refine dw_seq ?_; refine dw_seq ?_; refine dwk [(13, .v (.int .i64 (↑l.length))), (14, .v (.bool true))] TTY_ok hnt fun K hK => ?_; refine And.intro (dintE (by rw [eTys_len])) ?_; refine And.intro auT ?_; refine hK _ _ ?_; clear hK K; refine dw_cond (t := true) rfl ?_; rw [if_pos rfl]; refine dw_skip ?_; refine dw_seq ?_; refine dw_block ?_; refine dw_seq ?_; refine dwkD [(19, .q [.sl 2 (eTys l[j].args) none, .v (.int .i64 l[j].base)]), (23, .q [.sl 2 (eTys r[j].args) none, .v (.int .i64 r[j].base)])] TTY_ok hnt fun K hK => ?_
     refine And.intro (elo (eTys_len l)) ?_; refine And.intro (elv (eTys_getD l j) (eTy_eq _)) ?_; refine And.intro (elo (eTys_len r)) ?_; refine And.intro (elv (eTys_getD r j) (eTy_eq _)) ?_; refine dcl (hq) ?_; refine hK _ _ (by kernel_rfl) ?_; clear hK K; refine dw_cond (t := false) rfl ?_; rw [if_neg (by simp)]; refine dw_skip ?_; refine dwk [(16, .v (.int .i64 (↑(j + 1))))] TTY_ok hnt fun K hK => ?_
     refine And.intro auI ?_; refine hK _ _ ?_; clear hK K
     refine ⟨⟨j + 1, take_succ_eq hj hlt hlt2 he⟩, by first | omega | (dsimp only; omega), VS.toA⟩
    ·rw [decide_eq_false he] at hq
     rw [decide_eq_false (ne_at hlt hlt2 he)]
     refine dw_seq ?_; refine dw_seq ?_; refine dwk [(13, .v (.int .i64 (↑l.length))), (14, .v (.bool true))] TTY_ok hnt fun K hK => ?_; refine And.intro (dintE (by rw [eTys_len])) ?_; refine And.intro auT ?_; refine hK _ _ ?_; clear hK K; refine dw_cond (t := true) rfl ?_; rw [if_pos rfl]; refine dw_skip ?_; refine dw_seq ?_; refine dw_block ?_; refine dw_seq ?_; refine dwkD [(19, .q [.sl 2 (eTys l[j].args) none, .v (.int .i64 l[j].base)]), (23, .q [.sl 2 (eTys r[j].args) none, .v (.int .i64 r[j].base)])] TTY_ok hnt fun K hK => ?_
     refine And.intro (elo (eTys_len l)) ?_; refine And.intro (elv (eTys_getD l j) (eTy_eq _)) ?_; refine And.intro (elo (eTys_len r)) ?_; refine And.intro (elv (eTys_getD r j) (eTy_eq _)) ?_; refine dcl (hq) ?_; refine hK _ _ (by kernel_rfl) ?_; clear hK K; refine dw_cond (t := true) rfl ?_; rw [if_pos rfl]; refine dw_seq ?_; refine dwk [] TTY_ok hnt fun K hK => ?_; refine hK _ _ ?_; clear hK K; refine dw_ret ?_
     exact reta rfl
   ·rw [decide_eq_true (eq_of_take hj (by omega) (by omega))]
    refine dw_seq ?_; refine dw_seq ?_; refine dwk [(13, .v (.int .i64 (↑l.length))), (14, .v (.bool false))] TTY_ok hnt fun K hK => ?_; refine And.intro (dintE (by rw [eTys_len])) ?_; refine And.intro auF ?_; refine hK _ _ ?_; clear hK K; refine dw_cond (t := false) rfl ?_; rw [if_neg (by simp)]; refine dw_exit ?_; refine dw_seq ?_; refine dwk [] TTY_ok hnt fun K hK => ?_; refine hK _ _ ?_; clear hK K
    refine dw_ret ?_
    exact reta rfl
 ·rw [decide_eq_false (fun e => hlr (by rw [e]))]
  refine calldw 0 27 [ResultVar.tmp 4] TTY_ok Try.func45 rfl Try.ntmps45 rfl fun cx hnt hn0 => ?_
  ·skip
   refine dw_seq ?_; refine dwk [] TTY_ok hnt fun K hK => ?_; refine hK _ _ ?_; clear hK K; refine dw_seq ?_; refine dw_seq ?_; refine dwk [(7, .v (.int .i64 (↑l.length))), (9, .v (.int .i64 (↑r.length))), (10, .v (.bool true))] TTY_ok hnt fun K hK => ?_; refine And.intro (dintE (by rw [eTys_len])) ?_; refine And.intro (dintE (by rw [eTys_len])) ?_; refine And.intro (bneT (by omega)) ?_; refine hK _ _ ?_; clear hK K
   refine dw_cond (t := true) rfl ?_; rw [if_pos rfl]; refine dw_seq ?_; refine dwk [] TTY_ok hnt fun K hK => ?_; refine hK _ _ ?_; clear hK K; refine dw_ret ?_
   exact reta rfl
end Go.Proofs.Ytcblpjheoclkeaa

namespace Go.Proofs.Ytcblpjheoclkeaa
open Go.RowKit

theorem pure_below {P : Program} {f : FuncId} (hf : entersB P f = true) {ds : List D} {V : D}
    (h : ∀ (m : Mp) (Im : Nat → Nat → Prop) (w : World) (vs : List Value), RelL m Im w vs ds → Calls P f vs.toArray w fun e w' => ∃ v, e = .returned v ∧ Below w.heap.size w w' ∧ ∀ Im' : Nat → Nat → Prop, (∀ b o, Im b o → Im' b o) → (∀ b o v, w.heap.size ≤ b → w'.cell? ⟨b, o, none⟩ = some v → Im' b o) → Rel m Im' w' v V) : PureC P f ds V := by
  refine ⟨hf, fun cx Fr m Im w vs hmem hargs _ => (h m Im w vs hargs).mono ?_⟩
  rintro e w' ⟨v, rfl, hb, hr⟩
  refine ⟨v, fun b o => Im b o ∨ (w.heap.size ≤ b ∧ ∃ v, w'.cell? ⟨b, o, none⟩ = some v), rfl, ⟨hb.os, hb.tape, hb.output, hb.size, fun b hl _ => hb.block b hl⟩, fun b o h => .inl h, fun b o h => h.imp id fun h => h.1, fun b o hi => ?_, fun k b o hk => ?_, hr _ (fun b o h => .inl h) fun b o v h1 h2 => .inr ⟨h1, v, h2⟩, nofun⟩
  · rcases hi with hi | hi
    · obtain ⟨v, hv⟩ := hmem.im b o hi
      exact ⟨v, (hb.cell (p := ⟨b, o, none⟩) (ltOfCell hv)).trans hv⟩
    · exact hi.2
  · exact (World.frozen?_of_block (a := ⟨b, o, none⟩) (hb.block b (hmem.lt k b hk))).trans (hmem.free k b o hk)
theorem agTm {m : Mp} {Im : Nat → Nat → Prop} {w : World} {x : Value} {t : Tm} (h : Rel m Im w x (.ag (eTm t))) : ∃ b k i a, x = .agg #[b, k, i, a] ∧ IsTm (blkI Im) w b k i a t := by
  obtain ⟨cs, rfl, hr⟩ := rel_ag.1 h
  obtain ⟨b, k, i, a, rfl, ht⟩ := tm_of_rel t hr
  exact ⟨b, k, i, a, rfl, ht⟩
def TCP_34 : TI := ⟨4, true, [Value.slice none 0 0, Value.int IntKind.i64 0, Value.int IntKind.i64 0, Value.slice none 0 0], [(0, 1, false), (1, 2, true), (3, 1, false)], none, 64, 6, none, false⟩
theorem TCP_34_ok : TypOk Try.prog 34 TCP_34 := ⟨by kernel_rfl, by kernel_rfl, by kernel_rfl, by kernel_rfl, by kernel_rfl⟩
def TCP_3 : TI := ⟨1, false, [Value.int IntKind.i64 0], [], none, 8, 2, none, false⟩
theorem TCP_3_ok : TypOk Try.prog 3 TCP_3 := ⟨by kernel_rfl, by kernel_rfl, by kernel_rfl, by kernel_rfl, by kernel_rfl⟩
def TCP_32 : TI := ⟨1, false, [Value.slice none 0 0], [], some 34, 24, 5, none, false⟩
theorem TCP_32_ok : TypOk Try.prog 32 TCP_32 := ⟨by kernel_rfl, by kernel_rfl, by kernel_rfl, by kernel_rfl, by kernel_rfl⟩
def TCP_31 : TI := ⟨2, true, [Value.int IntKind.i64 0, Value.int IntKind.i64 0], [(0, 1, false), (1, 1, false)], none, 16, 6, none, true⟩
theorem TCP_31_ok : TypOk Try.prog 31 TCP_31 := ⟨by kernel_rfl, by kernel_rfl, by kernel_rfl, by kernel_rfl, by kernel_rfl⟩
def TCP_30 : TI := ⟨1, false, [Value.slice none 0 0], [], some 83, 24, 5, none, false⟩
theorem TCP_30_ok : TypOk Try.prog 30 TCP_30 := ⟨by kernel_rfl, by kernel_rfl, by kernel_rfl, by kernel_rfl, by kernel_rfl⟩
def TCP_83 : TI := ⟨2, true, [Value.slice none 0 0, Value.int IntKind.i64 0], [(0, 1, false), (1, 1, false)], none, 32, 6, none, false⟩
theorem TCP_83_ok : TypOk Try.prog 83 TCP_83 := ⟨by kernel_rfl, by kernel_rfl, by kernel_rfl, by kernel_rfl, by kernel_rfl⟩
def TCP_165 : TI := ⟨1, false, [Value.nilFunc], [], none, 8, 8, none, false⟩
theorem TCP_165_ok : TypOk Try.prog 165 TCP_165 := ⟨by kernel_rfl, by kernel_rfl, by kernel_rfl, by kernel_rfl, by kernel_rfl⟩
def TCP : List (Nat × TI) := [(34, TCP_34), (3, TCP_3), (32, TCP_32), (31, TCP_31), (30, TCP_30), (83, TCP_83), (165, TCP_165)]
theorem TCP_ok : TabOk Try.prog TCP := ((((((((TabOk.nil _).cons TCP_165_ok).cons TCP_83_ok).cons TCP_30_ok).cons TCP_31_ok).cons TCP_32_ok).cons TCP_3_ok).cons TCP_34_ok)

theorem cEms_snoc (l : List Tm) (j : Nat) (h : j < l.length) : eTms (l.take j) ++ [[.sl 2 (eTys l[j].binds) none, .v (.int .i64 l[j].kind), .v (.int .i64 l[j].index), .sl 4 (eTms l[j].args) none]] = eTms (l.take (j + 1)) := by
  rw [← eTm_eq, List.take_add_one, List.getElem?_eq_getElem h, Option.toList_some, eTms_map, eTms_map, List.map_append]; rfl
theorem copy1_d (x : Int) : PureC Try.prog 80 [.v (.int .i64 x)] (.v (.int .i64 x)) := by
 refine calldw 0 4 [ResultVar.tmp 2] TCP_ok Try.func80 rfl Try.ntmps80 rfl fun cx hnt hn0 => ?_
 ·skip
  refine dw_seq ?_; refine dwk [] TCP_ok hnt fun K hK => ?_; refine hK _ _ ?_; clear hK K; refine dw_seq ?_; refine dwk [] TCP_ok hnt fun K hK => ?_; refine hK _ _ ?_; clear hK K; refine dw_ret ?_
  exact reta rfl
theorem cFulls_len (l : List Tm) : l.length ≤ Tm.fulls l := by
  induction l with
  | nil => simp
  | cons u l ih =>
    have : 1 ≤ u.full := by obtain ⟨b, k, i, a⟩ := u; rw [Tm.full_eq]; omega
    simp only [List.length_cons, Tm.fulls]; omega
theorem turnedD_d : ∀ t : Tm, ∀ ins : Int, 0 ≤ ins → ins + t.full ≤ 900000 → t.Fit → PureC Try.prog 79 [.ag (eTm t), .v (.int .i64 ins), .fn 80 []] (.ag (eTm t)) := by
 intro t
 induction t using Tm.ind with
 | h bs k i ar ih =>
  intro ins h0 hz hft
  rw [Tm.full_eq] at hz
  have hbl := Ty.le_sizes bs
  obtain ⟨hi0, hi1, _⟩ := Tm.fit_iff.1 hft
  have hs1 : (Ty.mk [] 0).size = 1 := by simp [Ty.size, Ty.sizes]
  have harr := arrow_d (.mk [] 0) bs (by omega)
  dsimp only [Ty.args, Ty.base] at harr
  rw [List.append_nil, eTy_eq, eTy_eq] at harr
  dsimp only [Ty.args, Ty.base, eTys] at harr
  have hal := cFulls_len ar
  rw [eTm_eq]
  dsimp only [Tm.binds, Tm.kind, Tm.index, Tm.args]
  obtain ⟨n, hn⟩ : ∃ n : Int, n = ins + bs.length := ⟨_, rfl⟩
  refine calldw 0 63 [ResultVar.cell 6 34] TCP_ok Try.func79 rfl Try.ntmps79 rfl fun cx hnt hn0 => ?_
  ·skip
   refine dw_seq ?_; refine dwk [] TCP_ok hnt fun K hK => ?_; refine hK _ _ ?_; clear hK K; refine dw_seq ?_; refine dwk [(14, .v (.int .i64 (n)))] TCP_ok hnt fun K hK => ?_; refine And.intro (dintE (by rw [eTys_len, IntWalk.i64_in _ (by omega)]; omega)) ?_; refine hK _ _ ?_; clear hK K; refine dw_seq ?_; refine dwkD [(15, .ag [.sl 2 [] none, .v (.int .i64 0)])] TCP_ok hnt fun K hK => ?_; refine And.intro (auV) ?_
   refine dcl (harr) ?_; refine hK _ _ (by kernel_rfl) ?_; clear hK K
   refine dw_cut (τ := [(.t 1, .v (.int .i64 n)), (.t 2, .fn 80 []), (.t 3, .p 0 0), (.t 6, .p 1 0), (.t 7, .p 16 0), (.c 0 0, .sl 2 (eTys bs) none), (.c 0 1, .v (.int .i64 k)), (.c 0 2, .v (.int .i64 i)), (.c 0 3, .sl 4 (eTms ar) none), (.c 1 0, .v (.slice none 0 0)), (.c 1 1, .v (.int .i64 0)), (.c 1 2, .v (.int .i64 0)), (.c 1 3, .v (.slice none 0 0)), (.c 16 0, .sl 2 (eTys bs) none), (.c 16 1, .v (.int .i64 k)), (.c 16 2, .v (.int .i64 i)), (.c 16 3, .v (.slice none 0 0))]) (N1 := 17) ?_ ?_
   ·by_cases hk : k = 0
    ·by_cases hge : i ≥ n
     ·have hc1 := copy1_d (i - n)
      refine dw_seq ?_; refine dwk [(26, .v (.bool true)), (32, .v (.bool true))] TCP_ok hnt fun K hK => ?_; refine And.intro (VLe.of_eq (by simp [hk])) ?_; refine And.intro auT ?_; refine hK _ _ ?_; clear hK K; refine dw_cond (t := true) rfl ?_; rw [if_pos rfl]; refine dwk [(40, .v (.int .i64 ((i - n)))), (42, .v (.int .i64 (i)))] TCP_ok hnt fun K hK => ?_; refine And.intro (dintE (by exact IntWalk.i64_in _ (by omega))) ?_
      refine dcl (hc1) ?_; refine And.intro (dintE (by (rw [show n + (i - n) = i by omega]; exact IntWalk.i64_in _ (by omega)))) ?_; refine hK _ _ ?_; clear hK K
      exact cut_ok VS.toA
     ·skip
      refine dw_seq ?_; refine dwk [(26, .v (.bool true)), (32, .v (.bool false))] TCP_ok hnt fun K hK => ?_; refine And.intro (VLe.of_eq (by simp [hk])) ?_; refine And.intro auF ?_; refine hK _ _ ?_; clear hK K; refine dw_cond (t := false) rfl ?_; rw [if_neg (by simp)]; refine dw_skip ?_
      exact cut_ok VS.toA
    ·skip
     refine dw_seq ?_; refine dwk [(26, .v (.bool false))] TCP_ok hnt fun K hK => ?_; refine And.intro (VLe.of_eq (by simp [hk])) ?_; refine hK _ _ ?_; clear hK K; refine dw_cond (t := false) rfl ?_; rw [if_neg (by simp)]; refine dw_skip ?_
     exact cut_ok VS.toA
   ·refine DW.vs (VS.row (k := 16) (off := 3) 34 4 rfl) ?_
    refine dw_seq ?_; refine dw_seq ?_; refine dwk [(47, .v (.int .i64 (↑ar.length)))] TCP_ok hnt fun K hK => ?_; refine And.intro (dintE (by rw [eTms_len])) ?_; refine hK _ _ ?_; clear hK K; refine dw_block ?_
    refine dw_loop (ι := { j : Nat // j ≤ ar.length }) (fun j => [(.t 1, .v (.int .i64 n)), (.t 2, .fn 80 []), (.t 6, .p 1 0), (.t 7, .p 16 0), (.t 46, .sl 4 (eTms ar) none), (.t 47, .v (.int .i64 ↑ar.length)), (.t 48, .v (.int .i64 ↑j.1)), (.c 1 0, .v (.slice none 0 0)), (.c 1 1, .v (.int .i64 0)), (.c 1 2, .v (.int .i64 0)), (.c 1 3, .v (.slice none 0 0)), (.c 16 0, .sl 2 (eTys bs) none), (.c 16 1, .v (.int .i64 k)), (.c 16 2, .v (.int .i64 i)), (.c 16 3, .sl 4 (eTms (ar.take j.1)) (some 17)), (.r 17, .rw 34 4 j.1)]) 18 (fun j => ar.length - j.1) (⟨0, Nat.zero_le _⟩) (VS.toA) fun j => ?_
    obtain ⟨j, hj⟩ := j
    dsimp only
    by_cases hlt : j < ar.length
    ·have hmem := List.getElem_mem hlt
     have hsz := Tm.full_mem hmem
     have hc := ih _ hmem n (by omega) (by omega) ((Tm.fit_iff.1 hft).2.2 _ hmem)
     rw [eTm_eq] at hc
     have hl1 : (eTms (ar.take j)).length = j := by rw [eTms_len, List.length_take]; omega
     have hl2 : (eTms (ar.take (j + 1))).length = j + 1 := by rw [eTms_len, List.length_take]; omega
     refine dw_seq ?_; refine dwk [(49, .v (.bool true))] TCP_ok hnt fun K hK => ?_; refine And.intro auT ?_; refine hK _ _ ?_; clear hK K; refine dw_seq ?_; refine dw_cond (t := true) rfl ?_; rw [if_pos rfl]; refine dw_skip ?_; refine dw_seq ?_; refine dw_block ?_; refine dw_seq ?_; refine dwk [(50, .q [.sl 2 (eTys ar[j].binds) none, .v (.int .i64 ar[j].kind), .v (.int .i64 ar[j].index), .sl 4 (eTms ar[j].args) none])] TCP_ok hnt fun K hK => ?_
     refine And.intro (elo (eTms_len ar)) ?_; refine And.intro (elv (eTms_getD ar j) (eTm_eq _)) ?_; refine hK _ _ ?_; clear hK K; refine dwkD [] TCP_ok hnt fun K hK => ?_; refine dcl (hc) ?_; refine And.intro (⟨by omega, by rw [hl1]; simp; omega⟩) ?_; refine hK _ _ (by kernel_rfl) ?_; clear hK K
     rw [cEms_snoc ar j hlt, hl2]
     refine dwk [(61, .v (.int .i64 (↑(j + 1))))] TCP_ok hnt fun K hK => ?_; refine And.intro auI ?_; refine hK _ _ ?_; clear hK K
     refine ⟨⟨j + 1, hlt⟩, by first | omega | (dsimp only; omega), VS.toA⟩
    ·rw [List.take_of_length_le (by omega)]
     refine dw_seq ?_; refine dwk [(49, .v (.bool false))] TCP_ok hnt fun K hK => ?_; refine And.intro auF ?_; refine hK _ _ ?_; clear hK K; refine dw_seq ?_; refine dw_cond (t := false) rfl ?_; rw [if_neg (by simp)]; refine dw_exit ?_; refine dw_seq ?_; refine dwk [] TCP_ok hnt fun K hK => ?_; refine hK _ _ ?_; clear hK K; refine dw_ret ?_
     exact reta rfl
theorem copyW_d (t : Tm) (hsz : t.full ≤ 900000) (hfit : t.Fit) : PureC Try.prog 43 [.ag (eTm t)] (.ag (eTm t)) := by
 have h := turnedD_d t 0 (Int.le_refl _) (by omega) hfit
 rw [eTm_eq] at h ⊢
 refine calldw 0 5 [ResultVar.cell 2 34] TCP_ok Try.func43 rfl Try.ntmps43 rfl fun cx hnt hn0 => ?_
 ·skip
  refine dw_seq ?_; refine dwk [] TCP_ok hnt fun K hK => ?_; refine hK _ _ ?_; clear hK K; refine dw_seq ?_; refine dwk [] TCP_ok hnt fun K hK => ?_; refine dcl (h) ?_; refine hK _ _ ?_; clear hK K; refine dw_ret ?_
  exact reta rfl
theorem copy_d (t : Tm) (hsz : t.full ≤ 80000) (hfit : t.Fit) : PureC Try.prog 43 [.ag (eTm t)] (.ag (eTm t)) := copyW_d t (by omega) hfit
end Go.Proofs.Ytcblpjheoclkeaa

namespace Go.Proofs.Ytcblpjheoclkeaa
open Go.RowKit

def Mild {β : Type} (Ok : Obj → Prop) (B : Nat) (J : β → World → Prop) : Prop :=
  ∀ s W W' row, J s W → W.grownBy W' row → (∀ r, row = some r → B ≤ r ∧ ∃ o : Obj, W.heap[r]? = some o ∧ Ok o) → J s W'
section
variable {β : Type} {Ok : Obj → Prop} {B : Nat} {I I' : β → World → Prop}
theorem Mild.and (h : Mild Ok B I) (h' : Mild Ok B I') : Mild Ok B (fun s W => I s W ∧ I' s W) := fun s W W' row hs hg hr => ⟨h s W W' row hs.1 hg hr, h' s W W' row hs.2 hg hr⟩
theorem Mild.alloc (h : Mild Ok B I) {s : β} {W : World} (hs : I s W) (o : Obj) : I s (W.alloc o) := h s W _ none hs (World.grownBy_alloc W o none) (fun r e => by cases e)
theorem Mild.put (h : Mild Ok B I) (hOk : ∀ o : Obj, o.isCells = false → Ok o) {s : β} {W : World} (hs : I s W) {l : Nat} {o : Obj} (o' : Obj) (hl : W.heap[l]? = some o) (ho : o.isCells = false) (hB : B ≤ l) : I s (W.putObj l o') :=
  h s W _ _ hs (grownBy_putObj' W l o') (fun r e => by cases e; exact ⟨hB, o, hl, hOk o ho⟩)
theorem Mild.up {B' : Nat} (h : Mild Ok B I) (hB : B ≤ B') : Mild Ok B' I := fun s W W' row hs hg hr => h s W W' row hs hg fun r e => ⟨Nat.le_trans hB (hr r e).1, (hr r e).2⟩
theorem mild_block {k : Nat} {o : Obj} (hk : k < B) : Mild Ok B (fun (_ : β) W => W.heap[k]? = some o) := fun _ W _ row hs hg hr => (hg.block k (Array.getElem?_eq_some_iff.1 hs).1 (fun e => by have := (hr k e.symm).1; omega)).trans hs
theorem mild_below {n0 : Nat} {w0 : World} (hn : n0 ≤ w0.heap.size) (hB : n0 ≤ B) : Mild Ok B (fun (_ : β) W => Below n0 w0 W) := fun _ _ _ _ hs hg hr => hs.grown hg (Nat.le_trans hn hs.size) (fun k e => Nat.le_trans hB (hr k e).1)
end

def SeqSoft {α : Type} (Ok : Obj → Prop) (F : Fence) (n : Nat) (P : Program) (g : Nat) (lb : Array Value) (encs : α → Array Value) (Kp : World → World → Prop) (S Sp : List α → Prop) (N : Nat) (w : World) : Prop :=
  ∀ (l : Nat) (J Jx : List α → World → Prop) (W : World), Below w.heap.size w W → Mild Ok W.heap.size J → Mild Ok W.heap.size Jx →
    (∀ pre x V, J pre V → pre.length < N → YieldAt F (n - 1) P l (encs x) V fun e V' => (e = .returned (.bool true) ∧ J (pre ++ [x]) V' ∧ Kp V V') ∨ (e = .returned (.bool false) ∧ Jx (pre ++ [x]) V')) →
    J [] W → CallsIn F n P g (#[.func (.yield l) #[] #[]] ++ lb) W fun e W' => (∃ v, e = .returned v) ∧ ((∃ xs, S xs ∧ J xs W') ∨ (∃ pre, Sp pre ∧ Jx pre W'))

theorem range_softA {Ok : Obj → Prop} (hOk : ∀ o : Obj, o.isCells = false → Ok o) {F : Fence} {n : Nat} {P : Program} {α : Type} {g : Operand} {ps : Array Tmp} {assign body : Code} {Q : Exit → Act → World → Prop} {a : Act} {w : World}
    (hro : F.round = none) (hn : 1 ≤ n) {gf : Nat} {lb : Array Value} (hg : a.eval g = .func (.func gf) #[] lb) (hF : F.fn gf) (eg : ∀ args w, (callFunc gf args).run P w = .ok (.enter gf args) w)
    {encs : α → Array Value} {Kp : World → World → Prop} {S Sp : List α → Prop} {N : Nat} {w0 : World} (hseq : SeqSoft Ok F (n - 1) P gf lb encs Kp S Sp N w0)
    (hKt : ∀ {X Y Z : World}, Kp X Y → Kp Y Z → Kp X Z) (hKb : ∀ (W : World) (l : Nat) (o o' : Obj), w.heap.size ≤ l → W.heap[l]? = some o → o.isCells = false → o.isWalk = false → Kp W (W.putObj l o')) (hw0 : Below w0.heap.size w0 w) (hps : ∀ x, (encs x).size = ps.size)
    (I : List α → World → Prop) (Ix : Code → List α → World → Prop) (hI : Mild Ok w.heap.size I) (hIx : ∀ c, Mild Ok w.heap.size (Ix c)) (h0 : I [] w) (Ra : α → Act → World → Prop) (hRa : ∀ x a' W l (o o' : Obj), w.heap.size ≤ l → W.heap[l]? = some o → o.isCells = false → Ra x a' W → Ra x a' (W.putObj l o'))
    (hassign : ∀ (l : Nat) (pre : List α) (x : α) (W : World) (K : Act → World → Prop), I pre W → (∀ a' W', KeepsFrom w.heap.size W W' → Kp W W' → I pre W' → Ra x a' W' → K a' W') →
      assign.wpIn (F.inRound l) (n - 1 - 1) P (Exit.then K (fun _ _ _ => False)) { tmps := (ps.zip (encs x)).foldl (fun t (p, v) => t.setIfInBounds p v) a.tmps, defers := [] } W)
    (hbody : ∀ (l : Nat) (pre : List α) (x : α) (a' : Act) (W : World), I pre W → pre.length < N → Ra x a' W → body.wpIn (F.inRound l) (n - 1 - 1) P (ownPostG w.heap.size Kp I Ix (pre ++ [x]) W) a' W)
    (hdone : ∀ (D : Nat) (xs : List α) (W : World), w.heap.size ≤ D → S xs → I xs W → W.heap[D]? = some (.deferred (some [])) → Q .normal { a with defers := { target := .collected D, args := #[] } :: a.defers } W)
    (hstop : ∀ (D : Nat) (c : Code) (pre : List α) (W : World), w.heap.size ≤ D → Sp pre → Ix c pre W → W.heap[D]? = some (.deferred (some [])) → c.wpIn F n P Q { a with defers := { target := .collected D, args := #[] } :: a.defers } W) :
    (Code.rangeFunc g ps assign body).wpIn F n P Q a w := by
  refine wpIn_rangeFunc fun fn hfn => ?_
  rw [hro]
  let L : LoopState → Option Code → Obj := fun st pe => .loop { state := st, pending := pe, fn, tmps := a.tmps, params := ps, assign, body, defers := w.heap.size }
  let D : Obj := .deferred (some [])
  obtain ⟨W1, hW1⟩ : ∃ W1, (w.alloc D).alloc (L .ready none) = W1 := ⟨_, rfl⟩
  have hz : W1.heap.size = w.heap.size + 2 := by rw [← hW1]; simp
  have hL : W1.heap[w.heap.size + 1]? = some (L .ready none) := by rw [← hW1]; have h := World.alloc_heap_new (w.alloc D) (L .ready none); rwa [World.size_alloc] at h
  have hD : W1.heap[w.heap.size]? = some D := by rw [← hW1]; exact (Below.heap_alloc _ _ _ (by simp)).trans (World.alloc_heap_new w D)
  refine ⟨w.heap.size + 1, [{ target := .collected w.heap.size, args := #[] }], W1, { target := .fn (.func gf) lb, args := #[.func (.yield (w.heap.size + 1)) #[] #[]] }, W1, gf,
    #[.func (.yield (w.heap.size + 1)) #[] #[]] ++ lb, W1, by rw [← hW1]; exact run_enterLoop_outer _ _ _ _ _, by simp only [resolve, hg]; simp [go_sem], ?_, by simp [invoke, go_sem, eg], fun _ => hn, ?_⟩
  · intro f' hf'; simp [Target.leads] at hf'; subst hf'; exact hF
  have up : ∀ {β : Type} {J : β → World → Prop}, Mild Ok w.heap.size J → Mild Ok W1.heap.size J := fun h => h.up (by omega)
  have m1 : ∀ (o : Obj), Mild Ok W1.heap.size (fun (_ : List α) W => W.heap[w.heap.size + 1]? = some o) := fun o => mild_block (by omega)
  have m0 : Mild Ok W1.heap.size (fun (_ : List α) W => W.heap[w.heap.size]? = some D) := mild_block (by omega)
  refine (hseq (w.heap.size + 1)
    (fun pre W => I pre W ∧ W.heap[w.heap.size + 1]? = some (L .ready none) ∧ W.heap[w.heap.size]? = some D)
    (fun pre W => ∃ c, Ix c pre W ∧ W.heap[w.heap.size + 1]? = some (L .done (some c)) ∧ W.heap[w.heap.size]? = some D) W1
    (by rw [← hW1]; exact hw0.trans ((((Below.refl _ w).alloc (Nat.le_refl _) _).alloc (by simp) _).mono hw0.size))
    ((up hI).and ((m1 _).and m0)) (fun s A B row ⟨c, h1, h2, h3⟩ hgr hr => ⟨c, up (hIx c) s A B row h1 hgr hr, m1 _ s A B row h2 hgr hr, m0 s A B row h3 hgr hr⟩)
    ?_ ⟨by rw [← hW1]; exact hI.alloc (hI.alloc h0 _) _, hL, hD⟩).mono ?_
  · -- a round
    rintro pre x V0 ⟨hi0, hl0, hd0⟩ hlen
    refine ⟨fn, _, assign, body, run_yield (P := P) (args := encs x) hl0 (hps x), roundIn_of_wpIn hfn (hassign _ pre x V0 _ hi0 fun a' V hkf hkp0 hi hra => ?_)⟩
    have hl := hkf.same _ _ (by omega) hl0 rfl
    have hd := hkf.same _ _ (Nat.le_refl _) hd0 rfl
    have hlt : w.heap.size + 1 < V.heap.size := (Array.getElem?_eq_some_iff.1 hl).1
    refine ⟨_, run_beginRound hl rfl, ?_⟩
    obtain ⟨V2, hV2⟩ : ∃ V2, V.putObj (w.heap.size + 1) (L .busy none) = V2 := ⟨_, rfl⟩
    have hl2 : V2.heap[w.heap.size + 1]? = some (L .busy none) := by rw [← hV2]; exact World.putObj_heap_same hlt
    have hd2 : V2.heap[w.heap.size]? = some D := by rw [← hV2]; exact (World.putObj_heap_other (by omega)).trans hd
    have hk2 : Kp V0 V2 := by rw [← hV2]; exact hKt hkp0 (hKb _ _ _ _ (by omega) hl rfl rfl)
    have hi2 : I pre V2 := by rw [← hV2]; exact hI.put hOk hi _ hl rfl (by omega)
    have hra2 : Ra x a' V2 := by rw [← hV2]; exact hRa _ _ _ _ _ _ (by omega) hl rfl hra
    show Code.wpIn _ _ _ _ _ _ (V.putObj (w.heap.size + 1) (L .busy none))
    rw [hV2]
    clear hV2 hl hd hi hlt
    refine wpIn_mono (hbody _ pre x a' V2 hi2 hlen hra2) ?_
    have fin : ∀ (jump : Option Code) (V3 : World), KeepsFrom w.heap.size V2 V3 → V3.heap[w.heap.size + 1]? = some (L .busy none) ∧ ∃ V4, V4 = V3.putObj (w.heap.size + 1) (L (if jump.isNone then .ready else .done) jump) ∧
        (Instr.endRound (w.heap.size + 1) jump).run P V3 = .ok (.bool jump.isNone) V4 ∧ V4.heap[w.heap.size + 1]? = some (L (if jump.isNone then .ready else .done) jump) ∧ V4.heap[w.heap.size]? = some D := fun jump V3 hk => by
      have h1 := hk.same _ _ (by omega) hl2 rfl
      exact ⟨h1, _, rfl, run_endRound (P := P) jump h1, World.putObj_heap_same (Array.getElem?_eq_some_iff.1 h1).1, (World.putObj_heap_other (by omega)).trans (hk.same _ _ (Nat.le_refl _) hd2 rfl)⟩
    have out : ∀ (c : Code) (V3 : World), KeepsFrom w.heap.size V2 V3 → Ix c (pre ++ [x]) V3 → ∃ r V4, (Instr.endRound (w.heap.size + 1) (some c)).run P V3 = .ok r V4 ∧ (Ending.returned r = .returned (.bool false) ∧ ∃ c, Ix c (pre ++ [x]) V4 ∧ V4.heap[w.heap.size + 1]? = some (L .done (some c)) ∧ V4.heap[w.heap.size]? = some D) := fun c V3 hk hi => by
      obtain ⟨h3, V4, rfl, hr, h4, h5⟩ := fin (some c) V3 hk
      exact ⟨_, _, hr, rfl, c, (hIx c).put hOk hi _ h3 rfl (by omega), h4, h5⟩
    rintro e a3 V3 hp
    cases e with
    | normal =>
      obtain ⟨hk, hkp, hi⟩ := hp
      obtain ⟨h3, V4, rfl, hr, h4, h5⟩ := fin none V3 hk
      exact ⟨_, _, hr, .inl ⟨rfl, ⟨hI.put hOk hi _ h3 rfl (by omega), h4, h5⟩, hKt (hKt hk2 hkp) (hKb _ _ _ _ (by omega) h3 rfl rfl)⟩⟩
    | ret => obtain ⟨r, V4, hr, h⟩ := out .ret V3 hp.1 hp.2; exact ⟨r, V4, hr, .inr h⟩
    | exit id => obtain ⟨r, V4, hr, h⟩ := out (.exit id) V3 hp.1 hp.2; exact ⟨r, V4, hr, .inr h⟩
    | goto t => obtain ⟨r, V4, hr, h⟩ := out (.goto t) V3 hp.1 hp.2; exact ⟨r, V4, hr, .inr h⟩
    | panic ch => exact hp.elim
    | outgrown => exact hp.elim
  · -- behind the iterator
    rintro e W2 ⟨⟨v, rfl⟩, ⟨xs, hS, hi, hl, hd⟩ | ⟨pre, hSp, c, hi, hl, hd⟩⟩
    · exact ⟨none, _, run_endLoop (P := P) hl (by simp), hdone _ xs _ (Nat.le_refl _) hS (hI.put hOk hi _ hl rfl (by omega)) ((World.putObj_heap_other (by omega)).trans hd)⟩
    · exact ⟨some c, _, run_endLoop (P := P) hl (by simp), hstop _ c pre _ (Nat.le_refl _) hSp ((hIx c).put hOk hi _ hl rfl (by omega)) ((World.putObj_heap_other (by omega)).trans hd)⟩
end Go.Proofs.Ytcblpjheoclkeaa

namespace Go.Proofs.Ytcblpjheoclkeaa
open Go.RowKit Go.Shelf
attribute [local go_sem] Oper.semAt_some

namespace Tm
mutual
def pre : Tm → Nat → Nat → List (Nat × Nat × Tm)
  | .mk b k i a, s, d => (s + b.length, d, .mk b k i a) :: pres a (s + b.length) (d + 1)
def pres : List Tm → Nat → Nat → List (Nat × Nat × Tm)
  | [], _, _ => []
  | t :: l, s, d => pre t s d ++ pres l s d
end
theorem pre_eq (b : List Ty) (k i : Int) (a : List Tm) (s d : Nat) : pre (.mk b k i a) s d = (s + b.length, d, .mk b k i a) :: pres a (s + b.length) (d + 1) := by rw [pre]
theorem pres_append (l r : List Tm) (s d : Nat) : pres (l ++ r) s d = pres l s d ++ pres r s d := by
  induction l with
  | nil => simp [pres]
  | cons t l ih => simp [pres, ih]
theorem pres_take (l : List Tm) (i s d : Nat) (h : i < l.length) : pres (l.take (i + 1)) s d = pres (l.take i) s d ++ pre l[i] s d := by
  rw [List.take_succ_eq_append_getElem h, pres_append]; simp [pres]
theorem pres_take_le (l : List Tm) (i s d : Nat) : pres (l.take i) s d <+: pres l s d := by
  conv => rhs; rw [← List.take_append_drop i l]
  rw [pres_append]; exact List.prefix_append _ _
theorem pres_length_of {l : List Tm} (h : ∀ t ∈ l, ∀ s d, (pre t s d).length = t.size) : ∀ s d, (pres l s d).length = sizes l := by
  induction l with
  | nil => intro s d; simp [pres, sizes]
  | cons t l ih => intro s d; simp [pres, sizes, h t (by simp) s d, ih (fun u hu => h u (by simp [hu])) s d]
theorem pre_length (t : Tm) : ∀ s d, (pre t s d).length = t.size := by
  induction t using Tm.ind with
  | h b k i a ih => intro s d; simp [pre_eq, size_eq, pres_length_of ih]
theorem pres_length (l : List Tm) (s d : Nat) : (pres l s d).length = sizes l := pres_length_of (fun t _ => pre_length t) s d
end Tm

structure Hit6 (F : Nat → Prop) (w : World) where
  s : Nat
  d : Nat
  pb : Option Addr
  cb : Nat
  pa : Option Addr
  ca : Nat
  t : Tm
  ok : IsTm F w (.slice pb t.binds.length cb) (.int .i64 t.kind) (.int .i64 t.index) (.slice pa t.args.length ca) t
def Hit6.key {F : Nat → Prop} {w : World} (x : Hit6 F w) : Nat × Nat × Tm := (x.s, x.d, x.t)
def Hit6.enc {F : Nat → Prop} {w : World} (x : Hit6 F w) : Array Value := #[.agg #[.int .i64 x.s, .int .i64 x.d], .agg #[.slice x.pb x.t.binds.length x.cb, .int .i64 x.t.kind, .int .i64 x.t.index, .slice x.pa x.t.args.length x.ca]]

def DownPost6 {F : Nat → Prop} {w0 : World} (G : Nat → TypeId → Prop) (J Jx : List (Hit6 F w0) → World → Prop) (pre : List (Hit6 F w0)) (l : List (Nat × Nat × Tm)) (W : World) (e : Ending) (W' : World) : Prop :=
  (e = .returned (.bool true) ∧ KeepC G W W' ∧ ∃ xs, xs.map Hit6.key = l ∧ J (pre ++ xs) W') ∨ (e = .returned (.bool false) ∧ ∃ xs, xs.map Hit6.key <+: l ∧ Jx (pre ++ xs) W')

def SpotOk (o : Obj) : Prop := o.isCells = false ∨ ∃ cs fr, o = .cells cs 131 fr
theorem KeepC.setNew {G : Nat → TypeId → Prop} {A B : World} (h : KeepC G A B) (p : Addr) (u : Value) (hp : A.heap.size ≤ p.block) : KeepC G A (B.setCell p u) :=
  ⟨by simpa using h.size, fun k cs t fr hk hc => by
    have hlt : k < A.heap.size := (Array.getElem?_eq_some_iff.1 hc).1
    exact (Below.heap_setCell _ _ _ _ (fun e => by omega)).trans (h.cells k cs t fr hk hc)⟩
theorem Mild.setSpot {β : Type} {B : Nat} {J : β → World → Prop} (h : Mild SpotOk B J) {s : β} {W : World} (hs : J s W) {n i : Nat} {cs : Array Value} (u : Value) (hb : Blk W n cs 131) (hB : B ≤ n) : J s (W.setCell ⟨n, i, none⟩ u) :=
  h s W _ (some n) hs ⟨rfl, rfl, rfl, by simp, fun k _ hk => Below.heap_setCell _ _ _ _ (fun e => hk (by rw [e]))⟩ (fun r e => by cases e; exact ⟨hB, _, hb, .inr ⟨_, _, rfl⟩⟩)

set_option maxRecDepth 100000 in
set_option maxHeartbeats 1000000 in
theorem down6_k {F : Nat → Prop} {w0 : World} (G : Nat → TypeId → Prop) (hGF : ∀ k t, F k → k < w0.heap.size → G k t) (l N B0 : Nat) (hN0 : N ≤ 9000000) (J Jx : List (Hit6 F w0) → World → Prop) (hJ : Mild SpotOk B0 J)
    (hY : ∀ m pre x W, J pre W → pre.length < N → YieldAt Fence.wide m Try.prog l (Hit6.enc x) W fun e W' =>
      (e = .returned (.bool true) ∧ J (pre ++ [x]) W' ∧ KeepC G W W') ∨ (e = .returned (.bool false) ∧ Jx (pre ++ [x]) W')) :
    ∀ t : Tm, ∀ {b k i a : Value} (_ : IsTm F w0 b k i a t) (n s d : Nat) (si di : Int) (pre : List (Hit6 F w0)) (W : World), si = s → di = d → (∀ k t, W.heap.size ≤ k → t ≠ 3 → G k t) → B0 ≤ W.heap.size → Keep F w0 W → J pre W → pre.length + t.size ≤ N → d + t.depth ≤ 9000000 → s + t.full ≤ 9000000 →
      CallsIn Fence.wide n Try.prog 102 #[.agg #[b, k, i, a], .agg #[.int .i64 si, .int .i64 di], .func (.yield l) #[] #[]] W (DownPost6 G J Jx pre (t.pre s d) W) := Tm.ind fun binds k0 i0 args ih => by
  intro b k i a ht nn s d si di pre W hsi hdi hG hB0 hw hJ0 hN hd hs
  subst hsi hdi
  obtain ⟨pa, pc, qa, qc, rfl, rfl, rfl, rfl⟩ := ht.shape
  simp only [Tm.binds, Tm.kind, Tm.index, Tm.args] at ht ⊢
  obtain ⟨_, _, _, hsl⟩ := ht.inv
  simp only [Tm.args] at hsl
  obtain ⟨_, hm, bl, off, PA, A, PN, PC, N', C, Kd, Ix, ha, h1, h2, h3, h4, h5⟩ := sl_cells6 hsl
  have hdd : ∀ k : Nat, (Fence.wide.depth.isSome = true → 1 ≤ k) := fun k h => by cases h
  have hlen : args.length ≤ 9000000 := by have := Tm.len_sizes args; rw [Tm.size_eq] at hN; omega
  have hbl : s + binds.length ≤ 9000000 := by have := Ty.le_sizes binds; rw [Tm.full_eq] at hs; omega
  have hq1 : IntKind.i64.wrap ((s : Int) + (binds.length : Int)) = (s : Int) + (binds.length : Int) := IntWalk.i64_in _ (by omega)
  have hdb : (d : Int) ≤ 9000000 := by omega
  have hq2 : IntKind.i64.wrap ((d : Int) + 1) = (d : Int) + 1 := IntWalk.i64_in _ (by omega)
  obtain ⟨W1, hW1⟩ : ∃ W1, (W.alloc (.cells #[.slice pa binds.length pc, .int .i64 k0, .int .i64 i0, .slice qa args.length qc] 34)).alloc (.cells #[.int .i64 ((s : Int) + (binds.length : Int)), .int .i64 d] 131) = W1 := ⟨_, rfl⟩
  have hJ1 : J pre W1 := by rw [← hW1]; exact hJ.alloc (hJ.alloc hJ0 _) _
  have xt : Blk W1 W.heap.size #[.slice pa binds.length pc, .int .i64 k0, .int .i64 i0, .slice qa args.length qc] 34 := by rw [← hW1]; exact (Blk.new _ _ _ rfl).alloc _
  have xs : Blk W1 (W.heap.size + 1) #[.int .i64 ((s : Int) + (binds.length : Int)), .int .i64 d] 131 := by rw [← hW1]; exact Blk.new _ _ _ (by simp)
  have hz1 : W1.heap.size = W.heap.size + 2 := by rw [← hW1]; simp
  have hk0 : KeepC G W W1 := by rw [← hW1]; exact ((KeepC.refl G W).alloc _).alloc _
  obtain ⟨X, hX⟩ : ∃ X : Hit6 F w0, X = ⟨s + binds.length, d, pa, pc, qa, qc, .mk binds k0 i0 args, ht⟩ := ⟨_, rfl⟩
  have hkey : X.key = (s + binds.length, d, .mk binds k0 i0 args) := by rw [hX]; rfl
  obtain ⟨fn, tmps, assign, body, hy, hR⟩ := hY (nn - 1) pre X W1 hJ1 (by have := Tm.size_pos (.mk binds k0 i0 args); omega)
  have henc : X.enc = #[.agg #[.int .i64 ((s : Int) + (binds.length : Int)), .int .i64 d], .agg #[.slice pa binds.length pc, .int .i64 k0, .int .i64 i0, .slice qa args.length qc]] := by rw [hX]; simp [Hit6.enc, Tm.binds, Tm.kind, Tm.index, Tm.args]
  rw [henc] at hy
  clear hX henc ht hsl
  refine callsIn_of_wp Try.func102 rfl trivial ?_ rfl
  simp only [Try.ntmps102, List.size_toArray, List.length_cons, List.length_nil, Nat.reduceAdd, Nat.reduceSub, Array.replicate_succ, Array.replicate_zero, List.push_toArray, List.append_toArray, List.nil_append, List.cons_append]
  have c0 : W1.cell? ⟨W.heap.size, 0, none⟩ = some (.slice pa binds.length pc) := xt.cell rfl
  have c1 : W1.cell? ⟨W.heap.size, 1, none⟩ = some (.int .i64 k0) := xt.cell rfl
  have c2 : W1.cell? ⟨W.heap.size, 2, none⟩ = some (.int .i64 i0) := xt.cell rfl
  have c3 : W1.cell? ⟨W.heap.size, 3, none⟩ = some (.slice qa args.length qc) := xt.cell rfl
  have s0 : W1.cell? ⟨W.heap.size + 1, 0, none⟩ = some (.int .i64 ((s : Int) + (binds.length : Int))) := xs.cell rfl
  have s1 : W1.cell? ⟨W.heap.size + 1, 1, none⟩ = some (.int .i64 d) := xs.cell rfl
  gi_wp2_with fail
  clear hW1
  refine ⟨hdd _, hR.mono ?_⟩
  clear c0 c1 c2 c3 s0 s1
  rintro e W2 (⟨rfl, hJ2, hk1⟩ | ⟨rfl, hx1⟩)
  rotate_left
  · gi_wp2_with fail
    go_ret
    exact .inr ⟨rfl, [X], ⟨Tm.pres args (s + binds.length) (d + 1), by simp [hkey, Tm.pre_eq]⟩, hx1⟩
  have yt : Blk W2 W.heap.size _ _ := hk1.blk xt (hG _ _ (Nat.le_refl _) (by decide))
  have ys : Blk W2 (W.heap.size + 1) _ _ := hk1.blk xs (hG _ _ (by omega) (by decide))
  have c0 : W2.cell? ⟨W.heap.size, 0, none⟩ = some (.slice pa binds.length pc) := yt.cell rfl
  have c1 : W2.cell? ⟨W.heap.size, 1, none⟩ = some (.int .i64 k0) := yt.cell rfl
  have c2 : W2.cell? ⟨W.heap.size, 2, none⟩ = some (.int .i64 i0) := yt.cell rfl
  have c3 : W2.cell? ⟨W.heap.size, 3, none⟩ = some (.slice qa args.length qc) := yt.cell rfl
  have s1 : W2.cell? ⟨W.heap.size + 1, 1, none⟩ = some (.int .i64 d) := ys.cell rfl
  have f1 := ys.free 1
  gi_wp2_with fail
  obtain ⟨W3, hW3⟩ : ∃ W3, W2.setCell ⟨W.heap.size + 1, 1, none⟩ (.int .i64 ((d : Int) + 1)) = W3 := ⟨_, rfl⟩
  have hJ3 : J (pre ++ [X]) W3 := by rw [← hW3]; exact hJ.setSpot hJ2 _ ys (by omega)
  have hk3 : KeepC G W W3 := by rw [← hW3]; exact (hk0.trans hk1).setNew _ _ (by simp)
  have xt3 : Blk W3 W.heap.size #[.slice pa binds.length pc, .int .i64 k0, .int .i64 i0, .slice qa args.length qc] 34 := by rw [← hW3]; exact yt.far _ _ (by simp)
  have xs3 : Blk W3 (W.heap.size + 1) #[.int .i64 ((s : Int) + (binds.length : Int)), .int .i64 ((d : Int) + 1)] 131 := by rw [← hW3]; exact ys.set 1 _
  try rw [hW3]
  clear hW3 c0 c1 c2 c3 s1 f1 hJ2 hk1 yt ys hk0 xt xs hJ1 hR hy hY hz1
  have Hih := Lib.hid ih; clear ih
  have HG := Lib.hid hG; clear hG
  have HN := Lib.hid hN; clear hN
  have Hd := Lib.hid hd; clear hd
  have Hs := Lib.hid hs; clear hs
  gi_loopw [8, 28] (fun _ i wr => ∃ (k : Nat) (xs : List (Hit6 F w0)), i = .int .i64 k ∧ k ≤ args.length ∧ Hid (xs.map Hit6.key = Tm.pres (args.take k) (s + binds.length) (d + 1)) ∧ J (pre ++ [X] ++ xs) wr ∧ KeepC G W wr ∧
      Blk wr W.heap.size #[.slice pa binds.length pc, .int .i64 k0, .int .i64 i0, .slice qa args.length qc] 34 ∧ Blk wr (W.heap.size + 1) #[.int .i64 ((s : Int) + (binds.length : Int)), .int .i64 ((d : Int) + 1)] 131) (fun _ i _ => args.length - (intOf i).toNat)
  case atStart => exact ⟨0, [], rfl, by omega, by simp [Hid, Tm.pres], by simpa using hJ3, hk3, xt3, xs3⟩
  case round =>
    clear hJ3 hk3 xt3 xs3
    obtain ⟨k, xs, rfl, hk, hxs, hJr, hkr, hbt, hbs⟩ := hrel
    have Hkr := Lib.hid hkr
    have HJr := Lib.hid hJr; clear hJr
    have hsz := hkr.size
    have hsb := hbs.lt
    have s0 : wr.cell? ⟨W.heap.size + 1, 0, none⟩ = some (.int .i64 ((s : Int) + (binds.length : Int))) := hbs.cell rfl
    have s1 : wr.cell? ⟨W.heap.size + 1, 1, none⟩ = some (.int .i64 ((d : Int) + 1)) := hbs.cell rfl
    by_cases hlt : k < args.length
    · obtain ⟨rfl, hF⟩ := ha (by omega)
      have hKp : Keep F w0 wr := hkr.keep' hw hGF
      have e1 := hKp _ _ _ hF (h1 k hlt)
      have e2 := hKp _ _ _ hF (h2 k hlt)
      have e3 := hKp _ _ _ hF (h3 k hlt)
      have e4 := hKp _ _ _ hF (h4 k hlt)
      have hs1 := Lib.hid (Tm.sizes_take args k hlt)
      have hs2 := Lib.hid (Tm.sizes_take_le args (k + 1))
      have hl : Hid (xs.length = Tm.sizes (args.take k)) := by
        show _ = _
        have := congrArg List.length hxs.out
        rw [List.length_map] at this
        rw [this, Tm.pres_length]
      have hz : pre.length + 1 + xs.length + args[k].size ≤ N := by have := HN.out; have := hl.out; have := hs1.out; have := hs2.out; rw [Tm.size_eq] at *; omega
      gi_wp2_with fail
      refine ⟨trivial, hdd _, (Hih.out args[k] (List.getElem_mem hlt) (h5 k hlt) (nn - 1) (s + binds.length) (d + 1) ((s : Int) + (binds.length : Int)) ((d : Int) + 1) (pre ++ [X] ++ xs) _ (by omega) (by omega) (fun q t hq ht => HG.out q t (by simp at hq; omega) ht) (by simp; omega) (hKp.alloc _) (hJ.alloc HJr.out _) (by simp; omega) ?_ ?_).mono ?_⟩
      · have := Hd.out; have := Tm.depth_mem (List.getElem_mem hlt); rw [Tm.depth_eq] at *; omega
      · have := Hs.out; have := Tm.full_mem (List.getElem_mem hlt); have := Ty.le_sizes binds; rw [Tm.full_eq] at *; omega
      rintro e W2 (⟨rfl, hk2, ys, hys, hJ2⟩ | ⟨rfl, ys, hys, hx2⟩)
      · have HJ2 := Lib.hid hJ2; clear hJ2
        have Hys := Lib.hid hys; clear hys
        have hbt2 := hk2.blk (hbt.alloc _) (HG.out _ _ (Nat.le_refl _) (by decide))
        have hbs2 := hk2.blk (hbs.alloc _) (HG.out _ _ (by omega) (by decide))
        gi_wp2_with fail
        go_roundw
        case rel => exact ⟨k + 1, xs ++ ys, by go_num, by omega, by show _ = _; rw [List.map_append, hxs.out, Hys.out, Tm.pres_take _ _ _ _ hlt], by rw [← List.append_assoc]; exact HJ2.out, (Hkr.out.alloc _).trans hk2, hbt2, hbs2⟩
        case measure => simp [intOf]; omega
      · have Hys := Lib.hid hys; clear hys
        have Hx2 := Lib.hid hx2; clear hx2
        gi_wp2_with fail
        go_ret
        refine .inr ⟨rfl, X :: (xs ++ ys), ?_, by simpa using Hx2.out⟩
        obtain ⟨r, hr⟩ := Hys.out
        have hp := Tm.pres_take args k (s + binds.length) (d + 1) hlt
        rw [← hr] at hp
        obtain ⟨q, hq⟩ := Tm.pres_take_le args (k + 1) (s + binds.length) (d + 1)
        refine ⟨r ++ q, ?_⟩
        simp only [Tm.pre_eq, List.map_cons, List.map_append, hkey, List.cons_append]
        rw [← hq, hp, ← hxs.out]
        simp
    · gi_wp2_with fail
      go_ret
      refine .inl ⟨rfl, Hkr.out, X :: xs, ?_, by simpa using HJr.out⟩
      have h := hxs.out
      rw [List.take_of_length_le (by omega)] at h
      simp [Tm.pre_eq, hkey, ← h]

theorem each61_k {F : Nat → Prop} {w0 : World} (G : Nat → TypeId → Prop) (hGF : ∀ k t, F k → k < w0.heap.size → G k t) (l : Nat) (J Jx : List (Hit6 F w0) → World → Prop)
    {b k i a : Value} {t : Tm} (ht : IsTm F w0 b k i a t) (hsz : t.full ≤ 4400000) (n : Nat) (W : World) (hJ : Mild SpotOk W.heap.size J)
    (hY : ∀ pre x V, J pre V → pre.length < t.size → YieldAt Fence.wide (n - 1) Try.prog l (Hit6.enc x) V fun e W' =>
      (e = .returned (.bool true) ∧ J (pre ++ [x]) W' ∧ KeepC G V W') ∨ (e = .returned (.bool false) ∧ Jx (pre ++ [x]) W'))
    (hG : ∀ k t, W.heap.size ≤ k → t ≠ 3 → G k t) (hw : Keep F w0 W) (Bt : Nat) (c0 : W.cell? ⟨Bt, 0, none⟩ = some b) (c1 : W.cell? ⟨Bt, 1, none⟩ = some k) (c2 : W.cell? ⟨Bt, 2, none⟩ = some i) (c3 : W.cell? ⟨Bt, 3, none⟩ = some a) (h0 : J [] W) :
    CallsIn Fence.wide n Try.prog 101 #[.func (.yield l) #[] #[], .pointer (some ⟨Bt, 0, none⟩)] W fun e W' => (∃ v, e = .returned v) ∧
      ((∃ ys, List.map Hit6.key ys = t.pre 0 1 ∧ J ys W') ∨ (∃ pre, List.map Hit6.key pre <+: t.pre 0 1 ∧ Jx pre W')) := by
  have hdd : ∀ k : Nat, (Fence.wide.depth.isSome = true → 1 ≤ k) := fun k h => by cases h
  have hf := Tm.size_le_full t
  have hp := Lib.hid (down6_k G hGF l t.size W.heap.size (by omega) J Jx hJ (fun m pre x V hj hl => yield_any rfl m (hY pre x V hj hl)) t ht (n - 1) 0 1 0 1 [] W rfl rfl hG (Nat.le_refl _) hw h0 (by simp) (by have := Tm.depth_le_size t; omega) (by omega))
  clear hG hY
  obtain ⟨pa, pc, qa, qc, rfl, rfl, rfl, rfl⟩ := ht.shape
  refine callsIn_of_wp Try.func101 rfl trivial ?_ rfl
  simp only [Try.ntmps101, List.size_toArray, List.length_cons, List.length_nil, Nat.reduceAdd, Nat.reduceSub, Array.replicate_succ, Array.replicate_zero, List.push_toArray, List.append_toArray, List.nil_append, List.cons_append]
  gi_wp2_with fail
  refine ⟨trivial, hdd _, hp.out.mono ?_⟩
  rintro e W1 (⟨rfl, hk, ys, hys, hJ1⟩ | ⟨rfl, ys, hys, hx⟩)
  · have A1 := Lib.hid hys; clear hys
    gi_wp2_with fail
    go_end0
    exact ⟨⟨_, rfl⟩, .inl ⟨ys, A1.out, by simpa using hJ1⟩⟩
  · have A1 := Lib.hid hys; clear hys
    gi_wp2_with fail
    go_end0
    exact ⟨⟨_, rfl⟩, .inr ⟨ys, A1.out, by simpa using hx⟩⟩

theorem each6_soft {F : Nat → Prop} {w0 : World} (G : Nat → TypeId → Prop) (hGF : ∀ k t, F k → k < w0.heap.size → G k t) {b k i a : Value} {t : Tm} (ht : IsTm F w0 b k i a t) (hsz : t.full ≤ 4400000) (n : Nat)
    (w : World) (hG : ∀ k t, w.heap.size ≤ k → t ≠ 3 → G k t) (hw : Keep F w0 w) (Bt : Nat) (hB : Blk w Bt #[b, k, i, a] 34) :
    SeqSoft SpotOk Fence.wide n Try.prog 101 #[.pointer (some ⟨Bt, 0, none⟩)] (Hit6.enc (F := F) (w := w0)) (KeepC G) (fun ys => ys.map Hit6.key = t.pre 0 1) (fun p => p.map Hit6.key <+: t.pre 0 1) t.size w :=
  fun l J Jx W hW hJ _ hY h0 => by
    have hB' := hB.below hW
    exact each61_k G hGF l J Jx ht hsz n W hJ hY (fun k t hk ht => hG k t (Nat.le_trans hW.size hk) ht) (hw.below hW) Bt (hB'.cell rfl) (hB'.cell rfl) (hB'.cell rfl) (hB'.cell rfl) h0

theorem each6_k (b k i a : Value) (n : Nat) (w : World) (hs : ∃ p m c, b = .slice p m c) (hk : ∃ x, k = .int .i64 x) (hi : ∃ x, i = .int .i64 x) (ha : ∃ p m c, a = .slice p m c) :
    CallsIn Fence.wide n Try.prog 66 #[.agg #[b, k, i, a]] w fun e w' => e = .returned (.func (.func 101) #[] #[.pointer (some ⟨w.heap.size, 0, none⟩)]) ∧ w' = w.alloc (.cells #[b, k, i, a] 34) := by
  obtain ⟨pb, mb, cb, rfl⟩ := hs
  obtain ⟨kx, rfl⟩ := hk
  obtain ⟨ix, rfl⟩ := hi
  obtain ⟨pa, ma, ca, rfl⟩ := ha
  refine callsIn_of_wp Try.func66 rfl trivial ?_ rfl
  simp only [Try.ntmps66, List.size_toArray, List.length_cons, List.length_nil, Nat.reduceAdd, Nat.reduceSub, Array.replicate_succ, Array.replicate_zero, List.push_toArray, List.append_toArray, List.nil_append, List.cons_append]
  gi_wp2_with fail
  go_ret
  exact ⟨rfl, rfl⟩
end Go.Proofs.Ytcblpjheoclkeaa

namespace Go.Proofs.Ytcblpjheoclkeaa
open Go.RowKit Go.Shelf
attribute [local go_sem] Oper.semAt_some

theorem spot_int {W : World} {n : Nat} {cs : Array Value} {T : TypeId} (hT : T ≠ 131) {W' : World} {B : Nat} {row : Option Nat} (h : Blk W n cs T) (hg : W.grownBy W' row) (hr : ∀ r, row = some r → B ≤ r ∧ ∃ o : Obj, W.heap[r]? = some o ∧ SpotOk o) : Blk W' n cs T :=
  h.grown hg fun e => by
    obtain ⟨_, o, ho, h'⟩ := hr _ e
    have hb : W.heap[n]? = _ := h
    rw [hb] at ho; cases ho
    rcases h' with h' | ⟨cs', fr, h'⟩
    · simp [Obj.isCells] at h'
    · cases h'; exact hT rfl
theorem mild_blk {β : Type} {n B : Nat} {T : TypeId} (hT : T ≠ 131) (f : β → Array Value) : Mild SpotOk B (fun s W => Blk W n (f s) T) := fun _ _ _ _ hs hg hr => spot_int hT hs hg hr

end Go.Proofs.Ytcblpjheoclkeaa

namespace Go.Proofs.Ytcblpjheoclkeaa
open Go.RowKit Go.Shelf
attribute [local go_sem] Oper.semAt_some

namespace Tm
end Tm

end Go.Proofs.Ytcblpjheoclkeaa

namespace Go.Proofs.Ytcblpjheoclkeaa
open Go.RowKit

end Go.Proofs.Ytcblpjheoclkeaa

namespace Go.Proofs.Ytcblpjheoclkeaa
open Go.RowKit

theorem eTm_ren (ρ : Nat → Nat) (t : Tm) : D.rens ρ (eTm t) = eTm t := D.rens_id (f := fun _ => false) (g := fun _ => false) (fun _ h => by cases h) _ (eTm_ok _ _ t)
theorem eTms_ren (ρ : Nat → Nat) (l : List Tm) : D.renss ρ (eTms l) = eTms l := D.renss_id (f := fun _ => false) (g := fun _ => false) (fun _ h => by cases h) _ (eTms_ok _ _ l)
theorem eTys_ren (ρ : Nat → Nat) (l : List Ty) : D.renss ρ (eTys l) = eTys l := D.renss_id (f := fun _ => false) (g := fun _ => false) (fun _ h => by cases h) _ (eTys_ok _ _ l)
end Go.Proofs.Ytcblpjheoclkeaa

namespace Go.Proofs.Ytcblpjheoclkeaa
open Go.RowKit

def m00 : Mp := ⟨fun _ => none, fun _ => none, fun _ => none⟩
theorem calls_of_pure {P : Program} {f : FuncId} {ds : List D} {V : D} (h : PureC P f ds V) {Im : Nat → Nat → Prop} {w : World} {vs : List Value} (hi : ∀ b o, Im b o → ∃ v, w.cell? ⟨b, o, none⟩ = some v) (hv : RelL m00 Im w vs ds) :
    Calls P f vs.toArray w fun e w' => ∃ v Im', e = .returned v ∧ Below w.heap.size w w' ∧ Rel m00 Im' w' v V ∧ (∀ b o, Im' b o → Im b o ∨ w.heap.size ≤ b) := by
  let cx : Cx := { w0 := w, C := fun _ => False, Im0 := Im, m0 := m00, nt := 0, n0 := 0, h0 := (fun k b hk => by cases hk), h0o := (fun k b hk => by cases hk) }
  have hm : MemOk cx (fun _ => False) m00 Im w := {
    off := Off.refl _ _, im := hi, imb := fun b o h => .inl h, im0 := fun b o h => h
    own := fun k b hk => by cases hk
    lt := fun k b hk => by cases hk
    free := fun k b o hk => by cases hk
    nim := fun k b o hk => by cases hk
    inj := fun k k' b hk => by cases hk
    row := fun g R hg => by cases hg
    k0 := KeepI.refl _ _
    rown := fun g R b hg => by cases hg
    m0r := fun g R hg => by cases hg
    rIm := fun g R b o hg => by cases hg
    rblk := fun g R b k hg => by cases hg
    rinj := fun g g' R R' b hg => by cases hg
    fr := fun k hk => hk.elim
    m0 := fun k b hk => by cases hk
    m0o := fun k b hk => by cases hk
    oown := fun k b hk => by cases hk
    olt := fun k b hk => by cases hk
    onim := fun k b o hk => by cases hk
    oinj := fun k k' b hk => by cases hk
    oblk := fun k k' b hk => by cases hk
    orow := fun k g R b hk => by cases hk
    dis := fun k b hk => by cases hk }
  refine (h.2 cx _ m00 Im w vs hm hv nofun).mono ?_
  rintro e w' ⟨v, Im', rfl, q1, q2, q3, q4, q5, q6, q7⟩
  refine ⟨v, Im', rfl, ⟨q1.os, q1.tape, q1.output, q1.size, fun b hb => q1.block b hb fun ht => ?_⟩, q6, q3⟩
  rcases ht with ⟨k, off, d, hm, _⟩ | ⟨X, J, hm, _⟩ | ⟨k, d, hm, _⟩ <;> cases hm
def cellI (F : Nat → Prop) (w : World) : Nat → Nat → Prop := fun b o => F b ∧ ∃ v, w.cell? ⟨b, o, none⟩ = some v
theorem cellI_ok {F : Nat → Prop} {w : World} : ∀ b o, cellI F w b o → ∃ v, w.cell? ⟨b, o, none⟩ = some v := fun _ _ h => h.2
theorem cellI_of {F : Nat → Prop} {w : World} : ∀ b o v, F b → w.cell? ⟨b, o, none⟩ = some v → cellI F w b o := fun _ _ v h hv => ⟨h, v, hv⟩
end Go.Proofs.Ytcblpjheoclkeaa

namespace Go.Proofs.Ytcblpjheoclkeaa
open Go.RowKit

end Go.Proofs.Ytcblpjheoclkeaa

namespace Go.Proofs.Ytcblpjheoclkeaa
open Go.RowKit
end Go.Proofs.Ytcblpjheoclkeaa

namespace Go.Proofs.Ytcblpjheoclkeaa
open Go.RowKit
def TS1_3 : TI := ⟨1, false, [Value.int IntKind.i64 0], [], none, 8, 2, none, false⟩
theorem TS1_3_ok : TypOk Try.prog 3 TS1_3 := ⟨by kernel_rfl, by kernel_rfl, by kernel_rfl, by kernel_rfl, by kernel_rfl⟩
def TS1_88 : TI := ⟨5, true, [Value.int IntKind.i64 0, Value.slice none 0 0, Value.int IntKind.i64 0, Value.int IntKind.i64 0, Value.slice none 0 0], [(0, 1, false), (1, 4, true)], none, 72, 6, none, false⟩
theorem TS1_88_ok : TypOk Try.prog 88 TS1_88 := ⟨by kernel_rfl, by kernel_rfl, by kernel_rfl, by kernel_rfl, by kernel_rfl⟩
def TS1_47 : TI := ⟨1, false, [Value.slice none 0 0], [], some 88, 24, 5, none, false⟩
theorem TS1_47_ok : TypOk Try.prog 47 TS1_47 := ⟨by kernel_rfl, by kernel_rfl, by kernel_rfl, by kernel_rfl, by kernel_rfl⟩
def TS1_237 : TI := ⟨1, false, [Value.nilFunc], [], none, 8, 8, none, false⟩
theorem TS1_237_ok : TypOk Try.prog 237 TS1_237 := ⟨by kernel_rfl, by kernel_rfl, by kernel_rfl, by kernel_rfl, by kernel_rfl⟩
def TS1 : List (Nat × TI) := [(3, TS1_3), (88, TS1_88), (47, TS1_47), (237, TS1_237)]
theorem TS1_ok : TabOk Try.prog TS1 := (((((TabOk.nil _).cons TS1_237_ok).cons TS1_47_ok).cons TS1_88_ok).cons TS1_3_ok)

def ePair (p : Int × Tm) : List D := .v (.int .i64 p.1) :: eTm p.2
def ePairs (l : List (Int × Tm)) : List (List D) := l.map ePair
theorem ePair_eq (p : Int × Tm) : ePair p = [.v (.int .i64 p.1), .sl 2 (eTys p.2.binds) none, .v (.int .i64 p.2.kind), .v (.int .i64 p.2.index), .sl 4 (eTms p.2.args) none] := by unfold ePair; rw [eTm_eq]
theorem ePairs_len (l : List (Int × Tm)) : (ePairs l).length = l.length := List.length_map ..
theorem ePairs_getD (l : List (Int × Tm)) (i : Nat) (h : i < l.length) : (ePairs l).getD i [] = ePair l[i] := by
  rw [ePairs, List.getD_eq_getElem?_getD, List.getElem?_map, List.getElem?_eq_getElem h]; rfl
@[simp] theorem ePair_ok (f g : Nat → Bool) (p : Int × Tm) : D.oks f g (ePair p) = true := by simp [ePair, D.oks, D.ok, eTm_ok]
@[simp] theorem ePairs_ok (f g : Nat → Bool) (l : List (Int × Tm)) : D.okss f g (ePairs l) = true := D.okss_map ePair l fun p _ => ePair_ok f g p
theorem ePairs_ren (ρ : Nat → Nat) (l : List (Int × Tm)) : D.renss ρ (ePairs l) = ePairs l := D.renss_id (f := fun _ => false) (g := fun _ => false) (fun _ h => by cases h) _ (ePairs_ok _ _ l)
def cmpI (a b : Int) : Int := if a < b then -1 else if b < a then 1 else 0

theorem isNaN_d (a : Int) : PureC Try.prog 162 [.v (.int .i64 a)] (.v (.bool false)) := by
 refine call_of_dw 0 6 [ResultVar.tmp 2] TS1_ok (by kernel_rfl) Try.func162 rfl Try.ntmps162 rfl (by simp) ?dwords ?dbody
 case dwords => simp [wordsOk, D.ok, D.oks, rnames]
 case dbody =>
  intro cx hnt hn0
  refine dw_seq ?_; refine dwk [] TS1_ok hnt fun K hK => ?_; refine hK _ _ ?_; clear hK K; refine dw_seq ?_; refine dwk [(5, .v (.bool false))] TS1_ok hnt fun K hK => ?_; refine And.intro (VLe.of_eq (by simp)) ?_; refine hK _ _ ?_; clear hK K; refine dw_ret ?_
  exact retv (N := 0) (.inr rfl) rfl (VLe.refl _) trivial
theorem compare_d (a b : Int) : PureC Try.prog 136 [.v (.int .i64 a), .v (.int .i64 b)] (.v (.int .i64 (cmpI a b))) := by
 refine call_of_dw 0 20 [ResultVar.tmp 4] TS1_ok (by kernel_rfl) Try.func136 rfl Try.ntmps136 rfl (by simp) ?dwords ?dbody
 case dwords => simp [wordsOk, D.ok, D.oks, rnames]
 case dbody =>
  intro cx hnt hn0
  refine dw_seq ?_; refine dwk [] TS1_ok hnt fun K hK => ?_; refine hK _ _ ?_; clear hK K; refine dw_seq ?_; refine dwk [] TS1_ok hnt fun K hK => ?_; refine dcl (isNaN_d a) ?_; refine hK _ _ ?_; clear hK K; refine dw_seq ?_; refine dwk [] TS1_ok hnt fun K hK => ?_; refine dcl (isNaN_d b) ?_; refine hK _ _ ?_; clear hK K; refine dw_seq (dw_seq ?_); refine dwk [] TS1_ok hnt fun K hK => ?_; refine hK _ _ ?_; clear hK K
  refine dw_cond (t := false) rfl ?_; rw [if_neg (by simp)]; refine dw_skip ?_; refine dw_seq (dw_seq ?_); refine dwk [] TS1_ok hnt fun K hK => ?_; refine hK _ _ ?_; clear hK K; refine dw_cond (t := false) rfl ?_; rw [if_neg (by simp)]; refine dw_skip ?_; refine dw_seq (dw_seq ?_)
  by_cases h1 : a < b
  ·have hc : cmpI a b = -1 := if_pos h1
   rw [hc]
   refine dwk [(16, .v (.bool true))] TS1_ok hnt fun K hK => ?_; refine And.intro (dtrue h1) ?_; refine hK _ _ ?_; clear hK K; refine dw_cond (t := true) rfl ?_; rw [if_pos rfl]; refine dw_seq ?_; refine dwk [] TS1_ok hnt fun K hK => ?_; refine hK _ _ ?_; clear hK K; refine dw_ret ?_
   exact retv (N := 0) (.inr rfl) rfl (VLe.refl _) trivial
  ·skip
   refine dwk [(16, .v (.bool false))] TS1_ok hnt fun K hK => ?_; refine And.intro (dfalse h1) ?_; refine hK _ _ ?_; clear hK K; refine dw_cond (t := false) rfl ?_; rw [if_neg (by simp)]; refine dw_skip ?_; refine dw_seq (dw_seq ?_)
   by_cases h2 : b < a
   ·have hc : cmpI a b = 1 := by unfold cmpI; rw [if_neg h1, if_pos h2]
    rw [hc]
    refine dwk [(19, .v (.bool true))] TS1_ok hnt fun K hK => ?_; refine And.intro (dtrue h2) ?_; refine hK _ _ ?_; clear hK K; refine dw_cond (t := true) rfl ?_; rw [if_pos rfl]; refine dw_seq ?_; refine dwk [] TS1_ok hnt fun K hK => ?_; refine hK _ _ ?_; clear hK K; refine dw_ret ?_
    exact retv (N := 0) (.inr rfl) rfl (VLe.refl _) trivial
   ·have hc : cmpI a b = 0 := by unfold cmpI; rw [if_neg h1, if_neg h2]
    rw [hc]
    refine dwk [(19, .v (.bool false))] TS1_ok hnt fun K hK => ?_; refine And.intro (dfalse h2) ?_; refine hK _ _ ?_; clear hK K; refine dw_cond (t := false) rfl ?_; rw [if_neg (by simp)]; refine dw_skip ?_; refine dw_seq ?_; refine dwk [] TS1_ok hnt fun K hK => ?_; refine hK _ _ ?_; clear hK K; refine dw_ret ?_
    exact retv (N := 0) (.inr rfl) rfl (VLe.refl _) trivial
theorem sorder_d (p q : Int × Tm) : PureC Try.prog 106 [.ag (ePair p), .ag (ePair q)] (.v (.int .i64 (cmpI p.1 q.1))) := by
 rw [ePair_eq, ePair_eq]
 refine call_of_dw 0 10 [ResultVar.tmp 4] TS1_ok (by kernel_rfl) Try.func106 rfl Try.ntmps106 rfl (by simp) ?dwords ?dbody
 case dwords => simp [wordsOk, D.ok, D.oks, rnames, eTms_ok, eTys_ok]
 case dbody =>
  intro cx hnt hn0
  refine dw_seq ?_; refine dwk [] TS1_ok hnt fun K hK => ?_; refine hK _ _ ?_; clear hK K; refine dw_seq ?_; refine dwk [] TS1_ok hnt fun K hK => ?_; refine dcl (compare_d p.1 q.1) ?_; refine hK _ _ ?_; clear hK K; refine dw_ret ?_
  exact retv (N := 0) (.inr rfl) rfl (VLe.refl _) trivial
theorem cmpI_ge {a b : Int} : 0 ≤ cmpI a b ↔ ¬ a < b := by
  unfold cmpI
  split
  · rename_i h; simp [h]
  · rename_i h; split <;> simp [h]
theorem right_of {l : List (Int × Tm)} (h : ∀ i (_ : 0 < i) (h2 : i < l.length), (l[i - 1]'(by omega)).1 < l[i].1) : Sb.right l = true := by
  unfold Sb.right
  rw [decide_eq_true_eq, List.pairwise_iff_getElem]
  intro i j hi hj hij
  have key : ∀ d, ∀ i j (hi : i < l.length) (hj : j < l.length), j = i + d + 1 → l[i].1 < l[j].1 := by
    intro d
    induction d with
    | zero => intro i j hi hj e; subst e; have := h (i + 0 + 1) (by omega) hj; simpa using this
    | succ d ih =>
      intro i j hi hj e
      have h1 := ih i (j - 1) hi (by omega) (by omega)
      have h2 := h j (by omega) hj
      omega
  exact key (j - i - 1) i j hi hj (by omega)
theorem not_right {l : List (Int × Tm)} {i : Nat} (h1 : 0 < i) (h2 : i < l.length) (h : ¬ (l[i - 1]'(by omega)).1 < l[i].1) : Sb.right l = false := by
  unfold Sb.right
  rw [decide_eq_false_iff_not, List.pairwise_iff_getElem]
  exact fun hp => h (hp (i - 1) i (by omega) h2 (by omega))
set_option maxHeartbeats 1000000 in
theorem sright_d (l : List (Int × Tm)) (hl : l.length ≤ 1000000) : PureC Try.prog 71 [.sl 5 (ePairs l) none] (.v (.bool (Sb.right l))) := by
 refine call_of_dw 0 21 [ResultVar.tmp 2] TS1_ok (by kernel_rfl) Try.func71 rfl Try.ntmps71 rfl (by simp) ?dwords ?dbody
 case dwords => simp [wordsOk, D.ok, D.oks, rnames, ePairs_ok]
 case dbody =>
  intro cx hnt hn0
  refine dw_seq ?_; refine dwk [] TS1_ok hnt fun K hK => ?_; refine hK _ _ ?_; clear hK K; refine dw_seq (dw_seq ?_); refine dwk [] TS1_ok hnt fun K hK => ?_; refine hK _ _ ?_; clear hK K; refine dw_block ?_
  refine dw_loop (ι := { j : Nat // ∀ i (_ : 0 < i) (h2 : i < l.length), i < j + 1 → (l[i - 1]'(by omega)).1 < l[i].1 }) (fun j => [(.t 0, .sl 5 (ePairs l) none), (.t 3, .v (.int .i64 ((j.1 : Int) + 1)))]) 2 (fun j => l.length - j.1) ⟨0, fun i h1 h2 h3 => by omega⟩ VS.toA fun j => ?_
  obtain ⟨j, hj⟩ := j
  dsimp only
  refine dw_seq (dw_seq ?_)
  by_cases hlt : j + 1 < l.length
  ·have ho := sorder_d l[j] l[j + 1]
   rw [ePair_eq, ePair_eq] at ho
   refine dwk [(7, .v (.bool true))] TS1_ok hnt fun K hK => ?_; refine And.intro (dtrue (by rw [ePairs_len]; omega)) ?_; refine hK _ _ ?_; clear hK K; refine dw_cond (t := true) rfl ?_; rw [if_pos rfl]; refine dw_skip ?_; refine dw_seq (dw_block (dw_seq ?_))
   by_cases hc : l[j].1 < l[j + 1].1
   ·skip
    refine dwkD [(12, .v (.int .i64 (j : Int))), (13, .q [.v (.int .i64 l[j].1), .sl 2 (eTys l[j].2.binds) none, .v (.int .i64 l[j].2.kind), .v (.int .i64 l[j].2.index), .sl 4 (eTms l[j].2.args) none]), (17, .q [.v (.int .i64 l[j + 1].1), .sl 2 (eTys l[j + 1].2.binds) none, .v (.int .i64 l[j + 1].2.kind), .v (.int .i64 l[j + 1].2.index), .sl 4 (eTms l[j + 1].2.args) none]), (20, .v (.bool false))] TS1_ok hnt fun K hK => ?_
    refine And.intro (dintE (by rw [IntWalk.i64_in _ (by omega)]; omega)) ?_; refine And.intro (⟨by omega, by rw [ePairs_len]; omega⟩) ?_; refine And.intro (VLe.of_eq (by rw [Int.toNat_natCast, ePairs_getD l j (by omega), ePair_eq])) ?_; refine And.intro (⟨by omega, by rw [ePairs_len]; omega⟩) ?_; refine And.intro (VLe.of_eq (by rw [show ((j : Int) + 1).toNat = j + 1 by omega, ePairs_getD l (j + 1) hlt, ePair_eq])) ?_
    refine dcl (ho) ?_; refine And.intro (VLe.of_eq (by simp [cmpI_ge, hc])) ?_; refine hK _ _ (by kernel_rfl) ?_; clear hK K; refine dw_cond (t := false) rfl ?_; rw [if_neg (by simp)]; refine dw_skip ?_; refine dwk [(9, .v (.int .i64 (((j + 1 : Nat) : Int) + 1)))] TS1_ok hnt fun K hK => ?_; refine And.intro (dintE (by rw [IntWalk.i64_in _ (by omega)]; omega)) ?_; refine hK _ _ ?_; clear hK K
    refine ⟨⟨j + 1, fun i h1 h2 h3 => ?_⟩, by dsimp only; omega, VS.toA⟩
    by_cases he : i = j + 1
    ·subst he; simpa using hc
    ·exact hj i h1 h2 (by omega)
   ·have hr : Sb.right l = false := not_right (i := j + 1) (by omega) hlt (by simpa using hc)
    rw [hr]
    refine dwkD [(12, .v (.int .i64 (j : Int))), (13, .q [.v (.int .i64 l[j].1), .sl 2 (eTys l[j].2.binds) none, .v (.int .i64 l[j].2.kind), .v (.int .i64 l[j].2.index), .sl 4 (eTms l[j].2.args) none]), (17, .q [.v (.int .i64 l[j + 1].1), .sl 2 (eTys l[j + 1].2.binds) none, .v (.int .i64 l[j + 1].2.kind), .v (.int .i64 l[j + 1].2.index), .sl 4 (eTms l[j + 1].2.args) none]), (20, .v (.bool true))] TS1_ok hnt fun K hK => ?_
    refine And.intro (dintE (by rw [IntWalk.i64_in _ (by omega)]; omega)) ?_; refine And.intro (⟨by omega, by rw [ePairs_len]; omega⟩) ?_; refine And.intro (VLe.of_eq (by rw [Int.toNat_natCast, ePairs_getD l j (by omega), ePair_eq])) ?_; refine And.intro (⟨by omega, by rw [ePairs_len]; omega⟩) ?_; refine And.intro (VLe.of_eq (by rw [show ((j : Int) + 1).toNat = j + 1 by omega, ePairs_getD l (j + 1) hlt, ePair_eq])) ?_
    refine dcl (ho) ?_; refine And.intro (VLe.of_eq (by simp [cmpI_ge, hc])) ?_; refine hK _ _ (by kernel_rfl) ?_; clear hK K; refine dw_cond (t := true) rfl ?_; rw [if_pos rfl]; refine dw_seq ?_; refine dwk [] TS1_ok hnt fun K hK => ?_; refine hK _ _ ?_; clear hK K; refine dw_ret ?_
    exact retv (N := 0) (.inr rfl) rfl (VLe.refl _) trivial
  ·have hr : Sb.right l = true := right_of fun i h1 h2 => hj i h1 h2 (by omega)
   rw [hr]
   refine dwk [(7, .v (.bool false))] TS1_ok hnt fun K hK => ?_; refine And.intro (dfalse (by rw [ePairs_len]; omega)) ?_; refine hK _ _ ?_; clear hK K; refine dw_cond (t := false) rfl ?_; rw [if_neg (by simp)]; refine dw_exit ?_; refine dw_seq ?_; refine dwk [] TS1_ok hnt fun K hK => ?_; refine hK _ _ ?_; clear hK K; refine dw_ret ?_
   exact retv (N := 0) (.inr rfl) rfl (VLe.refl _) trivial

def idxOf (m : Int) : List (Int × Tm) → Option Nat
  | [] => none
  | p :: l => if p.1 = m then some 0 else (idxOf m l).map (· + 1)
theorem idxOf_some {m : Int} : ∀ {l : List (Int × Tm)} {i : Nat} (h : i < l.length), l[i].1 = m → (∀ j (h' : j < i), (l[j]'(by omega)).1 ≠ m) → idxOf m l = some i
  | p :: l, 0, h, h1, _ => by simp at h1; simp [idxOf, h1]
  | p :: l, i + 1, h, h1, h2 => by
    have h0 := h2 0 (by omega)
    simp at h0 h1
    rw [idxOf, if_neg h0, idxOf_some (i := i) (by simpa using h) h1 fun j h' => by simpa using h2 (j + 1) (by omega)]; rfl
theorem idxOf_none {m : Int} : ∀ {l : List (Int × Tm)}, (∀ j (h : j < l.length), l[j].1 ≠ m) → idxOf m l = none
  | [], _ => rfl
  | p :: l, h => by
    have h0 := h 0 (by simp)
    simp at h0
    rw [idxOf, if_neg h0, idxOf_none (l := l) fun j h' => h (j + 1) (by simpa using h')]; rfl
end Go.Proofs.Ytcblpjheoclkeaa

namespace Go.Proofs.Ytcblpjheoclkeaa
open Go.RowKit Go.ChangeShapes Go.WideShapes Go.ChangeAt

section
variable {m : Mp} {w : World} {F : Nat → Prop}
theorem relTmA {b k i a : Value} {t : Tm} (h : IsTm F w b k i a t) : Rel m (cellI F w) w (.agg #[b, k, i, a]) (.ag (eTm t)) := rel_ag.2 ⟨[b, k, i, a], rfl, rel_of_tm cellI_of t h⟩
end
theorem row_of_pure {f : FuncId} {ds : List D} (h : PureC Try.prog f ds (.v (.bool true))) {w : World} {vs : List Value} (hv : RelL m00 (cellI (fun _ => True) w) w vs ds) :
    Calls Try.prog f vs.toArray w fun e w' => e = .returned (.bool true) ∧ Below w.heap.size w w' := by
  refine (calls_of_pure h cellI_ok hv).mono ?_
  rintro e w' ⟨v, Im', rfl, h1, h2, _⟩
  have := rel_v.1 h2; subst this
  exact ⟨rfl, h1⟩
end Go.Proofs.Ytcblpjheoclkeaa

