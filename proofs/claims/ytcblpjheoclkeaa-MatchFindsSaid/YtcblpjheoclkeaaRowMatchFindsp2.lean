/-
  Deep values: operations that leave memory alone: what they yield. Deep values: structs and slices that are written out; the operations that yield a value, all in one. Deep values: what an operation that leaves memory alone yields. Deep values: operations that write or make memory. Deep values: maps with ints for keys. Deep values: what an operation leaves that writes or makes memory. Deep values: an operation that writes or makes memory, as a whole.
-/
import Derived.Test.YtcblpjheoclkeaaRowMatchFindsp1
import Derived.Laws.Tables
import Derived.Great.BuildSlice
import Derived.Laws.OwnMore
import Derived.Deep.Upon
set_option maxRecDepth 100000
set_option maxHeartbeats 1000000
set_option linter.unusedVariables false
set_option linter.unusedSimpArgs false
namespace Go.Proofs.Ytcblpjheoclkeaa
open Go.RowKit

def ldD (T : List (Nat × TI)) (σ : List (Key × D)) (t : Nat) (x : D) : Option D := match tget T t with
  | none => none
  | some ti => match x with
    | .p k o => (cellsAt σ k o ti.sz).bind (ofCells ti)
    | .q l => if ti.sz ≤ l.length then ofCells ti (l.take ti.sz) else none
    | .pr g len n i j => match get σ (.r g) with
      | some (.rp _ n' l) => if n' = n ∧ l.length = len ∧ i < len ∧ j + ti.sz ≤ n then ofCells ti (((l.getD i []).drop j).take ti.sz) else none
      | _ => none
    | _ => none
def fieldD (T : List (Nat × TI)) (t : Nat) (x : D) (f : Nat) : Option D := match tget T t with
  | none => none
  | some ti => match x, ti.fs[f]? with
    | .ag l, some (off, sz, ag) => if off + sz ≤ l.length then (if ag then some (.ag ((l.drop off).take sz)) else l[off]?) else none
    | _, _ => none
def faddrD (T : List (Nat × TI)) (t : Nat) (x : D) (f : Nat) : Option D := match tget T t with
  | none => none
  | some ti => match x, ti.fs[f]? with
    | .p k o, some (off, _, _) => some (.p k (o + off))
    | .q l, some (off, _, _) => if off ≤ l.length then some (.q (l.drop off)) else none
    | .pr g len n i j, some (off, _, _) => some (.pr g len n i (j + off))
    | _, _ => none
def sliceD (T : List (Nat × TI)) (t : Nat) (x : D) (lo hi mx : Option Int) : Option D := match tget T t with
  | none => none
  | some ti => match ti.el with
    | none => none
    | some E => match tget T E with
      | none => none
      | some te => match x with
        | .sl n l _ => if te.sz = n ∧ 0 ≤ lo.getD 0 ∧ lo.getD 0 ≤ hi.getD l.length ∧ hi.getD l.length ≤ mx.getD l.length ∧ (mx.isSome → hi.isSome) ∧ mx.getD l.length ≤ l.length then (match mx with
          | none => some (.sl n ((l.take (hi.getD l.length).toNat).drop (lo.getD 0).toNat) none)
          | some m => if m = hi.getD l.length then some (.cl n ((l.take (hi.getD l.length).toNat).drop (lo.getD 0).toNat)) else none) else none
        | .v (.slice none 0 0) => if lo.getD 0 = 0 ∧ hi.getD 0 = 0 ∧ mx.getD 0 = 0 ∧ (mx.isSome → hi.isSome) then some (.v (.slice none 0 0)) else none
        | .ps g len => match lo, hi, mx with
          | some i, none, none => if 0 < te.sz ∧ 0 ≤ i ∧ i ≤ (len : Int) then some (.pt g len te.sz i.toNat) else none
          | _, _, _ => none
        | _ => none
def iaddrD (T : List (Nat × TI)) (t : Nat) (x y : D) : Option D := match tget T t with
  | none => none
  | some ti => match ti.el with
    | none => none
    | some e => match tget T e, x, y with
      | some te, .sl n l _, .v (.int _ i) => if te.sz == n && decide (0 < n) then (if 0 ≤ i ∧ i < (l.length : Int) then some (.q (l.getD i.toNat [])) else none) else none
      | some te, .ps g len, .v (.int _ i) => if 0 < te.sz ∧ 0 ≤ i ∧ i < (len : Int) then some (.pr g len te.sz i.toNat 0) else none
      | _, _, _ => none
def lenD (T : List (Nat × TI)) (t : Nat) (x : D) : Option D := match tget T t with
  | none => none
  | some ti => match x with
    | .sl _ l _ => if ti.kd == 5 then some (.v (.int .i64 l.length)) else none
    | .v (.slice _ n _) => if ti.kd == 5 then some (.v (.int .i64 n)) else none
    | .v (.string s) => if ti.kd == 3 then some (.v (.int .i64 s.size)) else none
    | .ps _ len => if ti.kd == 5 then some (.v (.int .i64 len)) else none
    | _ => none
def buildD (T : List (Nat × TI)) (σ : List (Key × D)) (t : Nat) (parts : List (Nat × Operand)) : Option D := match tget T t with
  | none => none
  | some ti => if ti.kd == 6 then (match evs σ (parts.map (·.2)) with
    | none => none
    | some ds => (fillD ti (ti.z.map .v) ((parts.map (·.1)).zip ds)).map .ag) else none

section
variable {P : Program} {T : List (Nat × TI)} {cx : Cx} {Fr Fr' : Nat → Prop} {m m' : Mp} {Im Im' : Nat → Nat → Prop} {w w' : World} {a : Act} {σ σ' : List (Key × D)}
theorem RelL.take {xs : List Value} {ds : List D} (h : RelL m Im w xs ds) (n : Nat) : RelL m Im w (xs.take n) (ds.take n) := by
  rw [relL_iff] at h ⊢
  refine ⟨by simp [h.1], fun i hi => ?_⟩
  have hi' : i < n ∧ i < ds.length := by simp at hi; omega
  have := h.2 i hi'.2
  rw [List.getElem_take]
  rw [List.getD_eq_getElem?_getD] at this ⊢
  rw [List.getElem?_take, if_pos hi'.1]; exact this
theorem RelL.drop {xs : List Value} {ds : List D} (h : RelL m Im w xs ds) (n : Nat) : RelL m Im w (xs.drop n) (ds.drop n) := by
  rw [relL_iff] at h ⊢
  refine ⟨by simp [h.1], fun i hi => ?_⟩
  have hi' : n + i < ds.length := by simp at hi; omega
  have := h.2 (n + i) hi'
  rw [List.getElem_drop]
  rw [List.getD_eq_getElem?_getD] at this ⊢
  rw [List.getElem?_drop]; exact this
theorem RelL.append {xs ys : List Value} {ds es : List D} (h : RelL m Im w xs ds) (h' : RelL m Im w ys es) : RelL m Im w (xs ++ ys) (ds ++ es) := by
  induction xs generalizing ds with
  | nil => cases ds with
    | nil => exact h'
    | cons d ds => exact h.elim
  | cons x xs ih => cases ds with
    | nil => exact h.elim
    | cons d ds => exact ⟨h.1, ih h.2⟩
theorem rel_q {bl off : Nat} {x : Value} {l : List D} (h : Rel m Im w x (.q l)) : ∃ b o, x = .pointer (some ⟨b, o, none⟩) ∧ ∃ cs : List Value, RelL m Im w cs l ∧ ∀ i v, cs[i]? = some v → w.cell? ⟨b, o + i, none⟩ = some v ∧ Im b (o + i) := by
  cases h with
  | q b o X l h hr =>
    refine ⟨b, o, rfl, (List.range l.length).map X, relL_iff.2 ⟨by simp, fun i hi => ?_⟩, fun i v hv => ?_⟩
    · have := hr i hi
      simpa [hi] using this
    · rw [List.getElem?_map] at hv
      by_cases hi : i < l.length
      · rw [List.getElem?_range hi] at hv
        cases hv
        exact h i hi
      · rw [List.getElem?_eq_none (by simpa using hi)] at hv; cases hv
theorem q_mk {b o : Nat} {cs : List Value} {l : List D} (hr : RelL m Im w cs l) (hc : ∀ i v, cs[i]? = some v → w.cell? ⟨b, o + i, none⟩ = some v ∧ Im b (o + i)) : Rel m Im w (.pointer (some ⟨b, o, none⟩)) (.q l) := by
  rw [relL_iff] at hr
  refine .q b o (fun i => cs.getD i undef) l (fun i hi => ?_) fun i hi => hr.2 i hi
  have hi' : i < cs.length := by omega
  have := hc i cs[i] (List.getElem?_eq_getElem hi')
  simpa [List.getD_eq_getElem?_getD, List.getElem?_eq_getElem hi'] using this
theorem rel_p {x : Value} {k o : Nat} (h : Rel m Im w x (.p k o)) : ∃ b, m.blk k = some b ∧ x = .pointer (some ⟨b, o, none⟩) := by
  cases h with
  | p k o b h => exact ⟨b, h, rfl⟩

theorem ldD_run (hT : TabOk P T) (h : St cx Fr m Im w a σ) {t : Nat} {x : Value} {d e : D} (hx : Rel m Im w x d) (hd : ldD T σ t d = some e) : ∃ v, (Instr.loadAt t x).run P w = .ok v w ∧ Rel m Im w v e := by
  unfold ldD at hd
  split at hd
  · cases hd
  · rename_i ti hti
    split at hd
    · rename_i k o
      obtain ⟨b, hb, rfl⟩ := rel_p hx
      cases hc : cellsAt σ k o ti.sz with
      | none => rw [hc] at hd; cases hd
      | some l =>
        rw [hc] at hd
        obtain ⟨h1, _, h2⟩ := h.cellsAt hc
        obtain ⟨cs, q1, q2⟩ := h2 b hb
        exact run_loadD (hT _ _ hti) (by rw [(relL_iff.1 q1).1, h1]) q2 q1 hd
    · rename_i l
      split at hd
      · rename_i hle
        obtain ⟨b, o, rfl, cs, q1, q2⟩ := rel_q (bl := 0) (off := 0) hx
        refine run_loadD (hT _ _ hti) (cs := cs.take ti.sz) (by simp [(relL_iff.1 q1).1, hle]) (fun i v hv => ?_) (q1.take _) hd
        rw [List.getElem?_take] at hv
        split at hv
        · exact (q2 i v hv).1
        · cases hv
      · cases hd
    · rename_i g len n i0 j0
      split at hd
      · rename_i E' n' l hg
        split at hd
        · rename_i hc
          obtain ⟨rfl, hlen, hi0, hj0⟩ := hc
          obtain ⟨R, hR, hro⟩ := h.ro g _ hg
          cases hx with
          | pr _ _ _ _ _ b hh =>
          cases hro with
          | rp l xs hl hn hown h1 hr hni =>
          obtain ⟨R', p1, p2, p3⟩ := hh
          rw [hR] at p1; cases p1
          have hob := p3 (by omega)
          have hil : i0 < l.length := by omega
          have hrow := hn i0 hil
          have hxl := hown.1
          have hle : i0 * R.n + R.n ≤ xs.length := by
            have : (i0 + 1) * R.n ≤ R.len * R.n := Nat.mul_le_mul_right _ (by omega)
            rw [Nat.succ_mul] at this; omega
          have hgd : l.getD i0 [] = l[i0] := by rw [List.getD_eq_getElem?_getD, List.getElem?_eq_getElem hil]; rfl
          rw [hgd] at hd
          refine run_loadD (hT _ _ hti) (cs := (xs.drop (i0 * R.n + j0)).take ti.sz) (by simp; omega) (fun o v hv => ?_) (relL_iff.2 ⟨by simp; omega, fun o ho => ?_⟩) hd
          · rw [List.getElem?_take] at hv
            split at hv
            · rw [List.getElem?_drop] at hv
              have := hown.cells hob _ _ hv
              rw [addr_add0] at this; exact this
            · cases hv
          · have ho2 : o < ti.sz ∧ j0 + o < l[i0].length := by simp at ho; omega
            have h5 := hr i0 hil (j0 + o) ho2.2
            have e1 : ((l[i0].drop j0).take ti.sz)[o] = l[i0][j0 + o] := by simp
            rw [e1]
            have e2 : ((xs.drop (i0 * R.n + j0)).take ti.sz).getD o undef = xs.getD (i0 * R.n + (j0 + o)) undef := by
              simp only [List.getD_eq_getElem?_getD, List.getElem?_take, ho2.1, if_true, List.getElem?_drop, Nat.add_assoc]
            rw [e2]; exact h5
        · cases hd
      · cases hd
    · cases hd

theorem run_sizeOf {t : Nat} {i : TypeInfo} (h : P.info? t = some i) (w : World) : (sizeOf t).run P w = .ok i.size w := by simp [sizeOf, typeInfo, h]
theorem run_isAg {t : Nat} {d : TypeDesc} (h : P.underlying t = some d) (w : World) : (isAgg t).run P w = .ok (isAg d) w := by
  unfold isAgg; cases d <;> simp [isAg, run_underlying h]
theorem fieldD_run (hT : TabOk P T) {t : Nat} {x : Value} {d e : D} {f : Nat} (hx : Rel m Im w x d) (hd : fieldD T t d f = some e) : ∃ v, (Instr.field t x f).run P w = .ok v w ∧ Rel m Im w v e := by
  unfold fieldD at hd
  split at hd
  · cases hd
  · rename_i ti hti
    split at hd
    · rename_i l off sz ag hf
      split at hd
      · rename_i hle
        obtain ⟨fs, fd, fi, fdd, g1, g2, g3, g4, g5, g6, g7, g8⟩ := (hT _ _ hti).field hf
        obtain ⟨cs, rfl, hr⟩ := rel_ag.1 hx
        have hlen := (relL_iff.1 hr).1
        cases ag with
        | true =>
          simp only [if_true] at hd
          cases hd
          refine ⟨.agg ((cs.drop off).take sz).toArray, ?_, rel_ag.2 ⟨_, rfl, (hr.drop off).take sz⟩⟩
          have : (cs.toArray.extract off (off + sz)) = ((cs.drop off).take sz).toArray := by
            apply Array.ext'
            simp [List.extract_eq_take_drop]
          simp [Instr.field, run_underlying g1, g2, asAgg, part, run_isAg g7, g8, run_sizeOf g4, g5, g3, this]
        | false =>
          simp only [if_false, Bool.false_eq_true] at hd
          have hlt : off < l.length := by omega
          rw [List.getElem?_eq_getElem hlt] at hd
          cases hd
          have hlt2 : off < cs.length := by omega
          refine ⟨cs[off], ?_, ?_⟩
          · simp [Instr.field, run_underlying g1, g2, asAgg, part, run_isAg g7, g8, g3, hlt2]
          · have := (relL_iff.1 hr).2 off hlt
            simpa [List.getD_eq_getElem?_getD, List.getElem?_eq_getElem hlt2] using this
      · cases hd
    · cases hd
theorem faddrD_run (hT : TabOk P T) {t : Nat} {x : Value} {d e : D} {f : Nat} (hx : Rel m Im w x d) (hd : faddrD T t d f = some e) : ∃ v, (Instr.fieldAt t x f).run P w = .ok v w ∧ Rel m Im w v e := by
  unfold faddrD at hd
  split at hd
  · cases hd
  · rename_i ti hti
    split at hd
    · rename_i k o off sz ag hf
      cases hd
      obtain ⟨fs, fd, fi, fdd, g1, g2, g3, g4, g5, g6, g7, g8⟩ := (hT _ _ hti).field hf
      obtain ⟨b, hb, rfl⟩ := rel_p hx
      have hz : ¬ sz = 0 := by omega
      exact ⟨.pointer (some ⟨b, o + off, none⟩), by simp [Instr.fieldAt, run_underlying g1, g2, Instr.sureAddr, fieldPlace, run_sizeOf g4, g5, hz, g3, addr_addN], .p k _ b hb⟩
    · rename_i l off sz ag hf
      split at hd
      · rename_i hle
        cases hd
        obtain ⟨fs, fd, fi, fdd, g1, g2, g3, g4, g5, g6, g7, g8⟩ := (hT _ _ hti).field hf
        obtain ⟨b, o, rfl, cs, q1, q2⟩ := rel_q (bl := 0) (off := 0) hx
        have hz : ¬ sz = 0 := by omega
        refine ⟨.pointer (some ⟨b, o + off, none⟩), by simp [Instr.fieldAt, run_underlying g1, g2, Instr.sureAddr, fieldPlace, run_sizeOf g4, g5, hz, g3, addr_addN], q_mk (q1.drop off) fun i v hv => ?_⟩
        rw [List.getElem?_drop] at hv
        have := q2 _ v hv
        rw [show o + off + i = o + (off + i) by omega]; exact this
      · cases hd
    · rename_i g len n i0 j0 off sz ag hf
      cases hd
      obtain ⟨fs, fd, fi, fdd, g1, g2, g3, g4, g5, g6, g7, g8⟩ := (hT _ _ hti).field hf
      cases hx with
      | pr _ _ _ _ _ b hh =>
      have hz : ¬ sz = 0 := by omega
      exact ⟨.pointer (some ⟨b, i0 * n + (j0 + off), none⟩), by simp [Instr.fieldAt, run_underlying g1, g2, Instr.sureAddr, fieldPlace, run_sizeOf g4, g5, hz, g3, addr_addN, Nat.add_assoc], .pr g len n i0 (j0 + off) b hh⟩
    · cases hd
theorem iaddrD_run (hT : TabOk P T) {t : Nat} {x y : Value} {d e f : D} (hx : Rel m Im w x d) (hy : Rel m Im w y f) (hd : iaddrD T t d f = some e) : ∃ v, (Instr.indexAt t x y).run P w = .ok v w ∧ Rel m Im w v e := by
  unfold iaddrD at hd
  split at hd
  · cases hd
  · rename_i ti hti
    split at hd
    · cases hd
    · rename_i el hel
      split at hd
      · rename_i te n l g k i hte
        split at hd
        · rename_i hn
          simp only [Bool.and_eq_true, beq_iff_eq, decide_eq_true_eq] at hn
          split at hd
          · rename_i hi
            cases hd
            obtain ⟨ei, ed, e1, e2, e3, _⟩ := (hT _ _ hte).parts
            have hs := (hT _ _ hti).slice hel
            have := rel_v.1 hy; subst this
            cases hx with
            | sl a c bl off n X l g h1 ha hc hn2 ho hr hg =>
              have hlt : i.toNat < l.length := by omega
              obtain rfl := ha (by omega)
              refine ⟨.pointer (some ⟨bl, off + i.toNat * n, none⟩), ?_, ?_⟩
              · simp [Instr.indexAt, asIntOf, run_underlying hs, hi.1, hi.2, run_sizeOf e1, e3, hn.1, addr_addN]
              · rw [List.getD_eq_getElem?_getD, List.getElem?_eq_getElem hlt]
                refine .q bl _ (X i.toNat) _ (fun j hj => ?_) fun j hj => hr _ hlt j hj
                have := hn2 _ hlt
                simp only [Option.getD_some] at hj
                exact hc _ j hlt (by omega)
          · cases hd
        · cases hd
      · rename_i te g len k i hte
        split at hd
        · rename_i hi
          cases hd
          obtain ⟨ei, ed, e1, e2, e3, _⟩ := (hT _ _ hte).parts
          have hs := (hT _ _ hti).slice hel
          have := rel_v.1 hy; subst this
          cases hx with
          | ps a c _ _ ha _ hh =>
          obtain ⟨b, rfl⟩ := ha (by omega)
          refine ⟨.pointer (some ⟨b, i.toNat * te.sz + 0, none⟩), ?_, .pr g len te.sz i.toNat 0 b ?_⟩
          · simp [Instr.indexAt, asIntOf, run_underlying hs, hi.2.1, hi.2.2, run_sizeOf e1, e3, hi.1, addr_addN]
          · obtain ⟨R, q1, q2, q3⟩ := hh
            exact ⟨R, q1, q2, fun e => by rw [q3 e]; rfl⟩
        · cases hd
      · cases hd
theorem sliceD_run (hT : TabOk P T) {t : Nat} {x : Value} {d e : D} {lo hi mx : Option Int} {lo' hi' mx' : Option Value} (hx : Rel m Im w x d) (hlo : lo' = lo.map (.int .i64)) (hhi : hi' = hi.map (.int .i64)) (hmx : mx' = mx.map (.int .i64)) (hd : sliceD T t d lo hi mx = some e) :
    ∃ v, (Instr.sliceAt t x lo' hi' mx').run P w = .ok v w ∧ Rel m Im w v e := by
  subst hlo hhi hmx
  unfold sliceD at hd
  split at hd
  · cases hd
  · rename_i ti hti
    split at hd
    · cases hd
    · rename_i el hel
      split at hd
      · cases hd
      · rename_i te hte
        obtain ⟨ei, ed, e1, e2, e3, _⟩ := (hT _ _ hte).parts
        have hs := (hT _ _ hti).slice hel
        split at hd
        · rename_i n l g
          split at hd
          · rename_i hc
            obtain ⟨hn, c1, c2, c3, c4⟩ := hc
            suffices key : ∃ v, (Instr.sliceAt t x (lo.map (.int .i64)) (hi.map (.int .i64)) (mx.map (.int .i64))).run P w = .ok v w ∧ Rel m Im w v (.sl n ((l.take (hi.getD l.length).toNat).drop (lo.getD 0).toNat) none) ∧
                (∀ m', mx = some m' → m' = hi.getD l.length → ∃ a, v = .slice a ((l.take (hi.getD l.length).toNat).drop (lo.getD 0).toNat).length ((l.take (hi.getD l.length).toNat).drop (lo.getD 0).toNat).length) by
              obtain ⟨v, k1, k2, k3⟩ := key
              cases mx with
              | none => cases hd; exact ⟨v, k1, k2⟩
              | some m' =>
                simp only at hd
                split at hd
                · rename_i hm
                  cases hd
                  obtain ⟨a', rfl⟩ := k3 m' rfl hm
                  exact ⟨_, k1, .cl a' n _ k2⟩
                · cases hd
            clear hd
            cases hx with
            | sl a c bl off n X l g h1 ha hcc hn2 ho hr hg =>
              generalize hlo0 : lo.getD 0 = lo0 at c1 c2 ⊢
              generalize hhi0 : hi.getD (l.length : Int) = hi0 at c2 c3 ⊢
              obtain ⟨m0, hm0, hm1, hm2⟩ : ∃ m0 : Nat, (Instr.sliceBounds true l.length c (lo.map (.int .i64)) (hi.map (.int .i64)) (mx.map (.int .i64))).run P w = .ok (lo0.toNat, hi0.toNat, m0) w ∧ hi0.toNat ≤ m0 ∧ (∀ m', mx = some m' → m0 = m'.toNat) := by
                cases mx with
                | none =>
                  refine ⟨c, ?_, by omega, nofun⟩
                  cases hi with
                  | none =>
                    simp only [Option.getD_none] at hhi0
                    cases lo with
                    | none => simp only [Option.getD_none] at hlo0; subst hlo0 hhi0; simp [Instr.sliceBounds]
                    | some lo => simp only [Option.getD_some] at hlo0; subst hlo0 hhi0; simp [Instr.sliceBounds, run_sliceBound, c1, c2]
                  | some hi =>
                    simp only [Option.getD_some] at hhi0
                    subst hhi0
                    have b1 : (0 : Int) ≤ hi := by omega
                    have b2 : hi ≤ (c : Int) := by omega
                    have b3 : (hi.toNat : Int) = hi := by omega
                    cases lo with
                    | none => simp only [Option.getD_none] at hlo0; subst hlo0; simp [Instr.sliceBounds, run_sliceBound, b1, b2]
                    | some lo => simp only [Option.getD_some] at hlo0; subst hlo0; simp [Instr.sliceBounds, run_sliceBound, b1, b2, b3, c1, c2]
                | some mx =>
                  simp only [Option.getD_some, Option.isSome_some, true_implies] at c3 c4
                  refine ⟨mx.toNat, ?_, by omega, fun m' e => by cases e; rfl⟩
                  cases hi with
                  | none => cases c4.1
                  | some hi =>
                    simp only [Option.getD_some] at hhi0
                    subst hhi0
                    have b1 : (0 : Int) ≤ hi := by omega
                    have b2 : hi ≤ (mx.toNat : Int) := by omega
                    have b3 : (hi.toNat : Int) = hi := by omega
                    have b6 := fun c => run_sliceBound (P := P) (w := w) .i64 hi mx.toNat c b1 b2
                    have b4 : (0 : Int) ≤ mx := by omega
                    have b5 : mx ≤ (c : Int) := by omega
                    cases lo with
                    | none => simp only [Option.getD_none] at hlo0; subst hlo0; simp [Instr.sliceBounds, run_sliceBound, b6, b4, b5]
                    | some lo => simp only [Option.getD_some] at hlo0; subst hlo0; simp [Instr.sliceBounds, run_sliceBound, b6, b3, b4, b5, c1, c2]
              have hlen : ((l.take hi0.toNat).drop lo0.toNat).length = hi0.toNat - lo0.toNat := by simp; omega
              have hget : ∀ i (h : i < ((l.take hi0.toNat).drop lo0.toNat).length), ((l.take hi0.toNat).drop lo0.toNat)[i] = l[lo0.toNat + i]'(by rw [hlen] at h; omega) := fun i h => by simp
              refine ⟨.slice (if m0 = lo0.toNat then a else a.map (·.add (lo0.toNat * n))) ((l.take hi0.toNat).drop lo0.toNat).length (m0 - lo0.toNat), ?_, ?_, fun m' e1 e2 => ?_⟩
              · rw [hlen]
                simp only [Instr.sliceAt, Sem.run_bind, run_underlying hs, Result.andThen_ok, Instr.slice, hm0, run_sizeOf e1, e3, hn, Sem.run_pure]
              · refine .sl _ _ bl (off + lo0.toNat * n) n (fun i j => X (lo0.toNat + i) j) _ none ⟨by rw [hlen]; omega, by rw [hlen]; omega⟩ (fun hpos => ?_) (fun i j hi hj => ?_) (fun i hi => ?_) (fun i j hi hj => ?_) (fun i hi j hj => ?_) fun r e => by cases e
                · rw [hlen] at hpos
                  rw [if_neg (by omega), ha (by omega)]
                  simp [addr_addN]
                · rw [hlen] at hi
                  have := hcc (lo0.toNat + i) j (by omega) hj
                  rw [Nat.add_mul, ← Nat.add_assoc] at this
                  exact this
                · rw [hget i hi]; exact hn2 _ _
                · rw [hlen] at hi; exact ho _ j (by omega) hj
                · have hh := hget i hi
                  have hj' : j < (l[lo0.toNat + i]'(by rw [hlen] at hi; omega)).length := by rw [← hh]; exact hj
                  have := hr (lo0.toNat + i) (by rw [hlen] at hi; omega) j hj'
                  simp only [hh]; exact this
              · have := hm2 m' e1
                rw [hlen, this, e2]
                exact ⟨_, rfl⟩
          · cases hd
        · split at hd
          · rename_i hc
            cases hd
            have := rel_v.1 hx; subst this
            obtain ⟨c1, c2, c3, c4⟩ := hc
            refine ⟨.slice none 0 0, ?_, .v _⟩
            cases lo <;> cases hi <;> cases mx <;> simp only [Option.getD_none, Option.getD_some] at c1 c2 c3 <;> (try subst c1) <;> (try subst c2) <;> (try subst c3) <;> first | (simp at c4; done) | simp [Instr.sliceAt, Instr.slice, run_underlying hs, Instr.sliceBounds, run_sliceBound, run_sizeOf e1]
          · cases hd
        · rename_i g len
          split at hd
          · rename_i i
            split at hd
            · rename_i hc
              cases hd
              obtain ⟨hz, c1, c2⟩ := hc
              cases hx with
              | ps a c _ _ ha hcap hh =>
              have b1 : (Instr.sliceBounds true len c (some (Value.int .i64 i)) none none).run P w = .ok (i.toNat, len, c) w := by simp [Instr.sliceBounds, run_sliceBound, c1, c2]
              refine ⟨.slice (if c = i.toNat then a else a.map (·.add (i.toNat * te.sz))) (len - i.toNat) (c - i.toNat), ?_, .pt _ _ g len te.sz i.toNat ?_⟩
              · simp only [Option.map_some, Option.map_none, Instr.sliceAt, Sem.run_bind, run_underlying hs, Result.andThen_ok, Instr.slice, b1, run_sizeOf e1, e3, Sem.run_pure]
              · obtain ⟨R, q1, q2, q3⟩ := hh
                refine ⟨R, q1, q2, fun e hl => ?_⟩
                obtain ⟨b, rfl⟩ := ha (by omega)
                refine ⟨b, by rw [q3 e]; rfl, ?_⟩
                rw [if_neg (by omega)]
                simp [addr_addN]
            · cases hd
          · cases hd
        · cases hd
theorem lenD_run (hT : TabOk P T) {t ty : Nat} {x : Value} {d e : D} (hx : Rel m Im w x d) (hd : lenD T t d = some e) : ∃ v, (Builtin.len_ #[t] ty #[x]).run P w = .ok v w ∧ Rel m Im w v e := by
  unfold lenD at hd
  split at hd
  · cases hd
  · rename_i ti hti
    obtain ⟨i, dd, h1, h2, h3, h4, h5, h6, h7, h8⟩ := (hT _ _ hti).parts
    split at hd
    · split at hd
      · rename_i hk
        cases hd
        rw [← h8] at hk
        cases hx with
        | sl a c bl off n X l g _ _ _ _ _ _ _ =>
          cases dd <;> simp [kdOf] at hk
          exact ⟨_, by simp [Builtin.len_, run_underlying h2, goInt], .v _⟩
      · cases hd
    · split at hd
      · rename_i hk
        cases hd
        rw [← h8] at hk
        have := rel_v.1 hx; subst this
        cases dd <;> simp [kdOf] at hk
        exact ⟨_, by simp [Builtin.len_, run_underlying h2, goInt], .v _⟩
      · cases hd
    · split at hd
      · rename_i hk
        cases hd
        rw [← h8] at hk
        have := rel_v.1 hx; subst this
        cases dd <;> simp [kdOf] at hk
        exact ⟨_, by simp [Builtin.len_, run_underlying h2, goInt], .v _⟩
      · cases hd
    · split at hd
      · rename_i hk
        cases hd
        rw [← h8] at hk
        cases hx with
        | ps a c _ _ ha _ hh =>
          cases dd <;> simp [kdOf] at hk
          exact ⟨_, by simp [Builtin.len_, run_underlying h2, goInt], .v _⟩
      · cases hd
    · cases hd
end
end Go.Proofs.Ytcblpjheoclkeaa

namespace Go.Proofs.Ytcblpjheoclkeaa
open Go.RowKit

theorem fold_set (off : Nat) : ∀ (vs : List Value) (k : Nat) (cs : List Value), off + k + vs.length ≤ cs.length →
    (vs.zipIdx k).foldl (fun (cs : Array Value) (p : Value × Nat) => cs.setIfInBounds (off + p.2) p.1) cs.toArray = (cs.take (off + k) ++ vs ++ cs.drop (off + k + vs.length)).toArray
  | [], k, cs, h => by simp
  | v :: vs, k, cs, h => by
    simp only [List.length_cons] at h
    rw [List.zipIdx_cons, List.foldl_cons]
    have e : cs.toArray.setIfInBounds (off + k) v = (cs.take (off + k) ++ v :: cs.drop (off + k + 1)).toArray := by
      rw [List.setIfInBounds_toArray, List.set_eq_take_append_cons_drop, if_pos (by omega)]
    rw [e, fold_set off vs (k + 1) _ (by simp; omega)]
    congr 1
    have l1 : (cs.take (off + k)).length = off + k := by simp; omega
    rw [show off + (k + 1) = (cs.take (off + k)).length + 1 by omega]
    rw [List.take_length_add_append, show (cs.take (off + k)).length + 1 + vs.length = (cs.take (off + k)).length + (1 + vs.length) by omega, List.drop_length_add_append]
    simp [List.drop_drop, Nat.add_comm, Nat.add_left_comm]
theorem fill_one {place : Nat → Option (Nat × Nat)} {i off sz : Nat} {v : Value} {vs cs : List Value} {rest : List (Nat × Value)} (hp : place i = some (off, sz)) (hv : v.cells = vs.toArray) (hl : vs.length = sz) (hle : off + sz ≤ cs.length) :
    Instr.fill place cs.toArray ((i, v) :: rest) = Instr.fill place (cs.take off ++ vs ++ cs.drop (off + sz)).toArray rest := by
  rw [Instr.fill]
  simp only [hp, hv, List.size_toArray, hl]
  rw [if_neg (by simp; omega)]
  have := fold_set off vs 0 cs (by omega)
  simp only [Nat.add_zero, hl] at this
  rw [← this]
  congr 1
  simp [← Array.foldl_toList]

namespace TypOk
variable {P : Program} {t : Nat} {ti : TI}
theorem places (h : TypOk P t ti) (hk : ti.kd = 6) : ∃ fs it, P.info? t = some it ∧ P.underlying t = some (.struct fs) ∧ it.zero = some (zeroOf ti) ∧ ti.ag = true ∧ fs.toList.mapM (fun f => (P.info? f.type).map fun i => (f.offset, i.size)) = some (ti.fs.map fun e => (e.1, e.2.1)) := by
  obtain ⟨i, d, h1, h2, h3, h4, h5, h6, h7, h8⟩ := h.parts
  have hc := h.chk
  unfold tchk at hc
  rw [h1, h2] at hc
  simp only [Bool.and_eq_true, beq_iff_eq] at hc
  obtain ⟨⟨_, a6⟩, _⟩ := hc
  cases d with
  | struct fs =>
    refine ⟨fs, i, h1, h2, h5, h6.symm, ?_⟩
    simp only [Bool.and_eq_true, beq_iff_eq] at a6
    obtain ⟨b1, b2⟩ := a6
    have key : ∀ (l : List Field) (es : List (Nat × Nat × Bool)), l.length = es.length → (l.zip es).all (fun p => fchk P p.1 p.2) = true → l.mapM (fun f => (P.info? f.type).map fun i => (f.offset, i.size)) = some (es.map fun e => (e.1, e.2.1)) := by
      intro l
      induction l with
      | nil => intro es hl _; cases es; rfl; cases hl
      | cons f l ih =>
        intro es hl hall
        cases es with
        | nil => cases hl
        | cons e es =>
          simp only [List.zip_cons_cons, List.all_cons, Bool.and_eq_true] at hall
          have h1 := ih es (by simpa using hl) hall.2
          have h2 := hall.1
          simp only [fchk, Bool.and_eq_true, beq_iff_eq, decide_eq_true_eq] at h2
          obtain ⟨⟨⟨c1, c2⟩, _⟩, _⟩ := h2
          cases hfi : P.info? f.type with
          | none => rw [hfi] at c2; simp at c2
          | some fi =>
            rw [hfi] at c2
            simp only [beq_iff_eq] at c2
            simp [List.mapM_cons, hfi, h1, c1, c2]
    exact key _ _ b1 b2
  | _ => simp [kdOf] at h8; omega
end TypOk

section
variable {P : Program} {T : List (Nat × TI)} {cx : Cx} {Fr Fr' : Nat → Prop} {m m' : Mp} {Im Im' : Nat → Nat → Prop} {w w' : World} {a : Act} {σ σ' : List (Key × D)}
theorem fillD_run {ti : TI} {place : Nat → Option (Nat × Nat)} (hp : ∀ f off sz ag, ti.fs[f]? = some (off, sz, ag) → place f = some (off, sz)) : ∀ (ps : List (Nat × Value)) (ds : List (Nat × D)) (cs : List Value) (l l' : List D), ps.map (·.1) = ds.map (·.1) → RelL m Im w (ps.map (·.2)) (ds.map (·.2)) → RelL m Im w cs l → fillD ti l ds = some l' →
    ∃ cs', Instr.fill place cs.toArray ps = some cs'.toArray ∧ RelL m Im w cs' l'
  | [], [], cs, l, l', _, _, hr, hf => by cases hf; exact ⟨cs, rfl, hr⟩
  | [], _ :: _, _, _, _, h, _, _, _ => by cases h
  | _ :: _, [], _, _, _, h, _, _, _ => by cases h
  | (i, v) :: ps, (j, d) :: ds, cs, l, l', he, hv, hr, hf => by
    simp only [List.map_cons, List.cons.injEq] at he
    obtain ⟨rfl, he⟩ := he
    obtain ⟨hv1, hv2⟩ := hv
    simp only [fillD] at hf
    split at hf
    · cases hf
    · rename_i off sz ag hfs
      split at hf
      · cases hf
      · rename_i e hds
        split at hf
        · rename_i hle
          have hcl : cs.length = l.length := (relL_iff.1 hr).1
          have key : ∃ vs : List Value, v.cells = vs.toArray ∧ vs.length = sz ∧ RelL m Im w vs e := by
            unfold partD at hds
            cases ag with
            | true =>
              simp only [if_true] at hds
              split at hds
              · split at hds
                · rename_i hl
                  cases hds
                  obtain ⟨vs, rfl, hr'⟩ := rel_ag.1 hv1
                  exact ⟨vs, rfl, by rw [(relL_iff.1 hr').1]; simpa using hl, hr'⟩
                · cases hds
              · cases hds
            | false =>
              simp only [if_false, Bool.false_eq_true] at hds
              split at hds
              · rename_i hc
                cases hds
                simp only [Bool.and_eq_true, beq_iff_eq] at hc
                have h1 := hv1.one hc.2
                refine ⟨[v], ?_, by simp [hc.1], hv1, trivial⟩
                cases v <;> first | rfl | (simp [Value.oneCell'] at h1)
              · cases hds
          obtain ⟨vs, q1, q2, q3⟩ := key
          rw [fill_one (hp _ _ _ _ hfs) q1 q2 (by omega)]
          exact fillD_run hp ps ds _ _ _ he hv2 (((hr.take off).append q3).append (hr.drop (off + sz))) hf
        · cases hf
theorem relL_v : ∀ (l : List Value), RelL m Im w l (l.map .v)
  | [] => trivial
  | x :: l => ⟨.v x, relL_v l⟩
theorem buildD_run (hT : TabOk P T) (h : St cx Fr m Im w a σ) {t : Nat} {parts : Array (Nat × Operand)} {e : D} (hd : buildD T σ t parts.toList = some e) : ∃ v, (Instr.build t (parts.map fun (i, x) => (i, a.eval x))).run P w = .ok v w ∧ Rel m Im w v e := by
  unfold buildD at hd
  split at hd
  · cases hd
  · rename_i ti hti
    split at hd
    · rename_i hk
      have hk : ti.kd = 6 := by simpa using hk
      split at hd
      · cases hd
      · rename_i ds hds
        obtain ⟨fs, it, g1, g2, g3, g4, g5⟩ := (hT _ _ hti).places hk
        have hev := h.evs hds
        cases hf : fillD ti (ti.z.map .v) ((parts.toList.map (·.1)).zip ds) with
        | none => rw [hf] at hd; cases hd
        | some l' =>
          rw [hf] at hd
          cases hd
          have hlen : ds.length = parts.toList.length := by have := (relL_iff.1 hev).1; simpa using this.symm
          obtain ⟨cs', q1, q2⟩ := fillD_run (m := m) (Im := Im) (w := w) (ti := ti) (place := fun i => (ti.fs.map fun e => (e.1, e.2.1)).toArray[i]?) (fun f off sz ag hf => by simp [hf]) (parts.toList.map fun p => (p.1, a.eval p.2)) ((parts.toList.map (·.1)).zip ds) ti.z (ti.z.map .v) l'
            (by rw [List.map_map, List.map_fst_zip (by simp [hlen])]; rfl) (by rw [List.map_map, List.map_snd_zip (by simp [hlen])]; rw [List.map_map] at hev; exact hev) (relL_v _) hf
          refine ⟨.agg cs'.toArray, run_build w t _ cs'.toArray ?_, rel_ag.2 ⟨cs', rfl, q2⟩⟩
          unfold Program.built
          rw [g1, g2]
          simp only [g3, g5, zeroOf, g4, if_true, Value.cells]
          rw [← q1]
          congr 1
          simp
    · cases hd
end
end Go.Proofs.Ytcblpjheoclkeaa

namespace Go.Proofs.Ytcblpjheoclkeaa
open Go.RowKit

def pickD (σ : List (Key × D)) (c x y : Operand) : Option D := match ev σ c with
  | some (.v (.bool t)) => if t then ev σ x else ev σ y
  | _ => none
def nilD : D → Option D
  | .p k o => some (.p k o)
  | .q l => some (.q l)
  | .o k => some (.o k)
  | .v (.pointer (some a)) => some (.v (.pointer (some a)))
  | .fn f c => some (.fn f c)
  | _ => none
def extractD (x : D) (i : Nat) : Option D := match x with
  | .tu l => l[i]?
  | _ => none
def makeFnD (σ : List (Key × D)) (f : Fn) (first caps : List Operand) : Option D := match f, first with
  | .func f, [] => (evs σ caps).map (.fn f)
  | _, _ => none
def evI (σ : List (Key × D)) : Option Operand → Option (Option Int)
  | none => some none
  | some x => match ev σ x with
    | some (.v (.int .i64 i)) => some (some i)
    | _ => none
def slD (T : List (Nat × TI)) (σ : List (Key × D)) (t : Nat) (x : Operand) (lo hi mx : Option Operand) : Option D := match ev σ x, evI σ lo, evI σ hi, evI σ mx with
  | some d, some a, some b, some c => sliceD T t d a b c
  | _, _, _, _ => none
def bin2 (T : List (Nat × TI)) (t : Nat) (op : BinOp) (x y : Option D) : Option D := match tget T t, x, y with
  | some ti, some x, some y => binD ti op x y
  | _, _, _ => none
def minD : D → D → Option D
  | .v (.int .i64 a), .v (.int .i64 b) => some (.v (.int .i64 (min a b)))
  | _, _ => none
def maxD : D → D → Option D
  | .v (.int .i64 a), .v (.int .i64 b) => some (.v (.int .i64 (max a b)))
  | _, _ => none
def convD (T : List (Nat × TI)) (s d : Nat) (x : D) : Option D := match tget T s, tget T d, x with
  | some _, some td, .v (.int _ n) => (match td.z with
    | [.int k _] => if td.kd == 2 then some (.v (.int k (k.wrap n))) else none
    | _ => none)
  | _, _, _ => none
def pval (T : List (Nat × TI)) (σ : List (Key × D)) (o : Oper) : Option D := match o.op with
  | .move x => ev σ x
  | .assign x => ev σ x
  | .pick c x y => pickD σ c x y
  | .load t x => (ev σ x).bind (ldD T σ t)
  | .nilCheck x => (ev σ x).bind nilD
  | .binOp op t x y _ => bin2 T t op (ev σ x) (ev σ y)
  | .unOp op _ x => (ev σ x).bind (unD op)
  | .convert s d x => (ev σ x).bind (convD T s d)
  | .field t x f => (ev σ x).bind fun d => fieldD T t d f
  | .fieldAddr t x f => (ev σ x).bind fun d => faddrD T t d f
  | .indexAddr t x y => (ev σ x).bind fun d => (ev σ y).bind fun e => iaddrD T t d e
  | .extract x i => (ev σ x).bind fun d => extractD d i
  | .makeFunc f first caps => makeFnD σ f first.toList caps.toList
  | .build t parts => buildD T σ t parts.toList
  | .slice t x lo hi mx => slD T σ t x lo hi mx
  | .call c => match c.callee, c.args.toList, c.argTypes.toList with
    | .builtin .len, [x], [t] => (ev σ x).bind (lenD T t)
    | .builtin .min, [x, y], [_, _] => (ev σ x).bind fun d => (ev σ y).bind fun e => minD d e
    | .builtin .max, [x, y], [_, _] => (ev σ x).bind fun d => (ev σ y).bind fun e => maxD d e
    | _, _, _ => none
  | _ => none
def mrd (T : List (Nat × TI)) (σ : List (Key × D)) (o : Oper) : List Key := match o.op with
  | .load t x => match ev σ x, tget T t with
    | some (.p k off), some ti => (List.range ti.sz).map fun i => .c k (off + i)
    | some (.pr g _ _ _ _), some _ => [.r g]
    | _, _ => []
  | _ => []
def trd (o : Oper) : List Key := o.op.operands.toList.filterMap fun x => match x with | .tmp t => some (.t t) | _ => none

section
variable {P : Program} {T : List (Nat × TI)} {cx : Cx} {Fr Fr' : Nat → Prop} {m m' : Mp} {Im Im' : Nat → Nat → Prop} {w w' : World} {a : Act} {σ σ' : List (Key × D)}
theorem bind_some {α β : Type} {x : Option α} {f : α → Option β} {y : β} (h : x.bind f = some y) : ∃ z, x = some z ∧ f z = some y := by
  cases x with
  | none => cases h
  | some z => exact ⟨z, rfl, h⟩
theorem shr1_run {k : IntKind} {x y : Int} {e : D} (h : (if y = 1 then some (D.v (.int k (x.fdiv 2))) else none) = some e) (t : TypeId) : ∃ v, (binOp .shr t (.int k x) (.int k y)).run P w = .ok v w ∧ Rel m Im w v e := by
  split at h
  · rename_i hb
    subst hb
    cases h
    have h2 : min 1 k.bits = 1 := by cases k <;> rfl
    exact ⟨_, by simp [binOp, Op.shift, h2], .v _⟩
  · cases h
theorem intD_run {op : BinOp} {k : IntKind} {x y : Int} {e : D} (h : intD op k x y = some e) (t : TypeId) : ∃ v, (binOp op t (.int k x) (.int k y)).run P w = .ok v w ∧ Rel m Im w v e := by
  cases op <;> simp only [intD] at h <;> first | (cases h; exact ⟨_, by simp [binOp, Op.intArith, Op.intCmp]; rfl, .v _⟩) | (cases h; exact ⟨_, by simp [binOp, Op.intArith, Op.intCmp], .v _⟩) | (cases h; done) | exact shr1_run h t
theorem convD_run (hT : TabOk P T) {s t : Nat} {x : Value} {d e : D} (hx : Rel m Im w x d) (hd : convD T s t d = some e) : ∃ v, (convert s t x).run P w = .ok v w ∧ Rel m Im w v e := by
  unfold convD at hd
  split at hd
  · rename_i ts td k0 n hts htd
    split at hd
    · rename_i k z hz
      split at hd
      · rename_i hk
        cases hd
        have := rel_v.1 hx; subst this
        obtain ⟨_, _, _, hs, _⟩ := (hT _ _ hts).parts
        have hd := (hT _ _ htd).int hz (by simpa using hk)
        have hik : P.intKind t = k := by simp [Program.intKind, hd]
        refine ⟨_, run_convert_int (P := P) (w := w) (src := s) (dst := t) (k := k0) (n := n) (by rw [hs]; rfl) (by rw [hik]; exact hd), ?_⟩
        rw [hik]; exact .v _
      · cases hd
    · cases hd
  · cases hd
theorem eqD_run {op : BinOp} {b : Bool} {e : D} (h : eqD op b = some e) (t : TypeId) {x y : Value} (hq : (Op.equal t x y).run P w = .ok b w) (hb : ∀ op : BinOp, (op = .eql → binOp op t x y = (do pure (.bool (← Op.equal t x y)))) ∧ (op = .neq → binOp op t x y = (do pure (.bool (!(← Op.equal t x y)))))) :
    ∃ v, (binOp op t x y).run P w = .ok v w ∧ Rel m Im w v e := by
  cases op <;> simp only [eqD] at h <;> cases h
  · refine ⟨.bool b, ?_, .v _⟩
    rw [(hb .eql).1 rfl]; simp [hq]
  · refine ⟨.bool (!b), ?_, .v _⟩
    rw [(hb .neq).2 rfl]; simp [hq]
theorem depth_succ : Op.maxDepth = 9999 + 1 := rfl
theorem run_eq_bool {t : Nat} (h : P.underlying t = some .bool) (x y : Bool) : (Op.equal t (.bool x) (.bool y)).run P w = .ok (x == y) w := by
  unfold Op.equal; rw [depth_succ, Op.equalIn]; simp [run_underlying h]
theorem run_eq_ptr {t e : Nat} (h : P.underlying t = some (.pointer e)) (x : Option Addr) : (Op.equal t (.pointer x) (.pointer none)).run P w = .ok x.isNone w := by
  unfold Op.equal; rw [depth_succ, Op.equalIn]
  cases x <;> simp [run_underlying h]
theorem guard_bool (op : BinOp) (t : TypeId) (ox oy : Operand) (x y : Bool) : (eqGuard op t ox oy (.bool x) (.bool y)).run P w = .ok () w := by
  unfold eqGuard
  cases op <;> rfl
theorem guard_int (op : BinOp) (t : TypeId) (ox oy : Operand) (k k' : IntKind) (x y : Int) : (eqGuard op t ox oy (.int k x) (.int k' y)).run P w = .ok () w := by
  unfold eqGuard
  cases op <;> rfl
theorem guard_ptr (op : BinOp) (t : TypeId) (ox oy : Operand) (x y : Option Addr) : (eqGuard op t ox oy (.pointer x) (.pointer y)).run P w = .ok () w := by
  unfold eqGuard
  cases op <;> rfl
theorem run_eq_slice {t e : Nat} (h : P.underlying t = some (.slice e)) (x : Option Addr) (n c : Nat) : (Op.equal t (.slice x n c) (.slice none 0 0)).run P w = .ok x.isNone w := by
  unfold Op.equal; rw [depth_succ, Op.equalIn]
  cases x <;> simp [run_underlying h]
theorem guard_slice (op : BinOp) (t : TypeId) (ox oy : Operand) (x y : Option Addr) (n c n' c' : Nat) : (eqGuard op t ox oy (.slice x n c) (.slice y n' c')).run P w = .ok () w := by
  unfold eqGuard
  cases op <;> rfl
theorem run_eq_int {t : Nat} {k : IntKind} (h : P.underlying t = some (.int k)) (d : Nat) (x y : Int) : (Op.equalIn (d + 1) t (.int .i64 x) (.int .i64 y)).run P w = .ok (x == y) w := by
  rw [Op.equalIn]; simp [run_underlying h]
theorem run_part1 {t : Nat} {k : IntKind} (h : P.underlying t = some (.int k)) {cs : Array Value} {i : Nat} {v : Value} (hv : cs[i]? = some v) : (part t cs i).run P w = .ok v w := by
  unfold part isAgg; simp [run_underlying h, hv]
theorem run_eq_two {t : Nat} {ti : TI} (h : TypOk P t ti) (hq : ti.eqi = true) (a b c d : Int) : (Op.equal t (.agg #[.int .i64 a, .int .i64 b]) (.agg #[.int .i64 c, .int .i64 d])).run P w = .ok (a == c && b == d) w ∧ P.eqGuardType P.depth t = false := by
  have h1 := h.eqs
  unfold echk at h1
  simp only [hq, Bool.not_true, Bool.false_or, Bool.and_eq_true, Bool.not_eq_true'] at h1
  obtain ⟨⟨h1, h2⟩, h3⟩ := h1
  refine ⟨?_, h2⟩
  split at h3
  · rename_i fs hfs
    split at h3
    · rename_i f g hl
      simp only [Bool.and_eq_true, bne_iff_ne, ne_eq, beq_iff_eq] at h3
      obtain ⟨⟨⟨⟨n1, n2⟩, o1⟩, o2⟩, h3⟩ := h3
      split at h3
      · rename_i k1 k2 u1 u2
        have e : fs = #[f, g] := by apply Array.ext'; simpa using hl
        subst e
        unfold Op.equal; rw [depth_succ, Op.equalIn]
        have p1 := fun (x y : Int) => run_part1 (P := P) (w := w) (cs := #[.int .i64 x, .int .i64 y]) (i := 0) (v := .int .i64 x) u1 rfl
        have p2 := fun (x y : Int) => run_part1 (P := P) (w := w) (cs := #[.int .i64 x, .int .i64 y]) (i := 1) (v := .int .i64 y) u2 rfl
        have q1 := run_eq_int (P := P) (w := w) u1 9998 a c
        have q2 := run_eq_int (P := P) (w := w) u2 9998 b d
        cases hac : a == c <;> cases hbd : b == d <;> rw [hac] at q1 <;> rw [hbd] at q2 <;> simp [run_underlying hfs, h1, n1, n2, o1, o2, p1, p2, q1, q2]
      · cases h3
    · cases h3
  · cases h3
theorem guard_two {t : Nat} (h : P.eqGuardType P.depth t = false) (op : BinOp) (ox oy : Operand) (x y : Array Value) : (eqGuard op t ox oy (.agg x) (.agg y)).run P w = .ok () w := by
  unfold eqGuard
  cases op <;> simp [h]
theorem rel_oK {x : Value} {k : Nat} (h : Rel m Im w x (.o k)) : ∃ b, m.obj k = some b ∧ x = .pointer (some ⟨b, 0, none⟩) := by
  cases h with | o k b h => exact ⟨b, h, rfl⟩
theorem binD_run (hT : TabOk P T) {t : Nat} {ti : TI} (hti : tget T t = some ti) {op : BinOp} {x y : Value} {d f e : D} (hx : Rel m Im w x d) (hy : Rel m Im w y f) (hd : binD ti op d f = some e) :
    (∃ v, (binOp op t x y).run P w = .ok v w ∧ Rel m Im w v e) ∧ ∀ ox oy, (eqGuard op t ox oy x y).run P w = .ok () w := by
  obtain ⟨i, dd, h1, h2, h3, h4, h5, h6, h7, h8⟩ := (hT _ _ hti).parts
  unfold binD at hd
  split at hd
  · have := rel_v.1 hx; subst this
    have := rel_v.1 hy; subst this
    split at hd
    · rename_i hk; subst hk
      exact ⟨intD_run hd t, fun ox oy => guard_int ..⟩
    · cases hd
  · have := rel_v.1 hx; subst this
    have := rel_v.1 hy; subst this
    split at hd
    · rename_i b c hk
      rw [← h8] at hk
      cases dd <;> simp [kdOf] at hk
      exact ⟨eqD_run hd t (run_eq_bool h2 _ _) (fun op => ⟨fun e => by subst e; rfl, fun e => by subst e; rfl⟩), fun ox oy => guard_bool ..⟩
    · cases hd
  · have := rel_v.1 hy; subst this
    obtain ⟨b, hb, rfl⟩ := rel_p hx
    split at hd
    · rename_i hk
      rw [← h8] at hk
      cases dd <;> simp [kdOf] at hk
      exact ⟨eqD_run hd t (run_eq_ptr h2 _) (fun op => ⟨fun e => by subst e; rfl, fun e => by subst e; rfl⟩), fun ox oy => guard_ptr ..⟩
    · cases hd
  · have := rel_v.1 hy; subst this
    obtain ⟨b, o, rfl, _⟩ := rel_q (bl := 0) (off := 0) hx
    split at hd
    · rename_i hk
      rw [← h8] at hk
      cases dd <;> simp [kdOf] at hk
      exact ⟨eqD_run hd t (run_eq_ptr h2 _) (fun op => ⟨fun e => by subst e; rfl, fun e => by subst e; rfl⟩), fun ox oy => guard_ptr ..⟩
    · cases hd
  · have := rel_v.1 hy; subst this
    obtain ⟨b, hb, rfl⟩ := rel_oK hx
    split at hd
    · rename_i hk
      rw [← h8] at hk
      cases dd <;> simp [kdOf] at hk
      exact ⟨eqD_run hd t (run_eq_ptr h2 _) (fun op => ⟨fun e => by subst e; rfl, fun e => by subst e; rfl⟩), fun ox oy => guard_ptr ..⟩
    · cases hd
  · have := rel_v.1 hx; subst this
    have := rel_v.1 hy; subst this
    split at hd
    · rename_i hk
      rw [← h8] at hk
      cases dd <;> simp [kdOf] at hk
      exact ⟨eqD_run hd t (run_eq_ptr h2 _) (fun op => ⟨fun e => by subst e; rfl, fun e => by subst e; rfl⟩), fun ox oy => guard_ptr ..⟩
    · cases hd
  · have := rel_v.1 hx; subst this
    have := rel_v.1 hy; subst this
    split at hd
    · rename_i hk
      rw [← h8] at hk
      cases dd <;> simp [kdOf] at hk
      exact ⟨eqD_run hd t (run_eq_ptr h2 _) (fun op => ⟨fun e => by subst e; rfl, fun e => by subst e; rfl⟩), fun ox oy => guard_ptr ..⟩
    · cases hd
  · have := rel_v.1 hy; subst this
    split at hd
    · rename_i hk
      cases hx with
      | sl a c bl off n X l g h1 ha hc hn ho hr hg =>
      have ha := ha (by simp)
      subst ha
      rw [← h8] at hk
      cases dd <;> simp [kdOf] at hk
      exact ⟨eqD_run hd t (run_eq_slice h2 _ _ _) (fun op => ⟨fun e => by subst e; rfl, fun e => by subst e; rfl⟩), fun ox oy => guard_slice ..⟩
    · cases hd
  · have := rel_v.1 hx; subst this
    have := rel_v.1 hy; subst this
    split at hd
    · rename_i hk
      rw [← h8] at hk
      cases dd <;> simp [kdOf] at hk
      exact ⟨eqD_run hd t (run_eq_slice h2 _ _ _) (fun op => ⟨fun e => by subst e; rfl, fun e => by subst e; rfl⟩), fun ox oy => guard_slice ..⟩
    · cases hd
  · split at hd
    · rename_i a b c d hq
      obtain ⟨cs, rfl, hr⟩ := rel_ag.1 hx
      obtain ⟨cs', rfl, hr'⟩ := rel_ag.1 hy
      match cs, hr with
      | [u, v], hr =>
        match cs', hr' with
        | [u', v'], hr' =>
          have := rel_v.1 hr.1; subst this
          have := rel_v.1 hr.2.1; subst this
          have := rel_v.1 hr'.1; subst this
          have := rel_v.1 hr'.2.1; subst this
          obtain ⟨g1, g2⟩ := run_eq_two (P := P) (w := w) (hT _ _ hti) hq a b c d
          exact ⟨eqD_run hd t g1 (fun op => ⟨fun e => by subst e; rfl, fun e => by subst e; rfl⟩), fun ox oy => guard_two g2 ..⟩
    · cases hd
  · cases hd
theorem unD_run {op : UnOp} {x : Value} {d e : D} (hx : Rel m Im w x d) (hd : unD op d = some e) : ∃ v, (Op.unary op x).run P w = .ok v w ∧ Rel m Im w v e := by
  unfold unD at hd
  split at hd
  · cases hd; have := rel_v.1 hx; subst this
    exact ⟨_, by simp [Op.unary], .v _⟩
  · cases hd; have := rel_v.1 hx; subst this
    exact ⟨_, by simp [Op.unary, Op.intArith], .v _⟩
  · cases hd

theorem St.evI (h : St cx Fr m Im w a σ) {x : Option Operand} {i : Option Int} (hx : Go.Proofs.Ytcblpjheoclkeaa.evI σ x = some i) : x.map a.eval = i.map (.int .i64) := by
  cases x with
  | none => cases hx; rfl
  | some x =>
    simp only [Go.Proofs.Ytcblpjheoclkeaa.evI] at hx
    split at hx
    · rename_i i hi
      cases hx
      have := rel_v.1 (h.ev hi)
      simp [this]
    · cases hx
theorem pval_run (hT : TabOk P T) (h : St cx Fr m Im w a σ) {o : Oper} {e : D} (hd : pval T σ o = some e) : ∃ v, (execOp a.eval o).run P w = .ok (.value v) w ∧ Rel m Im w v e := by
  unfold pval at hd
  unfold execOp
  split at hd
  · rename_i x ho; simp only [ho]; exact ⟨_, by simp, h.ev hd⟩
  · rename_i x ho; simp only [ho]; exact ⟨_, by simp, h.ev hd⟩
  · rename_i c x y ho
    simp only [ho]
    unfold pickD at hd
    split at hd
    · rename_i t hc
      have hc' := rel_v.1 (h.ev hc)
      cases t with
      | true => exact ⟨a.eval x, by simp [hc', asBool], h.ev hd⟩
      | false => exact ⟨a.eval y, by simp [hc', asBool], h.ev hd⟩
    · cases hd
  · rename_i t x ho
    simp only [ho]
    obtain ⟨d, q1, q2⟩ := bind_some hd
    obtain ⟨v, r1, r2⟩ := ldD_run hT h (h.ev q1) q2
    exact ⟨v, by simp [r1], r2⟩
  · rename_i x ho
    simp only [ho]
    obtain ⟨d, q1, q2⟩ := bind_some hd
    have hx := h.ev q1
    unfold nilD at q2
    split at q2
    · cases q2; obtain ⟨b, hb, e⟩ := rel_p hx; rw [e] at hx ⊢; exact ⟨_, by simp, hx⟩
    · cases q2; obtain ⟨b, o, e, _⟩ := rel_q (bl := 0) (off := 0) hx; rw [e] at hx ⊢; exact ⟨_, by simp, hx⟩
    · cases q2; obtain ⟨b, hb, e⟩ := rel_oK hx; rw [e] at hx ⊢; exact ⟨_, by simp, hx⟩
    · cases q2; have e := rel_v.1 hx; rw [e]; exact ⟨_, by simp, .v _⟩
    · cases q2; obtain ⟨cs, e, _⟩ := rel_fn.1 hx; rw [e] at hx ⊢; exact ⟨_, by simp, hx⟩
    · cases q2
  · rename_i op t x y _ ho
    simp only [ho]
    unfold bin2 at hd
    split at hd
    · rename_i ti d f h1 h2 h3
      obtain ⟨⟨v, r1, r2⟩, r3⟩ := binD_run hT h1 (h.ev h2) (h.ev h3) hd
      exact ⟨v, by simp [r3, r1], r2⟩
    · cases hd
  · rename_i op t x ho
    simp only [ho]
    obtain ⟨d, q1, q2⟩ := bind_some hd
    obtain ⟨v, r1, r2⟩ := unD_run (P := P) (h.ev q1) q2
    exact ⟨v, by simp [r1], r2⟩
  · rename_i t t2 x ho
    simp only [ho]
    obtain ⟨d, q1, q2⟩ := bind_some hd
    obtain ⟨v, r1, r2⟩ := convD_run (P := P) hT (h.ev q1) q2
    exact ⟨v, by simp [r1], r2⟩
  · rename_i t x f ho
    simp only [ho]
    obtain ⟨d, q1, q2⟩ := bind_some hd
    obtain ⟨v, r1, r2⟩ := fieldD_run hT (h.ev q1) q2
    exact ⟨v, by simp [r1], r2⟩
  · rename_i t x f ho
    simp only [ho]
    obtain ⟨d, q1, q2⟩ := bind_some hd
    obtain ⟨v, r1, r2⟩ := faddrD_run hT (h.ev q1) q2
    exact ⟨v, by simp [r1], r2⟩
  · rename_i t x y ho
    simp only [ho]
    obtain ⟨d, q1, q2⟩ := bind_some hd
    obtain ⟨f, q3, q4⟩ := bind_some q2
    obtain ⟨v, r1, r2⟩ := iaddrD_run hT (h.ev q1) (h.ev q3) q4
    exact ⟨v, by simp [r1], r2⟩
  · rename_i x i ho
    simp only [ho]
    obtain ⟨d, q1, q2⟩ := bind_some hd
    unfold extractD at q2
    split at q2
    · rename_i l
      obtain ⟨cs, e, hr⟩ := rel_tu.1 (h.ev q1)
      have hlt : i < l.length := by
        rcases Nat.lt_or_ge i l.length with h' | h'
        · exact h'
        · rw [List.getElem?_eq_none h'] at q2; cases q2
      rw [List.getElem?_eq_getElem hlt] at q2
      cases q2
      have hlt2 : i < cs.length := by rw [(relL_iff.1 hr).1]; exact hlt
      refine ⟨cs[i], by simp [e, Instr.extract, hlt2], ?_⟩
      have := (relL_iff.1 hr).2 i hlt
      simpa [List.getD_eq_getElem?_getD, List.getElem?_eq_getElem hlt2] using this
    · cases q2
  · rename_i f first caps ho
    simp only [ho]
    unfold makeFnD at hd
    split at hd
    · rename_i f' hfirst
      cases hc : evs σ caps.toList with
      | none => rw [hc] at hd; cases hd
      | some ds =>
        rw [hc] at hd
        cases hd
        have hr := h.evs hc
        have hf0 : first = #[] := by apply Array.ext'; simpa using hfirst
        subst hf0
        refine ⟨.func (.func f') #[] (caps.map a.eval), by simp [Instr.makeFunc], rel_fn.2 ⟨_, ?_, hr⟩⟩
        congr 1
        apply Array.ext'
        simp
    · cases hd
  · rename_i t parts ho
    simp only [ho]
    obtain ⟨v, r1, r2⟩ := buildD_run hT h hd
    exact ⟨v, by simp [r1], r2⟩
  · rename_i t x lo hi mx ho
    simp only [ho]
    unfold slD at hd
    split at hd
    · rename_i d i j k h1 h2 h3 h4
      obtain ⟨v, r1, r2⟩ := sliceD_run (P := P) hT (h.ev h1) (h.evI h2) (h.evI h3) (h.evI h4) hd
      exact ⟨v, by simp [r1], r2⟩
    · cases hd
  · rename_i c ho
    simp only [ho]
    split at hd
    · rename_i x t h1 h2 h3
      obtain ⟨d, q1, q2⟩ := bind_some hd
      obtain ⟨v, r1, r2⟩ := lenD_run (P := P) (ty := o.type) hT (h.ev q1) q2
      have e2 : c.args = #[x] := by apply Array.ext'; simpa using h2
      have e3 : c.argTypes = #[t] := by apply Array.ext'; simpa using h3
      exact ⟨v, by simp [resolve, h1, e2, e3, invoke, builtin, r1], r2⟩
    · rename_i x y t t' h1 h2 h3
      obtain ⟨d, q1, hd⟩ := bind_some hd
      obtain ⟨e', q2, hd⟩ := bind_some hd
      have e2 : c.args = #[x, y] := by apply Array.ext'; simpa using h2
      have e3 : c.argTypes = #[t, t'] := by apply Array.ext'; simpa using h3
      unfold minD at hd
      split at hd
      · rename_i a' b' _
        cases hd
        have g1 := rel_v.1 (h.ev q1)
        have g2 := rel_v.1 (h.ev q2)
        have e4 : (if b' < a' then b' else a') = min a' b' := by omega
        exact ⟨_, by simp [resolve, h1, e2, e3, invoke, builtin, g1, g2, Builtin.min_, Builtin.min2, e4], .v _⟩
      · cases hd
    · rename_i x y t t' h1 h2 h3
      obtain ⟨d, q1, hd⟩ := bind_some hd
      obtain ⟨e', q2, hd⟩ := bind_some hd
      have e2 : c.args = #[x, y] := by apply Array.ext'; simpa using h2
      have e3 : c.argTypes = #[t, t'] := by apply Array.ext'; simpa using h3
      unfold maxD at hd
      split at hd
      · rename_i a' b' _
        cases hd
        have g1 := rel_v.1 (h.ev q1)
        have g2 := rel_v.1 (h.ev q2)
        have e4 : (if b' > a' then b' else a') = max a' b' := by omega
        exact ⟨_, by simp [resolve, h1, e2, e3, invoke, builtin, g1, g2, Builtin.max_, Builtin.max2, e4], .v _⟩
      · cases hd
    · cases hd
  · cases hd
end
end Go.Proofs.Ytcblpjheoclkeaa

namespace Go.Proofs.Ytcblpjheoclkeaa
open Go.RowKit

section
variable {P : Program} {T : List (Nat × TI)} {cx : Cx} {Fr Fr' : Nat → Prop} {m m' : Mp} {Im Im' : Nat → Nat → Prop} {w w' : World} {a : Act} {σ σ' : List (Key × D)}
theorem St.less (h : St cx Fr m Im w a σ) (hf : ∀ k, Fr' k → Fr k) : St cx Fr' m Im w a σ := { h with mem := { h.mem with fr := fun k hk => h.mem.fr k (hf k hk) } }

theorem rel_sl {x : Value} {n : Nat} {l : List (List D)} {g : Option Nat} (h : Rel m Im w x (.sl n l g)) : ∃ (a : Option Addr) (c bl off : Nat) (X : Nat → Nat → Value), x = .slice a l.length c ∧ (l.length ≤ maxLen ∧ l.length ≤ c) ∧ (0 < l.length → a = some ⟨bl, off, none⟩) ∧
    (∀ i j, i < l.length → j < n → w.cell? ⟨bl, off + i * n + j, none⟩ = some (X i j) ∧ Im bl (off + i * n + j)) ∧ (∀ i (h : i < l.length), l[i].length = n) ∧ (∀ i j, i < l.length → j < n → (X i j).oneCell' = true) ∧
    (∀ i (h : i < l.length) j (h' : j < l[i].length), Rel m Im w (X i j) l[i][j]) ∧ (∀ r, g = some r → ∃ R, m.row r = some R ∧ l.length ≤ R.len ∧ (l.length = R.len → R.hv = x)) := by
  cases h with
  | sl a c bl off n X l g h1 ha hc hn ho hr hg => exact ⟨a, c, bl, off, X, rfl, h1, ha, hc, hn, ho, hr, hg⟩

theorem St.rowOf (h : St cx Fr m Im w a σ) {g : Nat} (hg : Fr g) (cs : List Value) (L n E : Nat) (hl : cs.length = L * n) (hL : L ≤ maxLen) :
    ∃ Im', (∀ b o, Im b o → Im' b o) ∧ (∀ o, o < L * n → Im' w.heap.size o) ∧ St cx (minus Fr g) (m.setR g ⟨.slice (some ⟨w.heap.size, 0, none⟩) L L, L, E, n⟩) Im' (w.alloc (.cells cs.toArray E)) a (put1 (.r g) (.rw E n L) σ) ∧ m.le (m.setR g ⟨.slice (some ⟨w.heap.size, 0, none⟩) L L, L, E, n⟩) := by
  have hb : Below w.heap.size w (w.alloc (.cells cs.toArray E)) := (Below.refl _ _).alloc (Nat.le_refl _) _
  have hB := Blk.new w cs.toArray E rfl
  have hcell : ∀ o, o < L * n → ∃ v, (w.alloc (.cells cs.toArray E)).cell? ⟨w.heap.size, o, none⟩ = some v := fun o ho => ⟨cs[o]'(by omega), hB.cell (by simp [show o < cs.length by omega])⟩
  have h1 := h.below (Im' := fun b o => Im b o ∨ (b = w.heap.size ∧ o < L * n)) hb (fun _ _ h => .inl h) (fun b o hh => hh.imp id fun e => by rw [e.1]; exact Nat.le_refl _) (fun b o hh => by
    rcases hh with hh | ⟨rfl, ho⟩
    · obtain ⟨v, hv⟩ := h.mem.im b o hh
      exact ⟨v, (hb.cell (p := ⟨b, o, none⟩) (ltOfCell hv)).trans hv⟩
    · exact hcell o ho)
  have hle : m.le (m.setR g ⟨.slice (some ⟨w.heap.size, 0, none⟩) L L, L, E, n⟩) := Mp.setR_le fun R0 h0 => by rw [(h.mem.fr g hg).2.1] at h0; cases h0
  refine ⟨fun b o => Im b o ∨ (b = w.heap.size ∧ o < L * n), fun _ _ h => .inl h, fun o ho => .inr ⟨rfl, ho⟩, ?_, hle⟩
  have hcase : ∀ {x R}, (m.setR g ⟨.slice (some ⟨w.heap.size, 0, none⟩) L L, L, E, n⟩).row x = some R → (x = g ∧ R = ⟨.slice (some ⟨w.heap.size, 0, none⟩) L L, L, E, n⟩) ∨ (x ≠ g ∧ m.row x = some R) := fun {x R} hx => by
    by_cases e : x = g
    · left; simp [Mp.setR, e] at hx; exact ⟨e, hx.symm⟩
    · right; simp [Mp.setR, e] at hx; exact ⟨e, hx⟩
  have hold : ∀ x R b, m.row x = some R → R.hv.ownBlock = some b → b < w.heap.size := fun x R b hx ho => by
    obtain ⟨xs, hxs⟩ := h.mem.row x R hx
    exact (row_lt hxs ho).2
  refine ⟨{ h1.mem with row := ?_, rIm := ?_, rblk := ?_, rinj := ?_, fr := ?_, rown := (fun x R b hx ho => (hcase hx).elim (fun e => by obtain ⟨_, rfl⟩ := e; cases ho; exact .inl h.mem.off.size) fun e => h.mem.rown x R b e.2 ho), m0r := h.mem.m0r_le hle, orow := ?_ }, h1.df, h1.nt, fun x d hx => (h1.tm x d (by rw [get_put1, if_neg (by simp [Key.eq])] at hx; exact hx)).mono hle (KeepI.refl _ _) (fun _ _ h => h), fun x off d hx => ?_, fun x d hx => ?_, fun d hd => ?_, fun x d hd => ?_⟩
  · intro x R hx
    rcases hcase hx with ⟨_, rfl⟩ | ⟨_, hx⟩
    · exact ⟨cs.toArray.toList, World.ownsRow_lit w cs.toArray L (Nat.zero_le _) hL (by simpa using hl)⟩
    · exact h1.mem.row x R hx
  · intro x R b o hx
    rcases hcase hx with ⟨_, rfl⟩ | ⟨_, hx⟩
    · intro e hh
      cases e
      rcases hh with hh | hh
      · obtain ⟨v, hv⟩ := h.mem.im _ _ hh
        exact absurd (ltOfCell hv) (Nat.lt_irrefl _)
      · exact hh.2
    · exact h1.mem.rIm x R b o hx
  · intro x R b k hx
    rcases hcase hx with ⟨_, rfl⟩ | ⟨_, hx⟩
    · intro e hk; cases e; exact absurd (h.mem.lt k _ hk) (Nat.lt_irrefl _)
    · exact h1.mem.rblk x R b k hx
  · intro x y R R' b hx hy ho ho'
    rcases hcase hx with ⟨e1, e2⟩ | ⟨_, hx⟩ <;> rcases hcase hy with ⟨e3, e4⟩ | ⟨_, hy⟩
    · rw [e1, e3]
    · subst e2; cases ho; exact absurd (hold y R' _ hy ho') (Nat.lt_irrefl _)
    · subst e4; cases ho'; exact absurd (hold x R _ hx ho) (Nat.lt_irrefl _)
    · exact h1.mem.rinj x y R R' b hx hy ho ho'
  · intro x hx; refine ⟨(h.mem.fr x hx.1).1, ?_, (h.mem.fr x hx.1).2.2⟩; simp [Mp.setR, hx.2, (h.mem.fr x hx.1).2.1]
  · intro x y R b hx hy
    rcases hcase hy with ⟨_, rfl⟩ | ⟨_, hy⟩
    · intro e; cases e; exact absurd (h.mem.olt x _ hx) (Nat.lt_irrefl _)
    · exact h1.mem.orow x y R b hx hy
  · rw [get_put1, if_neg (by simp [Key.eq])] at hx
    obtain ⟨c, v, q1, q2, q3⟩ := h1.ce x off d hx
    exact ⟨c, v, q1, q2, q3.mono hle (KeepI.refl _ _) (fun _ _ h => h)⟩
  · rw [get_put1] at hx
    by_cases he : Key.eq (.r g) (.r x) = true
    · rw [if_pos he] at hx
      cases hx
      have := Key.eq_iff.1 he
      cases this
      exact ⟨⟨.slice (some ⟨w.heap.size, 0, none⟩) L L, L, E, n⟩, by simp [Mp.setR], .rw⟩
    · rw [if_neg he] at hx
      obtain ⟨R, q1, q2⟩ := h1.ro x d hx
      have hne : x ≠ g := fun e => he (by rw [e]; exact Key.eq_refl _)
      exact ⟨R, by simp [Mp.setR, hne, q1], q2.mono (fun _ _ => rfl) hle (KeepI.refl _ _) (fun _ _ h => h) fun _ _ _ h => h⟩
  · rw [get_put1, if_neg (by simp [Key.eq])] at hd
    obtain ⟨X, J, rfl, hX⟩ := h.jk d hd
    obtain ⟨X', J', e, hX1⟩ := h1.jk _ hd
    cases e
    refine ⟨X, J, rfl, { hX1 with row := fun c x R hc hx => ?_ }⟩
    rcases hcase hx with ⟨_, rfl⟩ | ⟨_, hx⟩
    · intro e; cases e; exact absurd (hX.lt _ hc) (Nat.lt_irrefl _)
    · exact hX1.row c x R hc hx
  · rw [get_put1, if_neg (by simp [Key.eq])] at hd
    obtain ⟨c, q1, q2⟩ := h1.ok x d hd
    exact ⟨c, q1, q2.mono rfl hle (KeepI.refl _ _) fun _ _ h => h⟩
theorem St.rowMade (h : St cx Fr m Im w a σ) {g : Nat} (hg : Fr g) (hv : Value) (E n : Nat) (hb : Below w.heap.size w w') (hown : w'.ownsRow 0 E n hv 0 []) (hob : hv.ownBlock = some w.heap.size) :
    St cx (minus Fr g) (m.setR g ⟨hv, 0, E, n⟩) Im w' a (put1 (.r g) (.rw E n 0) σ) ∧ m.le (m.setR g ⟨hv, 0, E, n⟩) := by
  have h1 := h.below0 hb
  have hle : m.le (m.setR g ⟨hv, 0, E, n⟩) := Mp.setR_le fun R0 h0 => by rw [(h.mem.fr g hg).2.1] at h0; cases h0
  refine ⟨?_, hle⟩
  have hcase : ∀ {x R}, (m.setR g ⟨hv, 0, E, n⟩).row x = some R → (x = g ∧ R = ⟨hv, 0, E, n⟩) ∨ (x ≠ g ∧ m.row x = some R) := fun {x R} hx => by
    by_cases e : x = g
    · left; simp [Mp.setR, e] at hx; exact ⟨e, hx.symm⟩
    · right; simp [Mp.setR, e] at hx; exact ⟨e, hx⟩
  have hold : ∀ x R b, m.row x = some R → R.hv.ownBlock = some b → b < w.heap.size := fun x R b hx ho => by
    obtain ⟨xs, hxs⟩ := h.mem.row x R hx
    exact (row_lt hxs ho).2
  refine ⟨{ h1.mem with row := ?_, rIm := ?_, rblk := ?_, rinj := ?_, fr := ?_, rown := (fun x R b hx ho => (hcase hx).elim (fun e => by obtain ⟨_, rfl⟩ := e; have ho : hv.ownBlock = some b := ho; rw [hob] at ho; cases ho; exact .inl h.mem.off.size) fun e => h.mem.rown x R b e.2 ho), m0r := h.mem.m0r_le hle, orow := ?_ }, h1.df, h1.nt, fun x d hx => (h1.tm x d (by rw [get_put1, if_neg (by simp [Key.eq])] at hx; exact hx)).mono hle (KeepI.refl _ _) (fun _ _ h => h), fun x off d hx => ?_, fun x d hx => ?_, fun d hd => ?_, fun x d hd => ?_⟩
  · intro x R hx
    rcases hcase hx with ⟨_, rfl⟩ | ⟨_, hx⟩
    · exact ⟨[], hown⟩
    · exact h1.mem.row x R hx
  · intro x R b o hx
    rcases hcase hx with ⟨_, rfl⟩ | ⟨_, hx⟩
    · intro e hh
      have e : hv.ownBlock = some b := e
      rw [hob] at e; cases e
      obtain ⟨v, hv⟩ := h.mem.im _ _ hh
      exact absurd (ltOfCell hv) (Nat.lt_irrefl _)
    · exact h1.mem.rIm x R b o hx
  · intro x R b k hx
    rcases hcase hx with ⟨_, rfl⟩ | ⟨_, hx⟩
    · intro e hk
      have e : hv.ownBlock = some b := e
      rw [hob] at e; cases e; exact absurd (h.mem.lt k _ hk) (Nat.lt_irrefl _)
    · exact h1.mem.rblk x R b k hx
  · intro x y R R' b hx hy ho ho'
    rcases hcase hx with ⟨e1, e2⟩ | ⟨_, hx⟩ <;> rcases hcase hy with ⟨e3, e4⟩ | ⟨_, hy⟩
    · rw [e1, e3]
    · subst e2
      have ho : hv.ownBlock = some b := ho
      rw [hob] at ho; cases ho; exact absurd (hold y R' _ hy ho') (Nat.lt_irrefl _)
    · subst e4
      have ho' : hv.ownBlock = some b := ho'
      rw [hob] at ho'; cases ho'; exact absurd (hold x R _ hx ho) (Nat.lt_irrefl _)
    · exact h1.mem.rinj x y R R' b hx hy ho ho'
  · intro x hx; refine ⟨(h.mem.fr x hx.1).1, ?_, (h.mem.fr x hx.1).2.2⟩; simp [Mp.setR, hx.2, (h.mem.fr x hx.1).2.1]
  · intro x y R b hx hy
    rcases hcase hy with ⟨_, rfl⟩ | ⟨_, hy⟩
    · intro e
      have e : hv.ownBlock = some b := e
      rw [hob] at e; cases e; exact absurd (h.mem.olt x _ hx) (Nat.lt_irrefl _)
    · exact h1.mem.orow x y R b hx hy
  · rw [get_put1, if_neg (by simp [Key.eq])] at hx
    obtain ⟨c, v, q1, q2, q3⟩ := h1.ce x off d hx
    exact ⟨c, v, q1, q2, q3.mono hle (KeepI.refl _ _) (fun _ _ h => h)⟩
  · rw [get_put1] at hx
    by_cases he : Key.eq (.r g) (.r x) = true
    · rw [if_pos he] at hx
      cases hx
      have := Key.eq_iff.1 he
      cases this
      exact ⟨⟨hv, 0, E, n⟩, by simp [Mp.setR], .rw⟩
    · rw [if_neg he] at hx
      obtain ⟨R, q1, q2⟩ := h1.ro x d hx
      have hne : x ≠ g := fun e => he (by rw [e]; exact Key.eq_refl _)
      exact ⟨R, by simp [Mp.setR, hne, q1], q2.mono (fun _ _ => rfl) hle (KeepI.refl _ _) (fun _ _ h => h) fun _ _ _ h => h⟩
  · rw [get_put1, if_neg (by simp [Key.eq])] at hd
    obtain ⟨X, J, rfl, hX⟩ := h.jk d hd
    obtain ⟨X', J', e, hX1⟩ := h1.jk _ hd
    cases e
    refine ⟨X, J, rfl, { hX1 with row := fun c x R hc hx => ?_ }⟩
    rcases hcase hx with ⟨_, rfl⟩ | ⟨_, hx⟩
    · intro e
      have e : hv.ownBlock = some c := e
      rw [hob] at e; cases e; exact absurd (hX.lt _ hc) (Nat.lt_irrefl _)
    · exact hX1.row c x R hc hx
  · rw [get_put1, if_neg (by simp [Key.eq])] at hd
    obtain ⟨c, q1, q2⟩ := h1.ok x d hd
    exact ⟨c, q1, q2.mono rfl hle (KeepI.refl _ _) fun _ _ h => h⟩
end
end Go.Proofs.Ytcblpjheoclkeaa

namespace Go.Proofs.Ytcblpjheoclkeaa
open Go.RowKit

def mfind : List (Int × D) → Int → Option D
  | [], _ => none
  | (k, d) :: r, n => if n = k then some d else mfind r n
def mput : List (Int × D) → Int → D → List (Int × D)
  | [], n, d => [(n, d)]
  | (k, e) :: r, n, d => if n = k then (k, d) :: r else (k, e) :: mput r n d
def zD (ti : TI) : D := if ti.ag then .ag (ti.z.map .v) else .v (ti.z.headD undef)

section
variable {P : Program} {T : List (Nat × TI)} {cx : Cx} {Fr Fr' : Nat → Prop} {m m' : Mp} {Im Im' : Nat → Nat → Prop} {w w' : World} {a : Act} {σ σ' : List (Key × D)}
def MRel (m : Mp) (Im : Nat → Nat → Prop) (w : World) : List MapEntry → List (Int × D) → Prop
  | [], [] => True
  | e :: es, p :: l => e.key = .int .i64 p.1 ∧ Rel m Im w e.val p.2 ∧ MRel m Im w es l
  | _, _ => False
theorem mrel_iff : ∀ {es : List MapEntry} {l : List (Int × D)}, MRel m Im w es l ↔ es.length = l.length ∧ (∀ i (h : i < l.length), (es[i]?).map (·.key) = some (.int .i64 l[i].1)) ∧ ∀ i (h : i < l.length) v, (es[i]?).map (·.val) = some v → Rel m Im w v l[i].2
  | [], [] => by simp [MRel]
  | [], _ :: _ => by simp [MRel]
  | _ :: _, [] => by simp [MRel]
  | e :: es, p :: l => by
    simp only [MRel, mrel_iff (es := es) (l := l), List.length_cons]
    constructor
    · rintro ⟨h1, h2, h3, h4, h5⟩
      refine ⟨by omega, fun i h => ?_, fun i h v hv => ?_⟩
      · cases i with
        | zero => simp [h1]
        | succ i => simpa using h4 i (by omega)
      · cases i with
        | zero => simp at hv; rw [← hv]; exact h2
        | succ i => exact h5 i (by omega) v (by simpa using hv)
    · rintro ⟨h1, h2, h3⟩
      refine ⟨by simpa using h2 0 (by omega), h3 0 (by omega) _ (by simp), by omega, fun i h => ?_, fun i h v hv => h3 (i + 1) (by omega) v (by simpa using hv)⟩
      have := h2 (i + 1) (by omega)
      rw [List.getElem?_cons_succ] at this
      exact this
theorem obOk_mp {b : Nat} {l : List (Int × D)} : ObOk m Im w b (.mp l) ↔ ∃ (es : Array MapEntry) (clock : Nat), w.heap[b]? = some (.map es clock) ∧ MRel m Im w es.toList l ∧ BornOk es clock := by
  constructor
  · intro h
    cases h with
    | mp es clock l h1 h2 h3 h4 h5 => exact ⟨es, clock, h1, mrel_iff.2 ⟨by simpa using h2, fun i h => by simpa using h3 i h, fun i h v hv => h4 i h v (by simpa using hv)⟩, h5⟩
  · rintro ⟨es, clock, h1, h2, h5⟩
    obtain ⟨q1, q2, q3⟩ := mrel_iff.1 h2
    exact .mp es clock l h1 (by simpa using q1) (fun i h => by simpa using q2 i h) (fun i h v hv => q3 i h v (by simpa using hv)) h5
theorem MRel.mono {es : List MapEntry} {l : List (Int × D)} (h : MRel m Im w es l) (hm : m.le m') (hk : KeepI Im w w') (hi : ∀ b o, Im b o → Im' b o) : MRel m' Im' w' es l := by
  rw [mrel_iff] at h ⊢
  exact ⟨h.1, h.2.1, fun i hl v hv => (h.2.2 i hl v hv).mono hm hk hi⟩
theorem find_map (n : Int) : ∀ {es : List MapEntry} {l : List (Int × D)} (i0 : Nat), MRel m Im w es l →
    (mfind l n = none ∧ Instr.findNow (.int .i64) (.int .i64 n) es i0 = some none ∧ ∀ d, mput l n d = l ++ [(n, d)]) ∨
    ∃ i v d, mfind l n = some d ∧ Instr.findNow (.int .i64) (.int .i64 n) es i0 = some (some (i0 + i, v)) ∧ Rel m Im w v d ∧ (es[i]?).map (·.key) = some (.int .i64 n) ∧
      ∀ v' d', Rel m Im w v' d' → MRel m Im w (es.modify i fun e => { e with val := v' }) (mput l n d')
  | [], [], i0, _ => .inl ⟨rfl, rfl, fun _ => rfl⟩
  | [], _ :: _, _, h => h.elim
  | _ :: _, [], _, h => h.elim
  | e :: es, (k, d) :: l, i0, h => by
    obtain ⟨h1, h2, h3⟩ := h
    by_cases hn : n = k
    · subst hn
      refine .inr ⟨0, e.val, d, by simp [mfind], by simp [Instr.findNow, h1, Instr.sameNow], h2, by simp [h1], fun v' d' hr => ?_⟩
      simp only [mput, if_true, List.modify_zero_cons]
      exact ⟨h1, hr, h3⟩
    · have hb : (n == k) = false := by simpa using hn
      rcases find_map n (i0 + 1) h3 with ⟨g1, g2, g3⟩ | ⟨i, v, d', g1, g2, g3, g4, g5⟩
      · refine .inl ⟨by simp [mfind, hn, g1], by simp [Instr.findNow, h1, Instr.sameNow, hb, g2], fun d => by simp [mput, hn, g3]⟩
      · refine .inr ⟨i + 1, v, d', by simp [mfind, hn, g1], by simp [Instr.findNow, h1, Instr.sameNow, hb, g2]; omega, g3, by simpa using g4, fun v' d2 hr => ?_⟩
        simp only [mput, if_neg hn, List.modify_succ_cons]
        exact ⟨h1, h2, g5 v' d2 hr⟩
theorem check_int {t : Nat} (h : P.underlying t = some (.int .i64)) (e : Bool) (n : Int) : (Instr.checkKey e 10000 t (.int .i64 n)).run P w = .ok () w := by
  rw [show (10000 : Nat) = 9999 + 1 from rfl, Instr.checkKey]
  simp [run_underlying h]
theorem zD_rel {t : Nat} {ti : TI} (hz : TypOk P t ti) : ∃ v, (zeroValue t).run P w = .ok v w ∧ Rel m Im w v (zD ti) := by
  obtain ⟨i, d, h1, h2, h3, h4, h5, h6, h7, h8⟩ := hz.parts
  refine ⟨zeroOf ti, by simp [zeroValue, typeInfo, h1, h5], ?_⟩
  unfold zeroOf zD
  cases ti.ag with
  | true =>
    refine rel_ag.2 ⟨ti.z, rfl, ?_⟩
    induction ti.z with
    | nil => trivial
    | cons x l ih => exact ⟨.v x, ih⟩
  | false => exact .v _
theorem look_run (h : St cx Fr m Im w a σ) {t e : Nat} {ti te : TI} (ht : TypOk P t ti) (he : ti.mv = some e) (hte : TypOk P e te) {k : Nat} {l : List (Int × D)} (hl : get σ (.o k) = some (.mp l)) {x : Value} (hx : Rel m Im w x (.mo k)) (n : Int) (ok : Bool) :
    ∃ v, (Instr.lookup t x (.int .i64 n) ok).run P w = .ok v w ∧ Rel m Im w v (if ok then .tu [(mfind l n).getD (zD te), .v (.bool (mfind l n).isSome)] else (mfind l n).getD (zD te)) := by
  obtain ⟨b, h1, h2⟩ := h.ok k _ hl
  obtain ⟨es, clock, h3, h4, hbn⟩ := obOk_mp.1 h2
  obtain ⟨kt, g1, g2⟩ := ht.map he
  have hxb : x = .map (some b) := by
    cases hx with
    | mo k b' hb => rw [h1] at hb; cases hb; rfl
  subst hxb
  obtain ⟨z, z1, z2⟩ := zD_rel (m := m) (Im := Im) (w := w) hte
  have hget : (getObj b).run P w = .ok (.map es clock) w := by simp [getObj, Sem.run, h3]
  have hc := check_int (P := P) (w := w) g2 es.isEmpty n
  rcases find_map n 0 h4 with ⟨f1, f2, _⟩ | ⟨i, v, d, f1, f2, f3, _, _⟩
  · have hf : (Instr.findKey kt (.int .i64 n) es.toList).run P w = .ok none w := by simp [Instr.findKey, run_underlying g2, f2]
    cases ok with
    | true => exact ⟨.tuple #[z, .bool false], by simp [Instr.lookup, run_underlying g1, hget, hc, hf, z1], by rw [f1]; exact rel_tu.2 ⟨[z, .bool false], rfl, z2, .v _, trivial⟩⟩
    | false => exact ⟨z, by simp [Instr.lookup, run_underlying g1, hget, hc, hf, z1], by rw [f1]; exact z2⟩
  · have hf : (Instr.findKey kt (.int .i64 n) es.toList).run P w = .ok (some (0 + i, v)) w := by simp [Instr.findKey, run_underlying g2, f2]
    cases ok with
    | true => exact ⟨.tuple #[v, .bool true], by simp [Instr.lookup, run_underlying g1, hget, hc, hf], by rw [f1]; exact rel_tu.2 ⟨[v, .bool true], rfl, f3, .v _, trivial⟩⟩
    | false => exact ⟨v, by simp [Instr.lookup, run_underlying g1, hget, hc, hf], by rw [f1]; exact f3⟩
theorem MRel.append : ∀ {es fs : List MapEntry} {l r : List (Int × D)}, MRel m Im w es l → MRel m Im w fs r → MRel m Im w (es ++ fs) (l ++ r)
  | [], _, [], _, _, h => h
  | [], _, _ :: _, _, h, _ => h.elim
  | _ :: _, _, [], _, h, _ => h.elim
  | _ :: _, _, _ :: _, _, h, h' => ⟨h.1, h.2.1, h.2.2.append h'⟩
theorem BornOk.push {es : Array MapEntry} {clock : Nat} (h : BornOk es clock) (k v : Value) : BornOk (es.push { key := k, val := v, born := clock }) (clock + 1) := by
  refine ⟨?_, fun e he => ?_⟩
  · rw [Array.toList_push, List.map_append, List.map_cons, List.map_nil]
    refine List.nodup_append.2 ⟨h.1, by simp, ?_⟩
    intro a ha b hb e
    obtain ⟨x, hx, rfl⟩ := List.mem_map.1 ha
    have := h.2 x hx
    rw [List.mem_singleton] at hb
    simp only at hb
    omega
  · rw [Array.toList_push] at he
    rcases List.mem_append.1 he with he | he
    · have := h.2 e he; omega
    · rw [List.mem_singleton] at he; subst he; simp
theorem map_modify_same {α β : Type} (g : α → β) (f : α → α) (hf : ∀ x, g (f x) = g x) : ∀ (l : List α) (i : Nat), (l.modify i f).map g = l.map g
  | [], i => by cases i <;> rfl
  | x :: l, 0 => by simp [hf]
  | x :: l, i + 1 => by simp [map_modify_same g f hf l i]
theorem BornOk.same {es es' : Array MapEntry} {clock : Nat} (h : BornOk es clock) (he : es'.toList.map (·.born) = es.toList.map (·.born)) : BornOk es' clock := by
  refine ⟨by rw [he]; exact h.1, fun e hm => ?_⟩
  have : e.born ∈ es'.toList.map (·.born) := List.mem_map.2 ⟨e, hm, rfl⟩
  rw [he] at this
  obtain ⟨x, hx, q⟩ := List.mem_map.1 this
  rw [← q]; exact h.2 x hx
theorem upd_run (h : St cx Fr m Im w a σ) {t e : Nat} {ti : TI} (ht : TypOk P t ti) (he : ti.mv = some e) {k : Nat} {l : List (Int × D)} (hl : get σ (.o k) = some (.mp l)) {x v : Value} {d : D} (hx : Rel m Im w x (.mo k)) (n : Int) (hv : Rel m Im w v d) :
    ∃ w', (Instr.mapUpdate t x (.int .i64 n) v).run P w = .ok () w' ∧ KeepI Im w w' ∧ St cx Fr m Im w' a (put1 (.o k) (.mp (mput l n d)) σ) := by
  obtain ⟨b, h1, h2⟩ := h.ok k _ hl
  obtain ⟨es, clock, h3, h4, hbn⟩ := obOk_mp.1 h2
  obtain ⟨kt, g1, g2⟩ := ht.map he
  have hxb : x = .map (some b) := by
    cases hx with
    | mo k b' hb => rw [h1] at hb; cases hb; rfl
  subst hxb
  have hget : (getObj b).run P w = .ok (.map es clock) w := by simp [getObj, Sem.run, h3]
  have hset : ∀ o, (setObj b o).run P w = .ok () { w with heap := w.heap.setIfInBounds b o } := fun o => by simp [setObj, Sem.run, h3]
  have hc := check_int (P := P) (w := w) g2 false n
  have hki : ∀ o, KeepI Im w { w with heap := w.heap.setIfInBounds b o } := fun o c y u hi hu => by
    refine (World.cell?_of_block (w := w) (w' := { w with heap := w.heap.setIfInBounds b o }) (a := ⟨c, y, none⟩) ?_).trans hu
    exact Array.getElem?_setIfInBounds_ne (by rintro rfl; exact h.mem.onim k _ y h1 hi)
  rcases find_map n 0 h4 with ⟨f1, f2, f3⟩ | ⟨i, u, d', f1, f2, f3, f4, f5⟩
  · have hf : (Instr.findKey kt (.int .i64 n) es.toList).run P w = .ok none w := by simp [Instr.findKey, run_underlying g2, f2]
    refine ⟨{ w with heap := w.heap.setIfInBounds b (.map (es.push { key := .int .i64 n, val := v, born := clock }) (clock + 1)) }, by simp [Instr.mapUpdate, run_underlying g1, hget, hc, hf, hset], hki _, ?_⟩
    refine h.setObj h1 fun w' hb hk => obOk_mp.2 ⟨_, _, hb, ?_, hbn.push _ _⟩
    rw [f3 d, Array.toList_push]
    exact (h4.mono (Mp.le.refl m) hk fun _ _ h => h).append ⟨rfl, hv.mono (Mp.le.refl m) hk fun _ _ h => h, trivial⟩
  · have hf : (Instr.findKey kt (.int .i64 n) es.toList).run P w = .ok (some (0 + i, u)) w := by simp [Instr.findKey, run_underlying g2, f2]
    have hkey : ((es[0 + i]?).map (·.key)).getD (.int .i64 n) = .int .i64 n := by
      have : (es[0 + i]?).map (·.key) = some (.int .i64 n) := by rw [Nat.zero_add]; simpa using f4
      rw [this]; rfl
    have hstay : (Instr.keyThatStays (.int .i64 n) (.int .i64 n)).run P w = .ok (.int .i64 n) w := by
      unfold Instr.keyThatStays
      rw [if_pos]
      · rfl
      · simp [Instr.sameBits]
    refine ⟨{ w with heap := w.heap.setIfInBounds b (.map (es.modify (0 + i) fun e => { e with key := .int .i64 n, val := v }) clock) }, by simp only [Instr.mapUpdate, Sem.run_bind, run_underlying g1, Result.andThen_ok, hget, hc, hf, hkey, hstay]; exact hset _, hki _, ?_⟩
    refine h.setObj h1 fun w' hb hk => obOk_mp.2 ⟨_, _, hb, ?_, hbn.same ?_⟩
    rotate_left
    · rw [show (es.modify (0 + i) fun e => { e with key := .int .i64 n, val := v }).toList = es.toList.modify (0 + i) fun e => { e with key := .int .i64 n, val := v } from Array.toList_modify ..]
      exact map_modify_same (fun e : MapEntry => e.born) (fun e => { e with key := .int .i64 n, val := v }) (fun _ => rfl) _ _
    have h6 := (f5 v d hv).mono (Mp.le.refl m) hk fun _ _ h => h
    have e1 : (es.modify (0 + i) fun e => { e with key := .int .i64 n, val := v }).toList = es.toList.modify i fun e => { e with val := v } := by
      rw [Nat.zero_add, Array.toList_modify]
      apply List.ext_getElem?
      intro j
      rw [List.getElem?_modify, List.getElem?_modify]
      by_cases hj : i = j
      · subst hj
        simp only [if_true]
        cases hg : es.toList[i]? with
        | none => rfl
        | some e =>
          rw [hg] at f4
          simp only [Option.map_some, Option.some.injEq] at f4
          simp [f4]
      · simp [hj]
    rw [e1]; exact h6
end
end Go.Proofs.Ytcblpjheoclkeaa

namespace Go.Proofs.Ytcblpjheoclkeaa
open Go.RowKit

def setAt : List D → Nat → List D → List D
  | r, _, [] => r
  | r, j, d :: ds => setAt (r.set j d) (j + 1) ds
def rowPut (r : List D) (j n : Nat) (c : List D) : List D := if j = 0 ∧ c.length = n then c else setAt r j c
def srcD (n : Nat) : D → Option (List (List D))
  | .sl n' l _ => if n' == n then some l else none
  | .v (.slice _ 0 _) => some []
  | _ => none
def appD (T : List (Nat × TI)) (σ : List (Key × D)) (nm : Nat) (t : Nat) (x y : D) : Option (D × List (Key × D) × List Key) := match tget T t with
  | none => none
  | some ti => match ti.el with
    | none => none
    | some E => match tget T E with
      | none => none
      | some te => match srcD te.sz y with
        | none => none
        | some l2 => if 0 < te.sz ∧ te.bys ≤ 1000 then (match x with
          | .v (.slice none 0 0) => if l2.length ≤ 1000000 then some (.sl te.sz l2 (some nm), [(.r nm, .rw E te.sz l2.length)], []) else none
          | .sl n l (some g) => match get σ (.r g) with
            | some (.rw E' n' len) => if E' = E ∧ n' = te.sz ∧ n = te.sz ∧ len = l.length ∧ l.length + l2.length ≤ 1000000 then some (.sl n (l ++ l2) (some g), [(.r g, .rw E n (l ++ l2).length)], [.r g]) else none
            | _ => none
          | .ps g len => match get σ (.r g) with
            | some (.rp E' n' l) => if E' = E ∧ n' = te.sz ∧ len = l.length ∧ l.length + l2.length ≤ 1000000 then some (.ps g (len + l2.length), [(.r g, .rp E' n' (l ++ l2))], [.r g]) else none
            | some (.rw E' n' 0) => if E' = E ∧ n' = te.sz ∧ len = 0 ∧ l2.length ≤ 1000000 then some (.ps g l2.length, [(.r g, .rp E' n' l2)], [.r g]) else none
            | _ => none
          | .cl n l => if n = te.sz ∧ 0 < l2.length ∧ l.length + l2.length ≤ 1000000 then some (.sl n (l ++ l2) (some nm), [(.r nm, .rw E n (l ++ l2).length)], []) else none
          | _ => none) else none
def inOrder : Nat → List Nat → Bool
  | _, [] => true
  | k, i :: l => i == k && inOrder (k + 1) l
def rowsD (te : TI) : List D → Option (List (List D))
  | [] => some []
  | d :: l => match dcells te d with
    | some c => (rowsD te l).map (c :: ·)
    | none => none
def bslD (T : List (Nat × TI)) (σ : List (Key × D)) (nm : Nat) (t len : Nat) (parts : List (Nat × Operand)) : Option (D × List (Key × D) × List Key) := match tget T t with
  | none => none
  | some ti => match ti.el with
    | none => none
    | some E => match tget T E with
      | none => none
      | some te => if parts.length == len && inOrder 0 (parts.map (·.1)) && decide (0 < te.sz) && decide (len * te.sz ≤ 16777216) then (match evs σ (parts.map (·.2)) with
        | none => none
        | some ds => (rowsD te ds).map fun rows => (.sl te.sz rows (some nm), [(.r nm, .rw E te.sz len)], [])) else none
def mkslD (T : List (Nat × TI)) (nm : Nat) (t : Nat) (l c : Option D) : Option (D × List (Key × D) × List Key) := match tget T t with
  | none => none
  | some ti => match ti.el with
    | none => none
    | some E => match tget T E with
      | none => none
      | some te => match l, c with
        | some (.v (.int .i64 0)), some (.v (.int .i64 n)) => if 0 < te.sz ∧ te.bys ≤ 1000 ∧ 0 ≤ n ∧ n ≤ 1000000 then some (.sl te.sz [] (some nm), [(.r nm, .rw E te.sz 0)], []) else none
        | _, _ => none
def lookD (te : TI) (l : List (Int × D)) (n : Int) : Bool → D
  | true => .tu [(mfind l n).getD (zD te), .v (.bool (mfind l n).isSome)]
  | false => (mfind l n).getD (zD te)
def lkD (T : List (Nat × TI)) (σ : List (Key × D)) (t : Nat) (x y : Option D) (ok : Bool) : Option (D × List (Key × D) × List Key) := match tget T t, x, y with
  | some ti, some (.mo k), some (.v (.int .i64 n)) => (match ti.mv with
    | none => none
    | some e => (match tget T e, get σ (.o k) with
      | some te, some (.mp l) => some (lookD te l n ok, [], [.o k])
      | _, _ => none))
  | _, _, _ => none
def updD (T : List (Nat × TI)) (σ : List (Key × D)) (t : Nat) (x y z : Option D) : Option (D × List (Key × D) × List Key) := match tget T t, x, y, z with
  | some ti, some (.mo k), some (.v (.int .i64 n)), some d => (match ti.mv with
    | none => none
    | some _ => (match get σ (.o k) with
      | some (.mp l) => some (.v undef, [(.o k, .mp (mput l n d))], [.o k])
      | _ => none))
  | _, _, _, _ => none
def clrD (T : List (Nat × TI)) (σ : List (Key × D)) (t : Nat) (d : D) : Option (D × List (Key × D) × List Key) := match tget T t, d with
  | some ti, .pt g len n lo => (match ti.el with
    | some E => (match tget T E, get σ (.r g) with
      | some te, some (.rp E' n' l) => if E' = E ∧ n' = n ∧ te.sz = n ∧ 0 < n ∧ l.length = len ∧ lo ≤ len then some (.tu [], [(.r g, .rp E' n' (l.take lo ++ List.replicate (len - lo) (te.z.map .v)))], [.r g]) else none
      | _, _ => none)
    | none => none)
  | _, _ => none
def mop (T : List (Nat × TI)) (σ : List (Key × D)) (nm : Nat) (o : Oper) : Option (D × List (Key × D) × List Key) := match o.op with
  | .alloc t => (tget T t).map fun ti => (.p nm 0, cellsOf nm 0 (ti.z.map .v), [])
  | .box t x => (tget T t).bind fun ti => (ev σ x).bind fun d => (dcells ti d).map fun l => (.p nm 0, cellsOf nm 0 l, [])
  | .store t x y => (tget T t).bind fun ti => match ev σ x with
    | some (.p k off) => (ev σ y).bind fun d => (dcells ti d).bind fun l => (cellsAt σ k off ti.sz).map fun _ => (.v undef, cellsOf k off l, (List.range ti.sz).map fun i => .c k (off + i))
    | some (.pr g len n i j) => match get σ (.r g) with
      | some (.rp E n' l) => if n' = n ∧ l.length = len ∧ i < len ∧ j + ti.sz ≤ n then (ev σ y).bind fun d => (dcells ti d).map fun c => (.v undef, [(.r g, .rp E n (l.set i (rowPut (l.getD i []) j n c)))], [.r g]) else none
      | _ => none
    | _ => none
  | .buildSlice t len parts => bslD T σ nm t len parts.toList
  | .makeSlice t l c => mkslD T nm t (ev σ l) (ev σ c)
  | .lookup t x y ok => lkD T σ t (ev σ x) (ev σ y) ok
  | .mapUpdate t x y z => updD T σ t (ev σ x) (ev σ y) (ev σ z)
  | .insert t x y z => updD T σ t (ev σ x) (ev σ y) (ev σ z)
  | .makeMap _ r => (match r with | none => some (.mo nm, [(.o nm, .mp [])], []) | some _ => none)
  | .call c => match c.callee, c.args.toList, c.argTypes.toList with
    | .builtin .append, [x, y], [t, t'] => if t = t' then (ev σ x).bind fun d => (ev σ y).bind fun e => appD T σ nm t d e else none
    | .builtin .clear, [x], [t] => (ev σ x).bind fun d => clrD T σ t d
    | _, _, _ => none
  | _ => none

section
variable {P : Program} {T : List (Nat × TI)} {cx : Cx} {Fr Fr' : Nat → Prop} {m m' : Mp} {Im Im' : Nat → Nat → Prop} {w w' : World} {a : Act} {σ σ' : List (Key × D)}

theorem St.putro (h : St cx Fr m Im w a σ) {g : Nat} {R : RowM} {d : D} (hg : m.row g = some R) (hd : RoOk m Im w R d) : St cx Fr m Im w a (put1 (.r g) d σ) where
  mem := h.mem
  df := h.df
  nt := h.nt
  tm x d' hx := by rw [get_put1, if_neg (by simp [Key.eq])] at hx; exact h.tm x d' hx
  ce k off d' hx := by rw [get_put1, if_neg (by simp [Key.eq])] at hx; exact h.ce k off d' hx
  ro x d' hx := by
    rw [get_put1] at hx
    by_cases he : Key.eq (.r g) (.r x) = true
    · rw [if_pos he] at hx
      cases hx
      have := Key.eq_iff.1 he
      cases this
      exact ⟨R, hg, hd⟩
    · rw [if_neg he] at hx; exact h.ro x d' hx
  jk d' hx := by rw [get_put1, if_neg (by simp [Key.eq])] at hx; exact h.jk d' hx
  ok k d' hx := by rw [get_put1, if_neg (by simp [Key.eq])] at hx; exact h.ok k d' hx
theorem St.putr (h : St cx Fr m Im w a σ) {g : Nat} {R : RowM} (hg : m.row g = some R) : St cx Fr m Im w a (put1 (.r g) (.rw R.E R.n R.len) σ) := h.putro hg .rw
theorem St.turnP (h : St cx Fr m Im w a σ) {g : Nat} {R R' : RowM} (hg : m.row g = some R) (hos : w'.os = w.os ∧ w'.tape = w.tape ∧ w'.output = w.output) (hsz : w.heap.size ≤ w'.heap.size)
    (hsame : ∀ c, c < w.heap.size → R.hv.ownBlock ≠ some c → w'.heap[c]? = w.heap[c]?) (hni : ∀ b o, R.hv.ownBlock = some b → ¬ Im b o) (hcase : ∀ b, R'.hv.ownBlock = some b → R.hv.ownBlock = some b ∨ w.heap.size ≤ b)
    (hlen : R.len ≤ R'.len ∧ (R'.len = R.len → R'.hv = R.hv)) (hown : ∃ xs, w'.ownsRow 0 R'.E R'.n R'.hv R'.len xs) {d : D} (hd : m.le (m.setR g R') → KeepI Im w w' → RoOk (m.setR g R') Im w' R' d) :
    St cx Fr (m.setR g R') Im w' a (put1 (.r g) d σ) ∧ m.le (m.setR g R') ∧ KeepI Im w w' := by
  have hki : KeepI Im w w' := fun c o x hi hx => (World.cell?_of_block (a := ⟨c, o, none⟩) (hsame c (ltOfCell hx) fun e => hni c o e hi)).trans hx
  have hle : m.le (m.setR g R') := Mp.setR_le fun R0 h0 => by rw [hg] at h0; cases h0; exact hlen
  have hd := hd hle hki
  refine ⟨?_, hle, hki⟩
  have hrc : ∀ {x R0}, (m.setR g R').row x = some R0 → (x = g ∧ R0 = R') ∨ (x ≠ g ∧ m.row x = some R0) := fun {x R0} hx => by
    by_cases e : x = g
    · left; simp [Mp.setR, e] at hx; exact ⟨e, hx.symm⟩
    · right; simp [Mp.setR, e] at hx; exact ⟨e, hx⟩
  have hmono : ∀ {x d}, Rel m Im w x d → Rel (m.setR g R') Im w' x d := fun hx => hx.mono hle hki fun _ _ h => h
  have hnb : ∀ b, R'.hv.ownBlock = some b → ∀ c, c < w.heap.size → R.hv.ownBlock ≠ some c → c ≠ b := fun b hb c hc hne e => by
    subst e
    rcases hcase c hb with h1 | h1
    · exact hne h1
    · omega
  have hnamed : ∀ x c, m.blk x = some c → c < w.heap.size ∧ R.hv.ownBlock ≠ some c := fun x c hx => ⟨h.mem.lt x c hx, fun e => h.mem.rblk g R c x hg e hx⟩
  have hother : ∀ x R0 c, x ≠ g → m.row x = some R0 → R0.hv.ownBlock = some c → c < w.heap.size ∧ R.hv.ownBlock ≠ some c := fun x R0 c hne hx hc => ⟨h.mem.rlt hx hc, fun e => hne (h.mem.rinj x g R0 R c hx hg hc e)⟩
  refine ⟨{ h.mem with off := ?off, im := ?im, lt := ?lt, free := ?free, row := ?row, rIm := ?rIm, rblk := ?rblk, rinj := ?rinj, fr := ?fr, olt := ?olt, orow := ?orow, k0 := h.mem.k0.trans (hki.weaken h.mem.im0), rown := ?rown, m0r := h.mem.m0r_le hle }, h.df, h.nt, fun x d hx => hmono (h.tm x d (by rw [get_put1, if_neg (by simp [Key.eq])] at hx; exact hx)), fun x off d hx => ?ce, fun x d hx => ?ro, fun d hd => ?jk, fun x d hd => ?okk⟩
  case off =>
    refine ⟨hos.1.trans h.mem.off.os, hos.2.1.trans h.mem.off.tape, hos.2.2.trans h.mem.off.output, Nat.le_trans h.mem.off.size hsz, fun c hc hC => ?_⟩
    refine (hsame c (Nat.lt_of_lt_of_le hc h.mem.off.size) fun e => ?_).trans (h.mem.off.block c hc hC)
    rcases h.mem.rown g R c hg e with h1 | h1
    · omega
    · exact hC (cx.hCR c h1)
  case im =>
    intro c o hi
    obtain ⟨x, hx⟩ := h.mem.im c o hi
    exact ⟨x, hki c o x hi hx⟩
  case lt => intro x c hx; exact Nat.lt_of_lt_of_le (h.mem.lt x c hx) hsz
  case free => intro x c o hx; exact (World.frozen?_of_block (a := ⟨c, o, none⟩) (hsame c (hnamed x c hx).1 (hnamed x c hx).2)).trans (h.mem.free x c o hx)
  case row =>
    intro x R0 hx
    rcases hrc hx with ⟨rfl, rfl⟩ | ⟨hne, hx⟩
    · exact hown
    · obtain ⟨zs, hz⟩ := h.mem.row x R0 hx
      exact ⟨zs, ownsRow_same hz fun c hc => hsame c (hother x R0 c hne hx hc).1 (hother x R0 c hne hx hc).2⟩
  case rIm =>
    intro x R0 c o hx hc hi
    rcases hrc hx with ⟨rfl, rfl⟩ | ⟨hne, hx⟩
    · exfalso
      rcases hcase c hc with h1 | h1
      · exact hni c o h1 hi
      · obtain ⟨u, hu⟩ := h.mem.im c o hi
        have := ltOfCell hu; omega
    · exact h.mem.rIm x R0 c o hx hc hi
  case rblk =>
    intro x R0 c y hx hc hy
    rcases hrc hx with ⟨rfl, rfl⟩ | ⟨hne, hx⟩
    · exact hnb c hc c (hnamed y c hy).1 (hnamed y c hy).2 rfl
    · exact h.mem.rblk x R0 c y hx hc hy
  case rinj =>
    intro x y R0 R1 c hx hy hc hc'
    rcases hrc hx with ⟨e1, e2⟩ | ⟨n1, hx⟩ <;> rcases hrc hy with ⟨e3, e4⟩ | ⟨n2, hy⟩
    · rw [e1, e3]
    · rw [e2] at hc; exact absurd rfl (hnb c hc c (hother y R1 c n2 hy hc').1 (hother y R1 c n2 hy hc').2)
    · rw [e4] at hc'; exact absurd rfl (hnb c hc' c (hother x R0 c n1 hx hc).1 (hother x R0 c n1 hx hc).2)
    · exact h.mem.rinj x y R0 R1 c hx hy hc hc'
  case fr =>
    intro x hx
    have := h.mem.fr x hx
    refine ⟨this.1, ?_, this.2.2⟩
    have hne : x ≠ g := by rintro rfl; rw [this.2.1] at hg; cases hg
    simp [Mp.setR, hne, this.2.1]
  case olt => intro x c hx; exact Nat.lt_of_lt_of_le (h.mem.olt x c hx) hsz
  case orow =>
    intro x y R0 c hx hy hc
    rcases hrc hy with ⟨rfl, rfl⟩ | ⟨hne, hy⟩
    · exact hnb c hc c (h.mem.olt x c hx) (fun e => h.mem.orow x y R c hx hg e) rfl
    · exact h.mem.orow x y R0 c hx hy hc
  case rown =>
    intro x R0 c hx hc
    rcases hrc hx with ⟨rfl, rfl⟩ | ⟨hne, hx⟩
    · rcases hcase c hc with h1 | h1
      · exact h.mem.rown x R c hg h1
      · exact .inl (Nat.le_trans h.mem.off.size h1)
    · exact h.mem.rown x R0 c hx hc
  case okk =>
    rw [get_put1, if_neg (by simp [Key.eq])] at hd
    obtain ⟨c, h1, h2⟩ := h.ok x d hd
    exact ⟨c, h1, h2.mono (hsame c (h.mem.olt x c h1) fun e => h.mem.orow x g R c h1 hg e) hle hki fun _ _ h => h⟩
  case ce =>
    rw [get_put1, if_neg (by simp [Key.eq])] at hx
    obtain ⟨c, v, h1, h2, h3⟩ := h.ce x off d hx
    exact ⟨c, v, h1, (World.cell?_of_block (a := ⟨c, off, none⟩) (hsame c (hnamed x c h1).1 (hnamed x c h1).2)).trans h2, hmono h3⟩
  case ro =>
    rw [get_put1] at hx
    by_cases he : Key.eq (.r g) (.r x) = true
    · rw [if_pos he] at hx
      cases hx
      have := Key.eq_iff.1 he
      cases this
      exact ⟨R', by simp [Mp.setR], hd⟩
    · rw [if_neg he] at hx
      obtain ⟨R0, h1, h2⟩ := h.ro x d hx
      have hne : x ≠ g := fun e => he (by rw [e]; exact Key.eq_refl _)
      exact ⟨R0, by simp [Mp.setR, hne, h1], h2.mono (fun c hc => hsame c (hother x R0 c hne h1 hc).1 (hother x R0 c hne h1 hc).2) hle hki (fun _ _ h => h) fun _ _ _ h => h⟩
  case jk =>
    rw [get_put1, if_neg (by simp [Key.eq])] at hd
    obtain ⟨X, J, e, hX⟩ := h.jk d hd
    have hxs : ∀ c, X c → w'.heap[c]? = w.heap[c]? := fun c hc => hsame c (hX.lt c hc) (hX.row c g R hc hg)
    refine ⟨X, J, e, hX.stable _ hsz hxs, fun w2 hs hx2 => hX.stable w2 (Nat.le_trans hsz hs) fun c hc => (hx2 c hc).trans (hxs c hc), fun c hc => Nat.lt_of_lt_of_le (hX.lt c hc) hsz, hX.own, hX.nim, hX.blk, ?_, hX.obj⟩
    intro c x R0 hc hx e2
    rcases hrc hx with ⟨rfl, rfl⟩ | ⟨hne, hx⟩
    · exact hnb c e2 c (hX.lt c hc) (hX.row c x R hc hg) rfl
    · exact hX.row c x R0 hc hx e2
theorem setAt_all : ∀ (ds pre r : List D), r.length = ds.length → setAt (pre ++ r) pre.length ds = pre ++ ds
  | [], pre, r, h => by
    have : r = [] := List.length_eq_zero_iff.1 h
    subst this; rfl
  | d :: ds, pre, [], h => by simp at h
  | d :: ds, pre, x :: r, h => by
    rw [setAt]
    have e : (pre ++ x :: r).set pre.length d = (pre ++ [d]) ++ r := by simp
    rw [e]
    have := setAt_all ds (pre ++ [d]) r (by simpa using h)
    simpa using this
theorem St.rowSet (h : St cx Fr m Im w a σ) {g b : Nat} {R : RowM} (hg : m.row g = some R) (hb : R.hv.ownBlock = some b) {l : List (List D)} (hro : RoOk m Im w R (.rp R.E R.n l)) {i j : Nat} (hi : i < l.length) (hj : j < R.n) {v : Value} {d : D} (hr : Rel m Im w v d) (h1 : v.oneCell' = true) :
    St cx Fr (m.setR g R) Im (w.setCell ⟨b, i * R.n + j, none⟩ v) a (put1 (.r g) (.rp R.E R.n (l.set i ((l[i]).set j d))) σ) ∧ m.le (m.setR g R) ∧ KeepI Im w (w.setCell ⟨b, i * R.n + j, none⟩ v) ∧ RoOk (m.setR g R) Im (w.setCell ⟨b, i * R.n + j, none⟩ v) R (.rp R.E R.n (l.set i ((l[i]).set j d))) := by
  cases hro with
  | rp _ xs hl hn hown hx1 hrr hni =>
  obtain ⟨cap, hv⟩ : ∃ cap, R.hv = .slice (some ⟨b, 0, none⟩) R.len cap := by
    rcases hown.2 with ⟨e, _⟩ | ⟨g', cap, cur, e, _⟩
    · rw [e] at hb; cases hb
    · rw [e] at hb; cases hb; exact ⟨cap, e⟩
  have hst : (w.setCell ⟨b, i * R.n + j, none⟩ v).ownsRow 0 R.E R.n R.hv R.len (xs.set (i * R.n + j) v) := by
    have h2 := hown
    rw [hv] at h2 ⊢
    exact (World.ownsRow.stored h2 _ v).1
  have hij : i * R.n + j < xs.length := by
    rw [hown.1]
    have : (i + 1) * R.n ≤ R.len * R.n := Nat.mul_le_mul_right _ (by omega)
    rw [Nat.succ_mul] at this; omega
  have key : ∀ hle : m.le (m.setR g R), ∀ hki : KeepI Im w (w.setCell ⟨b, i * R.n + j, none⟩ v), RoOk (m.setR g R) Im (w.setCell ⟨b, i * R.n + j, none⟩ v) R (.rp R.E R.n (l.set i ((l[i]).set j d))) := fun hle hki => by
    refine .rp _ (xs.set (i * R.n + j) v) (by simpa using hl) (fun i2 h2 => ?_) hst (fun u hu => ?_) (fun i2 h2 j2 hj2 => ?_) hni
    · rw [List.getElem_set]
      split
      · rw [List.length_set]; exact hn i hi
      · exact hn i2 (by simpa using h2)
    · rcases List.mem_or_eq_of_mem_set hu with hu | rfl
      · exact hx1 u hu
      · exact h1
    · have h2' : i2 < l.length := by simpa using h2
      have hn2 := hn i2 h2'
      have hni' := hn i hi
      by_cases e : i = i2
      · subst e
        have e1 : (l.set i ((l[i]).set j d))[i] = (l[i]).set j d := by simp
        have hj2' : j2 < l[i].length := by rw [e1, List.length_set] at hj2; exact hj2
        simp only [e1, List.getElem_set]
        split
        · rename_i e3; subst e3
          rw [List.getD_eq_getElem?_getD, List.getElem?_set_self hij]
          exact hr.mono hle hki fun _ _ h => h
        · rename_i e3
          rw [List.getD_eq_getElem?_getD, List.getElem?_set_ne (by omega), ← List.getD_eq_getElem?_getD]
          exact (hrr i hi j2 hj2').mono hle hki fun _ _ h => h
      · have e1 : (l.set i ((l[i]).set j d))[i2] = l[i2] := by rw [List.getElem_set]; exact if_neg e
        have hj2' : j2 < l[i2].length := by rw [e1] at hj2; exact hj2
        simp only [e1]
        have hne : i * R.n + j ≠ i2 * R.n + j2 := fun e3 => e (by
          have a1 : (i * R.n + j) / R.n = i := by rw [Nat.mul_comm, Nat.mul_add_div (by omega), Nat.div_eq_of_lt hj]; rfl
          have a2 : (i2 * R.n + j2) / R.n = i2 := by rw [Nat.mul_comm, Nat.mul_add_div (by omega), Nat.div_eq_of_lt (by omega)]; rfl
          rw [← a1, e3, a2])
        rw [List.getD_eq_getElem?_getD, List.getElem?_set_ne hne, ← List.getD_eq_getElem?_getD]
        exact (hrr i2 h2' j2 hj2').mono hle hki fun _ _ h => h
  obtain ⟨q1, q2, q3⟩ := h.turnP (R' := R) (w' := w.setCell ⟨b, i * R.n + j, none⟩ v) hg ⟨rfl, rfl, rfl⟩ (by simp) (fun c _ hne => Below.heap_setCell _ _ _ _ (fun e => hne (by rw [hb, e]))) hni (fun c hc => .inl hc) ⟨Nat.le_refl _, fun _ => rfl⟩ ⟨_, hst⟩ key
  exact ⟨q1, q2, q3, key q2 q3⟩
theorem St.rowSets : ∀ (ds : List D) (vs : List Value) (j : Nat) {m : Mp} {w : World} {σ : List (Key × D)} (h : St cx Fr m Im w a σ) {g b : Nat} {R : RowM} (hg : m.row g = some R) (hb : R.hv.ownBlock = some b) {l : List (List D)} (hro : RoOk m Im w R (.rp R.E R.n l)) {i : Nat} (hi : i < l.length) (hj : j + ds.length ≤ R.n)
    (hr : RelL m Im w vs ds) (h1 : ∀ v ∈ vs, v.oneCell' = true), ∃ m' w', w.setCells b (i * R.n + j) vs = w' ∧ St cx Fr m' Im w' a (put1 (.r g) (.rp R.E R.n (l.set i (setAt l[i] j ds))) σ) ∧ m.le m' ∧ KeepI Im w w'
  | [], [], j, m, w, σ, h, g, b, R, hg, hb, l, hro, i, hi, hj, hr, h1 => ⟨m, w, rfl, by
      have e : l.set i (setAt l[i] j []) = l := by simp [setAt]
      rw [e]; exact h.putro hg hro, Mp.le.refl m, KeepI.refl _ _⟩
  | [], _ :: _, _, _, _, _, _, _, _, _, _, _, _, _, _, _, _, hr, _ => hr.elim
  | _ :: _, [], _, _, _, _, _, _, _, _, _, _, _, _, _, _, _, hr, _ => hr.elim
  | d :: ds, v :: vs, j, m, w, σ, h, g, b, R, hg, hb, l, hro, i, hi, hj, hr, h1 => by
    simp only [List.length_cons] at hj
    obtain ⟨s1, s2, s3, s4⟩ := h.rowSet hg hb hro hi (show j < R.n by omega) hr.1 (h1 v (by simp))
    obtain ⟨m', w', e1, q1, q2, q3⟩ := St.rowSets ds vs (j + 1) s1 (g := g) (R := R) (by simp [Mp.setR]) hb s4 (i := i) (by simpa using hi) (by omega) (hr.2.mono s2 s3 fun _ _ h => h) (fun u hu => h1 u (by simp [hu]))
    have e2 : (l.set i ((l[i]).set j d))[i]'(by simpa using hi) = (l[i]).set j d := by simp
    rw [e2, List.set_set] at q1
    refine ⟨m', w', by rw [← e1]; rfl, ?_, s2.trans q2, s3.trans q3⟩
    refine q1.sub fun k x hk => ?_
    simp only [get_put1] at hk ⊢
    split
    · rename_i hc; rw [if_pos hc] at hk; exact hk
    · rename_i hc; rw [if_neg hc] at hk; exact hk
theorem app_own (hT : TabOk P T) (h : St cx Fr m Im w a σ) {t E : Nat} {ti te : TI} (hti : tget T t = some ti) (hE : ti.el = some E) (hte : tget T E = some te) (hsz : 0 < te.sz) (hby : te.bys ≤ 1000)
    {g : Nat} {R : RowM} (hg : m.row g = some R) (hRE : R.E = E) (hRn : R.n = te.sz) {l l2 : List (List D)} (hl : R.len = l.length) (hx : Rel m Im w R.hv (.sl te.sz l (some g))) {y : Value} {e : D} (hy : Rel m Im w y e) (hs : srcD te.sz e = some l2) (hle : l.length + l2.length ≤ 1000000) (ty : TypeId) :
    ∃ v w' m' Im', (Builtin.append_ #[t, t] ty #[R.hv, y]).run P w = .ok v w' ∧ m.le m' ∧ KeepI Im w w' ∧ (∀ b o, Im b o → Im' b o) ∧ Rel m' Im' w' v (.sl te.sz (l ++ l2) (some g)) ∧ St cx Fr m' Im' w' a (put1 (.r g) (.rw E te.sz (l ++ l2).length) σ) := by
  obtain ⟨ei, ed, e1, e2, e3, e4, e5, e6, e7, e8⟩ := (hT _ _ hte).parts
  have hsl := (hT _ _ hti).slice hE
  obtain ⟨xs, hown⟩ := h.mem.row g R hg
  obtain ⟨R2, hlen2, E2, n2⟩ := R
  dsimp only at *
  subst hRE hRn hl
  have hzs := (hT _ _ hte).zsize
  cases hl2 : l2 with
  | nil =>
    subst hl2
    have hrun : (Builtin.append_ #[t, t] ty #[R2, y]).run P w = .ok R2 w := by
      have hsrc : Src P ei.size t y 0 [] w := by
        unfold srcD at hs
        split at hs
        · split at hs
          · cases hs
            obtain ⟨a', c, bl, off, X, rfl, _⟩ := rel_sl hy
            cases a' with
            | none => exact Src.ofNil w hsl c
            | some ad => exact Src.ofSlice w hsl ad 0 c [] (by simp) (by simp) (by simp)
          · cases hs
        · cases hs
          rename_i ad c
          have := rel_v.1 hy; subst this
          cases ad with
          | none => exact Src.ofNil w hsl _
          | some ad => exact Src.ofSlice w hsl ad 0 c [] (by simp) (by simp) (by simp)
        · cases hs
      rcases hown.2 with ⟨rfl, h0⟩ | ⟨g', cap, cur, rfl, _, _, hnc, _⟩
      · exact run_append_nothing w t t ty _ ei hsl e1 none 0 0 (Nat.le_refl _) y hsrc
      · exact run_append_nothing w t t ty _ ei hsl e1 (some ⟨g', 0, none⟩) _ cap hnc y hsrc
    refine ⟨R2, w, m, Im, hrun, Mp.le.refl m, KeepI.refl _ _, fun _ _ h => h, by simpa using hx, ?_⟩
    have := h.putr hg
    simpa using this
  | cons r0 rs =>
    have hk : 0 < l2.length := by rw [hl2]; simp
    rw [← hl2]
    clear hl2
    have hy' : ∃ g2, Rel m Im w y (.sl te.sz l2 g2) := by
      unfold srcD at hs
      split at hs
      · split at hs
        · rename_i n' l' g' hn
          have hn : n' = te.sz := by simpa using hn
          cases hs
          exact ⟨g', hn ▸ hy⟩
        · cases hs
      · cases hs; simp at hk
      · cases hs
    obtain ⟨g2, hy2⟩ := hy'
    obtain ⟨a', c, bl, off, Y, rfl, y1, y2, y3, y4, y5, y6, y7⟩ := rel_sl hy2
    obtain rfl := y2 hk
    have hdm : ∀ o, o < l2.length * te.sz → o / te.sz < l2.length ∧ o % te.sz < te.sz ∧ o / te.sz * te.sz + o % te.sz = o := fun o ho =>
      ⟨Nat.div_lt_of_lt_mul (by rw [Nat.mul_comm]; exact ho), Nat.mod_lt _ hsz, Nat.div_add_mod' o te.sz⟩
    let news : List Value := (List.range (l2.length * te.sz)).map fun o => Y (o / te.sz) (o % te.sz)
    have hnl : news.length = l2.length * te.sz := by simp [news]
    have hng : ∀ j u, news[j]? = some u → j < l2.length * te.sz ∧ u = Y (j / te.sz) (j % te.sz) := fun j u hu => by
      simp only [news, List.getElem?_map] at hu
      by_cases hj : j < l2.length * te.sz
      · rw [List.getElem?_range hj] at hu; cases hu; exact ⟨hj, rfl⟩
      · rw [List.getElem?_eq_none (by simpa using hj)] at hu; cases hu
    obtain ⟨v', w', hrun, hown', hgr⟩ := run_append_deep (w := w) (P := P) 0 t ty E2 ei (zeroOf te) te.sz te.bys hsl e1 e5 e3 e4 hzs hsz R2 l.length xs hown ⟨bl, off, none⟩ l2.length c news hnl
      (fun j u hu => by
        obtain ⟨hj, rfl⟩ := hng j u hu
        obtain ⟨q1, q2, q3⟩ := hdm j hj
        have := (y3 _ _ q1 q2).1
        rw [addr_addN, ← this]
        congr 2
        omega)
      (fun u hu => by
        obtain ⟨j, hj, rfl⟩ := List.getElem_of_mem hu
        obtain ⟨hj2, e⟩ := hng j _ (List.getElem?_eq_getElem hj)
        obtain ⟨q1, q2, q3⟩ := hdm j hj2
        rw [e]; exact y5 _ _ q1 q2)
      (by unfold maxLen; omega)
      (by have : (l.length + l2.length) * te.bys ≤ 1000000 * 1000 := Nat.mul_le_mul hle hby
          omega)
      (Nat.zero_le _)
    obtain ⟨Im', b, hb, i1, i2, i3, i4, i5⟩ := h.grow (g := g) (R := ⟨R2, l.length, E2, te.sz⟩) hg (v' := v') (k := l2.length) (xs := xs) (ys := news) hsz hk hown hown' hgr
    refine ⟨v', w', _, Im', hrun, i4, i3, i1, ?_, by simpa using i5⟩
    obtain ⟨gb, cap, hv', _, hbl⟩ := hown'.form (by omega)
    subst hv'
    have hgb : gb = b := by simpa [Value.ownBlock] using hb
    subst hgb
    have hcap : l.length + l2.length ≤ cap := by
      rcases hown'.2 with ⟨h0, _⟩ | ⟨g', cap', cur, h0, _, _, hnc, _⟩
      · cases h0
      · injection h0 with _ _ q; rw [q]; exact hnc
    have hcells : ∀ o u, (xs ++ news)[o]? = some u → w'.cell? ⟨gb, o, none⟩ = some u := fun o u hu => by
      have := hown'.cells (g := gb) rfl o u hu
      rw [addr_add0] at this; exact this
    have hall : (xs ++ news).length = (l.length + l2.length) * te.sz := hown'.1
    have hlt : ∀ i j, i < l.length + l2.length → j < te.sz → i * te.sz + j < (l.length + l2.length) * te.sz := fun i j hi hj => by
      have : (i + 1) * te.sz ≤ (l.length + l2.length) * te.sz := Nat.mul_le_mul_right _ hi
      rw [Nat.succ_mul] at this; omega
    have hxl : xs.length = l.length * te.sz := hown.1
    obtain ⟨a0, c0, b0, o0, X0, x0, x1, x2, x3, x4, x5, x6, x7⟩ := rel_sl hx
    have hX : ∀ i j, i < l.length → j < te.sz → (xs ++ news)[i * te.sz + j]? = some (X0 i j) := fun i j hi hj => by
      have hij : i * te.sz + j < xs.length := by
        rw [hxl]
        have : (i + 1) * te.sz ≤ l.length * te.sz := Nat.mul_le_mul_right _ hi
        rw [Nat.succ_mul] at this; omega
      rw [List.getElem?_append_left hij, List.getElem?_eq_getElem hij]
      have hc := (x3 i j hi hj).1
      have hR : R2.ownBlock = some b0 := by rw [x0, x2 (by omega)]; rfl
      have hc2 := hown.cells (g := b0) hR _ _ (List.getElem?_eq_getElem hij)
      rw [addr_add0] at hc2
      have ho0 : o0 = 0 := by
        rcases hown.2 with ⟨h0, _⟩ | ⟨g', cap', cur, h0, _⟩
        · rw [h0] at x0; rw [x2 (by omega)] at x0; cases x0
        · rw [h0] at x0; rw [x2 (by omega)] at x0; injection x0 with q1 _ _; injection q1 with q1; injection q1 with _ q2 _; exact q2.symm
      rw [ho0, Nat.zero_add, hc2] at hc
      exact hc
    have hY : ∀ i j, i < l2.length → j < te.sz → (xs ++ news)[(l.length + i) * te.sz + j]? = some (Y i j) := fun i j hi hj => by
      rw [List.getElem?_append_right (by rw [hxl, Nat.add_mul]; omega), hxl, show (l.length + i) * te.sz + j - l.length * te.sz = i * te.sz + j by rw [Nat.add_mul]; omega]
      have hij : i * te.sz + j < l2.length * te.sz := by
        have : (i + 1) * te.sz ≤ l2.length * te.sz := Nat.mul_le_mul_right _ hi
        rw [Nat.succ_mul] at this; omega
      simp only [news, List.getElem?_map, List.getElem?_range hij, Option.map_some]
      rw [show i * te.sz + j = j + te.sz * i by rw [Nat.mul_comm]; omega, Nat.add_mul_div_left _ _ hsz, Nat.div_eq_of_lt hj, Nat.zero_add, Nat.add_mul_mod_self_left, Nat.mod_eq_of_lt hj]
    have hmono : ∀ {x d}, Rel m Im w x d → Rel (m.setR g ⟨.slice (some ⟨gb, 0, none⟩) (l.length + l2.length) cap, l.length + l2.length, E2, te.sz⟩) Im' w' x d := fun hx => hx.mono i4 i3 i1
    have key : Rel (m.setR g ⟨.slice (some ⟨gb, 0, none⟩) (l.length + l2.length) cap, l.length + l2.length, E2, te.sz⟩) Im' w' (.slice (some ⟨gb, 0, none⟩) (l ++ l2).length cap) (.sl te.sz (l ++ l2) (some g)) := by
      refine .sl _ cap gb 0 te.sz (fun i j => (xs ++ news).getD (i * te.sz + j) undef) (l ++ l2) (some g) (by rw [List.length_append]; unfold maxLen; omega) (fun _ => rfl) (fun i j hi hj => ?_) (fun i hi => ?_) (fun i j hi hj => ?_) (fun i hi j hj => ?_) (fun r e => ?_)
      · rw [List.length_append] at hi
        have hij := hlt i j hi hj
        rw [Nat.zero_add]
        refine ⟨?_, i2 _ hij⟩
        have hij2 : i * te.sz + j < (xs ++ news).length := by omega
        rw [List.getD_eq_getElem?_getD, List.getElem?_eq_getElem hij2]
        exact hcells _ _ (List.getElem?_eq_getElem hij2)
      · by_cases hi2 : i < l.length
        · rw [List.getElem_append_left hi2]; exact x4 i hi2
        · rw [List.getElem_append_right (by omega)]; exact y4 _ _
      · rw [List.length_append] at hi
        rw [List.getD_eq_getElem?_getD]
        by_cases hi2 : i < l.length
        · rw [hX i j hi2 hj]; exact x5 i j hi2 hj
        · have := hY (i - l.length) j (by omega) hj
          rw [show l.length + (i - l.length) = i by omega] at this
          rw [this]; exact y5 _ _ (by omega) hj
      · rw [List.length_append] at hi
        rw [List.getD_eq_getElem?_getD]
        by_cases hi2 : i < l.length
        · have hj2 : j < l[i].length := by rw [List.getElem_append_left hi2] at hj; exact hj
          rw [hX i j hi2 (by rw [x4 i hi2] at hj2; exact hj2)]
          simp only [Option.getD_some]
          have := x6 i hi2 j hj2
          simpa [List.getElem_append_left hi2] using hmono this
        · have hj2 : j < l2[i - l.length].length := by rw [List.getElem_append_right (by omega)] at hj; exact hj
          have := hY (i - l.length) j (by omega) (by rw [y4 _ (by omega)] at hj2; exact hj2)
          rw [show l.length + (i - l.length) = i by omega] at this
          rw [this]
          simp only [Option.getD_some]
          have := y6 (i - l.length) (by omega) j hj2
          simpa [List.getElem_append_right (show l.length ≤ i by omega)] using hmono this
      · cases e
        exact ⟨⟨.slice (some ⟨gb, 0, none⟩) (l.length + l2.length) cap, l.length + l2.length, E2, te.sz⟩, by simp [Mp.setR], by simp, fun _ => by simp⟩
    simpa using key
theorem rowPut_eq {r c : List D} {j n : Nat} (h : r.length = n) : rowPut r j n c = setAt r j c := by
  unfold rowPut
  split
  · rename_i hc
    obtain ⟨rfl, h2⟩ := hc
    have := setAt_all c [] r (by omega)
    simpa using this.symm
  · rfl
theorem RoOk.rpi {R : RowM} {E n : Nat} {l : List (List D)} (h : RoOk m Im w R (.rp E n l)) : E = R.E ∧ n = R.n ∧ l.length = R.len := by
  cases h with
  | rp _ _ hl => exact ⟨rfl, rfl, hl⟩
theorem relL_v2 : ∀ l : List Value, RelL m Im w l (l.map .v)
  | [] => trivial
  | x :: l => ⟨.v x, relL_v2 l⟩
theorem setCells_app (b : Nat) : ∀ (xs ys : List Value) (o : Nat) (w : World), w.setCells b o (xs ++ ys) = (w.setCells b o xs).setCells b (o + xs.length) ys
  | [], ys, o, w => rfl
  | x :: xs, ys, o, w => by
    show (w.setCell ⟨b, o, none⟩ x).setCells b (o + 1) (xs ++ ys) = _
    rw [setCells_app b xs ys (o + 1)]
    show _ = ((w.setCell ⟨b, o, none⟩ x).setCells b (o + 1) xs).setCells b (o + (xs.length + 1)) ys
    rw [show o + 1 + xs.length = o + (xs.length + 1) by omega]
theorem St.rowFill (z : List Value) (hz1 : ∀ v ∈ z, v.oneCell' = true) : ∀ (k lo : Nat) {m : Mp} {w : World} {σ : List (Key × D)} (h : St cx Fr m Im w a σ) {g b : Nat} {R : RowM} (hg : m.row g = some R) (hb : R.hv.ownBlock = some b) {l : List (List D)} (hro : RoOk m Im w R (.rp R.E R.n l)) (hz : z.length = R.n) (hl : lo + k = l.length),
    ∃ m', St cx Fr m' Im (w.setCells b (lo * R.n) (List.replicate k z).flatten) a (put1 (.r g) (.rp R.E R.n (l.take lo ++ List.replicate k (z.map .v))) σ) ∧ m.le m' ∧ KeepI Im w (w.setCells b (lo * R.n) (List.replicate k z).flatten)
  | 0, lo, m, w, σ, h, g, b, R, hg, hb, l, hro, hz, hl => by
    refine ⟨m, ?_, Mp.le.refl m, KeepI.refl _ _⟩
    rw [List.take_of_length_le (by omega)]
    simp only [List.replicate_zero, List.append_nil]
    exact h.putro hg hro
  | k + 1, lo, m, w, σ, h, g, b, R, hg, hb, l, hro, hz, hl => by
    have hlt : lo < l.length := by omega
    obtain ⟨m1, w1, e1, s1, s2, s3⟩ := St.rowSets (z.map .v) z 0 h hg hb hro hlt (by rw [List.length_map, hz]; omega) (relL_v2 z) hz1
    have hrow : l[lo].length = R.n := by
      cases hro with
      | rp _ _ _ hn _ _ _ _ => exact hn lo hlt
    have e2 : setAt l[lo] 0 (z.map .v) = z.map .v := by
      have := setAt_all (z.map .v) [] l[lo] (by rw [List.length_map, hz, hrow])
      simpa using this
    rw [e2] at s1
    obtain ⟨R1, hR1, hro1⟩ := s1.ro g _ (by rw [get_put1, if_pos (Key.eq_refl _)])
    have hR1e : R1.E = R.E ∧ R1.n = R.n ∧ R1.hv = R.hv := by
      obtain ⟨R', q1, q2, q3⟩ := s2.row g R hg
      rw [hR1] at q1; cases q1
      have i1 := hro1.rpi
      have i2 := hro.rpi
      exact ⟨i1.1.symm, i1.2.1.symm, q3 (by rw [← i1.2.2, List.length_set, i2.2.2])⟩
    obtain ⟨q1, q2, q3⟩ := hR1e
    obtain ⟨m2, t1, t2, t3⟩ := St.rowFill z hz1 k (lo + 1) s1 hR1 (by rw [q3]; exact hb) (l := l.set lo (z.map .v)) (by rw [q1, q2]; exact hro1) (by rw [q2]; exact hz) (by rw [List.length_set]; omega)
    have e3 : w.setCells b (lo * R.n) (List.replicate (k + 1) z).flatten = w1.setCells b ((lo + 1) * R.n) (List.replicate k z).flatten := by
      rw [List.replicate_succ, List.flatten_cons, setCells_app, ← e1, hz, Nat.succ_mul, Nat.add_zero]
    rw [e3]
    rw [q2] at t3
    refine ⟨m2, ?_, s2.trans t2, s3.trans t3⟩
    have e4 : (l.set lo (z.map .v)).take (lo + 1) ++ List.replicate k (z.map .v) = l.take lo ++ List.replicate (k + 1) (z.map D.v) := by
      rw [List.take_add_one, List.getElem?_set_self hlt, List.take_set_of_le (Nat.le_refl _), List.replicate_succ]
      simp
    rw [q1, q2, e4] at t1
    refine t1.sub fun key x hk => ?_
    simp only [get_put1] at hk ⊢
    split
    · rename_i hc; rw [if_pos hc] at hk; exact hk
    · rename_i hc; rw [if_neg hc] at hk; exact hk
theorem zeroCells_flat (z : List Value) (hz : 0 < z.length) : ∀ k, (Builtin.zeroCells z.toArray k).toList = (List.replicate k z).flatten
  | 0 => by simp [Builtin.zeroCells]
  | k + 1 => by
    rw [List.replicate_succ, List.flatten_cons, ← zeroCells_flat z hz k]
    simp only [Builtin.zeroCells, Array.toList_map, Array.toList_range, List.size_toArray]
    rw [Nat.succ_mul, Nat.add_comm (k * z.length), List.range_add, List.map_append, List.map_map]
    congr 1
    · refine List.ext_getElem (by simp) fun i h1 h2 => ?_
      simp at h1
      simp [Nat.mod_eq_of_lt h1, h1]
    · refine List.map_congr_left fun i _ => ?_
      simp
theorem clr_run (hT : TabOk P T) (h : St cx Fr m Im w a σ) {t ty : Nat} {x : Value} {d V : D} {W : List (Key × D)} {Rd : List Key} (hx : Rel m Im w x d) (hd : clrD T σ t d = some (V, W, Rd)) :
    ∃ v w' m', (Builtin.clear_ #[t] ty #[x]).run P w = .ok v w' ∧ m.le m' ∧ KeepI Im w w' ∧ Rel m' Im w' v V ∧ St cx Fr m' Im w' a (puts σ W) := by
  unfold clrD at hd
  split at hd
  · rename_i ti g len n lo hti
    split at hd
    · rename_i E hel
      split at hd
      · rename_i te E' n' l hte hg
        split at hd
        · rename_i hc
          obtain ⟨rfl, rfl, hsz, hn0, hl, hlo⟩ := hc
          cases hd
          obtain ⟨R, hR, hro⟩ := h.ro g _ hg
          have hE : E' = R.E ∧ n' = R.n ∧ l.length = R.len := by
            cases hro with
            | rp _ _ hl => exact ⟨rfl, rfl, hl⟩
          obtain ⟨rfl, rfl, o3⟩ := hE
          obtain ⟨ei, ed, e1, e2, e3, e4, e5, e6, e7, e8⟩ := (hT _ _ hte).parts
          have hs := (hT _ _ hti).slice hel
          have hzv : ∀ w : World, (zeroValue R.E).run P w = .ok (zeroOf te) w := fun w => by simp [zeroValue, typeInfo, e1, e5]
          have hone := (hT _ _ hte).one
          simp only [Bool.and_eq_true, Bool.or_eq_true, beq_iff_eq] at hone
          have hcz : (zeroOf te).cells = te.z.toArray := by
            unfold zeroOf
            cases hag : te.ag with
            | true => simp [Value.cells]
            | false =>
              have hs1 : te.sz = 1 := by rcases hone.1 with h | h; rw [hag] at h; cases h; exact h
              rw [hs1] at e7
              match hz : te.z, e7 with
              | [x], _ =>
                have := hone.2
                rw [hz] at this
                simp only [List.all_cons, List.all_nil, Bool.and_true] at this
                cases x <;> first | rfl | (simp [Value.oneCell'] at this)
          cases hx with
          | pt a0 c0 _ _ _ _ hh =>
          obtain ⟨R', p1, p2, p3⟩ := hh
          rw [hR] at p1; cases p1
          by_cases hlt : lo < len
          · obtain ⟨b, hb, rfl⟩ := p3 (by omega) hlt
            obtain ⟨m', s1, s2, s3⟩ := St.rowFill te.z (fun v hv => List.all_eq_true.1 hone.2 v hv) (len - lo) lo h hR hb hro (by rw [e7, hsz]) (by omega)
            have hown : ∃ xs, w.ownsRow 0 R.E R.n R.hv R.len xs := h.mem.row g R hR
            obtain ⟨xs, hown⟩ := hown
            have hfl : (List.replicate (len - lo) te.z).flatten.length = (len - lo) * R.n := by simp [e7, hsz]
            have hrun := run_storeCells_cells (P := P) b (lo * R.n) (List.replicate (len - lo) te.z).flatten 0 w (fun k hk => by
                rw [hfl] at hk
                have hk2 : lo * R.n + k < xs.length := by
                  rw [hown.1, ← o3, hl]
                  have : lo * R.n + (len - lo) * R.n = len * R.n := by rw [← Nat.add_mul]; congr 1; omega
                  omega
                have := hown.cells hb _ _ (List.getElem?_eq_getElem hk2)
                rw [addr_add0] at this
                simp [this]) (fun k _ => by
                rcases hown.2 with ⟨q1, _⟩ | ⟨g', cap, cur, q1, _, q2, _⟩
                · rw [q1] at hb; cases hb
                · rw [q1] at hb
                  have : g' = b := by simpa [Value.ownBlock] using hb
                  subst this
                  exact frozen_of_row w g' _ cur _ q2) (fun v hv => by
                obtain ⟨y, hy, hv⟩ := List.mem_flatten.1 hv
                have := List.eq_of_mem_replicate hy
                subst this
                exact List.all_eq_true.1 hone.2 v hv)
            simp only [Nat.add_zero] at hrun
            refine ⟨.tuple #[], _, m', ?_, s2, s3, .tu [] [] rfl (fun i h => absurd h (by simp)), s1⟩
            obtain ⟨k, hk⟩ : ∃ k, len - lo = k + 1 := ⟨len - lo - 1, by omega⟩
            have hzf := zeroCells_flat te.z (by rw [e7, hsz]; exact hn0) (len - lo)
            rw [hk] at hrun hzf ⊢
            simp [Builtin.clear_, run_underlying hs, hzv, hcz, hzf, hrun]
          · have h0 : len - lo = 0 := by omega
            refine ⟨.tuple #[], w, m, ?_, Mp.le.refl m, KeepI.refl _ _, .tu [] [] rfl (fun i h => absurd h (by simp)), ?_⟩
            · rw [h0]
              cases a0 <;> simp [Builtin.clear_, run_underlying hs]
            · rw [h0, List.take_of_length_le (by omega)]
              simp only [List.replicate_zero, List.append_nil]
              exact h.sub fun key x hk => by
                simp only [puts, get_put1] at hk
                split at hk
                · rename_i e; rw [← Key.eq_iff.1 e, hg]; exact hk
                · exact hk
        · cases hd
      · cases hd
    · cases hd
  · cases hd
theorem St.thawRo (h : St cx Fr m Im w a σ) {g : Nat} {R : RowM} (hR : m.row g = some R) (h0 : R.len = 0) : RoOk m Im w R (.rp R.E R.n []) := by
  obtain ⟨xs, hx⟩ := h.mem.row g R hR
  have hxs : xs = [] := by
    have := hx.1
    rw [h0, Nat.zero_mul] at this
    exact List.length_eq_zero_iff.1 this
  subst hxs
  refine .rp (R := R) [] [] (by rw [h0]; rfl) (fun i h => absurd h (by simp)) hx (fun u h => absurd h (by simp)) (fun i h => absurd h (by simp)) fun b o hb hi => ?_
  have := h.mem.rIm g R b o hR hb hi
  rw [h0, Nat.zero_mul] at this
  omega
theorem app_priv (hT : TabOk P T) (h : St cx Fr m Im w a σ) {t E : Nat} {ti te : TI} (hti : tget T t = some ti) (hE : ti.el = some E) (hte : tget T E = some te) (hsz : 0 < te.sz) (hby : te.bys ≤ 1000)
    {g : Nat} {R : RowM} (hg : m.row g = some R) (hRE : R.E = E) (hRn : R.n = te.sz) {l l2 : List (List D)} (hro : RoOk m Im w R (.rp R.E R.n l)) {y : Value} {e : D} (hy : Rel m Im w y e) (hs : srcD te.sz e = some l2) (hle : l.length + l2.length ≤ 1000000) (ty : TypeId) :
    ∃ v w' m', (Builtin.append_ #[t, t] ty #[R.hv, y]).run P w = .ok v w' ∧ m.le m' ∧ KeepI Im w w' ∧ Rel m' Im w' v (.ps g (l.length + l2.length)) ∧ St cx Fr m' Im w' a (put1 (.r g) (.rp E te.sz (l ++ l2)) σ) := by
  obtain ⟨ei, ed, e1, e2, e3, e4, e5, e6, e7, e8⟩ := (hT _ _ hte).parts
  have hsl := (hT _ _ hti).slice hE
  obtain ⟨R2, rlen, E2, n2⟩ := R
  dsimp only at *
  subst hRE hRn
  cases hro with
  | rp _ xs hl hn hown h1 hrr hni =>
  dsimp only at *
  subst hl
  have hzs := (hT _ _ hte).zsize
  have hps : ∀ {m' : Mp} {w' : World} {v' : Value} {k : Nat} {zs : List Value}, m'.row g = some ⟨v', k, E2, te.sz⟩ → w'.ownsRow 0 E2 te.sz v' k zs → Rel m' Im w' v' (.ps g k) := fun {m' w' v' k zs} hg' hw' => by
    rcases hw'.2 with ⟨rfl, rfl⟩ | ⟨g', cap, cur, rfl, _, _, hnc, _⟩
    · exact .ps none 0 g 0 (fun h => absurd h (by omega)) (Nat.le_refl _) ⟨_, hg', Nat.le_refl _, fun _ => rfl⟩
    · exact .ps (some ⟨g', 0, none⟩) cap g k (fun _ => ⟨g', rfl⟩) hnc ⟨_, hg', Nat.le_refl _, fun _ => rfl⟩
  cases hl2 : l2 with
  | nil =>
    subst hl2
    have hrun : (Builtin.append_ #[t, t] ty #[R2, y]).run P w = .ok R2 w := by
      have hsrc : Src P ei.size t y 0 [] w := by
        unfold srcD at hs
        split at hs
        · split at hs
          · cases hs
            obtain ⟨a', c, bl, off, X, rfl, _⟩ := rel_sl hy
            cases a' with
            | none => exact Src.ofNil w hsl c
            | some ad => exact Src.ofSlice w hsl ad 0 c [] (by simp) (by simp) (by simp)
          · cases hs
        · cases hs
          rename_i ad c
          have := rel_v.1 hy; subst this
          cases ad with
          | none => exact Src.ofNil w hsl _
          | some ad => exact Src.ofSlice w hsl ad 0 c [] (by simp) (by simp) (by simp)
        · cases hs
      rcases hown.2 with ⟨rfl, h0⟩ | ⟨g', cap, cur, rfl, _, _, hnc, _⟩
      · exact run_append_nothing w t t ty _ ei hsl e1 none 0 0 (Nat.le_refl _) y hsrc
      · exact run_append_nothing w t t ty _ ei hsl e1 (some ⟨g', 0, none⟩) _ cap hnc y hsrc
    refine ⟨R2, w, m, hrun, Mp.le.refl m, KeepI.refl _ _, hps hg hown, ?_⟩
    rw [List.append_nil]
    exact h.putro hg (.rp (R := ⟨R2, l.length, E2, te.sz⟩) l xs rfl hn hown h1 hrr hni)
  | cons r0 rs =>
    have hk : 0 < l2.length := by rw [hl2]; simp
    rw [← hl2]
    clear hl2
    have hy' : ∃ g2, Rel m Im w y (.sl te.sz l2 g2) := by
      unfold srcD at hs
      split at hs
      · split at hs
        · rename_i n' l' g' hn
          have hn : n' = te.sz := by simpa using hn
          cases hs
          exact ⟨g', hn ▸ hy⟩
        · cases hs
      · cases hs; simp at hk
      · cases hs
    obtain ⟨g2, hy2⟩ := hy'
    obtain ⟨a', c, bl, off, Y, rfl, y1, y2, y3, y4, y5, y6, y7⟩ := rel_sl hy2
    obtain rfl := y2 hk
    have hdm : ∀ o, o < l2.length * te.sz → o / te.sz < l2.length ∧ o % te.sz < te.sz ∧ o / te.sz * te.sz + o % te.sz = o := fun o ho =>
      ⟨Nat.div_lt_of_lt_mul (by rw [Nat.mul_comm]; exact ho), Nat.mod_lt _ hsz, Nat.div_add_mod' o te.sz⟩
    let news : List Value := (List.range (l2.length * te.sz)).map fun o => Y (o / te.sz) (o % te.sz)
    have hnl : news.length = l2.length * te.sz := by simp [news]
    have hng : ∀ j u, news[j]? = some u → j < l2.length * te.sz ∧ u = Y (j / te.sz) (j % te.sz) := fun j u hu => by
      simp only [news, List.getElem?_map] at hu
      by_cases hj : j < l2.length * te.sz
      · rw [List.getElem?_range hj] at hu; cases hu; exact ⟨hj, rfl⟩
      · rw [List.getElem?_eq_none (by simpa using hj)] at hu; cases hu
    have hn1 : ∀ u ∈ news, u.oneCell' = true := fun u hu => by
      obtain ⟨j, hj, rfl⟩ := List.getElem_of_mem hu
      obtain ⟨hj2, e⟩ := hng j _ (List.getElem?_eq_getElem hj)
      obtain ⟨q1, q2, q3⟩ := hdm j hj2
      rw [e]; exact y5 _ _ q1 q2
    obtain ⟨v', w', hrun, hown', hgr⟩ := run_append_deep (w := w) (P := P) 0 t ty E2 ei (zeroOf te) te.sz te.bys hsl e1 e5 e3 e4 hzs hsz R2 l.length xs hown ⟨bl, off, none⟩ l2.length c news hnl
      (fun j u hu => by
        obtain ⟨hj, rfl⟩ := hng j u hu
        obtain ⟨q1, q2, q3⟩ := hdm j hj
        have := (y3 _ _ q1 q2).1
        rw [addr_addN, ← this]
        congr 2
        omega)
      hn1
      (by unfold maxLen; omega)
      (by have : (l.length + l2.length) * te.bys ≤ 1000000 * 1000 := Nat.mul_le_mul hle hby
          omega)
      (Nat.zero_le _)
    have hg2 : w'.os = w.os ∧ w'.tape = w.tape ∧ w'.output = w.output := by rcases hgr with ⟨_, h2⟩ | ⟨_, h2⟩ <;> exact ⟨h2.os, h2.tape, h2.output⟩
    have hsz2 : w.heap.size ≤ w'.heap.size := by rcases hgr with ⟨_, h2⟩ | ⟨_, h2⟩ <;> exact h2.size
    have hcase : ∀ b, v'.ownBlock = some b → R2.ownBlock = some b ∨ w.heap.size ≤ b := fun b hb => by
      rcases hgr with ⟨h2, _⟩ | ⟨h2, _⟩
      · left; rw [← h2]; exact hb
      · right; rw [h2] at hb; cases hb; exact Nat.le_refl _
    have hsame : ∀ c, c < w.heap.size → R2.ownBlock ≠ some c → w'.heap[c]? = w.heap[c]? := fun c hc hne => by
      rcases hgr with ⟨_, h2⟩ | ⟨_, h2⟩
      · exact h2.block c hc fun e => hne e.symm
      · exact h2.block c hc
    have hxl : xs.length = l.length * te.sz := hown.1
    have key : ∀ hle2 : m.le (m.setR g ⟨v', l.length + l2.length, E2, te.sz⟩), ∀ hki : KeepI Im w w', RoOk (m.setR g ⟨v', l.length + l2.length, E2, te.sz⟩) Im w' ⟨v', l.length + l2.length, E2, te.sz⟩ (.rp E2 te.sz (l ++ l2)) := fun hle2 hki => by
      refine .rp (R := ⟨v', l.length + l2.length, E2, te.sz⟩) (l ++ l2) (xs ++ news) (by simp) (fun i hi => ?_) hown' (fun u hu => ?_) (fun i hi j hj => ?_) (fun b o hb hi => ?_)
      · by_cases hi2 : i < l.length
        · rw [List.getElem_append_left hi2]; exact hn i hi2
        · rw [List.getElem_append_right (by omega)]; exact y4 _ _
      · rcases List.mem_append.1 hu with hu | hu
        · exact h1 u hu
        · exact hn1 u hu
      · rw [List.length_append] at hi
        by_cases hi2 : i < l.length
        · have e0 : (l ++ l2)[i] = l[i] := List.getElem_append_left hi2
          have hj2 : j < l[i].length := by rw [e0] at hj; exact hj
          have hjn : j < te.sz := by rw [hn i hi2] at hj2; exact hj2
          have hij : i * te.sz + j < xs.length := by
            rw [hxl]
            have : (i + 1) * te.sz ≤ l.length * te.sz := Nat.mul_le_mul_right _ hi2
            rw [Nat.succ_mul] at this; omega
          simp only [e0]
          show Rel _ _ _ ((xs ++ news).getD (i * te.sz + j) undef) _
          rw [List.getD_eq_getElem?_getD, List.getElem?_append_left hij, ← List.getD_eq_getElem?_getD]
          exact (hrr i hi2 j hj2).mono hle2 hki fun _ _ h => h
        · have e0 : (l ++ l2)[i] = l2[i - l.length] := List.getElem_append_right (by omega)
          have hil : i - l.length < l2.length := by omega
          have hj2 : j < l2[i - l.length].length := by rw [e0] at hj; exact hj
          have hjn : j < te.sz := by rw [y4 _ hil] at hj2; exact hj2
          simp only [e0]
          show Rel _ _ _ ((xs ++ news).getD (i * te.sz + j) undef) _
          have hsp : i * te.sz + j = xs.length + ((i - l.length) * te.sz + j) := by
            rw [hxl, ← Nat.add_assoc, ← Nat.add_mul]; congr 2; omega
          have hlt : (i - l.length) * te.sz + j < l2.length * te.sz := by
            have : (i - l.length + 1) * te.sz ≤ l2.length * te.sz := Nat.mul_le_mul_right _ hil
            rw [Nat.succ_mul] at this; omega
          rw [hsp, List.getD_eq_getElem?_getD, List.getElem?_append_right (by omega), Nat.add_sub_cancel_left]
          simp only [news, List.getElem?_map, List.getElem?_range hlt, Option.map_some, Option.getD_some]
          rw [show (i - l.length) * te.sz + j = j + te.sz * (i - l.length) by rw [Nat.mul_comm]; omega, Nat.add_mul_div_left _ _ hsz, Nat.div_eq_of_lt hjn, Nat.zero_add, Nat.add_mul_mod_self_left, Nat.mod_eq_of_lt hjn]
          exact (y6 _ hil j hj2).mono hle2 hki fun _ _ h => h
      · rcases hcase b hb with h2 | h2
        · exact hni b o h2 hi
        · obtain ⟨u, hu⟩ := h.mem.im b o hi
          have := ltOfCell hu; omega
    obtain ⟨q1, q2, q3⟩ := h.turnP (R' := ⟨v', l.length + l2.length, E2, te.sz⟩) (w' := w') hg hg2 hsz2 hsame hni hcase ⟨by simp, fun e => by simp only at e; omega⟩ ⟨_, hown'⟩ key
    exact ⟨v', w', _, hrun, q2, q3, hps (by simp [Mp.setR]) hown', q1⟩
theorem app_clip (hT : TabOk P T) (h : St cx Fr m Im w a σ) {nm : Nat} (hn : Fr nm) {t E : Nat} {ti te : TI} (hti : tget T t = some ti) (hE : ti.el = some E) (hte : tget T E = some te) (hsz : 0 < te.sz) (hby : te.bys ≤ 1000)
    {l l2 : List (List D)} {x y : Value} {e : D} (hx : Rel m Im w x (.cl te.sz l)) (hy : Rel m Im w y e) (hs : srcD te.sz e = some l2) (hk : 0 < l2.length) (hle : l.length + l2.length ≤ 1000000) (ty : TypeId) :
    ∃ v w' m' Im', (Builtin.append_ #[t, t] ty #[x, y]).run P w = .ok v w' ∧ m.le m' ∧ KeepI Im w w' ∧ (∀ b o, Im b o → Im' b o) ∧ Rel m' Im' w' v (.sl te.sz (l ++ l2) (some nm)) ∧ St cx (minus Fr nm) m' Im' w' a (put1 (.r nm) (.rw E te.sz (l ++ l2).length) σ) := by
  have h1 := h.newRow hn E te.sz
  have hle1 : m.le (m.setR nm ⟨.slice none 0 0, 0, E, te.sz⟩) := Mp.setR_le fun R0 h0 => by rw [(h.mem.fr nm hn).2.1] at h0; cases h0
  have hg : (m.setR nm ⟨.slice none 0 0, 0, E, te.sz⟩).row nm = some ⟨.slice none 0 0, 0, E, te.sz⟩ := by simp [Mp.setR]
  cases hx with
  | cl a0 _ _ hcl =>
  obtain ⟨a0', c0, b0, o0, X0, x0, x1, x2, x3, x4, x5, x6, x7⟩ := rel_sl hcl
  injection x0 with e1 e2 e3
  subst e1
  cases a0 with
  | none =>
    have hl0 : l.length = 0 := by
      rcases Nat.eq_zero_or_pos l.length with h0 | h0
      · exact h0
      · cases x2 h0
    have hl : l = [] := List.length_eq_zero_iff.1 hl0
    subst hl
    obtain ⟨v, w', m', Im', q1, q2, q3, q4, q5, q6⟩ := app_own (P := P) (t := t) hT h1 hti hE hte hsz hby hg rfl rfl (l := []) (l2 := l2) rfl (rel_nil hg) (hy.mono hle1 (KeepI.refl _ _) fun _ _ h => h) hs (by simpa using hle) ty
    refine ⟨v, w', m', Im', q1, hle1.trans q2, q3, q4, by simpa using q5, q6.sub fun k d hk => ?_⟩
    simp only [get_put1] at hk ⊢
    split
    · rename_i hc; rw [if_pos hc] at hk; exact hk
    · rename_i hc; rw [if_neg hc] at hk; exact hk
  | some ad =>
    have hy' : ∃ g2, Rel m Im w y (.sl te.sz l2 g2) := by
      unfold srcD at hs
      split at hs
      · split at hs
        · rename_i n' l' g' hn
          have hn : n' = te.sz := by simpa using hn
          cases hs
          exact ⟨g', hn ▸ hy⟩
        · cases hs
      · cases hs; simp at hk
      · cases hs
    obtain ⟨g2, hy2⟩ := hy'
    obtain ⟨a', c, bl, off, Y, rfl, y1, y2, y3, y4, y5, y6, y7⟩ := rel_sl hy2
    obtain rfl := y2 hk
    obtain ⟨ei, ed, e1, e2, e3, e4, e5, e6, e7, e8⟩ := (hT _ _ hte).parts
    have hsl := (hT _ _ hti).slice hE
    have hzs := (hT _ _ hte).zsize
    have hdm : ∀ (n o : Nat), o < n * te.sz → o / te.sz < n ∧ o % te.sz < te.sz ∧ o / te.sz * te.sz + o % te.sz = o := fun n o ho =>
      ⟨Nat.div_lt_of_lt_mul (by rw [Nat.mul_comm]; exact ho), Nat.mod_lt _ hsz, Nat.div_add_mod' o te.sz⟩
    let news : List Value := (List.range (l2.length * te.sz)).map fun o => Y (o / te.sz) (o % te.sz)
    let olds : List Value := (List.range (l.length * te.sz)).map fun o => X0 (o / te.sz) (o % te.sz)
    have hnl : news.length = l2.length * te.sz := by simp [news]
    have hol : olds.length = l.length * te.sz := by simp [olds]
    have hng : ∀ j u, news[j]? = some u → j < l2.length * te.sz ∧ u = Y (j / te.sz) (j % te.sz) := fun j u hu => by
      simp only [news, List.getElem?_map] at hu
      by_cases hj : j < l2.length * te.sz
      · rw [List.getElem?_range hj] at hu; cases hu; exact ⟨hj, rfl⟩
      · rw [List.getElem?_eq_none (by simpa using hj)] at hu; cases hu
    have hog : ∀ j u, olds[j]? = some u → j < l.length * te.sz ∧ u = X0 (j / te.sz) (j % te.sz) := fun j u hu => by
      simp only [olds, List.getElem?_map] at hu
      by_cases hj : j < l.length * te.sz
      · rw [List.getElem?_range hj] at hu; cases hu; exact ⟨hj, rfl⟩
      · rw [List.getElem?_eq_none (by simpa using hj)] at hu; cases hu
    have holds : ∀ j u, olds[j]? = some u → w.cell? (ad.add j) = some u := fun j u hu => by
      obtain ⟨hj, rfl⟩ := hog j u hu
      obtain ⟨q1, q2, q3⟩ := hdm _ j hj
      have hpos : 0 < l.length := Nat.lt_of_le_of_lt (Nat.zero_le _) q1
      have had := x2 hpos
      injection had with had
      subst had
      have := (x3 _ _ q1 q2).1
      rw [addr_addN, ← this]
      congr 2
      omega
    have hnews : ∀ j u, news[j]? = some u → w.cell? ((⟨bl, off, none⟩ : Addr).add j) = some u := fun j u hu => by
      obtain ⟨hj, rfl⟩ := hng j u hu
      obtain ⟨q1, q2, q3⟩ := hdm _ j hj
      have := (y3 _ _ q1 q2).1
      rw [addr_addN, ← this]
      congr 2
      omega
    obtain ⟨v', w', hrun, hown', hgb⟩ := run_append_arg_grows (P := P) w t ty E ei (zeroOf te) te.sz te.bys hsl e1 e5 e3 e4 hzs hsz ad l.length l.length olds hol holds
      ⟨bl, off, none⟩ l2.length c news hnl hnews
      (by omega) (by unfold maxLen; omega)
      (by have : (l.length + l2.length) * te.bys ≤ 1000000 * 1000 := Nat.mul_le_mul hle hby
          omega)
    have hown2 : w'.ownsRow 0 E te.sz v' (0 + (l.length + l2.length)) ([] ++ (olds ++ news)) := by
      rw [Nat.zero_add, List.nil_append]
      refine ⟨hown'.1, hown'.2.imp id ?_⟩
      rintro ⟨g', cap, cur, q1, q2, q3⟩
      exact ⟨g', cap, cur, q1, Nat.zero_le _, q3⟩
    have hblow : Below w.heap.size w w' := ⟨hgb.os, hgb.tape, hgb.output, hgb.size, fun b hb => hgb.block b hb (by simp)⟩
    have hg63 : l.length < l.length + l2.length := by omega
    have hbytes : (l.length + l2.length) * ei.bytes ≤ 140737488355328 := by
      have : (l.length + l2.length) * te.bys ≤ 1000000 * 1000 := Nat.mul_le_mul hle hby
      rw [e4]; omega
    have hv' : v'.ownBlock = some w.heap.size := by
      have hr := run_append_grow (P := P) w t ty E ei (zeroOf te) hsl e1 e5 ad l.length l.length olds (by rw [e3]; exact hol) holds ⟨bl, off, none⟩ l2.length c news (by rw [e3]; exact hnl) hnews hg63 (by omega) (growslice_fits hg63 hbytes)
      rw [hrun] at hr
      injection hr with hv _
      rw [hv]; rfl
    obtain ⟨xs, hown⟩ := h1.mem.row nm _ hg
    have hxs : xs = [] := by
      have := hown.1
      simpa using this
    subst hxs
    obtain ⟨Im', b, hb, i1, i2, i3, i4, i5⟩ := h1.grow (g := nm) (R := ⟨.slice none 0 0, 0, E, te.sz⟩) hg (v' := v') (k := l.length + l2.length) (xs := []) (ys := olds ++ news) hsz (by omega) hown hown2 (.inr ⟨hv', hblow⟩)
    obtain ⟨gb, cap, rfl, _, hbl⟩ := hown'.form (by omega)
    have hgb : gb = b := by simpa [Value.ownBlock] using hb
    subst hgb
    have hcap : l.length + l2.length ≤ cap := by
      rcases hown'.2 with ⟨h0, _⟩ | ⟨g', cap', cur, h0, _, _, hnc, _⟩
      · cases h0
      · injection h0 with _ _ q; rw [q]; exact hnc
    have hcells : ∀ o u, (olds ++ news)[o]? = some u → w'.cell? ⟨gb, o, none⟩ = some u := fun o u hu => by
      have := hown'.cells (g := gb) rfl o u hu
      rw [addr_add0] at this; exact this
    have hall : (olds ++ news).length = (l.length + l2.length) * te.sz := hown'.1
    have hlt : ∀ n i j, i < n → j < te.sz → i * te.sz + j < n * te.sz := fun n i j hi hj => by
      have : (i + 1) * te.sz ≤ n * te.sz := Nat.mul_le_mul_right _ hi
      rw [Nat.succ_mul] at this; omega
    have hdv : ∀ i j, j < te.sz → (i * te.sz + j) / te.sz = i ∧ (i * te.sz + j) % te.sz = j := fun i j hj => by
      rw [show i * te.sz + j = j + te.sz * i by rw [Nat.mul_comm]; omega, Nat.add_mul_div_left _ _ hsz, Nat.div_eq_of_lt hj, Nat.zero_add, Nat.add_mul_mod_self_left, Nat.mod_eq_of_lt hj]
      exact ⟨rfl, rfl⟩
    have hX : ∀ i j, i < l.length → j < te.sz → (olds ++ news)[i * te.sz + j]? = some (X0 i j) := fun i j hi hj => by
      have hij := hlt _ i j hi hj
      rw [List.getElem?_append_left (by rw [hol]; exact hij)]
      simp only [olds, List.getElem?_map, List.getElem?_range hij, Option.map_some]
      rw [(hdv i j hj).1, (hdv i j hj).2]
    have hY : ∀ i j, i < l2.length → j < te.sz → (olds ++ news)[(l.length + i) * te.sz + j]? = some (Y i j) := fun i j hi hj => by
      have hij := hlt _ i j hi hj
      rw [List.getElem?_append_right (by rw [hol, Nat.add_mul]; omega), hol, show (l.length + i) * te.sz + j - l.length * te.sz = i * te.sz + j by rw [Nat.add_mul]; omega]
      simp only [news, List.getElem?_map, List.getElem?_range hij, Option.map_some]
      rw [(hdv i j hj).1, (hdv i j hj).2]
    have hle3 : m.le ((m.setR nm ⟨.slice none 0 0, 0, E, te.sz⟩).setR nm ⟨.slice (some ⟨gb, 0, none⟩) (l.length + l2.length) cap, 0 + (l.length + l2.length), E, te.sz⟩) := hle1.trans i4
    have hmono : ∀ {x d}, Rel m Im w x d → Rel ((m.setR nm ⟨.slice none 0 0, 0, E, te.sz⟩).setR nm ⟨.slice (some ⟨gb, 0, none⟩) (l.length + l2.length) cap, 0 + (l.length + l2.length), E, te.sz⟩) Im' w' x d := fun hx => hx.mono hle3 i3 i1
    have key : Rel ((m.setR nm ⟨.slice none 0 0, 0, E, te.sz⟩).setR nm ⟨.slice (some ⟨gb, 0, none⟩) (l.length + l2.length) cap, 0 + (l.length + l2.length), E, te.sz⟩) Im' w' (.slice (some ⟨gb, 0, none⟩) (l ++ l2).length cap) (.sl te.sz (l ++ l2) (some nm)) := by
      refine .sl _ cap gb 0 te.sz (fun i j => (olds ++ news).getD (i * te.sz + j) undef) (l ++ l2) (some nm) (by rw [List.length_append]; unfold maxLen; omega) (fun _ => rfl) (fun i j hi hj => ?_) (fun i hi => ?_) (fun i j hi hj => ?_) (fun i hi j hj => ?_) (fun r e => ?_)
      · rw [List.length_append] at hi
        have hij := hlt _ i j hi hj
        rw [Nat.zero_add]
        refine ⟨?_, i2 _ (by show _ < (0 + (l.length + l2.length)) * te.sz; rw [Nat.zero_add]; exact hij)⟩
        have hij2 : i * te.sz + j < (olds ++ news).length := by omega
        rw [List.getD_eq_getElem?_getD, List.getElem?_eq_getElem hij2]
        exact hcells _ _ (List.getElem?_eq_getElem hij2)
      · by_cases hi2 : i < l.length
        · rw [List.getElem_append_left hi2]; exact x4 i hi2
        · rw [List.getElem_append_right (by omega)]; exact y4 _ _
      · rw [List.length_append] at hi
        rw [List.getD_eq_getElem?_getD]
        by_cases hi2 : i < l.length
        · rw [hX i j hi2 hj]; exact x5 i j hi2 hj
        · have := hY (i - l.length) j (by omega) hj
          rw [show l.length + (i - l.length) = i by omega] at this
          rw [this]; exact y5 _ _ (by omega) hj
      · rw [List.length_append] at hi
        rw [List.getD_eq_getElem?_getD]
        by_cases hi2 : i < l.length
        · have hj2 : j < l[i].length := by rw [List.getElem_append_left hi2] at hj; exact hj
          rw [hX i j hi2 (by rw [x4 i hi2] at hj2; exact hj2)]
          simp only [Option.getD_some]
          have := x6 i hi2 j hj2
          simpa [List.getElem_append_left hi2] using hmono this
        · have hj2 : j < l2[i - l.length].length := by rw [List.getElem_append_right (by omega)] at hj; exact hj
          have := hY (i - l.length) j (by omega) (by rw [y4 _ (by omega)] at hj2; exact hj2)
          rw [show l.length + (i - l.length) = i by omega] at this
          rw [this]
          simp only [Option.getD_some]
          have := y6 (i - l.length) (by omega) j hj2
          simpa [List.getElem_append_right (show l.length ≤ i by omega)] using hmono this
      · cases e
        exact ⟨⟨.slice (some ⟨gb, 0, none⟩) (l.length + l2.length) cap, 0 + (l.length + l2.length), E, te.sz⟩, by simp [Mp.setR], by simp, fun _ => by simp⟩
    refine ⟨_, w', _, Im', hrun, hle3, i3, i1, by simpa using key, ?_⟩
    have i6 : St cx (minus Fr nm) _ Im' w' a _ := i5
    rw [show (0 + (l.length + l2.length)) = (l ++ l2).length by simp] at i6 ⊢
    refine i6.sub fun k d hk => ?_
    simp only [get_put1] at hk ⊢
    split
    · rename_i hc; rw [if_pos hc] at hk; exact hk
    · rename_i hc; rw [if_neg hc] at hk; exact hk
end
end Go.Proofs.Ytcblpjheoclkeaa

namespace Go.Proofs.Ytcblpjheoclkeaa
open Go.RowKit

section
variable {P : Program} {T : List (Nat × TI)} {cx : Cx} {Fr Fr' : Nat → Prop} {m m' : Mp} {Im Im' : Nat → Nat → Prop} {w w' : World} {a : Act} {σ σ' : List (Key × D)}
theorem Rel.mono1 {x : Value} {d : D} (h : Rel m Im w x d) (hm : m.le m') : Rel m' Im w x d := h.mono hm (KeepI.refl _ _) fun _ _ h => h
theorem app_run (hT : TabOk P T) (h : St cx Fr m Im w a σ) {nm : Nat} (hn : Fr nm) {t ty : Nat} {x y : Value} {d e V : D} {W : List (Key × D)} {R : List Key} (hx : Rel m Im w x d) (hy : Rel m Im w y e) (hd : appD T σ nm t d e = some (V, W, R)) :
    ∃ v w' m' Im', (Builtin.append_ #[t, t] ty #[x, y]).run P w = .ok v w' ∧ m.le m' ∧ KeepI Im w w' ∧ (∀ b o, Im b o → Im' b o) ∧ Rel m' Im' w' v V ∧ St cx (minus Fr nm) m' Im' w' a (puts σ W) := by
  unfold appD at hd
  split at hd
  · cases hd
  · rename_i ti hti
    split at hd
    · cases hd
    · rename_i E hE
      split at hd
      · cases hd
      · rename_i te hte
        split at hd
        · cases hd
        · rename_i l2 hl2
          split at hd
          · rename_i hsz
            split at hd
            · split at hd
              · rename_i hle
                cases hd
                have := rel_v.1 hx; subst this
                have h1 := h.newRow hn E te.sz
                have hle1 : m.le (m.setR nm ⟨.slice none 0 0, 0, E, te.sz⟩) := Mp.setR_le fun R0 h0 => by rw [(h.mem.fr nm hn).2.1] at h0; cases h0
                have hg : (m.setR nm ⟨.slice none 0 0, 0, E, te.sz⟩).row nm = some ⟨.slice none 0 0, 0, E, te.sz⟩ := by simp [Mp.setR]
                obtain ⟨v, w', m', Im', q1, q2, q3, q4, q5, q6⟩ := app_own (P := P) (t := t) hT h1 hti hE hte hsz.1 hsz.2 hg rfl rfl (l := []) (l2 := l2) rfl (rel_nil hg) (hy.mono1 hle1) hl2 (by simpa using hle) ty
                refine ⟨v, w', m', Im', q1, hle1.trans q2, q3, q4, by simpa using q5, q6.sub fun k d hk => ?_⟩
                simp only [puts, get_put1] at hk ⊢
                simp only [List.nil_append]
                split
                · rename_i hc; rw [if_pos hc] at hk; exact hk
                · rename_i hc; rw [if_neg hc] at hk; exact hk
              · cases hd
            · rename_i n l g
              split at hd
              · rename_i E' n' len hg
                split at hd
                · rename_i hc
                  obtain ⟨rfl, rfl, rfl, rfl, hle⟩ := hc
                  cases hd
                  obtain ⟨R, hR, e⟩ := h.ro g _ hg
                  have e := e.rwi
                  injection e with e1 e2 e3
                  obtain ⟨_, _, _, _, _, x0, _, _, _, _, _, _, x7⟩ := rel_sl hx
                  obtain ⟨R', hR', _, hv⟩ := x7 g rfl
                  rw [hR] at hR'; cases hR'
                  have hv := hv e3
                  rw [← hv] at hx ⊢
                  obtain ⟨v, w', m', Im', q1, q2, q3, q4, q5, q6⟩ := app_own (P := P) (t := t) hT h hti hE hte hsz.1 hsz.2 hR e1.symm e2.symm e3.symm hx hy hl2 hle ty
                  exact ⟨v, w', m', Im', q1, q2, q3, q4, q5, q6.less fun k hk => hk.1⟩
                · cases hd
              · cases hd
            · rename_i g len
              split at hd
              · rename_i E' n' l hg
                split at hd
                · rename_i hc
                  obtain ⟨rfl, rfl, rfl, hle⟩ := hc
                  cases hd
                  obtain ⟨R, hR, hro⟩ := h.ro g _ hg
                  have ho := hro.rpi
                  obtain ⟨o1, o2, o3⟩ := ho
                  cases hx with
                  | ps a0 c0 _ _ ha _ hh =>
                  obtain ⟨R', p1, p2, p3⟩ := hh
                  rw [hR] at p1; cases p1
                  have hv := p3 o3
                  rw [← hv]
                  obtain ⟨v, w', m', q1, q2, q3, q5, q6⟩ := app_priv (P := P) (t := t) hT h hti hE hte hsz.1 hsz.2 hR o1.symm o2.symm (by rw [← o1, ← o2]; exact hro) hy hl2 hle ty
                  exact ⟨v, w', m', Im, q1, q2, q3, fun _ _ h => h, q5, q6.less fun k hk => hk.1⟩
                · cases hd
              · rename_i E' n' hg
                split at hd
                · rename_i hc
                  obtain ⟨rfl, rfl, rfl, hle⟩ := hc
                  cases hd
                  obtain ⟨R, hR, hro⟩ := h.ro g _ hg
                  have e := hro.rwi
                  injection e with e1 e2 e3
                  have hro := h.thawRo hR e3.symm
                  cases hx with
                  | ps a0 c0 _ _ ha _ hh =>
                  obtain ⟨R', p1, p2, p3⟩ := hh
                  rw [hR] at p1; cases p1
                  have hv := p3 e3
                  rw [← hv]
                  obtain ⟨v, w', m', q1, q2, q3, q5, q6⟩ := app_priv (P := P) (t := t) hT h hti hE hte hsz.1 hsz.2 hR e1.symm e2.symm (l := []) (by rw [e1, e2] at *; exact hro) hy hl2 (by simpa using hle) ty
                  exact ⟨v, w', m', Im, q1, q2, q3, fun _ _ h => h, by simpa using q5, q6.less fun k hk => hk.1⟩
                · cases hd
              · cases hd
            · split at hd
              · rename_i n l hcc
                obtain ⟨rfl, hk, hle⟩ := hcc
                cases hd
                exact app_clip (P := P) (t := t) hT h hn hti hE hte hsz.1 hsz.2 hx hy hl2 hk hle ty
              · cases hd
            · cases hd
          · cases hd

theorem rowsD_len {te : TI} : ∀ {ds : List D} {rows : List (List D)}, rowsD te ds = some rows → rows.length = ds.length
  | [], rows, h => by cases h; rfl
  | d :: ds, rows, h => by
    simp only [rowsD] at h
    split at h
    · cases hr : rowsD te ds with
      | none => rw [hr] at h; cases h
      | some rs => rw [hr] at h; cases h; simp [rowsD_len hr]
    · cases h
theorem fill_rows {te : TI} (hsz : 0 < te.sz) : ∀ (ps : List (Nat × Value)) (ds : List D) (rows : List (List D)) (k : Nat) (cs : List Value), inOrder k (ps.map (·.1)) = true → RelL m Im w (ps.map (·.2)) ds → rowsD te ds = some rows → (k + ps.length) * te.sz ≤ cs.length →
    ∃ cs' : List Value, Instr.fill (fun i => some (i * te.sz, te.sz)) cs.toArray ps = some cs'.toArray ∧ cs'.length = cs.length ∧ (∀ o, o < k * te.sz → cs'[o]? = cs[o]?) ∧ (∀ i (hi : i < rows.length), rows[i].length = te.sz ∧ rows[i].all D.one = true ∧ ∀ j (hj : j < rows[i].length), ∃ v, cs'[(k + i) * te.sz + j]? = some v ∧ Rel m Im w v rows[i][j])
  | [], ds, rows, k, cs, _, hr, hrow, _ => by
    cases ds with
    | nil => cases hrow; exact ⟨cs, rfl, rfl, fun _ _ => rfl, fun i hi => absurd hi (by simp)⟩
    | cons d ds => exact hr.elim
  | (i0, v) :: ps, ds, rows, k, cs, ho, hr, hrow, hle => by
    cases ds with
    | nil => exact hr.elim
    | cons d ds =>
      simp only [List.map_cons, inOrder, Bool.and_eq_true, beq_iff_eq] at ho
      obtain ⟨rfl, ho⟩ := ho
      obtain ⟨hv, hr⟩ := hr
      simp only [rowsD] at hrow
      split at hrow
      · rename_i c hc
        cases hrr : rowsD te ds with
        | none => rw [hrr] at hrow; cases hrow
        | some rs =>
          rw [hrr] at hrow
          cases hrow
          obtain ⟨vs, v1, v2, v3, v4, _, _⟩ := rel_dcells hv hc
          have hb : (i0 + 1) * te.sz ≤ cs.length := Nat.le_trans (Nat.mul_le_mul_right _ (by simp)) hle
          rw [Nat.succ_mul] at hb
          have hcl : c.length = te.sz := by rw [← (relL_iff.1 v2).1]; exact v3
          obtain ⟨cs', r1, r2, r3, r4⟩ := fill_rows hsz ps ds rs (i0 + 1) (cs.take (i0 * te.sz) ++ vs ++ cs.drop (i0 * te.sz + te.sz)) ho hr hrr (by
            simp only [List.length_append, List.length_take, List.length_drop, v3]
            simp only [List.length_cons] at hle
            rw [show i0 + 1 + ps.length = i0 + (ps.length + 1) by omega]; omega)
          refine ⟨cs', by rw [fill_one (sz := te.sz) rfl v1 v3 hb]; exact r1, by rw [r2]; simp [v3]; omega, fun o ho => ?_, fun i hi => ?_⟩
          · rw [r3 o (by rw [Nat.succ_mul]; omega), List.append_assoc, List.getElem?_append_left (by simp; omega), List.getElem?_take, if_pos ho]
          · cases i with
            | zero =>
              refine ⟨hcl, v4, fun j hj => ?_⟩
              have hj' : j < te.sz := by rw [← hcl]; exact hj
              have hj2 : j < vs.length := by omega
              refine ⟨vs[j], ?_, ?_⟩
              · rw [Nat.add_zero, r3 _ (by rw [Nat.succ_mul]; omega), List.append_assoc, List.getElem?_append_right (by simp; omega)]
                have : i0 * te.sz + j - (cs.take (i0 * te.sz)).length = j := by simp; omega
                rw [this, List.getElem?_append_left hj2, List.getElem?_eq_getElem hj2]
              · have := (relL_iff.1 v2).2 j hj
                simpa [List.getD_eq_getElem?_getD, List.getElem?_eq_getElem hj2] using this
            | succ i =>
              obtain ⟨s1, s2, s3⟩ := r4 i (by simpa using hi)
              refine ⟨s1, s2, fun j hj => ?_⟩
              have := s3 j hj
              rw [show i0 + 1 + i = i0 + (i + 1) by omega] at this
              exact this
      · cases hrow
theorem bsl_run (hT : TabOk P T) (h : St cx Fr m Im w a σ) {nm : Nat} (hn : Fr nm) {t len : Nat} {parts : Array (Nat × Operand)} {V : D} {W : List (Key × D)} {R : List Key} (hd : bslD T σ nm t len parts.toList = some (V, W, R)) :
    ∃ v w' m' Im', (Instr.buildSlice t len (parts.map fun (i, x) => (i, a.eval x))).run P w = .ok v w' ∧ m.le m' ∧ KeepI Im w w' ∧ (∀ b o, Im b o → Im' b o) ∧ Rel m' Im' w' v V ∧ St cx (minus Fr nm) m' Im' w' a (puts σ W) := by
  unfold bslD at hd
  split at hd
  · cases hd
  · rename_i ti hti
    split at hd
    · cases hd
    · rename_i E hE
      split at hd
      · cases hd
      · rename_i te hte
        split at hd
        · rename_i hc
          simp only [Bool.and_eq_true, beq_iff_eq, decide_eq_true_eq] at hc
          obtain ⟨⟨⟨hlen, hord⟩, hsz⟩, hbig⟩ := hc
          split at hd
          · cases hd
          · rename_i ds hds
            cases hr : rowsD te ds with
            | none => rw [hr] at hd; cases hd
            | some rows =>
              rw [hr] at hd
              cases hd
              have hev := h.evs hds
              obtain ⟨ei, ed, e1, e2, e3, e4, e5, e6, e7, e8⟩ := (hT _ _ hte).parts
              have hsl := (hT _ _ hti).slice hE
              have hdl : ds.length = len := by have := (relL_iff.1 hev).1; simp at this; rw [← this, ← hlen]; simp
              have hrl : rows.length = len := by rw [rowsD_len hr, hdl]
              let zs : List Value := if len * te.sz = 0 then [] else ((Array.range (len * te.sz)).map ((zeroOf te).cells[· % (zeroOf te).cells.size]!)).toList
              have hzl : zs.length = len * te.sz := by
                simp only [zs]; split
                · rename_i h0; simp [h0]
                · simp
              obtain ⟨cs', f1, f2, _, f4⟩ := fill_rows (m := m) (Im := Im) (w := w) hsz (parts.toList.map fun p => (p.1, a.eval p.2)) ds rows 0 zs (by rw [List.map_map]; exact hord) (by rw [List.map_map] at hev ⊢; exact hev) hr (by rw [hzl]; simp [← hlen])
              have hrun : (Instr.buildSlice t len (parts.map fun (i, x) => (i, a.eval x))).run P w = .ok (.slice (some ⟨w.heap.size, 0, none⟩) len len) (w.alloc (.cells cs'.toArray E)) := by
                by_cases h0 : len = 0
                · subst h0
                  have hp0 : parts.toList = [] := List.eq_nil_of_length_eq_zero hlen
                  have hpa : parts = #[] := by apply Array.ext'; simpa using hp0
                  have hcs : cs' = [] := List.eq_nil_of_length_eq_zero (by rw [f2, hzl]; simp)
                  subst hpa hcs
                  simp [Instr.buildSlice, run_underlying hsl, sizeOf, typeInfo, e1, newRow, Instr.fill]
                  rw [show Array.range 0 = #[] from by apply Array.ext'; simp]
                  simp
                · have hpos : ¬ len * ei.size = 0 := by rw [e3]; exact Nat.mul_ne_zero h0 (by omega)
                  refine run_buildSlice w t E len _ cs'.toArray ei (zeroOf te) hsl e1 e5 (by rw [e3]; omega) hpos ?_
                  rw [e3]
                  rw [e3] at hpos
                  rw [← f1]
                  congr 1
                  · simp only [zs, if_neg hpos]
                  · simp
              obtain ⟨Im', g1, g2, g3, g4⟩ := h.rowOf hn cs' len te.sz E (by rw [f2, hzl]) (by unfold maxLen; have : len * 1 ≤ len * te.sz := Nat.mul_le_mul_left _ hsz; omega)
              have hB := Blk.new w cs'.toArray E rfl
              have hb : Below w.heap.size w (w.alloc (.cells cs'.toArray E)) := (Below.refl _ _).alloc (Nat.le_refl _) _
              refine ⟨_, _, _, Im', hrun, g4, KeepI.below hb, g1, ?_, g3⟩
              have hlt : ∀ i j, i < len → j < te.sz → i * te.sz + j < len * te.sz := fun i j hi hj => by
                have : (i + 1) * te.sz ≤ len * te.sz := Nat.mul_le_mul_right _ hi
                rw [Nat.succ_mul] at this; omega
              have key : Rel (m.setR nm ⟨.slice (some ⟨w.heap.size, 0, none⟩) len len, len, E, te.sz⟩) Im' (w.alloc (.cells cs'.toArray E)) (.slice (some ⟨w.heap.size, 0, none⟩) rows.length len) (.sl te.sz rows (some nm)) := by
                refine .sl _ len w.heap.size 0 te.sz (fun i j => cs'.getD (i * te.sz + j) undef) rows (some nm) (by rw [hrl]; unfold maxLen; have : len * 1 ≤ len * te.sz := Nat.mul_le_mul_left _ hsz; omega) (fun _ => rfl) (fun i j hi hj => ?_) (fun i hi => (f4 i hi).1) (fun i j hi hj => ?_) (fun i hi j hj => ?_) (fun r e => ?_)
                · rw [hrl] at hi
                  have hij := hlt i j hi hj
                  have hij2 : i * te.sz + j < cs'.length := by rw [f2, hzl]; exact hij
                  rw [Nat.zero_add, List.getD_eq_getElem?_getD, List.getElem?_eq_getElem hij2]
                  exact ⟨hB.cell (by simp [hij2]), g2 _ hij⟩
                · obtain ⟨s1, s2, s3⟩ := f4 i hi
                  obtain ⟨v, v1, v2⟩ := s3 j (by rw [s1]; exact hj)
                  rw [Nat.zero_add] at v1
                  rw [List.getD_eq_getElem?_getD, v1]
                  exact v2.one (List.all_eq_true.1 s2 _ (List.getElem_mem _))
                · obtain ⟨s1, s2, s3⟩ := f4 i hi
                  obtain ⟨v, v1, v2⟩ := s3 j hj
                  rw [Nat.zero_add] at v1
                  rw [List.getD_eq_getElem?_getD, v1]
                  exact v2.mono g4 (KeepI.below hb) g1
                · cases e
                  exact ⟨⟨.slice (some ⟨w.heap.size, 0, none⟩) len len, len, E, te.sz⟩, by simp [Mp.setR], by simp [hrl], fun _ => by rw [hrl]⟩
              rw [hrl] at key
              exact key
        · cases hd
end
end Go.Proofs.Ytcblpjheoclkeaa

