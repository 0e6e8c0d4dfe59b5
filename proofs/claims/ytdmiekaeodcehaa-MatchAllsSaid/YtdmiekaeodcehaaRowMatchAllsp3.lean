/-
  Deep values: what an operation that leaves memory alone yields. Deep values: operations that write or make memory. Deep values: maps with ints for keys. Deep values: what an operation leaves that writes or makes memory. Deep values: an operation that writes or makes memory, as a whole. Deep values: all operations that write or make memory; what an operation tells hangs on what it reads alone. Deep values: what a call leaves. Deep values: a region's operations may come in any order that their edges allow.
-/
import Derived.Test.YtdmiekaeodcehaaRowMatchAllsp2
import Derived.Laws.OwnMore
import Derived.Deep.Upon
import Derived.Laws.MakeOwn
import Derived.OrdersHeld
set_option maxRecDepth 100000
set_option maxHeartbeats 1000000
set_option linter.unusedVariables false
set_option linter.unusedSimpArgs false
namespace Go.Proofs.Ytdmiekaeodcehaa
open Go.RowKit

def pickD (σ : List (Key × D)) (c x y : Operand) : Option D := match ev σ c with
  | some (.v (.bool t)) => if t then ev σ x else ev σ y
  | _ => none
def nilD : D → Option D
  | .p k o => some (.p k o)
  | .q l => some (.q l)
  | .o k => some (.o k)
  | .v (.pointer (some a)) => some (.v (.pointer (some a)))
  | .fn f c => some (.fn f c)
  | _ => none
def extractD (x : D) (i : Nat) : Option D := match x with
  | .tu l => l[i]?
  | _ => none
def makeFnD (σ : List (Key × D)) (f : Fn) (first caps : List Operand) : Option D := match f, first with
  | .func f, [] => (evs σ caps).map (.fn f)
  | _, _ => none
def evI (σ : List (Key × D)) : Option Operand → Option (Option Int)
  | none => some none
  | some x => match ev σ x with
    | some (.v (.int .i64 i)) => some (some i)
    | _ => none
def slD (T : List (Nat × TI)) (σ : List (Key × D)) (t : Nat) (x : Operand) (lo hi mx : Option Operand) : Option D := match ev σ x, evI σ lo, evI σ hi, evI σ mx with
  | some d, some a, some b, some c => sliceD T t d a b c
  | _, _, _, _ => none
def bin2 (T : List (Nat × TI)) (t : Nat) (op : BinOp) (x y : Option D) : Option D := match tget T t, x, y with
  | some ti, some x, some y => binD ti op x y
  | _, _, _ => none
def minD : D → D → Option D
  | .v (.int .i64 a), .v (.int .i64 b) => some (.v (.int .i64 (min a b)))
  | _, _ => none
def maxD : D → D → Option D
  | .v (.int .i64 a), .v (.int .i64 b) => some (.v (.int .i64 (max a b)))
  | _, _ => none
def convD (T : List (Nat × TI)) (s d : Nat) (x : D) : Option D := match tget T s, tget T d, x with
  | some _, some td, .v (.int _ n) => (match td.z with
    | [.int k _] => if td.kd == 2 then some (.v (.int k (k.wrap n))) else none
    | _ => none)
  | _, _, _ => none
def pval (T : List (Nat × TI)) (σ : List (Key × D)) (o : Oper) : Option D := match o.op with
  | .move x => ev σ x
  | .assign x => ev σ x
  | .pick c x y => pickD σ c x y
  | .load t x => (ev σ x).bind (ldD T σ t)
  | .nilCheck x => (ev σ x).bind nilD
  | .binOp op t x y _ => bin2 T t op (ev σ x) (ev σ y)
  | .unOp op _ x => (ev σ x).bind (unD op)
  | .convert s d x => (ev σ x).bind (convD T s d)
  | .field t x f => (ev σ x).bind fun d => fieldD T t d f
  | .fieldAddr t x f => (ev σ x).bind fun d => faddrD T t d f
  | .indexAddr t x y => (ev σ x).bind fun d => (ev σ y).bind fun e => iaddrD T t d e
  | .extract x i => (ev σ x).bind fun d => extractD d i
  | .makeFunc f first caps => makeFnD σ f first.toList caps.toList
  | .build t parts => buildD T σ t parts.toList
  | .slice t x lo hi mx => slD T σ t x lo hi mx
  | .call c => match c.callee, c.args.toList, c.argTypes.toList with
    | .builtin .len, [x], [t] => (ev σ x).bind (lenD T t)
    | .builtin .min, [x, y], [_, _] => (ev σ x).bind fun d => (ev σ y).bind fun e => minD d e
    | .builtin .max, [x, y], [_, _] => (ev σ x).bind fun d => (ev σ y).bind fun e => maxD d e
    | _, _, _ => none
  | _ => none
def mrd (T : List (Nat × TI)) (σ : List (Key × D)) (o : Oper) : List Key := match o.op with
  | .load t x => match ev σ x, tget T t with
    | some (.p k off), some ti => (List.range ti.sz).map fun i => .c k (off + i)
    | some (.pr g _ _ _ _), some _ => [.r g]
    | _, _ => []
  | _ => []
def trd (o : Oper) : List Key := o.op.operands.toList.filterMap fun x => match x with | .tmp t => some (.t t) | _ => none

section
variable {P : Program} {T : List (Nat × TI)} {cx : Cx} {Fr Fr' : Nat → Prop} {m m' : Mp} {Im Im' : Nat → Nat → Prop} {w w' : World} {a : Act} {σ σ' : List (Key × D)}
theorem bind_some {α β : Type} {x : Option α} {f : α → Option β} {y : β} (h : x.bind f = some y) : ∃ z, x = some z ∧ f z = some y := by
  cases x with
  | none => cases h
  | some z => exact ⟨z, rfl, h⟩
theorem shr1_run {k : IntKind} {x y : Int} {e : D} (h : (if y = 1 then some (D.v (.int k (x.fdiv 2))) else none) = some e) (t : TypeId) : ∃ v, (binOp .shr t (.int k x) (.int k y)).run P w = .ok v w ∧ Rel m Im w v e := by
  split at h
  · rename_i hb
    subst hb
    cases h
    have h2 : min 1 k.bits = 1 := by cases k <;> rfl
    exact ⟨_, by simp [binOp, Op.shift, h2], .v _⟩
  · cases h
theorem intD_run {op : BinOp} {k : IntKind} {x y : Int} {e : D} (h : intD op k x y = some e) (t : TypeId) : ∃ v, (binOp op t (.int k x) (.int k y)).run P w = .ok v w ∧ Rel m Im w v e := by
  cases op <;> simp only [intD] at h <;> first | (cases h; exact ⟨_, by simp [binOp, Op.intArith, Op.intCmp]; rfl, .v _⟩) | (cases h; exact ⟨_, by simp [binOp, Op.intArith, Op.intCmp], .v _⟩) | (cases h; done) | exact shr1_run h t
theorem convD_run (hT : TabOk P T) {s t : Nat} {x : Value} {d e : D} (hx : Rel m Im w x d) (hd : convD T s t d = some e) : ∃ v, (convert s t x).run P w = .ok v w ∧ Rel m Im w v e := by
  unfold convD at hd
  split at hd
  · rename_i ts td k0 n hts htd
    split at hd
    · rename_i k z hz
      split at hd
      · rename_i hk
        cases hd
        have := rel_v.1 hx; subst this
        obtain ⟨_, _, _, hs, _⟩ := (hT _ _ hts).parts
        have hd := (hT _ _ htd).int hz (by simpa using hk)
        have hik : P.intKind t = k := by simp [Program.intKind, hd]
        refine ⟨_, run_convert_int (P := P) (w := w) (src := s) (dst := t) (k := k0) (n := n) (by rw [hs]; rfl) (by rw [hik]; exact hd), ?_⟩
        rw [hik]; exact .v _
      · cases hd
    · cases hd
  · cases hd
theorem eqD_run {op : BinOp} {b : Bool} {e : D} (h : eqD op b = some e) (t : TypeId) {x y : Value} (hq : (Op.equal t x y).run P w = .ok b w) (hb : ∀ op : BinOp, (op = .eql → binOp op t x y = (do pure (.bool (← Op.equal t x y)))) ∧ (op = .neq → binOp op t x y = (do pure (.bool (!(← Op.equal t x y)))))) :
    ∃ v, (binOp op t x y).run P w = .ok v w ∧ Rel m Im w v e := by
  cases op <;> simp only [eqD] at h <;> cases h
  · refine ⟨.bool b, ?_, .v _⟩
    rw [(hb .eql).1 rfl]; simp [hq]
  · refine ⟨.bool (!b), ?_, .v _⟩
    rw [(hb .neq).2 rfl]; simp [hq]
theorem depth_succ : Op.maxDepth = 9999 + 1 := rfl
theorem run_eq_bool {t : Nat} (h : P.underlying t = some .bool) (x y : Bool) : (Op.equal t (.bool x) (.bool y)).run P w = .ok (x == y) w := by
  unfold Op.equal; rw [depth_succ, Op.equalIn]; simp [run_underlying h]
theorem run_eq_ptr {t e : Nat} (h : P.underlying t = some (.pointer e)) (x : Option Addr) : (Op.equal t (.pointer x) (.pointer none)).run P w = .ok x.isNone w := by
  unfold Op.equal; rw [depth_succ, Op.equalIn]
  cases x <;> simp [run_underlying h]
theorem guard_bool (op : BinOp) (t : TypeId) (ox oy : Operand) (x y : Bool) : (eqGuard op t ox oy (.bool x) (.bool y)).run P w = .ok () w := by
  unfold eqGuard
  cases op <;> rfl
theorem guard_int (op : BinOp) (t : TypeId) (ox oy : Operand) (k k' : IntKind) (x y : Int) : (eqGuard op t ox oy (.int k x) (.int k' y)).run P w = .ok () w := by
  unfold eqGuard
  cases op <;> rfl
theorem guard_ptr (op : BinOp) (t : TypeId) (ox oy : Operand) (x y : Option Addr) : (eqGuard op t ox oy (.pointer x) (.pointer y)).run P w = .ok () w := by
  unfold eqGuard
  cases op <;> rfl
theorem run_eq_slice {t e : Nat} (h : P.underlying t = some (.slice e)) (x : Option Addr) (n c : Nat) : (Op.equal t (.slice x n c) (.slice none 0 0)).run P w = .ok x.isNone w := by
  unfold Op.equal; rw [depth_succ, Op.equalIn]
  cases x <;> simp [run_underlying h]
theorem guard_slice (op : BinOp) (t : TypeId) (ox oy : Operand) (x y : Option Addr) (n c n' c' : Nat) : (eqGuard op t ox oy (.slice x n c) (.slice y n' c')).run P w = .ok () w := by
  unfold eqGuard
  cases op <;> rfl
theorem run_eq_int {t : Nat} {k : IntKind} (h : P.underlying t = some (.int k)) (d : Nat) (x y : Int) : (Op.equalIn (d + 1) t (.int .i64 x) (.int .i64 y)).run P w = .ok (x == y) w := by
  rw [Op.equalIn]; simp [run_underlying h]
theorem run_part1 {t : Nat} {k : IntKind} (h : P.underlying t = some (.int k)) {cs : Array Value} {i : Nat} {v : Value} (hv : cs[i]? = some v) : (part t cs i).run P w = .ok v w := by
  unfold part isAgg; simp [run_underlying h, hv]
theorem run_eq_two {t : Nat} {ti : TI} (h : TypOk P t ti) (hq : ti.eqi = true) (a b c d : Int) : (Op.equal t (.agg #[.int .i64 a, .int .i64 b]) (.agg #[.int .i64 c, .int .i64 d])).run P w = .ok (a == c && b == d) w ∧ P.eqGuardType P.depth t = false := by
  have h1 := h.eqs
  unfold echk at h1
  simp only [hq, Bool.not_true, Bool.false_or, Bool.and_eq_true, Bool.not_eq_true'] at h1
  obtain ⟨⟨h1, h2⟩, h3⟩ := h1
  refine ⟨?_, h2⟩
  split at h3
  · rename_i fs hfs
    split at h3
    · rename_i f g hl
      simp only [Bool.and_eq_true, bne_iff_ne, ne_eq, beq_iff_eq] at h3
      obtain ⟨⟨⟨⟨n1, n2⟩, o1⟩, o2⟩, h3⟩ := h3
      split at h3
      · rename_i k1 k2 u1 u2
        have e : fs = #[f, g] := by apply Array.ext'; simpa using hl
        subst e
        unfold Op.equal; rw [depth_succ, Op.equalIn]
        have p1 := fun (x y : Int) => run_part1 (P := P) (w := w) (cs := #[.int .i64 x, .int .i64 y]) (i := 0) (v := .int .i64 x) u1 rfl
        have p2 := fun (x y : Int) => run_part1 (P := P) (w := w) (cs := #[.int .i64 x, .int .i64 y]) (i := 1) (v := .int .i64 y) u2 rfl
        have q1 := run_eq_int (P := P) (w := w) u1 9998 a c
        have q2 := run_eq_int (P := P) (w := w) u2 9998 b d
        cases hac : a == c <;> cases hbd : b == d <;> rw [hac] at q1 <;> rw [hbd] at q2 <;> simp [run_underlying hfs, h1, n1, n2, o1, o2, p1, p2, q1, q2]
      · cases h3
    · cases h3
  · cases h3
theorem guard_two {t : Nat} (h : P.eqGuardType P.depth t = false) (op : BinOp) (ox oy : Operand) (x y : Array Value) : (eqGuard op t ox oy (.agg x) (.agg y)).run P w = .ok () w := by
  unfold eqGuard
  cases op <;> simp [h]
theorem rel_oK {x : Value} {k : Nat} (h : Rel m Im w x (.o k)) : ∃ b, m.obj k = some b ∧ x = .pointer (some ⟨b, 0, none⟩) := by
  cases h with | o k b h => exact ⟨b, h, rfl⟩
theorem binD_run (hT : TabOk P T) {t : Nat} {ti : TI} (hti : tget T t = some ti) {op : BinOp} {x y : Value} {d f e : D} (hx : Rel m Im w x d) (hy : Rel m Im w y f) (hd : binD ti op d f = some e) :
    (∃ v, (binOp op t x y).run P w = .ok v w ∧ Rel m Im w v e) ∧ ∀ ox oy, (eqGuard op t ox oy x y).run P w = .ok () w := by
  obtain ⟨i, dd, h1, h2, h3, h4, h5, h6, h7, h8⟩ := (hT _ _ hti).parts
  unfold binD at hd
  split at hd
  · have := rel_v.1 hx; subst this
    have := rel_v.1 hy; subst this
    split at hd
    · rename_i hk; subst hk
      exact ⟨intD_run hd t, fun ox oy => guard_int ..⟩
    · cases hd
  · have := rel_v.1 hx; subst this
    have := rel_v.1 hy; subst this
    split at hd
    · rename_i b c hk
      rw [← h8] at hk
      cases dd <;> simp [kdOf] at hk
      exact ⟨eqD_run hd t (run_eq_bool h2 _ _) (fun op => ⟨fun e => by subst e; rfl, fun e => by subst e; rfl⟩), fun ox oy => guard_bool ..⟩
    · cases hd
  · have := rel_v.1 hy; subst this
    obtain ⟨b, hb, rfl⟩ := rel_p hx
    split at hd
    · rename_i hk
      rw [← h8] at hk
      cases dd <;> simp [kdOf] at hk
      exact ⟨eqD_run hd t (run_eq_ptr h2 _) (fun op => ⟨fun e => by subst e; rfl, fun e => by subst e; rfl⟩), fun ox oy => guard_ptr ..⟩
    · cases hd
  · have := rel_v.1 hy; subst this
    obtain ⟨b, o, rfl, _⟩ := rel_q (bl := 0) (off := 0) hx
    split at hd
    · rename_i hk
      rw [← h8] at hk
      cases dd <;> simp [kdOf] at hk
      exact ⟨eqD_run hd t (run_eq_ptr h2 _) (fun op => ⟨fun e => by subst e; rfl, fun e => by subst e; rfl⟩), fun ox oy => guard_ptr ..⟩
    · cases hd
  · have := rel_v.1 hy; subst this
    obtain ⟨b, hb, rfl⟩ := rel_oK hx
    split at hd
    · rename_i hk
      rw [← h8] at hk
      cases dd <;> simp [kdOf] at hk
      exact ⟨eqD_run hd t (run_eq_ptr h2 _) (fun op => ⟨fun e => by subst e; rfl, fun e => by subst e; rfl⟩), fun ox oy => guard_ptr ..⟩
    · cases hd
  · have := rel_v.1 hx; subst this
    have := rel_v.1 hy; subst this
    split at hd
    · rename_i hk
      rw [← h8] at hk
      cases dd <;> simp [kdOf] at hk
      exact ⟨eqD_run hd t (run_eq_ptr h2 _) (fun op => ⟨fun e => by subst e; rfl, fun e => by subst e; rfl⟩), fun ox oy => guard_ptr ..⟩
    · cases hd
  · have := rel_v.1 hx; subst this
    have := rel_v.1 hy; subst this
    split at hd
    · rename_i hk
      rw [← h8] at hk
      cases dd <;> simp [kdOf] at hk
      exact ⟨eqD_run hd t (run_eq_ptr h2 _) (fun op => ⟨fun e => by subst e; rfl, fun e => by subst e; rfl⟩), fun ox oy => guard_ptr ..⟩
    · cases hd
  · have := rel_v.1 hy; subst this
    split at hd
    · rename_i hk
      cases hx with
      | sl a c bl off n X l g h1 ha hc hn ho hr hg =>
      have ha := ha (by simp)
      subst ha
      rw [← h8] at hk
      cases dd <;> simp [kdOf] at hk
      exact ⟨eqD_run hd t (run_eq_slice h2 _ _ _) (fun op => ⟨fun e => by subst e; rfl, fun e => by subst e; rfl⟩), fun ox oy => guard_slice ..⟩
    · cases hd
  · have := rel_v.1 hx; subst this
    have := rel_v.1 hy; subst this
    split at hd
    · rename_i hk
      rw [← h8] at hk
      cases dd <;> simp [kdOf] at hk
      exact ⟨eqD_run hd t (run_eq_slice h2 _ _ _) (fun op => ⟨fun e => by subst e; rfl, fun e => by subst e; rfl⟩), fun ox oy => guard_slice ..⟩
    · cases hd
  · split at hd
    · rename_i a b c d hq
      obtain ⟨cs, rfl, hr⟩ := rel_ag.1 hx
      obtain ⟨cs', rfl, hr'⟩ := rel_ag.1 hy
      match cs, hr with
      | [u, v], hr =>
        match cs', hr' with
        | [u', v'], hr' =>
          have := rel_v.1 hr.1; subst this
          have := rel_v.1 hr.2.1; subst this
          have := rel_v.1 hr'.1; subst this
          have := rel_v.1 hr'.2.1; subst this
          obtain ⟨g1, g2⟩ := run_eq_two (P := P) (w := w) (hT _ _ hti) hq a b c d
          exact ⟨eqD_run hd t g1 (fun op => ⟨fun e => by subst e; rfl, fun e => by subst e; rfl⟩), fun ox oy => guard_two g2 ..⟩
    · cases hd
  · cases hd
theorem unD_run {op : UnOp} {x : Value} {d e : D} (hx : Rel m Im w x d) (hd : unD op d = some e) : ∃ v, (Op.unary op x).run P w = .ok v w ∧ Rel m Im w v e := by
  unfold unD at hd
  split at hd
  · cases hd; have := rel_v.1 hx; subst this
    exact ⟨_, by simp [Op.unary], .v _⟩
  · cases hd; have := rel_v.1 hx; subst this
    exact ⟨_, by simp [Op.unary, Op.intArith], .v _⟩
  · cases hd

theorem St.evI (h : St cx Fr m Im w a σ) {x : Option Operand} {i : Option Int} (hx : Go.Proofs.Ytdmiekaeodcehaa.evI σ x = some i) : x.map a.eval = i.map (.int .i64) := by
  cases x with
  | none => cases hx; rfl
  | some x =>
    simp only [Go.Proofs.Ytdmiekaeodcehaa.evI] at hx
    split at hx
    · rename_i i hi
      cases hx
      have := rel_v.1 (h.ev hi)
      simp [this]
    · cases hx
theorem pval_run (hT : TabOk P T) (h : St cx Fr m Im w a σ) {o : Oper} {e : D} (hd : pval T σ o = some e) : ∃ v, (execOp a.eval o).run P w = .ok (.value v) w ∧ Rel m Im w v e := by
  unfold pval at hd
  unfold execOp
  split at hd
  · rename_i x ho; simp only [ho]; exact ⟨_, by simp, h.ev hd⟩
  · rename_i x ho; simp only [ho]; exact ⟨_, by simp, h.ev hd⟩
  · rename_i c x y ho
    simp only [ho]
    unfold pickD at hd
    split at hd
    · rename_i t hc
      have hc' := rel_v.1 (h.ev hc)
      cases t with
      | true => exact ⟨a.eval x, by simp [hc', asBool], h.ev hd⟩
      | false => exact ⟨a.eval y, by simp [hc', asBool], h.ev hd⟩
    · cases hd
  · rename_i t x ho
    simp only [ho]
    obtain ⟨d, q1, q2⟩ := bind_some hd
    obtain ⟨v, r1, r2⟩ := ldD_run hT h (h.ev q1) q2
    exact ⟨v, by simp [r1], r2⟩
  · rename_i x ho
    simp only [ho]
    obtain ⟨d, q1, q2⟩ := bind_some hd
    have hx := h.ev q1
    unfold nilD at q2
    split at q2
    · cases q2; obtain ⟨b, hb, e⟩ := rel_p hx; rw [e] at hx ⊢; exact ⟨_, by simp, hx⟩
    · cases q2; obtain ⟨b, o, e, _⟩ := rel_q (bl := 0) (off := 0) hx; rw [e] at hx ⊢; exact ⟨_, by simp, hx⟩
    · cases q2; obtain ⟨b, hb, e⟩ := rel_oK hx; rw [e] at hx ⊢; exact ⟨_, by simp, hx⟩
    · cases q2; have e := rel_v.1 hx; rw [e]; exact ⟨_, by simp, .v _⟩
    · cases q2; obtain ⟨cs, e, _⟩ := rel_fn.1 hx; rw [e] at hx ⊢; exact ⟨_, by simp, hx⟩
    · cases q2
  · rename_i op t x y _ ho
    simp only [ho]
    unfold bin2 at hd
    split at hd
    · rename_i ti d f h1 h2 h3
      obtain ⟨⟨v, r1, r2⟩, r3⟩ := binD_run hT h1 (h.ev h2) (h.ev h3) hd
      exact ⟨v, by simp [r3, r1], r2⟩
    · cases hd
  · rename_i op t x ho
    simp only [ho]
    obtain ⟨d, q1, q2⟩ := bind_some hd
    obtain ⟨v, r1, r2⟩ := unD_run (P := P) (h.ev q1) q2
    exact ⟨v, by simp [r1], r2⟩
  · rename_i t t2 x ho
    simp only [ho]
    obtain ⟨d, q1, q2⟩ := bind_some hd
    obtain ⟨v, r1, r2⟩ := convD_run (P := P) hT (h.ev q1) q2
    exact ⟨v, by simp [r1], r2⟩
  · rename_i t x f ho
    simp only [ho]
    obtain ⟨d, q1, q2⟩ := bind_some hd
    obtain ⟨v, r1, r2⟩ := fieldD_run hT (h.ev q1) q2
    exact ⟨v, by simp [r1], r2⟩
  · rename_i t x f ho
    simp only [ho]
    obtain ⟨d, q1, q2⟩ := bind_some hd
    obtain ⟨v, r1, r2⟩ := faddrD_run hT (h.ev q1) q2
    exact ⟨v, by simp [r1], r2⟩
  · rename_i t x y ho
    simp only [ho]
    obtain ⟨d, q1, q2⟩ := bind_some hd
    obtain ⟨f, q3, q4⟩ := bind_some q2
    obtain ⟨v, r1, r2⟩ := iaddrD_run hT (h.ev q1) (h.ev q3) q4
    exact ⟨v, by simp [r1], r2⟩
  · rename_i x i ho
    simp only [ho]
    obtain ⟨d, q1, q2⟩ := bind_some hd
    unfold extractD at q2
    split at q2
    · rename_i l
      obtain ⟨cs, e, hr⟩ := rel_tu.1 (h.ev q1)
      have hlt : i < l.length := by
        rcases Nat.lt_or_ge i l.length with h' | h'
        · exact h'
        · rw [List.getElem?_eq_none h'] at q2; cases q2
      rw [List.getElem?_eq_getElem hlt] at q2
      cases q2
      have hlt2 : i < cs.length := by rw [(relL_iff.1 hr).1]; exact hlt
      refine ⟨cs[i], by simp [e, Instr.extract, hlt2], ?_⟩
      have := (relL_iff.1 hr).2 i hlt
      simpa [List.getD_eq_getElem?_getD, List.getElem?_eq_getElem hlt2] using this
    · cases q2
  · rename_i f first caps ho
    simp only [ho]
    unfold makeFnD at hd
    split at hd
    · rename_i f' hfirst
      cases hc : evs σ caps.toList with
      | none => rw [hc] at hd; cases hd
      | some ds =>
        rw [hc] at hd
        cases hd
        have hr := h.evs hc
        have hf0 : first = #[] := by apply Array.ext'; simpa using hfirst
        subst hf0
        refine ⟨.func (.func f') #[] (caps.map a.eval), by simp [Instr.makeFunc], rel_fn.2 ⟨_, ?_, hr⟩⟩
        congr 1
        apply Array.ext'
        simp
    · cases hd
  · rename_i t parts ho
    simp only [ho]
    obtain ⟨v, r1, r2⟩ := buildD_run hT h hd
    exact ⟨v, by simp [r1], r2⟩
  · rename_i t x lo hi mx ho
    simp only [ho]
    unfold slD at hd
    split at hd
    · rename_i d i j k h1 h2 h3 h4
      obtain ⟨v, r1, r2⟩ := sliceD_run (P := P) hT (h.ev h1) (h.evI h2) (h.evI h3) (h.evI h4) hd
      exact ⟨v, by simp [r1], r2⟩
    · cases hd
  · rename_i c ho
    simp only [ho]
    split at hd
    · rename_i x t h1 h2 h3
      obtain ⟨d, q1, q2⟩ := bind_some hd
      obtain ⟨v, r1, r2⟩ := lenD_run (P := P) (ty := o.type) hT (h.ev q1) q2
      have e2 : c.args = #[x] := by apply Array.ext'; simpa using h2
      have e3 : c.argTypes = #[t] := by apply Array.ext'; simpa using h3
      exact ⟨v, by simp [resolve, h1, e2, e3, invoke, builtin, r1], r2⟩
    · rename_i x y t t' h1 h2 h3
      obtain ⟨d, q1, hd⟩ := bind_some hd
      obtain ⟨e', q2, hd⟩ := bind_some hd
      have e2 : c.args = #[x, y] := by apply Array.ext'; simpa using h2
      have e3 : c.argTypes = #[t, t'] := by apply Array.ext'; simpa using h3
      unfold minD at hd
      split at hd
      · rename_i a' b' _
        cases hd
        have g1 := rel_v.1 (h.ev q1)
        have g2 := rel_v.1 (h.ev q2)
        have e4 : (if b' < a' then b' else a') = min a' b' := by omega
        exact ⟨_, by simp [resolve, h1, e2, e3, invoke, builtin, g1, g2, Builtin.min_, Builtin.min2, e4], .v _⟩
      · cases hd
    · rename_i x y t t' h1 h2 h3
      obtain ⟨d, q1, hd⟩ := bind_some hd
      obtain ⟨e', q2, hd⟩ := bind_some hd
      have e2 : c.args = #[x, y] := by apply Array.ext'; simpa using h2
      have e3 : c.argTypes = #[t, t'] := by apply Array.ext'; simpa using h3
      unfold maxD at hd
      split at hd
      · rename_i a' b' _
        cases hd
        have g1 := rel_v.1 (h.ev q1)
        have g2 := rel_v.1 (h.ev q2)
        have e4 : (if b' > a' then b' else a') = max a' b' := by omega
        exact ⟨_, by simp [resolve, h1, e2, e3, invoke, builtin, g1, g2, Builtin.max_, Builtin.max2, e4], .v _⟩
      · cases hd
    · cases hd
  · cases hd
end
end Go.Proofs.Ytdmiekaeodcehaa

namespace Go.Proofs.Ytdmiekaeodcehaa
open Go.RowKit

section
variable {P : Program} {T : List (Nat × TI)} {cx : Cx} {Fr Fr' : Nat → Prop} {m m' : Mp} {Im Im' : Nat → Nat → Prop} {w w' : World} {a : Act} {σ σ' : List (Key × D)}
theorem St.less (h : St cx Fr m Im w a σ) (hf : ∀ k, Fr' k → Fr k) : St cx Fr' m Im w a σ := { h with mem := { h.mem with fr := fun k hk => h.mem.fr k (hf k hk) } }

theorem rel_sl {x : Value} {n : Nat} {l : List (List D)} {g : Option Nat} (h : Rel m Im w x (.sl n l g)) : ∃ (a : Option Addr) (c bl off : Nat) (X : Nat → Nat → Value), x = .slice a l.length c ∧ (l.length ≤ maxLen ∧ l.length ≤ c) ∧ (0 < l.length → a = some ⟨bl, off, none⟩) ∧
    (∀ i j, i < l.length → j < n → w.cell? ⟨bl, off + i * n + j, none⟩ = some (X i j) ∧ Im bl (off + i * n + j)) ∧ (∀ i (h : i < l.length), l[i].length = n) ∧ (∀ i j, i < l.length → j < n → (X i j).oneCell' = true) ∧
    (∀ i (h : i < l.length) j (h' : j < l[i].length), Rel m Im w (X i j) l[i][j]) ∧ (∀ r, g = some r → ∃ R, m.row r = some R ∧ l.length ≤ R.len ∧ (l.length = R.len → R.hv = x)) := by
  cases h with
  | sl a c bl off n X l g h1 ha hc hn ho hr hg => exact ⟨a, c, bl, off, X, rfl, h1, ha, hc, hn, ho, hr, hg⟩

theorem St.rowOf (h : St cx Fr m Im w a σ) {g : Nat} (hg : Fr g) (cs : List Value) (L n E : Nat) (hl : cs.length = L * n) (hL : L ≤ maxLen) :
    ∃ Im', (∀ b o, Im b o → Im' b o) ∧ (∀ o, o < L * n → Im' w.heap.size o) ∧ St cx (minus Fr g) (m.setR g ⟨.slice (some ⟨w.heap.size, 0, none⟩) L L, L, E, n⟩) Im' (w.alloc (.cells cs.toArray E)) a (put1 (.r g) (.rw E n L) σ) ∧ m.le (m.setR g ⟨.slice (some ⟨w.heap.size, 0, none⟩) L L, L, E, n⟩) := by
  have hb : Below w.heap.size w (w.alloc (.cells cs.toArray E)) := (Below.refl _ _).alloc (Nat.le_refl _) _
  have hB := Blk.new w cs.toArray E rfl
  have hcell : ∀ o, o < L * n → ∃ v, (w.alloc (.cells cs.toArray E)).cell? ⟨w.heap.size, o, none⟩ = some v := fun o ho => ⟨cs[o]'(by omega), hB.cell (by simp [show o < cs.length by omega])⟩
  have h1 := h.below (Im' := fun b o => Im b o ∨ (b = w.heap.size ∧ o < L * n)) hb (fun _ _ h => .inl h) (fun b o hh => hh.imp id fun e => by rw [e.1]; exact Nat.le_refl _) (fun b o hh => by
    rcases hh with hh | ⟨rfl, ho⟩
    · obtain ⟨v, hv⟩ := h.mem.im b o hh
      exact ⟨v, (hb.cell (p := ⟨b, o, none⟩) (ltOfCell hv)).trans hv⟩
    · exact hcell o ho)
  have hle : m.le (m.setR g ⟨.slice (some ⟨w.heap.size, 0, none⟩) L L, L, E, n⟩) := Mp.setR_le fun R0 h0 => by rw [(h.mem.fr g hg).2.1] at h0; cases h0
  refine ⟨fun b o => Im b o ∨ (b = w.heap.size ∧ o < L * n), fun _ _ h => .inl h, fun o ho => .inr ⟨rfl, ho⟩, ?_, hle⟩
  have hcase : ∀ {x R}, (m.setR g ⟨.slice (some ⟨w.heap.size, 0, none⟩) L L, L, E, n⟩).row x = some R → (x = g ∧ R = ⟨.slice (some ⟨w.heap.size, 0, none⟩) L L, L, E, n⟩) ∨ (x ≠ g ∧ m.row x = some R) := fun {x R} hx => by
    by_cases e : x = g
    · left; simp [Mp.setR, e] at hx; exact ⟨e, hx.symm⟩
    · right; simp [Mp.setR, e] at hx; exact ⟨e, hx⟩
  have hold : ∀ x R b, m.row x = some R → R.hv.ownBlock = some b → b < w.heap.size := fun x R b hx ho => by
    obtain ⟨xs, hxs⟩ := h.mem.row x R hx
    exact (row_lt hxs ho).2
  refine ⟨{ h1.mem with row := ?_, rIm := ?_, rblk := ?_, rinj := ?_, fr := ?_, rown := (fun x R b hx ho => (hcase hx).elim (fun e => by obtain ⟨_, rfl⟩ := e; cases ho; exact .inl h.mem.off.size) fun e => h.mem.rown x R b e.2 ho), m0r := h.mem.m0r_le hle, orow := ?_ }, h1.df, h1.nt, fun x d hx => (h1.tm x d (by rw [get_put1, if_neg (by simp [Key.eq])] at hx; exact hx)).mono hle (KeepI.refl _ _) (fun _ _ h => h), fun x off d hx => ?_, fun x d hx => ?_, fun d hd => ?_, fun x d hd => ?_⟩
  · intro x R hx
    rcases hcase hx with ⟨_, rfl⟩ | ⟨_, hx⟩
    · exact ⟨cs.toArray.toList, World.ownsRow_lit w cs.toArray L (Nat.zero_le _) hL (by simpa using hl)⟩
    · exact h1.mem.row x R hx
  · intro x R b o hx
    rcases hcase hx with ⟨_, rfl⟩ | ⟨_, hx⟩
    · intro e hh
      cases e
      rcases hh with hh | hh
      · obtain ⟨v, hv⟩ := h.mem.im _ _ hh
        exact absurd (ltOfCell hv) (Nat.lt_irrefl _)
      · exact hh.2
    · exact h1.mem.rIm x R b o hx
  · intro x R b k hx
    rcases hcase hx with ⟨_, rfl⟩ | ⟨_, hx⟩
    · intro e hk; cases e; exact absurd (h.mem.lt k _ hk) (Nat.lt_irrefl _)
    · exact h1.mem.rblk x R b k hx
  · intro x y R R' b hx hy ho ho'
    rcases hcase hx with ⟨e1, e2⟩ | ⟨_, hx⟩ <;> rcases hcase hy with ⟨e3, e4⟩ | ⟨_, hy⟩
    · rw [e1, e3]
    · subst e2; cases ho; exact absurd (hold y R' _ hy ho') (Nat.lt_irrefl _)
    · subst e4; cases ho'; exact absurd (hold x R _ hx ho) (Nat.lt_irrefl _)
    · exact h1.mem.rinj x y R R' b hx hy ho ho'
  · intro x hx; refine ⟨(h.mem.fr x hx.1).1, ?_, (h.mem.fr x hx.1).2.2⟩; simp [Mp.setR, hx.2, (h.mem.fr x hx.1).2.1]
  · intro x y R b hx hy
    rcases hcase hy with ⟨_, rfl⟩ | ⟨_, hy⟩
    · intro e; cases e; exact absurd (h.mem.olt x _ hx) (Nat.lt_irrefl _)
    · exact h1.mem.orow x y R b hx hy
  · rw [get_put1, if_neg (by simp [Key.eq])] at hx
    obtain ⟨c, v, q1, q2, q3⟩ := h1.ce x off d hx
    exact ⟨c, v, q1, q2, q3.mono hle (KeepI.refl _ _) (fun _ _ h => h)⟩
  · rw [get_put1] at hx
    by_cases he : Key.eq (.r g) (.r x) = true
    · rw [if_pos he] at hx
      cases hx
      have := Key.eq_iff.1 he
      cases this
      exact ⟨⟨.slice (some ⟨w.heap.size, 0, none⟩) L L, L, E, n⟩, by simp [Mp.setR], .rw⟩
    · rw [if_neg he] at hx
      obtain ⟨R, q1, q2⟩ := h1.ro x d hx
      have hne : x ≠ g := fun e => he (by rw [e]; exact Key.eq_refl _)
      exact ⟨R, by simp [Mp.setR, hne, q1], q2.mono (fun _ _ => rfl) hle (KeepI.refl _ _) (fun _ _ h => h) fun _ _ _ h => h⟩
  · rw [get_put1, if_neg (by simp [Key.eq])] at hd
    obtain ⟨X, J, rfl, hX⟩ := h.jk d hd
    obtain ⟨X', J', e, hX1⟩ := h1.jk _ hd
    cases e
    refine ⟨X, J, rfl, { hX1 with row := fun c x R hc hx => ?_ }⟩
    rcases hcase hx with ⟨_, rfl⟩ | ⟨_, hx⟩
    · intro e; cases e; exact absurd (hX.lt _ hc) (Nat.lt_irrefl _)
    · exact hX1.row c x R hc hx
  · rw [get_put1, if_neg (by simp [Key.eq])] at hd
    obtain ⟨c, q1, q2⟩ := h1.ok x d hd
    exact ⟨c, q1, q2.mono rfl hle (KeepI.refl _ _) fun _ _ h => h⟩
theorem St.rowMade (h : St cx Fr m Im w a σ) {g : Nat} (hg : Fr g) (hv : Value) (E n : Nat) (hb : Below w.heap.size w w') (hown : w'.ownsRow 0 E n hv 0 []) (hob : hv.ownBlock = some w.heap.size) :
    St cx (minus Fr g) (m.setR g ⟨hv, 0, E, n⟩) Im w' a (put1 (.r g) (.rw E n 0) σ) ∧ m.le (m.setR g ⟨hv, 0, E, n⟩) := by
  have h1 := h.below0 hb
  have hle : m.le (m.setR g ⟨hv, 0, E, n⟩) := Mp.setR_le fun R0 h0 => by rw [(h.mem.fr g hg).2.1] at h0; cases h0
  refine ⟨?_, hle⟩
  have hcase : ∀ {x R}, (m.setR g ⟨hv, 0, E, n⟩).row x = some R → (x = g ∧ R = ⟨hv, 0, E, n⟩) ∨ (x ≠ g ∧ m.row x = some R) := fun {x R} hx => by
    by_cases e : x = g
    · left; simp [Mp.setR, e] at hx; exact ⟨e, hx.symm⟩
    · right; simp [Mp.setR, e] at hx; exact ⟨e, hx⟩
  have hold : ∀ x R b, m.row x = some R → R.hv.ownBlock = some b → b < w.heap.size := fun x R b hx ho => by
    obtain ⟨xs, hxs⟩ := h.mem.row x R hx
    exact (row_lt hxs ho).2
  refine ⟨{ h1.mem with row := ?_, rIm := ?_, rblk := ?_, rinj := ?_, fr := ?_, rown := (fun x R b hx ho => (hcase hx).elim (fun e => by obtain ⟨_, rfl⟩ := e; have ho : hv.ownBlock = some b := ho; rw [hob] at ho; cases ho; exact .inl h.mem.off.size) fun e => h.mem.rown x R b e.2 ho), m0r := h.mem.m0r_le hle, orow := ?_ }, h1.df, h1.nt, fun x d hx => (h1.tm x d (by rw [get_put1, if_neg (by simp [Key.eq])] at hx; exact hx)).mono hle (KeepI.refl _ _) (fun _ _ h => h), fun x off d hx => ?_, fun x d hx => ?_, fun d hd => ?_, fun x d hd => ?_⟩
  · intro x R hx
    rcases hcase hx with ⟨_, rfl⟩ | ⟨_, hx⟩
    · exact ⟨[], hown⟩
    · exact h1.mem.row x R hx
  · intro x R b o hx
    rcases hcase hx with ⟨_, rfl⟩ | ⟨_, hx⟩
    · intro e hh
      have e : hv.ownBlock = some b := e
      rw [hob] at e; cases e
      obtain ⟨v, hv⟩ := h.mem.im _ _ hh
      exact absurd (ltOfCell hv) (Nat.lt_irrefl _)
    · exact h1.mem.rIm x R b o hx
  · intro x R b k hx
    rcases hcase hx with ⟨_, rfl⟩ | ⟨_, hx⟩
    · intro e hk
      have e : hv.ownBlock = some b := e
      rw [hob] at e; cases e; exact absurd (h.mem.lt k _ hk) (Nat.lt_irrefl _)
    · exact h1.mem.rblk x R b k hx
  · intro x y R R' b hx hy ho ho'
    rcases hcase hx with ⟨e1, e2⟩ | ⟨_, hx⟩ <;> rcases hcase hy with ⟨e3, e4⟩ | ⟨_, hy⟩
    · rw [e1, e3]
    · subst e2
      have ho : hv.ownBlock = some b := ho
      rw [hob] at ho; cases ho; exact absurd (hold y R' _ hy ho') (Nat.lt_irrefl _)
    · subst e4
      have ho' : hv.ownBlock = some b := ho'
      rw [hob] at ho'; cases ho'; exact absurd (hold x R _ hx ho) (Nat.lt_irrefl _)
    · exact h1.mem.rinj x y R R' b hx hy ho ho'
  · intro x hx; refine ⟨(h.mem.fr x hx.1).1, ?_, (h.mem.fr x hx.1).2.2⟩; simp [Mp.setR, hx.2, (h.mem.fr x hx.1).2.1]
  · intro x y R b hx hy
    rcases hcase hy with ⟨_, rfl⟩ | ⟨_, hy⟩
    · intro e
      have e : hv.ownBlock = some b := e
      rw [hob] at e; cases e; exact absurd (h.mem.olt x _ hx) (Nat.lt_irrefl _)
    · exact h1.mem.orow x y R b hx hy
  · rw [get_put1, if_neg (by simp [Key.eq])] at hx
    obtain ⟨c, v, q1, q2, q3⟩ := h1.ce x off d hx
    exact ⟨c, v, q1, q2, q3.mono hle (KeepI.refl _ _) (fun _ _ h => h)⟩
  · rw [get_put1] at hx
    by_cases he : Key.eq (.r g) (.r x) = true
    · rw [if_pos he] at hx
      cases hx
      have := Key.eq_iff.1 he
      cases this
      exact ⟨⟨hv, 0, E, n⟩, by simp [Mp.setR], .rw⟩
    · rw [if_neg he] at hx
      obtain ⟨R, q1, q2⟩ := h1.ro x d hx
      have hne : x ≠ g := fun e => he (by rw [e]; exact Key.eq_refl _)
      exact ⟨R, by simp [Mp.setR, hne, q1], q2.mono (fun _ _ => rfl) hle (KeepI.refl _ _) (fun _ _ h => h) fun _ _ _ h => h⟩
  · rw [get_put1, if_neg (by simp [Key.eq])] at hd
    obtain ⟨X, J, rfl, hX⟩ := h.jk d hd
    obtain ⟨X', J', e, hX1⟩ := h1.jk _ hd
    cases e
    refine ⟨X, J, rfl, { hX1 with row := fun c x R hc hx => ?_ }⟩
    rcases hcase hx with ⟨_, rfl⟩ | ⟨_, hx⟩
    · intro e
      have e : hv.ownBlock = some c := e
      rw [hob] at e; cases e; exact absurd (hX.lt _ hc) (Nat.lt_irrefl _)
    · exact hX1.row c x R hc hx
  · rw [get_put1, if_neg (by simp [Key.eq])] at hd
    obtain ⟨c, q1, q2⟩ := h1.ok x d hd
    exact ⟨c, q1, q2.mono rfl hle (KeepI.refl _ _) fun _ _ h => h⟩
end
end Go.Proofs.Ytdmiekaeodcehaa

namespace Go.Proofs.Ytdmiekaeodcehaa
open Go.RowKit

def mfind : List (Int × D) → Int → Option D
  | [], _ => none
  | (k, d) :: r, n => if n = k then some d else mfind r n
def mput : List (Int × D) → Int → D → List (Int × D)
  | [], n, d => [(n, d)]
  | (k, e) :: r, n, d => if n = k then (k, d) :: r else (k, e) :: mput r n d
def zD (ti : TI) : D := if ti.ag then .ag (ti.z.map .v) else .v (ti.z.headD undef)

section
variable {P : Program} {T : List (Nat × TI)} {cx : Cx} {Fr Fr' : Nat → Prop} {m m' : Mp} {Im Im' : Nat → Nat → Prop} {w w' : World} {a : Act} {σ σ' : List (Key × D)}
def MRel (m : Mp) (Im : Nat → Nat → Prop) (w : World) : List MapEntry → List (Int × D) → Prop
  | [], [] => True
  | e :: es, p :: l => e.key = .int .i64 p.1 ∧ Rel m Im w e.val p.2 ∧ MRel m Im w es l
  | _, _ => False
theorem mrel_iff : ∀ {es : List MapEntry} {l : List (Int × D)}, MRel m Im w es l ↔ es.length = l.length ∧ (∀ i (h : i < l.length), (es[i]?).map (·.key) = some (.int .i64 l[i].1)) ∧ ∀ i (h : i < l.length) v, (es[i]?).map (·.val) = some v → Rel m Im w v l[i].2
  | [], [] => by simp [MRel]
  | [], _ :: _ => by simp [MRel]
  | _ :: _, [] => by simp [MRel]
  | e :: es, p :: l => by
    simp only [MRel, mrel_iff (es := es) (l := l), List.length_cons]
    constructor
    · rintro ⟨h1, h2, h3, h4, h5⟩
      refine ⟨by omega, fun i h => ?_, fun i h v hv => ?_⟩
      · cases i with
        | zero => simp [h1]
        | succ i => simpa using h4 i (by omega)
      · cases i with
        | zero => simp at hv; rw [← hv]; exact h2
        | succ i => exact h5 i (by omega) v (by simpa using hv)
    · rintro ⟨h1, h2, h3⟩
      refine ⟨by simpa using h2 0 (by omega), h3 0 (by omega) _ (by simp), by omega, fun i h => ?_, fun i h v hv => h3 (i + 1) (by omega) v (by simpa using hv)⟩
      have := h2 (i + 1) (by omega)
      rw [List.getElem?_cons_succ] at this
      exact this
theorem obOk_mp {b : Nat} {l : List (Int × D)} : ObOk m Im w b (.mp l) ↔ ∃ (es : Array MapEntry) (clock : Nat), w.heap[b]? = some (.map es clock) ∧ MRel m Im w es.toList l ∧ BornOk es clock := by
  constructor
  · intro h
    cases h with
    | mp es clock l h1 h2 h3 h4 h5 => exact ⟨es, clock, h1, mrel_iff.2 ⟨by simpa using h2, fun i h => by simpa using h3 i h, fun i h v hv => h4 i h v (by simpa using hv)⟩, h5⟩
  · rintro ⟨es, clock, h1, h2, h5⟩
    obtain ⟨q1, q2, q3⟩ := mrel_iff.1 h2
    exact .mp es clock l h1 (by simpa using q1) (fun i h => by simpa using q2 i h) (fun i h v hv => q3 i h v (by simpa using hv)) h5
theorem MRel.mono {es : List MapEntry} {l : List (Int × D)} (h : MRel m Im w es l) (hm : m.le m') (hk : KeepI Im w w') (hi : ∀ b o, Im b o → Im' b o) : MRel m' Im' w' es l := by
  rw [mrel_iff] at h ⊢
  exact ⟨h.1, h.2.1, fun i hl v hv => (h.2.2 i hl v hv).mono hm hk hi⟩
theorem find_map (n : Int) : ∀ {es : List MapEntry} {l : List (Int × D)} (i0 : Nat), MRel m Im w es l →
    (mfind l n = none ∧ Instr.findNow (.int .i64) (.int .i64 n) es i0 = some none ∧ ∀ d, mput l n d = l ++ [(n, d)]) ∨
    ∃ i v d, mfind l n = some d ∧ Instr.findNow (.int .i64) (.int .i64 n) es i0 = some (some (i0 + i, v)) ∧ Rel m Im w v d ∧ (es[i]?).map (·.key) = some (.int .i64 n) ∧
      ∀ v' d', Rel m Im w v' d' → MRel m Im w (es.modify i fun e => { e with val := v' }) (mput l n d')
  | [], [], i0, _ => .inl ⟨rfl, rfl, fun _ => rfl⟩
  | [], _ :: _, _, h => h.elim
  | _ :: _, [], _, h => h.elim
  | e :: es, (k, d) :: l, i0, h => by
    obtain ⟨h1, h2, h3⟩ := h
    by_cases hn : n = k
    · subst hn
      refine .inr ⟨0, e.val, d, by simp [mfind], by simp [Instr.findNow, h1, Instr.sameNow], h2, by simp [h1], fun v' d' hr => ?_⟩
      simp only [mput, if_true, List.modify_zero_cons]
      exact ⟨h1, hr, h3⟩
    · have hb : (n == k) = false := by simpa using hn
      rcases find_map n (i0 + 1) h3 with ⟨g1, g2, g3⟩ | ⟨i, v, d', g1, g2, g3, g4, g5⟩
      · refine .inl ⟨by simp [mfind, hn, g1], by simp [Instr.findNow, h1, Instr.sameNow, hb, g2], fun d => by simp [mput, hn, g3]⟩
      · refine .inr ⟨i + 1, v, d', by simp [mfind, hn, g1], by simp [Instr.findNow, h1, Instr.sameNow, hb, g2]; omega, g3, by simpa using g4, fun v' d2 hr => ?_⟩
        simp only [mput, if_neg hn, List.modify_succ_cons]
        exact ⟨h1, h2, g5 v' d2 hr⟩
theorem check_int {t : Nat} (h : P.underlying t = some (.int .i64)) (e : Bool) (n : Int) : (Instr.checkKey e 10000 t (.int .i64 n)).run P w = .ok () w := by
  rw [show (10000 : Nat) = 9999 + 1 from rfl, Instr.checkKey]
  simp [run_underlying h]
theorem zD_rel {t : Nat} {ti : TI} (hz : TypOk P t ti) : ∃ v, (zeroValue t).run P w = .ok v w ∧ Rel m Im w v (zD ti) := by
  obtain ⟨i, d, h1, h2, h3, h4, h5, h6, h7, h8⟩ := hz.parts
  refine ⟨zeroOf ti, by simp [zeroValue, typeInfo, h1, h5], ?_⟩
  unfold zeroOf zD
  cases ti.ag with
  | true =>
    refine rel_ag.2 ⟨ti.z, rfl, ?_⟩
    induction ti.z with
    | nil => trivial
    | cons x l ih => exact ⟨.v x, ih⟩
  | false => exact .v _
theorem look_run (h : St cx Fr m Im w a σ) {t e : Nat} {ti te : TI} (ht : TypOk P t ti) (he : ti.mv = some e) (hte : TypOk P e te) {k : Nat} {l : List (Int × D)} (hl : get σ (.o k) = some (.mp l)) {x : Value} (hx : Rel m Im w x (.mo k)) (n : Int) (ok : Bool) :
    ∃ v, (Instr.lookup t x (.int .i64 n) ok).run P w = .ok v w ∧ Rel m Im w v (if ok then .tu [(mfind l n).getD (zD te), .v (.bool (mfind l n).isSome)] else (mfind l n).getD (zD te)) := by
  obtain ⟨b, h1, h2⟩ := h.ok k _ hl
  obtain ⟨es, clock, h3, h4, hbn⟩ := obOk_mp.1 h2
  obtain ⟨kt, g1, g2⟩ := ht.map he
  have hxb : x = .map (some b) := by
    cases hx with
    | mo k b' hb => rw [h1] at hb; cases hb; rfl
  subst hxb
  obtain ⟨z, z1, z2⟩ := zD_rel (m := m) (Im := Im) (w := w) hte
  have hget : (getObj b).run P w = .ok (.map es clock) w := by simp [getObj, Sem.run, h3]
  have hc := check_int (P := P) (w := w) g2 es.isEmpty n
  rcases find_map n 0 h4 with ⟨f1, f2, _⟩ | ⟨i, v, d, f1, f2, f3, _, _⟩
  · have hf : (Instr.findKey kt (.int .i64 n) es.toList).run P w = .ok none w := by simp [Instr.findKey, run_underlying g2, f2]
    cases ok with
    | true => exact ⟨.tuple #[z, .bool false], by simp [Instr.lookup, run_underlying g1, hget, hc, hf, z1], by rw [f1]; exact rel_tu.2 ⟨[z, .bool false], rfl, z2, .v _, trivial⟩⟩
    | false => exact ⟨z, by simp [Instr.lookup, run_underlying g1, hget, hc, hf, z1], by rw [f1]; exact z2⟩
  · have hf : (Instr.findKey kt (.int .i64 n) es.toList).run P w = .ok (some (0 + i, v)) w := by simp [Instr.findKey, run_underlying g2, f2]
    cases ok with
    | true => exact ⟨.tuple #[v, .bool true], by simp [Instr.lookup, run_underlying g1, hget, hc, hf], by rw [f1]; exact rel_tu.2 ⟨[v, .bool true], rfl, f3, .v _, trivial⟩⟩
    | false => exact ⟨v, by simp [Instr.lookup, run_underlying g1, hget, hc, hf], by rw [f1]; exact f3⟩
theorem MRel.append : ∀ {es fs : List MapEntry} {l r : List (Int × D)}, MRel m Im w es l → MRel m Im w fs r → MRel m Im w (es ++ fs) (l ++ r)
  | [], _, [], _, _, h => h
  | [], _, _ :: _, _, h, _ => h.elim
  | _ :: _, _, [], _, h, _ => h.elim
  | _ :: _, _, _ :: _, _, h, h' => ⟨h.1, h.2.1, h.2.2.append h'⟩
theorem BornOk.push {es : Array MapEntry} {clock : Nat} (h : BornOk es clock) (k v : Value) : BornOk (es.push { key := k, val := v, born := clock }) (clock + 1) := by
  refine ⟨?_, fun e he => ?_⟩
  · rw [Array.toList_push, List.map_append, List.map_cons, List.map_nil]
    refine List.nodup_append.2 ⟨h.1, by simp, ?_⟩
    intro a ha b hb e
    obtain ⟨x, hx, rfl⟩ := List.mem_map.1 ha
    have := h.2 x hx
    rw [List.mem_singleton] at hb
    simp only at hb
    omega
  · rw [Array.toList_push] at he
    rcases List.mem_append.1 he with he | he
    · have := h.2 e he; omega
    · rw [List.mem_singleton] at he; subst he; simp
theorem map_modify_same {α β : Type} (g : α → β) (f : α → α) (hf : ∀ x, g (f x) = g x) : ∀ (l : List α) (i : Nat), (l.modify i f).map g = l.map g
  | [], i => by cases i <;> rfl
  | x :: l, 0 => by simp [hf]
  | x :: l, i + 1 => by simp [map_modify_same g f hf l i]
theorem BornOk.same {es es' : Array MapEntry} {clock : Nat} (h : BornOk es clock) (he : es'.toList.map (·.born) = es.toList.map (·.born)) : BornOk es' clock := by
  refine ⟨by rw [he]; exact h.1, fun e hm => ?_⟩
  have : e.born ∈ es'.toList.map (·.born) := List.mem_map.2 ⟨e, hm, rfl⟩
  rw [he] at this
  obtain ⟨x, hx, q⟩ := List.mem_map.1 this
  rw [← q]; exact h.2 x hx
theorem upd_run (h : St cx Fr m Im w a σ) {t e : Nat} {ti : TI} (ht : TypOk P t ti) (he : ti.mv = some e) {k : Nat} {l : List (Int × D)} (hl : get σ (.o k) = some (.mp l)) {x v : Value} {d : D} (hx : Rel m Im w x (.mo k)) (n : Int) (hv : Rel m Im w v d) :
    ∃ w', (Instr.mapUpdate t x (.int .i64 n) v).run P w = .ok () w' ∧ KeepI Im w w' ∧ St cx Fr m Im w' a (put1 (.o k) (.mp (mput l n d)) σ) := by
  obtain ⟨b, h1, h2⟩ := h.ok k _ hl
  obtain ⟨es, clock, h3, h4, hbn⟩ := obOk_mp.1 h2
  obtain ⟨kt, g1, g2⟩ := ht.map he
  have hxb : x = .map (some b) := by
    cases hx with
    | mo k b' hb => rw [h1] at hb; cases hb; rfl
  subst hxb
  have hget : (getObj b).run P w = .ok (.map es clock) w := by simp [getObj, Sem.run, h3]
  have hset : ∀ o, (setObj b o).run P w = .ok () { w with heap := w.heap.setIfInBounds b o } := fun o => by simp [setObj, Sem.run, h3]
  have hc := check_int (P := P) (w := w) g2 false n
  have hki : ∀ o, KeepI Im w { w with heap := w.heap.setIfInBounds b o } := fun o c y u hi hu => by
    refine (World.cell?_of_block (w := w) (w' := { w with heap := w.heap.setIfInBounds b o }) (a := ⟨c, y, none⟩) ?_).trans hu
    exact Array.getElem?_setIfInBounds_ne (by rintro rfl; exact h.mem.onim k _ y h1 hi)
  rcases find_map n 0 h4 with ⟨f1, f2, f3⟩ | ⟨i, u, d', f1, f2, f3, f4, f5⟩
  · have hf : (Instr.findKey kt (.int .i64 n) es.toList).run P w = .ok none w := by simp [Instr.findKey, run_underlying g2, f2]
    refine ⟨{ w with heap := w.heap.setIfInBounds b (.map (es.push { key := .int .i64 n, val := v, born := clock }) (clock + 1)) }, by simp [Instr.mapUpdate, run_underlying g1, hget, hc, hf, hset], hki _, ?_⟩
    refine h.setObj h1 fun w' hb hk => obOk_mp.2 ⟨_, _, hb, ?_, hbn.push _ _⟩
    rw [f3 d, Array.toList_push]
    exact (h4.mono (Mp.le.refl m) hk fun _ _ h => h).append ⟨rfl, hv.mono (Mp.le.refl m) hk fun _ _ h => h, trivial⟩
  · have hf : (Instr.findKey kt (.int .i64 n) es.toList).run P w = .ok (some (0 + i, u)) w := by simp [Instr.findKey, run_underlying g2, f2]
    have hkey : ((es[0 + i]?).map (·.key)).getD (.int .i64 n) = .int .i64 n := by
      have : (es[0 + i]?).map (·.key) = some (.int .i64 n) := by rw [Nat.zero_add]; simpa using f4
      rw [this]; rfl
    have hstay : (Instr.keyThatStays (.int .i64 n) (.int .i64 n)).run P w = .ok (.int .i64 n) w := by
      unfold Instr.keyThatStays
      rw [if_pos]
      · rfl
      · simp [Instr.sameBits]
    refine ⟨{ w with heap := w.heap.setIfInBounds b (.map (es.modify (0 + i) fun e => { e with key := .int .i64 n, val := v }) clock) }, by simp only [Instr.mapUpdate, Sem.run_bind, run_underlying g1, Result.andThen_ok, hget, hc, hf, hkey, hstay]; exact hset _, hki _, ?_⟩
    refine h.setObj h1 fun w' hb hk => obOk_mp.2 ⟨_, _, hb, ?_, hbn.same ?_⟩
    rotate_left
    · rw [show (es.modify (0 + i) fun e => { e with key := .int .i64 n, val := v }).toList = es.toList.modify (0 + i) fun e => { e with key := .int .i64 n, val := v } from Array.toList_modify ..]
      exact map_modify_same (fun e : MapEntry => e.born) (fun e => { e with key := .int .i64 n, val := v }) (fun _ => rfl) _ _
    have h6 := (f5 v d hv).mono (Mp.le.refl m) hk fun _ _ h => h
    have e1 : (es.modify (0 + i) fun e => { e with key := .int .i64 n, val := v }).toList = es.toList.modify i fun e => { e with val := v } := by
      rw [Nat.zero_add, Array.toList_modify]
      apply List.ext_getElem?
      intro j
      rw [List.getElem?_modify, List.getElem?_modify]
      by_cases hj : i = j
      · subst hj
        simp only [if_true]
        cases hg : es.toList[i]? with
        | none => rfl
        | some e =>
          rw [hg] at f4
          simp only [Option.map_some, Option.some.injEq] at f4
          simp [f4]
      · simp [hj]
    rw [e1]; exact h6
end
end Go.Proofs.Ytdmiekaeodcehaa

namespace Go.Proofs.Ytdmiekaeodcehaa
open Go.RowKit

def setAt : List D → Nat → List D → List D
  | r, _, [] => r
  | r, j, d :: ds => setAt (r.set j d) (j + 1) ds
def rowPut (r : List D) (j n : Nat) (c : List D) : List D := if j = 0 ∧ c.length = n then c else setAt r j c
def srcD (n : Nat) : D → Option (List (List D))
  | .sl n' l _ => if n' == n then some l else none
  | .v (.slice _ 0 _) => some []
  | _ => none
def appD (T : List (Nat × TI)) (σ : List (Key × D)) (nm : Nat) (t : Nat) (x y : D) : Option (D × List (Key × D) × List Key) := match tget T t with
  | none => none
  | some ti => match ti.el with
    | none => none
    | some E => match tget T E with
      | none => none
      | some te => match srcD te.sz y with
        | none => none
        | some l2 => if 0 < te.sz ∧ te.bys ≤ 1000 then (match x with
          | .v (.slice none 0 0) => if l2.length ≤ 1000000 then some (.sl te.sz l2 (some nm), [(.r nm, .rw E te.sz l2.length)], []) else none
          | .sl n l (some g) => match get σ (.r g) with
            | some (.rw E' n' len) => if E' = E ∧ n' = te.sz ∧ n = te.sz ∧ len = l.length ∧ l.length + l2.length ≤ 1000000 then some (.sl n (l ++ l2) (some g), [(.r g, .rw E n (l ++ l2).length)], [.r g]) else none
            | _ => none
          | .ps g len => match get σ (.r g) with
            | some (.rp E' n' l) => if E' = E ∧ n' = te.sz ∧ len = l.length ∧ l.length + l2.length ≤ 1000000 then some (.ps g (len + l2.length), [(.r g, .rp E' n' (l ++ l2))], [.r g]) else none
            | some (.rw E' n' 0) => if E' = E ∧ n' = te.sz ∧ len = 0 ∧ l2.length ≤ 1000000 then some (.ps g l2.length, [(.r g, .rp E' n' l2)], [.r g]) else none
            | _ => none
          | .cl n l => if n = te.sz ∧ 0 < l2.length ∧ l.length + l2.length ≤ 1000000 then some (.sl n (l ++ l2) (some nm), [(.r nm, .rw E n (l ++ l2).length)], []) else none
          | _ => none) else none
def inOrder : Nat → List Nat → Bool
  | _, [] => true
  | k, i :: l => i == k && inOrder (k + 1) l
def rowsD (te : TI) : List D → Option (List (List D))
  | [] => some []
  | d :: l => match dcells te d with
    | some c => (rowsD te l).map (c :: ·)
    | none => none
def bslD (T : List (Nat × TI)) (σ : List (Key × D)) (nm : Nat) (t len : Nat) (parts : List (Nat × Operand)) : Option (D × List (Key × D) × List Key) := match tget T t with
  | none => none
  | some ti => match ti.el with
    | none => none
    | some E => match tget T E with
      | none => none
      | some te => if parts.length == len && inOrder 0 (parts.map (·.1)) && decide (0 < te.sz) && decide (len * te.sz ≤ 16777216) then (match evs σ (parts.map (·.2)) with
        | none => none
        | some ds => (rowsD te ds).map fun rows => (.sl te.sz rows (some nm), [(.r nm, .rw E te.sz len)], [])) else none
def mkslD (T : List (Nat × TI)) (nm : Nat) (t : Nat) (l c : Option D) : Option (D × List (Key × D) × List Key) := match tget T t with
  | none => none
  | some ti => match ti.el with
    | none => none
    | some E => match tget T E with
      | none => none
      | some te => match l, c with
        | some (.v (.int .i64 0)), some (.v (.int .i64 n)) => if 0 < te.sz ∧ te.bys ≤ 1000 ∧ 0 ≤ n ∧ n ≤ 1000000 then some (.sl te.sz [] (some nm), [(.r nm, .rw E te.sz 0)], []) else none
        | _, _ => none
def lookD (te : TI) (l : List (Int × D)) (n : Int) : Bool → D
  | true => .tu [(mfind l n).getD (zD te), .v (.bool (mfind l n).isSome)]
  | false => (mfind l n).getD (zD te)
def lkD (T : List (Nat × TI)) (σ : List (Key × D)) (t : Nat) (x y : Option D) (ok : Bool) : Option (D × List (Key × D) × List Key) := match tget T t, x, y with
  | some ti, some (.mo k), some (.v (.int .i64 n)) => (match ti.mv with
    | none => none
    | some e => (match tget T e, get σ (.o k) with
      | some te, some (.mp l) => some (lookD te l n ok, [], [.o k])
      | _, _ => none))
  | _, _, _ => none
def updD (T : List (Nat × TI)) (σ : List (Key × D)) (t : Nat) (x y z : Option D) : Option (D × List (Key × D) × List Key) := match tget T t, x, y, z with
  | some ti, some (.mo k), some (.v (.int .i64 n)), some d => (match ti.mv with
    | none => none
    | some _ => (match get σ (.o k) with
      | some (.mp l) => some (.v undef, [(.o k, .mp (mput l n d))], [.o k])
      | _ => none))
  | _, _, _, _ => none
def clrD (T : List (Nat × TI)) (σ : List (Key × D)) (t : Nat) (d : D) : Option (D × List (Key × D) × List Key) := match tget T t, d with
  | some ti, .pt g len n lo => (match ti.el with
    | some E => (match tget T E, get σ (.r g) with
      | some te, some (.rp E' n' l) => if E' = E ∧ n' = n ∧ te.sz = n ∧ 0 < n ∧ l.length = len ∧ lo ≤ len then some (.tu [], [(.r g, .rp E' n' (l.take lo ++ List.replicate (len - lo) (te.z.map .v)))], [.r g]) else none
      | _, _ => none)
    | none => none)
  | _, _ => none
def mop (T : List (Nat × TI)) (σ : List (Key × D)) (nm : Nat) (o : Oper) : Option (D × List (Key × D) × List Key) := match o.op with
  | .alloc t => (tget T t).map fun ti => (.p nm 0, cellsOf nm 0 (ti.z.map .v), [])
  | .box t x => (tget T t).bind fun ti => (ev σ x).bind fun d => (dcells ti d).map fun l => (.p nm 0, cellsOf nm 0 l, [])
  | .store t x y => (tget T t).bind fun ti => match ev σ x with
    | some (.p k off) => (ev σ y).bind fun d => (dcells ti d).bind fun l => (cellsAt σ k off ti.sz).map fun _ => (.v undef, cellsOf k off l, (List.range ti.sz).map fun i => .c k (off + i))
    | some (.pr g len n i j) => match get σ (.r g) with
      | some (.rp E n' l) => if n' = n ∧ l.length = len ∧ i < len ∧ j + ti.sz ≤ n then (ev σ y).bind fun d => (dcells ti d).map fun c => (.v undef, [(.r g, .rp E n (l.set i (rowPut (l.getD i []) j n c)))], [.r g]) else none
      | _ => none
    | _ => none
  | .buildSlice t len parts => bslD T σ nm t len parts.toList
  | .makeSlice t l c => mkslD T nm t (ev σ l) (ev σ c)
  | .lookup t x y ok => lkD T σ t (ev σ x) (ev σ y) ok
  | .mapUpdate t x y z => updD T σ t (ev σ x) (ev σ y) (ev σ z)
  | .insert t x y z => updD T σ t (ev σ x) (ev σ y) (ev σ z)
  | .makeMap _ r => (match r with | none => some (.mo nm, [(.o nm, .mp [])], []) | some _ => none)
  | .call c => match c.callee, c.args.toList, c.argTypes.toList with
    | .builtin .append, [x, y], [t, t'] => if t = t' then (ev σ x).bind fun d => (ev σ y).bind fun e => appD T σ nm t d e else none
    | .builtin .clear, [x], [t] => (ev σ x).bind fun d => clrD T σ t d
    | _, _, _ => none
  | _ => none

section
variable {P : Program} {T : List (Nat × TI)} {cx : Cx} {Fr Fr' : Nat → Prop} {m m' : Mp} {Im Im' : Nat → Nat → Prop} {w w' : World} {a : Act} {σ σ' : List (Key × D)}

theorem St.putro (h : St cx Fr m Im w a σ) {g : Nat} {R : RowM} {d : D} (hg : m.row g = some R) (hd : RoOk m Im w R d) : St cx Fr m Im w a (put1 (.r g) d σ) where
  mem := h.mem
  df := h.df
  nt := h.nt
  tm x d' hx := by rw [get_put1, if_neg (by simp [Key.eq])] at hx; exact h.tm x d' hx
  ce k off d' hx := by rw [get_put1, if_neg (by simp [Key.eq])] at hx; exact h.ce k off d' hx
  ro x d' hx := by
    rw [get_put1] at hx
    by_cases he : Key.eq (.r g) (.r x) = true
    · rw [if_pos he] at hx
      cases hx
      have := Key.eq_iff.1 he
      cases this
      exact ⟨R, hg, hd⟩
    · rw [if_neg he] at hx; exact h.ro x d' hx
  jk d' hx := by rw [get_put1, if_neg (by simp [Key.eq])] at hx; exact h.jk d' hx
  ok k d' hx := by rw [get_put1, if_neg (by simp [Key.eq])] at hx; exact h.ok k d' hx
theorem St.putr (h : St cx Fr m Im w a σ) {g : Nat} {R : RowM} (hg : m.row g = some R) : St cx Fr m Im w a (put1 (.r g) (.rw R.E R.n R.len) σ) := h.putro hg .rw
theorem St.turnP (h : St cx Fr m Im w a σ) {g : Nat} {R R' : RowM} (hg : m.row g = some R) (hos : w'.os = w.os ∧ w'.tape = w.tape ∧ w'.output = w.output) (hsz : w.heap.size ≤ w'.heap.size)
    (hsame : ∀ c, c < w.heap.size → R.hv.ownBlock ≠ some c → w'.heap[c]? = w.heap[c]?) (hni : ∀ b o, R.hv.ownBlock = some b → ¬ Im b o) (hcase : ∀ b, R'.hv.ownBlock = some b → R.hv.ownBlock = some b ∨ w.heap.size ≤ b)
    (hlen : R.len ≤ R'.len ∧ (R'.len = R.len → R'.hv = R.hv)) (hown : ∃ xs, w'.ownsRow 0 R'.E R'.n R'.hv R'.len xs) {d : D} (hd : m.le (m.setR g R') → KeepI Im w w' → RoOk (m.setR g R') Im w' R' d) :
    St cx Fr (m.setR g R') Im w' a (put1 (.r g) d σ) ∧ m.le (m.setR g R') ∧ KeepI Im w w' := by
  have hki : KeepI Im w w' := fun c o x hi hx => (World.cell?_of_block (a := ⟨c, o, none⟩) (hsame c (ltOfCell hx) fun e => hni c o e hi)).trans hx
  have hle : m.le (m.setR g R') := Mp.setR_le fun R0 h0 => by rw [hg] at h0; cases h0; exact hlen
  have hd := hd hle hki
  refine ⟨?_, hle, hki⟩
  have hrc : ∀ {x R0}, (m.setR g R').row x = some R0 → (x = g ∧ R0 = R') ∨ (x ≠ g ∧ m.row x = some R0) := fun {x R0} hx => by
    by_cases e : x = g
    · left; simp [Mp.setR, e] at hx; exact ⟨e, hx.symm⟩
    · right; simp [Mp.setR, e] at hx; exact ⟨e, hx⟩
  have hmono : ∀ {x d}, Rel m Im w x d → Rel (m.setR g R') Im w' x d := fun hx => hx.mono hle hki fun _ _ h => h
  have hnb : ∀ b, R'.hv.ownBlock = some b → ∀ c, c < w.heap.size → R.hv.ownBlock ≠ some c → c ≠ b := fun b hb c hc hne e => by
    subst e
    rcases hcase c hb with h1 | h1
    · exact hne h1
    · omega
  have hnamed : ∀ x c, m.blk x = some c → c < w.heap.size ∧ R.hv.ownBlock ≠ some c := fun x c hx => ⟨h.mem.lt x c hx, fun e => h.mem.rblk g R c x hg e hx⟩
  have hother : ∀ x R0 c, x ≠ g → m.row x = some R0 → R0.hv.ownBlock = some c → c < w.heap.size ∧ R.hv.ownBlock ≠ some c := fun x R0 c hne hx hc => ⟨h.mem.rlt hx hc, fun e => hne (h.mem.rinj x g R0 R c hx hg hc e)⟩
  refine ⟨{ h.mem with off := ?off, im := ?im, lt := ?lt, free := ?free, row := ?row, rIm := ?rIm, rblk := ?rblk, rinj := ?rinj, fr := ?fr, olt := ?olt, orow := ?orow, k0 := h.mem.k0.trans (hki.weaken h.mem.im0), rown := ?rown, m0r := h.mem.m0r_le hle }, h.df, h.nt, fun x d hx => hmono (h.tm x d (by rw [get_put1, if_neg (by simp [Key.eq])] at hx; exact hx)), fun x off d hx => ?ce, fun x d hx => ?ro, fun d hd => ?jk, fun x d hd => ?okk⟩
  case off =>
    refine ⟨hos.1.trans h.mem.off.os, hos.2.1.trans h.mem.off.tape, hos.2.2.trans h.mem.off.output, Nat.le_trans h.mem.off.size hsz, fun c hc hC => ?_⟩
    refine (hsame c (Nat.lt_of_lt_of_le hc h.mem.off.size) fun e => ?_).trans (h.mem.off.block c hc hC)
    rcases h.mem.rown g R c hg e with h1 | h1
    · omega
    · exact hC (cx.hCR c h1)
  case im =>
    intro c o hi
    obtain ⟨x, hx⟩ := h.mem.im c o hi
    exact ⟨x, hki c o x hi hx⟩
  case lt => intro x c hx; exact Nat.lt_of_lt_of_le (h.mem.lt x c hx) hsz
  case free => intro x c o hx; exact (World.frozen?_of_block (a := ⟨c, o, none⟩) (hsame c (hnamed x c hx).1 (hnamed x c hx).2)).trans (h.mem.free x c o hx)
  case row =>
    intro x R0 hx
    rcases hrc hx with ⟨rfl, rfl⟩ | ⟨hne, hx⟩
    · exact hown
    · obtain ⟨zs, hz⟩ := h.mem.row x R0 hx
      exact ⟨zs, ownsRow_same hz fun c hc => hsame c (hother x R0 c hne hx hc).1 (hother x R0 c hne hx hc).2⟩
  case rIm =>
    intro x R0 c o hx hc hi
    rcases hrc hx with ⟨rfl, rfl⟩ | ⟨hne, hx⟩
    · exfalso
      rcases hcase c hc with h1 | h1
      · exact hni c o h1 hi
      · obtain ⟨u, hu⟩ := h.mem.im c o hi
        have := ltOfCell hu; omega
    · exact h.mem.rIm x R0 c o hx hc hi
  case rblk =>
    intro x R0 c y hx hc hy
    rcases hrc hx with ⟨rfl, rfl⟩ | ⟨hne, hx⟩
    · exact hnb c hc c (hnamed y c hy).1 (hnamed y c hy).2 rfl
    · exact h.mem.rblk x R0 c y hx hc hy
  case rinj =>
    intro x y R0 R1 c hx hy hc hc'
    rcases hrc hx with ⟨e1, e2⟩ | ⟨n1, hx⟩ <;> rcases hrc hy with ⟨e3, e4⟩ | ⟨n2, hy⟩
    · rw [e1, e3]
    · rw [e2] at hc; exact absurd rfl (hnb c hc c (hother y R1 c n2 hy hc').1 (hother y R1 c n2 hy hc').2)
    · rw [e4] at hc'; exact absurd rfl (hnb c hc' c (hother x R0 c n1 hx hc).1 (hother x R0 c n1 hx hc).2)
    · exact h.mem.rinj x y R0 R1 c hx hy hc hc'
  case fr =>
    intro x hx
    have := h.mem.fr x hx
    refine ⟨this.1, ?_, this.2.2⟩
    have hne : x ≠ g := by rintro rfl; rw [this.2.1] at hg; cases hg
    simp [Mp.setR, hne, this.2.1]
  case olt => intro x c hx; exact Nat.lt_of_lt_of_le (h.mem.olt x c hx) hsz
  case orow =>
    intro x y R0 c hx hy hc
    rcases hrc hy with ⟨rfl, rfl⟩ | ⟨hne, hy⟩
    · exact hnb c hc c (h.mem.olt x c hx) (fun e => h.mem.orow x y R c hx hg e) rfl
    · exact h.mem.orow x y R0 c hx hy hc
  case rown =>
    intro x R0 c hx hc
    rcases hrc hx with ⟨rfl, rfl⟩ | ⟨hne, hx⟩
    · rcases hcase c hc with h1 | h1
      · exact h.mem.rown x R c hg h1
      · exact .inl (Nat.le_trans h.mem.off.size h1)
    · exact h.mem.rown x R0 c hx hc
  case okk =>
    rw [get_put1, if_neg (by simp [Key.eq])] at hd
    obtain ⟨c, h1, h2⟩ := h.ok x d hd
    exact ⟨c, h1, h2.mono (hsame c (h.mem.olt x c h1) fun e => h.mem.orow x g R c h1 hg e) hle hki fun _ _ h => h⟩
  case ce =>
    rw [get_put1, if_neg (by simp [Key.eq])] at hx
    obtain ⟨c, v, h1, h2, h3⟩ := h.ce x off d hx
    exact ⟨c, v, h1, (World.cell?_of_block (a := ⟨c, off, none⟩) (hsame c (hnamed x c h1).1 (hnamed x c h1).2)).trans h2, hmono h3⟩
  case ro =>
    rw [get_put1] at hx
    by_cases he : Key.eq (.r g) (.r x) = true
    · rw [if_pos he] at hx
      cases hx
      have := Key.eq_iff.1 he
      cases this
      exact ⟨R', by simp [Mp.setR], hd⟩
    · rw [if_neg he] at hx
      obtain ⟨R0, h1, h2⟩ := h.ro x d hx
      have hne : x ≠ g := fun e => he (by rw [e]; exact Key.eq_refl _)
      exact ⟨R0, by simp [Mp.setR, hne, h1], h2.mono (fun c hc => hsame c (hother x R0 c hne h1 hc).1 (hother x R0 c hne h1 hc).2) hle hki (fun _ _ h => h) fun _ _ _ h => h⟩
  case jk =>
    rw [get_put1, if_neg (by simp [Key.eq])] at hd
    obtain ⟨X, J, e, hX⟩ := h.jk d hd
    have hxs : ∀ c, X c → w'.heap[c]? = w.heap[c]? := fun c hc => hsame c (hX.lt c hc) (hX.row c g R hc hg)
    refine ⟨X, J, e, hX.stable _ hsz hxs, fun w2 hs hx2 => hX.stable w2 (Nat.le_trans hsz hs) fun c hc => (hx2 c hc).trans (hxs c hc), fun c hc => Nat.lt_of_lt_of_le (hX.lt c hc) hsz, hX.own, hX.nim, hX.blk, ?_, hX.obj⟩
    intro c x R0 hc hx e2
    rcases hrc hx with ⟨rfl, rfl⟩ | ⟨hne, hx⟩
    · exact hnb c e2 c (hX.lt c hc) (hX.row c x R hc hg) rfl
    · exact hX.row c x R0 hc hx e2
theorem setAt_all : ∀ (ds pre r : List D), r.length = ds.length → setAt (pre ++ r) pre.length ds = pre ++ ds
  | [], pre, r, h => by
    have : r = [] := List.length_eq_zero_iff.1 h
    subst this; rfl
  | d :: ds, pre, [], h => by simp at h
  | d :: ds, pre, x :: r, h => by
    rw [setAt]
    have e : (pre ++ x :: r).set pre.length d = (pre ++ [d]) ++ r := by simp
    rw [e]
    have := setAt_all ds (pre ++ [d]) r (by simpa using h)
    simpa using this
theorem St.rowSet (h : St cx Fr m Im w a σ) {g b : Nat} {R : RowM} (hg : m.row g = some R) (hb : R.hv.ownBlock = some b) {l : List (List D)} (hro : RoOk m Im w R (.rp R.E R.n l)) {i j : Nat} (hi : i < l.length) (hj : j < R.n) {v : Value} {d : D} (hr : Rel m Im w v d) (h1 : v.oneCell' = true) :
    St cx Fr (m.setR g R) Im (w.setCell ⟨b, i * R.n + j, none⟩ v) a (put1 (.r g) (.rp R.E R.n (l.set i ((l[i]).set j d))) σ) ∧ m.le (m.setR g R) ∧ KeepI Im w (w.setCell ⟨b, i * R.n + j, none⟩ v) ∧ RoOk (m.setR g R) Im (w.setCell ⟨b, i * R.n + j, none⟩ v) R (.rp R.E R.n (l.set i ((l[i]).set j d))) := by
  cases hro with
  | rp _ xs hl hn hown hx1 hrr hni =>
  obtain ⟨cap, hv⟩ : ∃ cap, R.hv = .slice (some ⟨b, 0, none⟩) R.len cap := by
    rcases hown.2 with ⟨e, _⟩ | ⟨g', cap, cur, e, _⟩
    · rw [e] at hb; cases hb
    · rw [e] at hb; cases hb; exact ⟨cap, e⟩
  have hst : (w.setCell ⟨b, i * R.n + j, none⟩ v).ownsRow 0 R.E R.n R.hv R.len (xs.set (i * R.n + j) v) := by
    have h2 := hown
    rw [hv] at h2 ⊢
    exact (World.ownsRow.stored h2 _ v).1
  have hij : i * R.n + j < xs.length := by
    rw [hown.1]
    have : (i + 1) * R.n ≤ R.len * R.n := Nat.mul_le_mul_right _ (by omega)
    rw [Nat.succ_mul] at this; omega
  have key : ∀ hle : m.le (m.setR g R), ∀ hki : KeepI Im w (w.setCell ⟨b, i * R.n + j, none⟩ v), RoOk (m.setR g R) Im (w.setCell ⟨b, i * R.n + j, none⟩ v) R (.rp R.E R.n (l.set i ((l[i]).set j d))) := fun hle hki => by
    refine .rp _ (xs.set (i * R.n + j) v) (by simpa using hl) (fun i2 h2 => ?_) hst (fun u hu => ?_) (fun i2 h2 j2 hj2 => ?_) hni
    · rw [List.getElem_set]
      split
      · rw [List.length_set]; exact hn i hi
      · exact hn i2 (by simpa using h2)
    · rcases List.mem_or_eq_of_mem_set hu with hu | rfl
      · exact hx1 u hu
      · exact h1
    · have h2' : i2 < l.length := by simpa using h2
      have hn2 := hn i2 h2'
      have hni' := hn i hi
      by_cases e : i = i2
      · subst e
        have e1 : (l.set i ((l[i]).set j d))[i] = (l[i]).set j d := by simp
        have hj2' : j2 < l[i].length := by rw [e1, List.length_set] at hj2; exact hj2
        simp only [e1, List.getElem_set]
        split
        · rename_i e3; subst e3
          rw [List.getD_eq_getElem?_getD, List.getElem?_set_self hij]
          exact hr.mono hle hki fun _ _ h => h
        · rename_i e3
          rw [List.getD_eq_getElem?_getD, List.getElem?_set_ne (by omega), ← List.getD_eq_getElem?_getD]
          exact (hrr i hi j2 hj2').mono hle hki fun _ _ h => h
      · have e1 : (l.set i ((l[i]).set j d))[i2] = l[i2] := by rw [List.getElem_set]; exact if_neg e
        have hj2' : j2 < l[i2].length := by rw [e1] at hj2; exact hj2
        simp only [e1]
        have hne : i * R.n + j ≠ i2 * R.n + j2 := fun e3 => e (by
          have a1 : (i * R.n + j) / R.n = i := by rw [Nat.mul_comm, Nat.mul_add_div (by omega), Nat.div_eq_of_lt hj]; rfl
          have a2 : (i2 * R.n + j2) / R.n = i2 := by rw [Nat.mul_comm, Nat.mul_add_div (by omega), Nat.div_eq_of_lt (by omega)]; rfl
          rw [← a1, e3, a2])
        rw [List.getD_eq_getElem?_getD, List.getElem?_set_ne hne, ← List.getD_eq_getElem?_getD]
        exact (hrr i2 h2' j2 hj2').mono hle hki fun _ _ h => h
  obtain ⟨q1, q2, q3⟩ := h.turnP (R' := R) (w' := w.setCell ⟨b, i * R.n + j, none⟩ v) hg ⟨rfl, rfl, rfl⟩ (by simp) (fun c _ hne => Below.heap_setCell _ _ _ _ (fun e => hne (by rw [hb, e]))) hni (fun c hc => .inl hc) ⟨Nat.le_refl _, fun _ => rfl⟩ ⟨_, hst⟩ key
  exact ⟨q1, q2, q3, key q2 q3⟩
theorem St.rowSets : ∀ (ds : List D) (vs : List Value) (j : Nat) {m : Mp} {w : World} {σ : List (Key × D)} (h : St cx Fr m Im w a σ) {g b : Nat} {R : RowM} (hg : m.row g = some R) (hb : R.hv.ownBlock = some b) {l : List (List D)} (hro : RoOk m Im w R (.rp R.E R.n l)) {i : Nat} (hi : i < l.length) (hj : j + ds.length ≤ R.n)
    (hr : RelL m Im w vs ds) (h1 : ∀ v ∈ vs, v.oneCell' = true), ∃ m' w', w.setCells b (i * R.n + j) vs = w' ∧ St cx Fr m' Im w' a (put1 (.r g) (.rp R.E R.n (l.set i (setAt l[i] j ds))) σ) ∧ m.le m' ∧ KeepI Im w w'
  | [], [], j, m, w, σ, h, g, b, R, hg, hb, l, hro, i, hi, hj, hr, h1 => ⟨m, w, rfl, by
      have e : l.set i (setAt l[i] j []) = l := by simp [setAt]
      rw [e]; exact h.putro hg hro, Mp.le.refl m, KeepI.refl _ _⟩
  | [], _ :: _, _, _, _, _, _, _, _, _, _, _, _, _, _, _, _, hr, _ => hr.elim
  | _ :: _, [], _, _, _, _, _, _, _, _, _, _, _, _, _, _, _, hr, _ => hr.elim
  | d :: ds, v :: vs, j, m, w, σ, h, g, b, R, hg, hb, l, hro, i, hi, hj, hr, h1 => by
    simp only [List.length_cons] at hj
    obtain ⟨s1, s2, s3, s4⟩ := h.rowSet hg hb hro hi (show j < R.n by omega) hr.1 (h1 v (by simp))
    obtain ⟨m', w', e1, q1, q2, q3⟩ := St.rowSets ds vs (j + 1) s1 (g := g) (R := R) (by simp [Mp.setR]) hb s4 (i := i) (by simpa using hi) (by omega) (hr.2.mono s2 s3 fun _ _ h => h) (fun u hu => h1 u (by simp [hu]))
    have e2 : (l.set i ((l[i]).set j d))[i]'(by simpa using hi) = (l[i]).set j d := by simp
    rw [e2, List.set_set] at q1
    refine ⟨m', w', by rw [← e1]; rfl, ?_, s2.trans q2, s3.trans q3⟩
    refine q1.sub fun k x hk => ?_
    simp only [get_put1] at hk ⊢
    split
    · rename_i hc; rw [if_pos hc] at hk; exact hk
    · rename_i hc; rw [if_neg hc] at hk; exact hk
theorem app_own (hT : TabOk P T) (h : St cx Fr m Im w a σ) {t E : Nat} {ti te : TI} (hti : tget T t = some ti) (hE : ti.el = some E) (hte : tget T E = some te) (hsz : 0 < te.sz) (hby : te.bys ≤ 1000)
    {g : Nat} {R : RowM} (hg : m.row g = some R) (hRE : R.E = E) (hRn : R.n = te.sz) {l l2 : List (List D)} (hl : R.len = l.length) (hx : Rel m Im w R.hv (.sl te.sz l (some g))) {y : Value} {e : D} (hy : Rel m Im w y e) (hs : srcD te.sz e = some l2) (hle : l.length + l2.length ≤ 1000000) (ty : TypeId) :
    ∃ v w' m' Im', (Builtin.append_ #[t, t] ty #[R.hv, y]).run P w = .ok v w' ∧ m.le m' ∧ KeepI Im w w' ∧ (∀ b o, Im b o → Im' b o) ∧ Rel m' Im' w' v (.sl te.sz (l ++ l2) (some g)) ∧ St cx Fr m' Im' w' a (put1 (.r g) (.rw E te.sz (l ++ l2).length) σ) := by
  obtain ⟨ei, ed, e1, e2, e3, e4, e5, e6, e7, e8⟩ := (hT _ _ hte).parts
  have hsl := (hT _ _ hti).slice hE
  obtain ⟨xs, hown⟩ := h.mem.row g R hg
  obtain ⟨R2, hlen2, E2, n2⟩ := R
  dsimp only at *
  subst hRE hRn hl
  have hzs := (hT _ _ hte).zsize
  cases hl2 : l2 with
  | nil =>
    subst hl2
    have hrun : (Builtin.append_ #[t, t] ty #[R2, y]).run P w = .ok R2 w := by
      have hsrc : Src P ei.size t y 0 [] w := by
        unfold srcD at hs
        split at hs
        · split at hs
          · cases hs
            obtain ⟨a', c, bl, off, X, rfl, _⟩ := rel_sl hy
            cases a' with
            | none => exact Src.ofNil w hsl c
            | some ad => exact Src.ofSlice w hsl ad 0 c [] (by simp) (by simp) (by simp)
          · cases hs
        · cases hs
          rename_i ad c
          have := rel_v.1 hy; subst this
          cases ad with
          | none => exact Src.ofNil w hsl _
          | some ad => exact Src.ofSlice w hsl ad 0 c [] (by simp) (by simp) (by simp)
        · cases hs
      rcases hown.2 with ⟨rfl, h0⟩ | ⟨g', cap, cur, rfl, _, _, hnc, _⟩
      · exact run_append_nothing w t t ty _ ei hsl e1 none 0 0 (Nat.le_refl _) y hsrc
      · exact run_append_nothing w t t ty _ ei hsl e1 (some ⟨g', 0, none⟩) _ cap hnc y hsrc
    refine ⟨R2, w, m, Im, hrun, Mp.le.refl m, KeepI.refl _ _, fun _ _ h => h, by simpa using hx, ?_⟩
    have := h.putr hg
    simpa using this
  | cons r0 rs =>
    have hk : 0 < l2.length := by rw [hl2]; simp
    rw [← hl2]
    clear hl2
    have hy' : ∃ g2, Rel m Im w y (.sl te.sz l2 g2) := by
      unfold srcD at hs
      split at hs
      · split at hs
        · rename_i n' l' g' hn
          have hn : n' = te.sz := by simpa using hn
          cases hs
          exact ⟨g', hn ▸ hy⟩
        · cases hs
      · cases hs; simp at hk
      · cases hs
    obtain ⟨g2, hy2⟩ := hy'
    obtain ⟨a', c, bl, off, Y, rfl, y1, y2, y3, y4, y5, y6, y7⟩ := rel_sl hy2
    obtain rfl := y2 hk
    have hdm : ∀ o, o < l2.length * te.sz → o / te.sz < l2.length ∧ o % te.sz < te.sz ∧ o / te.sz * te.sz + o % te.sz = o := fun o ho =>
      ⟨Nat.div_lt_of_lt_mul (by rw [Nat.mul_comm]; exact ho), Nat.mod_lt _ hsz, Nat.div_add_mod' o te.sz⟩
    let news : List Value := (List.range (l2.length * te.sz)).map fun o => Y (o / te.sz) (o % te.sz)
    have hnl : news.length = l2.length * te.sz := by simp [news]
    have hng : ∀ j u, news[j]? = some u → j < l2.length * te.sz ∧ u = Y (j / te.sz) (j % te.sz) := fun j u hu => by
      simp only [news, List.getElem?_map] at hu
      by_cases hj : j < l2.length * te.sz
      · rw [List.getElem?_range hj] at hu; cases hu; exact ⟨hj, rfl⟩
      · rw [List.getElem?_eq_none (by simpa using hj)] at hu; cases hu
    obtain ⟨v', w', hrun, hown', hgr⟩ := run_append_deep (w := w) (P := P) 0 t ty E2 ei (zeroOf te) te.sz te.bys hsl e1 e5 e3 e4 hzs hsz R2 l.length xs hown ⟨bl, off, none⟩ l2.length c news hnl
      (fun j u hu => by
        obtain ⟨hj, rfl⟩ := hng j u hu
        obtain ⟨q1, q2, q3⟩ := hdm j hj
        have := (y3 _ _ q1 q2).1
        rw [addr_addN, ← this]
        congr 2
        omega)
      (fun u hu => by
        obtain ⟨j, hj, rfl⟩ := List.getElem_of_mem hu
        obtain ⟨hj2, e⟩ := hng j _ (List.getElem?_eq_getElem hj)
        obtain ⟨q1, q2, q3⟩ := hdm j hj2
        rw [e]; exact y5 _ _ q1 q2)
      (by unfold maxLen; omega)
      (by have : (l.length + l2.length) * te.bys ≤ 1000000 * 1000 := Nat.mul_le_mul hle hby
          omega)
      (Nat.zero_le _)
    obtain ⟨Im', b, hb, i1, i2, i3, i4, i5⟩ := h.grow (g := g) (R := ⟨R2, l.length, E2, te.sz⟩) hg (v' := v') (k := l2.length) (xs := xs) (ys := news) hsz hk hown hown' hgr
    refine ⟨v', w', _, Im', hrun, i4, i3, i1, ?_, by simpa using i5⟩
    obtain ⟨gb, cap, hv', _, hbl⟩ := hown'.form (by omega)
    subst hv'
    have hgb : gb = b := by simpa [Value.ownBlock] using hb
    subst hgb
    have hcap : l.length + l2.length ≤ cap := by
      rcases hown'.2 with ⟨h0, _⟩ | ⟨g', cap', cur, h0, _, _, hnc, _⟩
      · cases h0
      · injection h0 with _ _ q; rw [q]; exact hnc
    have hcells : ∀ o u, (xs ++ news)[o]? = some u → w'.cell? ⟨gb, o, none⟩ = some u := fun o u hu => by
      have := hown'.cells (g := gb) rfl o u hu
      rw [addr_add0] at this; exact this
    have hall : (xs ++ news).length = (l.length + l2.length) * te.sz := hown'.1
    have hlt : ∀ i j, i < l.length + l2.length → j < te.sz → i * te.sz + j < (l.length + l2.length) * te.sz := fun i j hi hj => by
      have : (i + 1) * te.sz ≤ (l.length + l2.length) * te.sz := Nat.mul_le_mul_right _ hi
      rw [Nat.succ_mul] at this; omega
    have hxl : xs.length = l.length * te.sz := hown.1
    obtain ⟨a0, c0, b0, o0, X0, x0, x1, x2, x3, x4, x5, x6, x7⟩ := rel_sl hx
    have hX : ∀ i j, i < l.length → j < te.sz → (xs ++ news)[i * te.sz + j]? = some (X0 i j) := fun i j hi hj => by
      have hij : i * te.sz + j < xs.length := by
        rw [hxl]
        have : (i + 1) * te.sz ≤ l.length * te.sz := Nat.mul_le_mul_right _ hi
        rw [Nat.succ_mul] at this; omega
      rw [List.getElem?_append_left hij, List.getElem?_eq_getElem hij]
      have hc := (x3 i j hi hj).1
      have hR : R2.ownBlock = some b0 := by rw [x0, x2 (by omega)]; rfl
      have hc2 := hown.cells (g := b0) hR _ _ (List.getElem?_eq_getElem hij)
      rw [addr_add0] at hc2
      have ho0 : o0 = 0 := by
        rcases hown.2 with ⟨h0, _⟩ | ⟨g', cap', cur, h0, _⟩
        · rw [h0] at x0; rw [x2 (by omega)] at x0; cases x0
        · rw [h0] at x0; rw [x2 (by omega)] at x0; injection x0 with q1 _ _; injection q1 with q1; injection q1 with _ q2 _; exact q2.symm
      rw [ho0, Nat.zero_add, hc2] at hc
      exact hc
    have hY : ∀ i j, i < l2.length → j < te.sz → (xs ++ news)[(l.length + i) * te.sz + j]? = some (Y i j) := fun i j hi hj => by
      rw [List.getElem?_append_right (by rw [hxl, Nat.add_mul]; omega), hxl, show (l.length + i) * te.sz + j - l.length * te.sz = i * te.sz + j by rw [Nat.add_mul]; omega]
      have hij : i * te.sz + j < l2.length * te.sz := by
        have : (i + 1) * te.sz ≤ l2.length * te.sz := Nat.mul_le_mul_right _ hi
        rw [Nat.succ_mul] at this; omega
      simp only [news, List.getElem?_map, List.getElem?_range hij, Option.map_some]
      rw [show i * te.sz + j = j + te.sz * i by rw [Nat.mul_comm]; omega, Nat.add_mul_div_left _ _ hsz, Nat.div_eq_of_lt hj, Nat.zero_add, Nat.add_mul_mod_self_left, Nat.mod_eq_of_lt hj]
    have hmono : ∀ {x d}, Rel m Im w x d → Rel (m.setR g ⟨.slice (some ⟨gb, 0, none⟩) (l.length + l2.length) cap, l.length + l2.length, E2, te.sz⟩) Im' w' x d := fun hx => hx.mono i4 i3 i1
    have key : Rel (m.setR g ⟨.slice (some ⟨gb, 0, none⟩) (l.length + l2.length) cap, l.length + l2.length, E2, te.sz⟩) Im' w' (.slice (some ⟨gb, 0, none⟩) (l ++ l2).length cap) (.sl te.sz (l ++ l2) (some g)) := by
      refine .sl _ cap gb 0 te.sz (fun i j => (xs ++ news).getD (i * te.sz + j) undef) (l ++ l2) (some g) (by rw [List.length_append]; unfold maxLen; omega) (fun _ => rfl) (fun i j hi hj => ?_) (fun i hi => ?_) (fun i j hi hj => ?_) (fun i hi j hj => ?_) (fun r e => ?_)
      · rw [List.length_append] at hi
        have hij := hlt i j hi hj
        rw [Nat.zero_add]
        refine ⟨?_, i2 _ hij⟩
        have hij2 : i * te.sz + j < (xs ++ news).length := by omega
        rw [List.getD_eq_getElem?_getD, List.getElem?_eq_getElem hij2]
        exact hcells _ _ (List.getElem?_eq_getElem hij2)
      · by_cases hi2 : i < l.length
        · rw [List.getElem_append_left hi2]; exact x4 i hi2
        · rw [List.getElem_append_right (by omega)]; exact y4 _ _
      · rw [List.length_append] at hi
        rw [List.getD_eq_getElem?_getD]
        by_cases hi2 : i < l.length
        · rw [hX i j hi2 hj]; exact x5 i j hi2 hj
        · have := hY (i - l.length) j (by omega) hj
          rw [show l.length + (i - l.length) = i by omega] at this
          rw [this]; exact y5 _ _ (by omega) hj
      · rw [List.length_append] at hi
        rw [List.getD_eq_getElem?_getD]
        by_cases hi2 : i < l.length
        · have hj2 : j < l[i].length := by rw [List.getElem_append_left hi2] at hj; exact hj
          rw [hX i j hi2 (by rw [x4 i hi2] at hj2; exact hj2)]
          simp only [Option.getD_some]
          have := x6 i hi2 j hj2
          simpa [List.getElem_append_left hi2] using hmono this
        · have hj2 : j < l2[i - l.length].length := by rw [List.getElem_append_right (by omega)] at hj; exact hj
          have := hY (i - l.length) j (by omega) (by rw [y4 _ (by omega)] at hj2; exact hj2)
          rw [show l.length + (i - l.length) = i by omega] at this
          rw [this]
          simp only [Option.getD_some]
          have := y6 (i - l.length) (by omega) j hj2
          simpa [List.getElem_append_right (show l.length ≤ i by omega)] using hmono this
      · cases e
        exact ⟨⟨.slice (some ⟨gb, 0, none⟩) (l.length + l2.length) cap, l.length + l2.length, E2, te.sz⟩, by simp [Mp.setR], by simp, fun _ => by simp⟩
    simpa using key
theorem rowPut_eq {r c : List D} {j n : Nat} (h : r.length = n) : rowPut r j n c = setAt r j c := by
  unfold rowPut
  split
  · rename_i hc
    obtain ⟨rfl, h2⟩ := hc
    have := setAt_all c [] r (by omega)
    simpa using this.symm
  · rfl
theorem RoOk.rpi {R : RowM} {E n : Nat} {l : List (List D)} (h : RoOk m Im w R (.rp E n l)) : E = R.E ∧ n = R.n ∧ l.length = R.len := by
  cases h with
  | rp _ _ hl => exact ⟨rfl, rfl, hl⟩
theorem relL_v2 : ∀ l : List Value, RelL m Im w l (l.map .v)
  | [] => trivial
  | x :: l => ⟨.v x, relL_v2 l⟩
theorem setCells_app (b : Nat) : ∀ (xs ys : List Value) (o : Nat) (w : World), w.setCells b o (xs ++ ys) = (w.setCells b o xs).setCells b (o + xs.length) ys
  | [], ys, o, w => rfl
  | x :: xs, ys, o, w => by
    show (w.setCell ⟨b, o, none⟩ x).setCells b (o + 1) (xs ++ ys) = _
    rw [setCells_app b xs ys (o + 1)]
    show _ = ((w.setCell ⟨b, o, none⟩ x).setCells b (o + 1) xs).setCells b (o + (xs.length + 1)) ys
    rw [show o + 1 + xs.length = o + (xs.length + 1) by omega]
theorem St.rowFill (z : List Value) (hz1 : ∀ v ∈ z, v.oneCell' = true) : ∀ (k lo : Nat) {m : Mp} {w : World} {σ : List (Key × D)} (h : St cx Fr m Im w a σ) {g b : Nat} {R : RowM} (hg : m.row g = some R) (hb : R.hv.ownBlock = some b) {l : List (List D)} (hro : RoOk m Im w R (.rp R.E R.n l)) (hz : z.length = R.n) (hl : lo + k = l.length),
    ∃ m', St cx Fr m' Im (w.setCells b (lo * R.n) (List.replicate k z).flatten) a (put1 (.r g) (.rp R.E R.n (l.take lo ++ List.replicate k (z.map .v))) σ) ∧ m.le m' ∧ KeepI Im w (w.setCells b (lo * R.n) (List.replicate k z).flatten)
  | 0, lo, m, w, σ, h, g, b, R, hg, hb, l, hro, hz, hl => by
    refine ⟨m, ?_, Mp.le.refl m, KeepI.refl _ _⟩
    rw [List.take_of_length_le (by omega)]
    simp only [List.replicate_zero, List.append_nil]
    exact h.putro hg hro
  | k + 1, lo, m, w, σ, h, g, b, R, hg, hb, l, hro, hz, hl => by
    have hlt : lo < l.length := by omega
    obtain ⟨m1, w1, e1, s1, s2, s3⟩ := St.rowSets (z.map .v) z 0 h hg hb hro hlt (by rw [List.length_map, hz]; omega) (relL_v2 z) hz1
    have hrow : l[lo].length = R.n := by
      cases hro with
      | rp _ _ _ hn _ _ _ _ => exact hn lo hlt
    have e2 : setAt l[lo] 0 (z.map .v) = z.map .v := by
      have := setAt_all (z.map .v) [] l[lo] (by rw [List.length_map, hz, hrow])
      simpa using this
    rw [e2] at s1
    obtain ⟨R1, hR1, hro1⟩ := s1.ro g _ (by rw [get_put1, if_pos (Key.eq_refl _)])
    have hR1e : R1.E = R.E ∧ R1.n = R.n ∧ R1.hv = R.hv := by
      obtain ⟨R', q1, q2, q3⟩ := s2.row g R hg
      rw [hR1] at q1; cases q1
      have i1 := hro1.rpi
      have i2 := hro.rpi
      exact ⟨i1.1.symm, i1.2.1.symm, q3 (by rw [← i1.2.2, List.length_set, i2.2.2])⟩
    obtain ⟨q1, q2, q3⟩ := hR1e
    obtain ⟨m2, t1, t2, t3⟩ := St.rowFill z hz1 k (lo + 1) s1 hR1 (by rw [q3]; exact hb) (l := l.set lo (z.map .v)) (by rw [q1, q2]; exact hro1) (by rw [q2]; exact hz) (by rw [List.length_set]; omega)
    have e3 : w.setCells b (lo * R.n) (List.replicate (k + 1) z).flatten = w1.setCells b ((lo + 1) * R.n) (List.replicate k z).flatten := by
      rw [List.replicate_succ, List.flatten_cons, setCells_app, ← e1, hz, Nat.succ_mul, Nat.add_zero]
    rw [e3]
    rw [q2] at t3
    refine ⟨m2, ?_, s2.trans t2, s3.trans t3⟩
    have e4 : (l.set lo (z.map .v)).take (lo + 1) ++ List.replicate k (z.map .v) = l.take lo ++ List.replicate (k + 1) (z.map D.v) := by
      rw [List.take_add_one, List.getElem?_set_self hlt, List.take_set_of_le (Nat.le_refl _), List.replicate_succ]
      simp
    rw [q1, q2, e4] at t1
    refine t1.sub fun key x hk => ?_
    simp only [get_put1] at hk ⊢
    split
    · rename_i hc; rw [if_pos hc] at hk; exact hk
    · rename_i hc; rw [if_neg hc] at hk; exact hk
theorem zeroCells_flat (z : List Value) (hz : 0 < z.length) : ∀ k, (Builtin.zeroCells z.toArray k).toList = (List.replicate k z).flatten
  | 0 => by simp [Builtin.zeroCells]
  | k + 1 => by
    rw [List.replicate_succ, List.flatten_cons, ← zeroCells_flat z hz k]
    simp only [Builtin.zeroCells, Array.toList_map, Array.toList_range, List.size_toArray]
    rw [Nat.succ_mul, Nat.add_comm (k * z.length), List.range_add, List.map_append, List.map_map]
    congr 1
    · refine List.ext_getElem (by simp) fun i h1 h2 => ?_
      simp at h1
      simp [Nat.mod_eq_of_lt h1, h1]
    · refine List.map_congr_left fun i _ => ?_
      simp
theorem clr_run (hT : TabOk P T) (h : St cx Fr m Im w a σ) {t ty : Nat} {x : Value} {d V : D} {W : List (Key × D)} {Rd : List Key} (hx : Rel m Im w x d) (hd : clrD T σ t d = some (V, W, Rd)) :
    ∃ v w' m', (Builtin.clear_ #[t] ty #[x]).run P w = .ok v w' ∧ m.le m' ∧ KeepI Im w w' ∧ Rel m' Im w' v V ∧ St cx Fr m' Im w' a (puts σ W) := by
  unfold clrD at hd
  split at hd
  · rename_i ti g len n lo hti
    split at hd
    · rename_i E hel
      split at hd
      · rename_i te E' n' l hte hg
        split at hd
        · rename_i hc
          obtain ⟨rfl, rfl, hsz, hn0, hl, hlo⟩ := hc
          cases hd
          obtain ⟨R, hR, hro⟩ := h.ro g _ hg
          have hE : E' = R.E ∧ n' = R.n ∧ l.length = R.len := by
            cases hro with
            | rp _ _ hl => exact ⟨rfl, rfl, hl⟩
          obtain ⟨rfl, rfl, o3⟩ := hE
          obtain ⟨ei, ed, e1, e2, e3, e4, e5, e6, e7, e8⟩ := (hT _ _ hte).parts
          have hs := (hT _ _ hti).slice hel
          have hzv : ∀ w : World, (zeroValue R.E).run P w = .ok (zeroOf te) w := fun w => by simp [zeroValue, typeInfo, e1, e5]
          have hone := (hT _ _ hte).one
          simp only [Bool.and_eq_true, Bool.or_eq_true, beq_iff_eq] at hone
          have hcz : (zeroOf te).cells = te.z.toArray := by
            unfold zeroOf
            cases hag : te.ag with
            | true => simp [Value.cells]
            | false =>
              have hs1 : te.sz = 1 := by rcases hone.1 with h | h; rw [hag] at h; cases h; exact h
              rw [hs1] at e7
              match hz : te.z, e7 with
              | [x], _ =>
                have := hone.2
                rw [hz] at this
                simp only [List.all_cons, List.all_nil, Bool.and_true] at this
                cases x <;> first | rfl | (simp [Value.oneCell'] at this)
          cases hx with
          | pt a0 c0 _ _ _ _ hh =>
          obtain ⟨R', p1, p2, p3⟩ := hh
          rw [hR] at p1; cases p1
          by_cases hlt : lo < len
          · obtain ⟨b, hb, rfl⟩ := p3 (by omega) hlt
            obtain ⟨m', s1, s2, s3⟩ := St.rowFill te.z (fun v hv => List.all_eq_true.1 hone.2 v hv) (len - lo) lo h hR hb hro (by rw [e7, hsz]) (by omega)
            have hown : ∃ xs, w.ownsRow 0 R.E R.n R.hv R.len xs := h.mem.row g R hR
            obtain ⟨xs, hown⟩ := hown
            have hfl : (List.replicate (len - lo) te.z).flatten.length = (len - lo) * R.n := by simp [e7, hsz]
            have hrun := run_storeCells_cells (P := P) b (lo * R.n) (List.replicate (len - lo) te.z).flatten 0 w (fun k hk => by
                rw [hfl] at hk
                have hk2 : lo * R.n + k < xs.length := by
                  rw [hown.1, ← o3, hl]
                  have : lo * R.n + (len - lo) * R.n = len * R.n := by rw [← Nat.add_mul]; congr 1; omega
                  omega
                have := hown.cells hb _ _ (List.getElem?_eq_getElem hk2)
                rw [addr_add0] at this
                simp [this]) (fun k _ => by
                rcases hown.2 with ⟨q1, _⟩ | ⟨g', cap, cur, q1, _, q2, _⟩
                · rw [q1] at hb; cases hb
                · rw [q1] at hb
                  have : g' = b := by simpa [Value.ownBlock] using hb
                  subst this
                  exact frozen_of_row w g' _ cur _ q2) (fun v hv => by
                obtain ⟨y, hy, hv⟩ := List.mem_flatten.1 hv
                have := List.eq_of_mem_replicate hy
                subst this
                exact List.all_eq_true.1 hone.2 v hv)
            simp only [Nat.add_zero] at hrun
            refine ⟨.tuple #[], _, m', ?_, s2, s3, .tu [] [] rfl (fun i h => absurd h (by simp)), s1⟩
            obtain ⟨k, hk⟩ : ∃ k, len - lo = k + 1 := ⟨len - lo - 1, by omega⟩
            have hzf := zeroCells_flat te.z (by rw [e7, hsz]; exact hn0) (len - lo)
            rw [hk] at hrun hzf ⊢
            simp [Builtin.clear_, run_underlying hs, hzv, hcz, hzf, hrun]
          · have h0 : len - lo = 0 := by omega
            refine ⟨.tuple #[], w, m, ?_, Mp.le.refl m, KeepI.refl _ _, .tu [] [] rfl (fun i h => absurd h (by simp)), ?_⟩
            · rw [h0]
              cases a0 <;> simp [Builtin.clear_, run_underlying hs]
            · rw [h0, List.take_of_length_le (by omega)]
              simp only [List.replicate_zero, List.append_nil]
              exact h.sub fun key x hk => by
                simp only [puts, get_put1] at hk
                split at hk
                · rename_i e; rw [← Key.eq_iff.1 e, hg]; exact hk
                · exact hk
        · cases hd
      · cases hd
    · cases hd
  · cases hd
theorem St.thawRo (h : St cx Fr m Im w a σ) {g : Nat} {R : RowM} (hR : m.row g = some R) (h0 : R.len = 0) : RoOk m Im w R (.rp R.E R.n []) := by
  obtain ⟨xs, hx⟩ := h.mem.row g R hR
  have hxs : xs = [] := by
    have := hx.1
    rw [h0, Nat.zero_mul] at this
    exact List.length_eq_zero_iff.1 this
  subst hxs
  refine .rp (R := R) [] [] (by rw [h0]; rfl) (fun i h => absurd h (by simp)) hx (fun u h => absurd h (by simp)) (fun i h => absurd h (by simp)) fun b o hb hi => ?_
  have := h.mem.rIm g R b o hR hb hi
  rw [h0, Nat.zero_mul] at this
  omega
theorem app_priv (hT : TabOk P T) (h : St cx Fr m Im w a σ) {t E : Nat} {ti te : TI} (hti : tget T t = some ti) (hE : ti.el = some E) (hte : tget T E = some te) (hsz : 0 < te.sz) (hby : te.bys ≤ 1000)
    {g : Nat} {R : RowM} (hg : m.row g = some R) (hRE : R.E = E) (hRn : R.n = te.sz) {l l2 : List (List D)} (hro : RoOk m Im w R (.rp R.E R.n l)) {y : Value} {e : D} (hy : Rel m Im w y e) (hs : srcD te.sz e = some l2) (hle : l.length + l2.length ≤ 1000000) (ty : TypeId) :
    ∃ v w' m', (Builtin.append_ #[t, t] ty #[R.hv, y]).run P w = .ok v w' ∧ m.le m' ∧ KeepI Im w w' ∧ Rel m' Im w' v (.ps g (l.length + l2.length)) ∧ St cx Fr m' Im w' a (put1 (.r g) (.rp E te.sz (l ++ l2)) σ) := by
  obtain ⟨ei, ed, e1, e2, e3, e4, e5, e6, e7, e8⟩ := (hT _ _ hte).parts
  have hsl := (hT _ _ hti).slice hE
  obtain ⟨R2, rlen, E2, n2⟩ := R
  dsimp only at *
  subst hRE hRn
  cases hro with
  | rp _ xs hl hn hown h1 hrr hni =>
  dsimp only at *
  subst hl
  have hzs := (hT _ _ hte).zsize
  have hps : ∀ {m' : Mp} {w' : World} {v' : Value} {k : Nat} {zs : List Value}, m'.row g = some ⟨v', k, E2, te.sz⟩ → w'.ownsRow 0 E2 te.sz v' k zs → Rel m' Im w' v' (.ps g k) := fun {m' w' v' k zs} hg' hw' => by
    rcases hw'.2 with ⟨rfl, rfl⟩ | ⟨g', cap, cur, rfl, _, _, hnc, _⟩
    · exact .ps none 0 g 0 (fun h => absurd h (by omega)) (Nat.le_refl _) ⟨_, hg', Nat.le_refl _, fun _ => rfl⟩
    · exact .ps (some ⟨g', 0, none⟩) cap g k (fun _ => ⟨g', rfl⟩) hnc ⟨_, hg', Nat.le_refl _, fun _ => rfl⟩
  cases hl2 : l2 with
  | nil =>
    subst hl2
    have hrun : (Builtin.append_ #[t, t] ty #[R2, y]).run P w = .ok R2 w := by
      have hsrc : Src P ei.size t y 0 [] w := by
        unfold srcD at hs
        split at hs
        · split at hs
          · cases hs
            obtain ⟨a', c, bl, off, X, rfl, _⟩ := rel_sl hy
            cases a' with
            | none => exact Src.ofNil w hsl c
            | some ad => exact Src.ofSlice w hsl ad 0 c [] (by simp) (by simp) (by simp)
          · cases hs
        · cases hs
          rename_i ad c
          have := rel_v.1 hy; subst this
          cases ad with
          | none => exact Src.ofNil w hsl _
          | some ad => exact Src.ofSlice w hsl ad 0 c [] (by simp) (by simp) (by simp)
        · cases hs
      rcases hown.2 with ⟨rfl, h0⟩ | ⟨g', cap, cur, rfl, _, _, hnc, _⟩
      · exact run_append_nothing w t t ty _ ei hsl e1 none 0 0 (Nat.le_refl _) y hsrc
      · exact run_append_nothing w t t ty _ ei hsl e1 (some ⟨g', 0, none⟩) _ cap hnc y hsrc
    refine ⟨R2, w, m, hrun, Mp.le.refl m, KeepI.refl _ _, hps hg hown, ?_⟩
    rw [List.append_nil]
    exact h.putro hg (.rp (R := ⟨R2, l.length, E2, te.sz⟩) l xs rfl hn hown h1 hrr hni)
  | cons r0 rs =>
    have hk : 0 < l2.length := by rw [hl2]; simp
    rw [← hl2]
    clear hl2
    have hy' : ∃ g2, Rel m Im w y (.sl te.sz l2 g2) := by
      unfold srcD at hs
      split at hs
      · split at hs
        · rename_i n' l' g' hn
          have hn : n' = te.sz := by simpa using hn
          cases hs
          exact ⟨g', hn ▸ hy⟩
        · cases hs
      · cases hs; simp at hk
      · cases hs
    obtain ⟨g2, hy2⟩ := hy'
    obtain ⟨a', c, bl, off, Y, rfl, y1, y2, y3, y4, y5, y6, y7⟩ := rel_sl hy2
    obtain rfl := y2 hk
    have hdm : ∀ o, o < l2.length * te.sz → o / te.sz < l2.length ∧ o % te.sz < te.sz ∧ o / te.sz * te.sz + o % te.sz = o := fun o ho =>
      ⟨Nat.div_lt_of_lt_mul (by rw [Nat.mul_comm]; exact ho), Nat.mod_lt _ hsz, Nat.div_add_mod' o te.sz⟩
    let news : List Value := (List.range (l2.length * te.sz)).map fun o => Y (o / te.sz) (o % te.sz)
    have hnl : news.length = l2.length * te.sz := by simp [news]
    have hng : ∀ j u, news[j]? = some u → j < l2.length * te.sz ∧ u = Y (j / te.sz) (j % te.sz) := fun j u hu => by
      simp only [news, List.getElem?_map] at hu
      by_cases hj : j < l2.length * te.sz
      · rw [List.getElem?_range hj] at hu; cases hu; exact ⟨hj, rfl⟩
      · rw [List.getElem?_eq_none (by simpa using hj)] at hu; cases hu
    have hn1 : ∀ u ∈ news, u.oneCell' = true := fun u hu => by
      obtain ⟨j, hj, rfl⟩ := List.getElem_of_mem hu
      obtain ⟨hj2, e⟩ := hng j _ (List.getElem?_eq_getElem hj)
      obtain ⟨q1, q2, q3⟩ := hdm j hj2
      rw [e]; exact y5 _ _ q1 q2
    obtain ⟨v', w', hrun, hown', hgr⟩ := run_append_deep (w := w) (P := P) 0 t ty E2 ei (zeroOf te) te.sz te.bys hsl e1 e5 e3 e4 hzs hsz R2 l.length xs hown ⟨bl, off, none⟩ l2.length c news hnl
      (fun j u hu => by
        obtain ⟨hj, rfl⟩ := hng j u hu
        obtain ⟨q1, q2, q3⟩ := hdm j hj
        have := (y3 _ _ q1 q2).1
        rw [addr_addN, ← this]
        congr 2
        omega)
      hn1
      (by unfold maxLen; omega)
      (by have : (l.length + l2.length) * te.bys ≤ 1000000 * 1000 := Nat.mul_le_mul hle hby
          omega)
      (Nat.zero_le _)
    have hg2 : w'.os = w.os ∧ w'.tape = w.tape ∧ w'.output = w.output := by rcases hgr with ⟨_, h2⟩ | ⟨_, h2⟩ <;> exact ⟨h2.os, h2.tape, h2.output⟩
    have hsz2 : w.heap.size ≤ w'.heap.size := by rcases hgr with ⟨_, h2⟩ | ⟨_, h2⟩ <;> exact h2.size
    have hcase : ∀ b, v'.ownBlock = some b → R2.ownBlock = some b ∨ w.heap.size ≤ b := fun b hb => by
      rcases hgr with ⟨h2, _⟩ | ⟨h2, _⟩
      · left; rw [← h2]; exact hb
      · right; rw [h2] at hb; cases hb; exact Nat.le_refl _
    have hsame : ∀ c, c < w.heap.size → R2.ownBlock ≠ some c → w'.heap[c]? = w.heap[c]? := fun c hc hne => by
      rcases hgr with ⟨_, h2⟩ | ⟨_, h2⟩
      · exact h2.block c hc fun e => hne e.symm
      · exact h2.block c hc
    have hxl : xs.length = l.length * te.sz := hown.1
    have key : ∀ hle2 : m.le (m.setR g ⟨v', l.length + l2.length, E2, te.sz⟩), ∀ hki : KeepI Im w w', RoOk (m.setR g ⟨v', l.length + l2.length, E2, te.sz⟩) Im w' ⟨v', l.length + l2.length, E2, te.sz⟩ (.rp E2 te.sz (l ++ l2)) := fun hle2 hki => by
      refine .rp (R := ⟨v', l.length + l2.length, E2, te.sz⟩) (l ++ l2) (xs ++ news) (by simp) (fun i hi => ?_) hown' (fun u hu => ?_) (fun i hi j hj => ?_) (fun b o hb hi => ?_)
      · by_cases hi2 : i < l.length
        · rw [List.getElem_append_left hi2]; exact hn i hi2
        · rw [List.getElem_append_right (by omega)]; exact y4 _ _
      · rcases List.mem_append.1 hu with hu | hu
        · exact h1 u hu
        · exact hn1 u hu
      · rw [List.length_append] at hi
        by_cases hi2 : i < l.length
        · have e0 : (l ++ l2)[i] = l[i] := List.getElem_append_left hi2
          have hj2 : j < l[i].length := by rw [e0] at hj; exact hj
          have hjn : j < te.sz := by rw [hn i hi2] at hj2; exact hj2
          have hij : i * te.sz + j < xs.length := by
            rw [hxl]
            have : (i + 1) * te.sz ≤ l.length * te.sz := Nat.mul_le_mul_right _ hi2
            rw [Nat.succ_mul] at this; omega
          simp only [e0]
          show Rel _ _ _ ((xs ++ news).getD (i * te.sz + j) undef) _
          rw [List.getD_eq_getElem?_getD, List.getElem?_append_left hij, ← List.getD_eq_getElem?_getD]
          exact (hrr i hi2 j hj2).mono hle2 hki fun _ _ h => h
        · have e0 : (l ++ l2)[i] = l2[i - l.length] := List.getElem_append_right (by omega)
          have hil : i - l.length < l2.length := by omega
          have hj2 : j < l2[i - l.length].length := by rw [e0] at hj; exact hj
          have hjn : j < te.sz := by rw [y4 _ hil] at hj2; exact hj2
          simp only [e0]
          show Rel _ _ _ ((xs ++ news).getD (i * te.sz + j) undef) _
          have hsp : i * te.sz + j = xs.length + ((i - l.length) * te.sz + j) := by
            rw [hxl, ← Nat.add_assoc, ← Nat.add_mul]; congr 2; omega
          have hlt : (i - l.length) * te.sz + j < l2.length * te.sz := by
            have : (i - l.length + 1) * te.sz ≤ l2.length * te.sz := Nat.mul_le_mul_right _ hil
            rw [Nat.succ_mul] at this; omega
          rw [hsp, List.getD_eq_getElem?_getD, List.getElem?_append_right (by omega), Nat.add_sub_cancel_left]
          simp only [news, List.getElem?_map, List.getElem?_range hlt, Option.map_some, Option.getD_some]
          rw [show (i - l.length) * te.sz + j = j + te.sz * (i - l.length) by rw [Nat.mul_comm]; omega, Nat.add_mul_div_left _ _ hsz, Nat.div_eq_of_lt hjn, Nat.zero_add, Nat.add_mul_mod_self_left, Nat.mod_eq_of_lt hjn]
          exact (y6 _ hil j hj2).mono hle2 hki fun _ _ h => h
      · rcases hcase b hb with h2 | h2
        · exact hni b o h2 hi
        · obtain ⟨u, hu⟩ := h.mem.im b o hi
          have := ltOfCell hu; omega
    obtain ⟨q1, q2, q3⟩ := h.turnP (R' := ⟨v', l.length + l2.length, E2, te.sz⟩) (w' := w') hg hg2 hsz2 hsame hni hcase ⟨by simp, fun e => by simp only at e; omega⟩ ⟨_, hown'⟩ key
    exact ⟨v', w', _, hrun, q2, q3, hps (by simp [Mp.setR]) hown', q1⟩
theorem app_clip (hT : TabOk P T) (h : St cx Fr m Im w a σ) {nm : Nat} (hn : Fr nm) {t E : Nat} {ti te : TI} (hti : tget T t = some ti) (hE : ti.el = some E) (hte : tget T E = some te) (hsz : 0 < te.sz) (hby : te.bys ≤ 1000)
    {l l2 : List (List D)} {x y : Value} {e : D} (hx : Rel m Im w x (.cl te.sz l)) (hy : Rel m Im w y e) (hs : srcD te.sz e = some l2) (hk : 0 < l2.length) (hle : l.length + l2.length ≤ 1000000) (ty : TypeId) :
    ∃ v w' m' Im', (Builtin.append_ #[t, t] ty #[x, y]).run P w = .ok v w' ∧ m.le m' ∧ KeepI Im w w' ∧ (∀ b o, Im b o → Im' b o) ∧ Rel m' Im' w' v (.sl te.sz (l ++ l2) (some nm)) ∧ St cx (minus Fr nm) m' Im' w' a (put1 (.r nm) (.rw E te.sz (l ++ l2).length) σ) := by
  have h1 := h.newRow hn E te.sz
  have hle1 : m.le (m.setR nm ⟨.slice none 0 0, 0, E, te.sz⟩) := Mp.setR_le fun R0 h0 => by rw [(h.mem.fr nm hn).2.1] at h0; cases h0
  have hg : (m.setR nm ⟨.slice none 0 0, 0, E, te.sz⟩).row nm = some ⟨.slice none 0 0, 0, E, te.sz⟩ := by simp [Mp.setR]
  cases hx with
  | cl a0 _ _ hcl =>
  obtain ⟨a0', c0, b0, o0, X0, x0, x1, x2, x3, x4, x5, x6, x7⟩ := rel_sl hcl
  injection x0 with e1 e2 e3
  subst e1
  cases a0 with
  | none =>
    have hl0 : l.length = 0 := by
      rcases Nat.eq_zero_or_pos l.length with h0 | h0
      · exact h0
      · cases x2 h0
    have hl : l = [] := List.length_eq_zero_iff.1 hl0
    subst hl
    obtain ⟨v, w', m', Im', q1, q2, q3, q4, q5, q6⟩ := app_own (P := P) (t := t) hT h1 hti hE hte hsz hby hg rfl rfl (l := []) (l2 := l2) rfl (rel_nil hg) (hy.mono hle1 (KeepI.refl _ _) fun _ _ h => h) hs (by simpa using hle) ty
    refine ⟨v, w', m', Im', q1, hle1.trans q2, q3, q4, by simpa using q5, q6.sub fun k d hk => ?_⟩
    simp only [get_put1] at hk ⊢
    split
    · rename_i hc; rw [if_pos hc] at hk; exact hk
    · rename_i hc; rw [if_neg hc] at hk; exact hk
  | some ad =>
    have hy' : ∃ g2, Rel m Im w y (.sl te.sz l2 g2) := by
      unfold srcD at hs
      split at hs
      · split at hs
        · rename_i n' l' g' hn
          have hn : n' = te.sz := by simpa using hn
          cases hs
          exact ⟨g', hn ▸ hy⟩
        · cases hs
      · cases hs; simp at hk
      · cases hs
    obtain ⟨g2, hy2⟩ := hy'
    obtain ⟨a', c, bl, off, Y, rfl, y1, y2, y3, y4, y5, y6, y7⟩ := rel_sl hy2
    obtain rfl := y2 hk
    obtain ⟨ei, ed, e1, e2, e3, e4, e5, e6, e7, e8⟩ := (hT _ _ hte).parts
    have hsl := (hT _ _ hti).slice hE
    have hzs := (hT _ _ hte).zsize
    have hdm : ∀ (n o : Nat), o < n * te.sz → o / te.sz < n ∧ o % te.sz < te.sz ∧ o / te.sz * te.sz + o % te.sz = o := fun n o ho =>
      ⟨Nat.div_lt_of_lt_mul (by rw [Nat.mul_comm]; exact ho), Nat.mod_lt _ hsz, Nat.div_add_mod' o te.sz⟩
    let news : List Value := (List.range (l2.length * te.sz)).map fun o => Y (o / te.sz) (o % te.sz)
    let olds : List Value := (List.range (l.length * te.sz)).map fun o => X0 (o / te.sz) (o % te.sz)
    have hnl : news.length = l2.length * te.sz := by simp [news]
    have hol : olds.length = l.length * te.sz := by simp [olds]
    have hng : ∀ j u, news[j]? = some u → j < l2.length * te.sz ∧ u = Y (j / te.sz) (j % te.sz) := fun j u hu => by
      simp only [news, List.getElem?_map] at hu
      by_cases hj : j < l2.length * te.sz
      · rw [List.getElem?_range hj] at hu; cases hu; exact ⟨hj, rfl⟩
      · rw [List.getElem?_eq_none (by simpa using hj)] at hu; cases hu
    have hog : ∀ j u, olds[j]? = some u → j < l.length * te.sz ∧ u = X0 (j / te.sz) (j % te.sz) := fun j u hu => by
      simp only [olds, List.getElem?_map] at hu
      by_cases hj : j < l.length * te.sz
      · rw [List.getElem?_range hj] at hu; cases hu; exact ⟨hj, rfl⟩
      · rw [List.getElem?_eq_none (by simpa using hj)] at hu; cases hu
    have holds : ∀ j u, olds[j]? = some u → w.cell? (ad.add j) = some u := fun j u hu => by
      obtain ⟨hj, rfl⟩ := hog j u hu
      obtain ⟨q1, q2, q3⟩ := hdm _ j hj
      have hpos : 0 < l.length := Nat.lt_of_le_of_lt (Nat.zero_le _) q1
      have had := x2 hpos
      injection had with had
      subst had
      have := (x3 _ _ q1 q2).1
      rw [addr_addN, ← this]
      congr 2
      omega
    have hnews : ∀ j u, news[j]? = some u → w.cell? ((⟨bl, off, none⟩ : Addr).add j) = some u := fun j u hu => by
      obtain ⟨hj, rfl⟩ := hng j u hu
      obtain ⟨q1, q2, q3⟩ := hdm _ j hj
      have := (y3 _ _ q1 q2).1
      rw [addr_addN, ← this]
      congr 2
      omega
    obtain ⟨v', w', hrun, hown', hgb⟩ := run_append_arg_grows (P := P) w t ty E ei (zeroOf te) te.sz te.bys hsl e1 e5 e3 e4 hzs hsz ad l.length l.length olds hol holds
      ⟨bl, off, none⟩ l2.length c news hnl hnews
      (by omega) (by unfold maxLen; omega)
      (by have : (l.length + l2.length) * te.bys ≤ 1000000 * 1000 := Nat.mul_le_mul hle hby
          omega)
    have hown2 : w'.ownsRow 0 E te.sz v' (0 + (l.length + l2.length)) ([] ++ (olds ++ news)) := by
      rw [Nat.zero_add, List.nil_append]
      refine ⟨hown'.1, hown'.2.imp id ?_⟩
      rintro ⟨g', cap, cur, q1, q2, q3⟩
      exact ⟨g', cap, cur, q1, Nat.zero_le _, q3⟩
    have hblow : Below w.heap.size w w' := ⟨hgb.os, hgb.tape, hgb.output, hgb.size, fun b hb => hgb.block b hb (by simp)⟩
    have hg63 : l.length < l.length + l2.length := by omega
    have hbytes : (l.length + l2.length) * ei.bytes ≤ 140737488355328 := by
      have : (l.length + l2.length) * te.bys ≤ 1000000 * 1000 := Nat.mul_le_mul hle hby
      rw [e4]; omega
    have hv' : v'.ownBlock = some w.heap.size := by
      have hr := run_append_grow (P := P) w t ty E ei (zeroOf te) hsl e1 e5 ad l.length l.length olds (by rw [e3]; exact hol) holds ⟨bl, off, none⟩ l2.length c news (by rw [e3]; exact hnl) hnews hg63 (by omega) (growslice_fits hg63 hbytes)
      rw [hrun] at hr
      injection hr with hv _
      rw [hv]; rfl
    obtain ⟨xs, hown⟩ := h1.mem.row nm _ hg
    have hxs : xs = [] := by
      have := hown.1
      simpa using this
    subst hxs
    obtain ⟨Im', b, hb, i1, i2, i3, i4, i5⟩ := h1.grow (g := nm) (R := ⟨.slice none 0 0, 0, E, te.sz⟩) hg (v' := v') (k := l.length + l2.length) (xs := []) (ys := olds ++ news) hsz (by omega) hown hown2 (.inr ⟨hv', hblow⟩)
    obtain ⟨gb, cap, rfl, _, hbl⟩ := hown'.form (by omega)
    have hgb : gb = b := by simpa [Value.ownBlock] using hb
    subst hgb
    have hcap : l.length + l2.length ≤ cap := by
      rcases hown'.2 with ⟨h0, _⟩ | ⟨g', cap', cur, h0, _, _, hnc, _⟩
      · cases h0
      · injection h0 with _ _ q; rw [q]; exact hnc
    have hcells : ∀ o u, (olds ++ news)[o]? = some u → w'.cell? ⟨gb, o, none⟩ = some u := fun o u hu => by
      have := hown'.cells (g := gb) rfl o u hu
      rw [addr_add0] at this; exact this
    have hall : (olds ++ news).length = (l.length + l2.length) * te.sz := hown'.1
    have hlt : ∀ n i j, i < n → j < te.sz → i * te.sz + j < n * te.sz := fun n i j hi hj => by
      have : (i + 1) * te.sz ≤ n * te.sz := Nat.mul_le_mul_right _ hi
      rw [Nat.succ_mul] at this; omega
    have hdv : ∀ i j, j < te.sz → (i * te.sz + j) / te.sz = i ∧ (i * te.sz + j) % te.sz = j := fun i j hj => by
      rw [show i * te.sz + j = j + te.sz * i by rw [Nat.mul_comm]; omega, Nat.add_mul_div_left _ _ hsz, Nat.div_eq_of_lt hj, Nat.zero_add, Nat.add_mul_mod_self_left, Nat.mod_eq_of_lt hj]
      exact ⟨rfl, rfl⟩
    have hX : ∀ i j, i < l.length → j < te.sz → (olds ++ news)[i * te.sz + j]? = some (X0 i j) := fun i j hi hj => by
      have hij := hlt _ i j hi hj
      rw [List.getElem?_append_left (by rw [hol]; exact hij)]
      simp only [olds, List.getElem?_map, List.getElem?_range hij, Option.map_some]
      rw [(hdv i j hj).1, (hdv i j hj).2]
    have hY : ∀ i j, i < l2.length → j < te.sz → (olds ++ news)[(l.length + i) * te.sz + j]? = some (Y i j) := fun i j hi hj => by
      have hij := hlt _ i j hi hj
      rw [List.getElem?_append_right (by rw [hol, Nat.add_mul]; omega), hol, show (l.length + i) * te.sz + j - l.length * te.sz = i * te.sz + j by rw [Nat.add_mul]; omega]
      simp only [news, List.getElem?_map, List.getElem?_range hij, Option.map_some]
      rw [(hdv i j hj).1, (hdv i j hj).2]
    have hle3 : m.le ((m.setR nm ⟨.slice none 0 0, 0, E, te.sz⟩).setR nm ⟨.slice (some ⟨gb, 0, none⟩) (l.length + l2.length) cap, 0 + (l.length + l2.length), E, te.sz⟩) := hle1.trans i4
    have hmono : ∀ {x d}, Rel m Im w x d → Rel ((m.setR nm ⟨.slice none 0 0, 0, E, te.sz⟩).setR nm ⟨.slice (some ⟨gb, 0, none⟩) (l.length + l2.length) cap, 0 + (l.length + l2.length), E, te.sz⟩) Im' w' x d := fun hx => hx.mono hle3 i3 i1
    have key : Rel ((m.setR nm ⟨.slice none 0 0, 0, E, te.sz⟩).setR nm ⟨.slice (some ⟨gb, 0, none⟩) (l.length + l2.length) cap, 0 + (l.length + l2.length), E, te.sz⟩) Im' w' (.slice (some ⟨gb, 0, none⟩) (l ++ l2).length cap) (.sl te.sz (l ++ l2) (some nm)) := by
      refine .sl _ cap gb 0 te.sz (fun i j => (olds ++ news).getD (i * te.sz + j) undef) (l ++ l2) (some nm) (by rw [List.length_append]; unfold maxLen; omega) (fun _ => rfl) (fun i j hi hj => ?_) (fun i hi => ?_) (fun i j hi hj => ?_) (fun i hi j hj => ?_) (fun r e => ?_)
      · rw [List.length_append] at hi
        have hij := hlt _ i j hi hj
        rw [Nat.zero_add]
        refine ⟨?_, i2 _ (by show _ < (0 + (l.length + l2.length)) * te.sz; rw [Nat.zero_add]; exact hij)⟩
        have hij2 : i * te.sz + j < (olds ++ news).length := by omega
        rw [List.getD_eq_getElem?_getD, List.getElem?_eq_getElem hij2]
        exact hcells _ _ (List.getElem?_eq_getElem hij2)
      · by_cases hi2 : i < l.length
        · rw [List.getElem_append_left hi2]; exact x4 i hi2
        · rw [List.getElem_append_right (by omega)]; exact y4 _ _
      · rw [List.length_append] at hi
        rw [List.getD_eq_getElem?_getD]
        by_cases hi2 : i < l.length
        · rw [hX i j hi2 hj]; exact x5 i j hi2 hj
        · have := hY (i - l.length) j (by omega) hj
          rw [show l.length + (i - l.length) = i by omega] at this
          rw [this]; exact y5 _ _ (by omega) hj
      · rw [List.length_append] at hi
        rw [List.getD_eq_getElem?_getD]
        by_cases hi2 : i < l.length
        · have hj2 : j < l[i].length := by rw [List.getElem_append_left hi2] at hj; exact hj
          rw [hX i j hi2 (by rw [x4 i hi2] at hj2; exact hj2)]
          simp only [Option.getD_some]
          have := x6 i hi2 j hj2
          simpa [List.getElem_append_left hi2] using hmono this
        · have hj2 : j < l2[i - l.length].length := by rw [List.getElem_append_right (by omega)] at hj; exact hj
          have := hY (i - l.length) j (by omega) (by rw [y4 _ (by omega)] at hj2; exact hj2)
          rw [show l.length + (i - l.length) = i by omega] at this
          rw [this]
          simp only [Option.getD_some]
          have := y6 (i - l.length) (by omega) j hj2
          simpa [List.getElem_append_right (show l.length ≤ i by omega)] using hmono this
      · cases e
        exact ⟨⟨.slice (some ⟨gb, 0, none⟩) (l.length + l2.length) cap, 0 + (l.length + l2.length), E, te.sz⟩, by simp [Mp.setR], by simp, fun _ => by simp⟩
    refine ⟨_, w', _, Im', hrun, hle3, i3, i1, by simpa using key, ?_⟩
    have i6 : St cx (minus Fr nm) _ Im' w' a _ := i5
    rw [show (0 + (l.length + l2.length)) = (l ++ l2).length by simp] at i6 ⊢
    refine i6.sub fun k d hk => ?_
    simp only [get_put1] at hk ⊢
    split
    · rename_i hc; rw [if_pos hc] at hk; exact hk
    · rename_i hc; rw [if_neg hc] at hk; exact hk
end
end Go.Proofs.Ytdmiekaeodcehaa

namespace Go.Proofs.Ytdmiekaeodcehaa
open Go.RowKit

section
variable {P : Program} {T : List (Nat × TI)} {cx : Cx} {Fr Fr' : Nat → Prop} {m m' : Mp} {Im Im' : Nat → Nat → Prop} {w w' : World} {a : Act} {σ σ' : List (Key × D)}
theorem Rel.mono1 {x : Value} {d : D} (h : Rel m Im w x d) (hm : m.le m') : Rel m' Im w x d := h.mono hm (KeepI.refl _ _) fun _ _ h => h
theorem app_run (hT : TabOk P T) (h : St cx Fr m Im w a σ) {nm : Nat} (hn : Fr nm) {t ty : Nat} {x y : Value} {d e V : D} {W : List (Key × D)} {R : List Key} (hx : Rel m Im w x d) (hy : Rel m Im w y e) (hd : appD T σ nm t d e = some (V, W, R)) :
    ∃ v w' m' Im', (Builtin.append_ #[t, t] ty #[x, y]).run P w = .ok v w' ∧ m.le m' ∧ KeepI Im w w' ∧ (∀ b o, Im b o → Im' b o) ∧ Rel m' Im' w' v V ∧ St cx (minus Fr nm) m' Im' w' a (puts σ W) := by
  unfold appD at hd
  split at hd
  · cases hd
  · rename_i ti hti
    split at hd
    · cases hd
    · rename_i E hE
      split at hd
      · cases hd
      · rename_i te hte
        split at hd
        · cases hd
        · rename_i l2 hl2
          split at hd
          · rename_i hsz
            split at hd
            · split at hd
              · rename_i hle
                cases hd
                have := rel_v.1 hx; subst this
                have h1 := h.newRow hn E te.sz
                have hle1 : m.le (m.setR nm ⟨.slice none 0 0, 0, E, te.sz⟩) := Mp.setR_le fun R0 h0 => by rw [(h.mem.fr nm hn).2.1] at h0; cases h0
                have hg : (m.setR nm ⟨.slice none 0 0, 0, E, te.sz⟩).row nm = some ⟨.slice none 0 0, 0, E, te.sz⟩ := by simp [Mp.setR]
                obtain ⟨v, w', m', Im', q1, q2, q3, q4, q5, q6⟩ := app_own (P := P) (t := t) hT h1 hti hE hte hsz.1 hsz.2 hg rfl rfl (l := []) (l2 := l2) rfl (rel_nil hg) (hy.mono1 hle1) hl2 (by simpa using hle) ty
                refine ⟨v, w', m', Im', q1, hle1.trans q2, q3, q4, by simpa using q5, q6.sub fun k d hk => ?_⟩
                simp only [puts, get_put1] at hk ⊢
                simp only [List.nil_append]
                split
                · rename_i hc; rw [if_pos hc] at hk; exact hk
                · rename_i hc; rw [if_neg hc] at hk; exact hk
              · cases hd
            · rename_i n l g
              split at hd
              · rename_i E' n' len hg
                split at hd
                · rename_i hc
                  obtain ⟨rfl, rfl, rfl, rfl, hle⟩ := hc
                  cases hd
                  obtain ⟨R, hR, e⟩ := h.ro g _ hg
                  have e := e.rwi
                  injection e with e1 e2 e3
                  obtain ⟨_, _, _, _, _, x0, _, _, _, _, _, _, x7⟩ := rel_sl hx
                  obtain ⟨R', hR', _, hv⟩ := x7 g rfl
                  rw [hR] at hR'; cases hR'
                  have hv := hv e3
                  rw [← hv] at hx ⊢
                  obtain ⟨v, w', m', Im', q1, q2, q3, q4, q5, q6⟩ := app_own (P := P) (t := t) hT h hti hE hte hsz.1 hsz.2 hR e1.symm e2.symm e3.symm hx hy hl2 hle ty
                  exact ⟨v, w', m', Im', q1, q2, q3, q4, q5, q6.less fun k hk => hk.1⟩
                · cases hd
              · cases hd
            · rename_i g len
              split at hd
              · rename_i E' n' l hg
                split at hd
                · rename_i hc
                  obtain ⟨rfl, rfl, rfl, hle⟩ := hc
                  cases hd
                  obtain ⟨R, hR, hro⟩ := h.ro g _ hg
                  have ho := hro.rpi
                  obtain ⟨o1, o2, o3⟩ := ho
                  cases hx with
                  | ps a0 c0 _ _ ha _ hh =>
                  obtain ⟨R', p1, p2, p3⟩ := hh
                  rw [hR] at p1; cases p1
                  have hv := p3 o3
                  rw [← hv]
                  obtain ⟨v, w', m', q1, q2, q3, q5, q6⟩ := app_priv (P := P) (t := t) hT h hti hE hte hsz.1 hsz.2 hR o1.symm o2.symm (by rw [← o1, ← o2]; exact hro) hy hl2 hle ty
                  exact ⟨v, w', m', Im, q1, q2, q3, fun _ _ h => h, q5, q6.less fun k hk => hk.1⟩
                · cases hd
              · rename_i E' n' hg
                split at hd
                · rename_i hc
                  obtain ⟨rfl, rfl, rfl, hle⟩ := hc
                  cases hd
                  obtain ⟨R, hR, hro⟩ := h.ro g _ hg
                  have e := hro.rwi
                  injection e with e1 e2 e3
                  have hro := h.thawRo hR e3.symm
                  cases hx with
                  | ps a0 c0 _ _ ha _ hh =>
                  obtain ⟨R', p1, p2, p3⟩ := hh
                  rw [hR] at p1; cases p1
                  have hv := p3 e3
                  rw [← hv]
                  obtain ⟨v, w', m', q1, q2, q3, q5, q6⟩ := app_priv (P := P) (t := t) hT h hti hE hte hsz.1 hsz.2 hR e1.symm e2.symm (l := []) (by rw [e1, e2] at *; exact hro) hy hl2 (by simpa using hle) ty
                  exact ⟨v, w', m', Im, q1, q2, q3, fun _ _ h => h, by simpa using q5, q6.less fun k hk => hk.1⟩
                · cases hd
              · cases hd
            · split at hd
              · rename_i n l hcc
                obtain ⟨rfl, hk, hle⟩ := hcc
                cases hd
                exact app_clip (P := P) (t := t) hT h hn hti hE hte hsz.1 hsz.2 hx hy hl2 hk hle ty
              · cases hd
            · cases hd
          · cases hd

theorem rowsD_len {te : TI} : ∀ {ds : List D} {rows : List (List D)}, rowsD te ds = some rows → rows.length = ds.length
  | [], rows, h => by cases h; rfl
  | d :: ds, rows, h => by
    simp only [rowsD] at h
    split at h
    · cases hr : rowsD te ds with
      | none => rw [hr] at h; cases h
      | some rs => rw [hr] at h; cases h; simp [rowsD_len hr]
    · cases h
theorem fill_rows {te : TI} (hsz : 0 < te.sz) : ∀ (ps : List (Nat × Value)) (ds : List D) (rows : List (List D)) (k : Nat) (cs : List Value), inOrder k (ps.map (·.1)) = true → RelL m Im w (ps.map (·.2)) ds → rowsD te ds = some rows → (k + ps.length) * te.sz ≤ cs.length →
    ∃ cs' : List Value, Instr.fill (fun i => some (i * te.sz, te.sz)) cs.toArray ps = some cs'.toArray ∧ cs'.length = cs.length ∧ (∀ o, o < k * te.sz → cs'[o]? = cs[o]?) ∧ (∀ i (hi : i < rows.length), rows[i].length = te.sz ∧ rows[i].all D.one = true ∧ ∀ j (hj : j < rows[i].length), ∃ v, cs'[(k + i) * te.sz + j]? = some v ∧ Rel m Im w v rows[i][j])
  | [], ds, rows, k, cs, _, hr, hrow, _ => by
    cases ds with
    | nil => cases hrow; exact ⟨cs, rfl, rfl, fun _ _ => rfl, fun i hi => absurd hi (by simp)⟩
    | cons d ds => exact hr.elim
  | (i0, v) :: ps, ds, rows, k, cs, ho, hr, hrow, hle => by
    cases ds with
    | nil => exact hr.elim
    | cons d ds =>
      simp only [List.map_cons, inOrder, Bool.and_eq_true, beq_iff_eq] at ho
      obtain ⟨rfl, ho⟩ := ho
      obtain ⟨hv, hr⟩ := hr
      simp only [rowsD] at hrow
      split at hrow
      · rename_i c hc
        cases hrr : rowsD te ds with
        | none => rw [hrr] at hrow; cases hrow
        | some rs =>
          rw [hrr] at hrow
          cases hrow
          obtain ⟨vs, v1, v2, v3, v4, _, _⟩ := rel_dcells hv hc
          have hb : (i0 + 1) * te.sz ≤ cs.length := Nat.le_trans (Nat.mul_le_mul_right _ (by simp)) hle
          rw [Nat.succ_mul] at hb
          have hcl : c.length = te.sz := by rw [← (relL_iff.1 v2).1]; exact v3
          obtain ⟨cs', r1, r2, r3, r4⟩ := fill_rows hsz ps ds rs (i0 + 1) (cs.take (i0 * te.sz) ++ vs ++ cs.drop (i0 * te.sz + te.sz)) ho hr hrr (by
            simp only [List.length_append, List.length_take, List.length_drop, v3]
            simp only [List.length_cons] at hle
            rw [show i0 + 1 + ps.length = i0 + (ps.length + 1) by omega]; omega)
          refine ⟨cs', by rw [fill_one (sz := te.sz) rfl v1 v3 hb]; exact r1, by rw [r2]; simp [v3]; omega, fun o ho => ?_, fun i hi => ?_⟩
          · rw [r3 o (by rw [Nat.succ_mul]; omega), List.append_assoc, List.getElem?_append_left (by simp; omega), List.getElem?_take, if_pos ho]
          · cases i with
            | zero =>
              refine ⟨hcl, v4, fun j hj => ?_⟩
              have hj' : j < te.sz := by rw [← hcl]; exact hj
              have hj2 : j < vs.length := by omega
              refine ⟨vs[j], ?_, ?_⟩
              · rw [Nat.add_zero, r3 _ (by rw [Nat.succ_mul]; omega), List.append_assoc, List.getElem?_append_right (by simp; omega)]
                have : i0 * te.sz + j - (cs.take (i0 * te.sz)).length = j := by simp; omega
                rw [this, List.getElem?_append_left hj2, List.getElem?_eq_getElem hj2]
              · have := (relL_iff.1 v2).2 j hj
                simpa [List.getD_eq_getElem?_getD, List.getElem?_eq_getElem hj2] using this
            | succ i =>
              obtain ⟨s1, s2, s3⟩ := r4 i (by simpa using hi)
              refine ⟨s1, s2, fun j hj => ?_⟩
              have := s3 j hj
              rw [show i0 + 1 + i = i0 + (i + 1) by omega] at this
              exact this
      · cases hrow
theorem bsl_run (hT : TabOk P T) (h : St cx Fr m Im w a σ) {nm : Nat} (hn : Fr nm) {t len : Nat} {parts : Array (Nat × Operand)} {V : D} {W : List (Key × D)} {R : List Key} (hd : bslD T σ nm t len parts.toList = some (V, W, R)) :
    ∃ v w' m' Im', (Instr.buildSlice t len (parts.map fun (i, x) => (i, a.eval x))).run P w = .ok v w' ∧ m.le m' ∧ KeepI Im w w' ∧ (∀ b o, Im b o → Im' b o) ∧ Rel m' Im' w' v V ∧ St cx (minus Fr nm) m' Im' w' a (puts σ W) := by
  unfold bslD at hd
  split at hd
  · cases hd
  · rename_i ti hti
    split at hd
    · cases hd
    · rename_i E hE
      split at hd
      · cases hd
      · rename_i te hte
        split at hd
        · rename_i hc
          simp only [Bool.and_eq_true, beq_iff_eq, decide_eq_true_eq] at hc
          obtain ⟨⟨⟨hlen, hord⟩, hsz⟩, hbig⟩ := hc
          split at hd
          · cases hd
          · rename_i ds hds
            cases hr : rowsD te ds with
            | none => rw [hr] at hd; cases hd
            | some rows =>
              rw [hr] at hd
              cases hd
              have hev := h.evs hds
              obtain ⟨ei, ed, e1, e2, e3, e4, e5, e6, e7, e8⟩ := (hT _ _ hte).parts
              have hsl := (hT _ _ hti).slice hE
              have hdl : ds.length = len := by have := (relL_iff.1 hev).1; simp at this; rw [← this, ← hlen]; simp
              have hrl : rows.length = len := by rw [rowsD_len hr, hdl]
              let zs : List Value := if len * te.sz = 0 then [] else ((Array.range (len * te.sz)).map ((zeroOf te).cells[· % (zeroOf te).cells.size]!)).toList
              have hzl : zs.length = len * te.sz := by
                simp only [zs]; split
                · rename_i h0; simp [h0]
                · simp
              obtain ⟨cs', f1, f2, _, f4⟩ := fill_rows (m := m) (Im := Im) (w := w) hsz (parts.toList.map fun p => (p.1, a.eval p.2)) ds rows 0 zs (by rw [List.map_map]; exact hord) (by rw [List.map_map] at hev ⊢; exact hev) hr (by rw [hzl]; simp [← hlen])
              have hrun : (Instr.buildSlice t len (parts.map fun (i, x) => (i, a.eval x))).run P w = .ok (.slice (some ⟨w.heap.size, 0, none⟩) len len) (w.alloc (.cells cs'.toArray E)) := by
                by_cases h0 : len = 0
                · subst h0
                  have hp0 : parts.toList = [] := List.eq_nil_of_length_eq_zero hlen
                  have hpa : parts = #[] := by apply Array.ext'; simpa using hp0
                  have hcs : cs' = [] := List.eq_nil_of_length_eq_zero (by rw [f2, hzl]; simp)
                  subst hpa hcs
                  simp [Instr.buildSlice, run_underlying hsl, sizeOf, typeInfo, e1, newRow, Instr.fill]
                  rw [show Array.range 0 = #[] from by apply Array.ext'; simp]
                  simp
                · have hpos : ¬ len * ei.size = 0 := by rw [e3]; exact Nat.mul_ne_zero h0 (by omega)
                  refine run_buildSlice w t E len _ cs'.toArray ei (zeroOf te) hsl e1 e5 (by rw [e3]; omega) hpos ?_
                  rw [e3]
                  rw [e3] at hpos
                  rw [← f1]
                  congr 1
                  · simp only [zs, if_neg hpos]
                  · simp
              obtain ⟨Im', g1, g2, g3, g4⟩ := h.rowOf hn cs' len te.sz E (by rw [f2, hzl]) (by unfold maxLen; have : len * 1 ≤ len * te.sz := Nat.mul_le_mul_left _ hsz; omega)
              have hB := Blk.new w cs'.toArray E rfl
              have hb : Below w.heap.size w (w.alloc (.cells cs'.toArray E)) := (Below.refl _ _).alloc (Nat.le_refl _) _
              refine ⟨_, _, _, Im', hrun, g4, KeepI.below hb, g1, ?_, g3⟩
              have hlt : ∀ i j, i < len → j < te.sz → i * te.sz + j < len * te.sz := fun i j hi hj => by
                have : (i + 1) * te.sz ≤ len * te.sz := Nat.mul_le_mul_right _ hi
                rw [Nat.succ_mul] at this; omega
              have key : Rel (m.setR nm ⟨.slice (some ⟨w.heap.size, 0, none⟩) len len, len, E, te.sz⟩) Im' (w.alloc (.cells cs'.toArray E)) (.slice (some ⟨w.heap.size, 0, none⟩) rows.length len) (.sl te.sz rows (some nm)) := by
                refine .sl _ len w.heap.size 0 te.sz (fun i j => cs'.getD (i * te.sz + j) undef) rows (some nm) (by rw [hrl]; unfold maxLen; have : len * 1 ≤ len * te.sz := Nat.mul_le_mul_left _ hsz; omega) (fun _ => rfl) (fun i j hi hj => ?_) (fun i hi => (f4 i hi).1) (fun i j hi hj => ?_) (fun i hi j hj => ?_) (fun r e => ?_)
                · rw [hrl] at hi
                  have hij := hlt i j hi hj
                  have hij2 : i * te.sz + j < cs'.length := by rw [f2, hzl]; exact hij
                  rw [Nat.zero_add, List.getD_eq_getElem?_getD, List.getElem?_eq_getElem hij2]
                  exact ⟨hB.cell (by simp [hij2]), g2 _ hij⟩
                · obtain ⟨s1, s2, s3⟩ := f4 i hi
                  obtain ⟨v, v1, v2⟩ := s3 j (by rw [s1]; exact hj)
                  rw [Nat.zero_add] at v1
                  rw [List.getD_eq_getElem?_getD, v1]
                  exact v2.one (List.all_eq_true.1 s2 _ (List.getElem_mem _))
                · obtain ⟨s1, s2, s3⟩ := f4 i hi
                  obtain ⟨v, v1, v2⟩ := s3 j hj
                  rw [Nat.zero_add] at v1
                  rw [List.getD_eq_getElem?_getD, v1]
                  exact v2.mono g4 (KeepI.below hb) g1
                · cases e
                  exact ⟨⟨.slice (some ⟨w.heap.size, 0, none⟩) len len, len, E, te.sz⟩, by simp [Mp.setR], by simp [hrl], fun _ => by rw [hrl]⟩
              rw [hrl] at key
              exact key
        · cases hd
end
end Go.Proofs.Ytdmiekaeodcehaa

namespace Go.Proofs.Ytdmiekaeodcehaa
open Go.RowKit

section
variable {P : Program} {T : List (Nat × TI)} {cx : Cx} {Fr Fr' : Nat → Prop} {m m' : Mp} {Im Im' : Nat → Nat → Prop} {w w' : World} {a : Act} {σ σ' : List (Key × D)}
theorem mop_run (hT : TabOk P T) (h : St cx Fr m Im w a σ) {nm : Nat} (hn : Fr nm) {o : Oper} {V : D} {W : List (Key × D)} {R : List Key} (hd : mop T σ nm o = some (V, W, R)) :
    ∃ nx v w' m' Im', (execOp a.eval o).run P w = .ok nx w' ∧ (nx = .value v ∨ (nx = .skip ∧ v = undef)) ∧ m.le m' ∧ KeepI Im w w' ∧ (∀ b o, Im b o → Im' b o) ∧ Rel m' Im' w' v V ∧ St cx (minus Fr nm) m' Im' w' a (puts σ W) := by
  unfold mop at hd
  unfold execOp
  split at hd
  · -- alloc
    rename_i t ho
    simp only [ho]
    cases hti : tget T t with
    | none => rw [hti] at hd; cases hd
    | some ti =>
      rw [hti] at hd
      cases hd
      obtain ⟨ei, ed, e1, e2, e3, e4, e5, e6, e7, e8⟩ := (hT _ _ hti).parts
      have hcz : (zeroOf ti).cells = ti.z.toArray := by
        have h1 := (hT _ _ hti).one
        simp only [Bool.and_eq_true, Bool.or_eq_true, beq_iff_eq] at h1
        unfold zeroOf
        cases hag : ti.ag with
        | true => simp [Value.cells]
        | false =>
          have hs : ti.sz = 1 := by rcases h1.1 with h | h; rw [hag] at h; cases h; exact h
          rw [hs] at e7
          match hz : ti.z, e7 with
          | [x], _ =>
            have := h1.2
            rw [hz] at this
            simp only [List.all_cons, List.all_nil, Bool.and_true] at this
            cases x <;> first | rfl | (simp [Value.oneCell'] at this)
      have hb : Below w.heap.size w (w.alloc (.cells ti.z.toArray t)) := (Below.refl _ _).alloc (Nat.le_refl _) _
      have hle : m.le (m.setB nm w.heap.size) := Mp.setB_le (h.mem.fr nm hn).1
      refine ⟨_, .pointer (some ⟨w.heap.size, 0, none⟩), w.alloc (.cells ti.z.toArray t), _, Im, ?_, .inl rfl, hle, KeepI.below hb, fun _ _ h => h, .p nm 0 _ (by simp [Mp.setB]), h.alloc hn ti.z _ t (relL_v _)⟩
      simp [Instr.alloc, zeroValue, typeInfo, e1, e5, newVar, newRow, hcz]
  · -- box
    rename_i t x ho
    simp only [ho]
    obtain ⟨ti, hti, hd⟩ := bind_some hd
    obtain ⟨d, hx, hd⟩ := bind_some hd
    cases hl : dcells ti d with
    | none => rw [hl] at hd; cases hd
    | some l =>
      rw [hl] at hd
      cases hd
      obtain ⟨cs, c1, c2, _, _, _, _⟩ := rel_dcells (h.ev hx) hl
      have hb : Below w.heap.size w (w.alloc (.cells cs.toArray t)) := (Below.refl _ _).alloc (Nat.le_refl _) _
      have hle : m.le (m.setB nm w.heap.size) := Mp.setB_le (h.mem.fr nm hn).1
      refine ⟨_, .pointer (some ⟨w.heap.size, 0, none⟩), w.alloc (.cells cs.toArray t), _, Im, ?_, .inl rfl, hle, KeepI.below hb, fun _ _ h => h, .p nm 0 _ (by simp [Mp.setB]), h.alloc hn cs _ t c2⟩
      simp [Instr.box, newVar, newRow, c1]
  · -- store
    rename_i t x y ho
    simp only [ho]
    obtain ⟨ti, hti, hd⟩ := bind_some hd
    split at hd
    · rename_i k off hx
      obtain ⟨d, hy, hd⟩ := bind_some hd
      obtain ⟨l, hl, hd⟩ := bind_some hd
      cases hc : cellsAt σ k off ti.sz with
      | none => rw [hc] at hd; cases hd
      | some l0 =>
        rw [hc] at hd
        cases hd
        obtain ⟨ei, ed, e1, e2, e3, e4, e5, e6, e7, e8⟩ := (hT _ _ hti).parts
        obtain ⟨b, hb, ex⟩ := rel_p (h.ev hx)
        obtain ⟨cs, c1, c2, c3, c4, _, _⟩ := rel_dcells (h.ev hy) hl
        obtain ⟨g1, _, g2⟩ := h.cellsAt hc
        obtain ⟨cs0, q1, q2⟩ := g2 b hb
        have hcs0 : cs0.length = cs.length := by rw [(relL_iff.1 q1).1, g1, c3]
        obtain ⟨w', hw', hst⟩ := St.setCells hb l cs off h c2 fun i hi => ⟨cs0[i]'(by omega), q2 i _ (List.getElem?_eq_getElem _)⟩
        have hrun := run_storeCells_cells (P := P) b off cs 0 w (fun j hj => by
            have := q2 j _ (List.getElem?_eq_getElem (show j < cs0.length by omega))
            simp [this]) (fun j _ => h.mem.free k b _ hb) (c2.one c4)
        simp only [Nat.add_zero, hw'] at hrun
        have hki : KeepI Im w w' := fun b' o' v hi hv => by
          rw [← hw', World.cell?_setCells_out]
          · exact hv
          · intro e; exact absurd hi (by rw [show b' = b from e]; exact h.mem.nim k b o' hb)
        refine ⟨_, undef, w', m, Im, ?_, .inr ⟨rfl, rfl⟩, Mp.le.refl m, hki, fun _ _ h => h, .v _, hst.less fun k hk => hk.1⟩
        simp [Instr.storeAt, ex, Instr.sureAddr, storeVar, sizeOf, typeInfo, e1, e3, c1, c3, hrun]
    · rename_i g len n i j hx
      split at hd
      · rename_i E n' l hg
        split at hd
        · rename_i hc
          obtain ⟨rfl, hlen, hi, hj⟩ := hc
          obtain ⟨d, hy, hd⟩ := bind_some hd
          cases hl : dcells ti d with
          | none => rw [hl] at hd; cases hd
          | some c =>
            rw [hl] at hd
            cases hd
            obtain ⟨ei, ed, e1, e2, e3, e4, e5, e6, e7, e8⟩ := (hT _ _ hti).parts
            obtain ⟨R, hR, hro⟩ := h.ro g _ hg
            obtain ⟨rfl, rfl, o3⟩ := hro.rpi
            have hX := h.ev hx
            generalize hxa : a.eval x = xv at hX ⊢
            cases hX with
            | pr _ _ _ _ _ b hh =>
            obtain ⟨R', p1, p2, p3⟩ := hh
            rw [hR] at p1; cases p1
            have hob := p3 (by omega)
            obtain ⟨cs, c1, c2, c3, c4, _, _⟩ := rel_dcells (h.ev hy) hl
            have hcl : c.length = ti.sz := by rw [← (relL_iff.1 c2).1]; exact c3
            have hil : i < l.length := by omega
            obtain ⟨m', w', hw', hst, s2, s3⟩ := St.rowSets c cs j h hR hob hro hil (by omega) c2 (c2.one c4)
            have hown : ∃ xs, w.ownsRow 0 R.E R.n R.hv R.len xs := by
              cases hro with
              | rp _ xs _ _ hown _ _ _ => exact ⟨xs, hown⟩
            obtain ⟨xs, hown⟩ := hown
            have hle : i * R.n + R.n ≤ xs.length := by
              rw [hown.1]
              have : (i + 1) * R.n ≤ R.len * R.n := Nat.mul_le_mul_right _ (by omega)
              rw [Nat.succ_mul] at this; omega
            have hrun := run_storeCells_cells (P := P) b (i * R.n + j) cs 0 w (fun k hk => by
                have hk2 : i * R.n + j + k < xs.length := by omega
                have := hown.cells hob _ _ (List.getElem?_eq_getElem hk2)
                rw [addr_add0] at this
                simp [this]) (fun k _ => by
                rcases hown.2 with ⟨q1, _⟩ | ⟨g', cap, cur, q1, _, q2, _⟩
                · rw [q1] at hob; cases hob
                · rw [q1] at hob
                  have : g' = b := by simpa [Value.ownBlock] using hob
                  subst this
                  exact frozen_of_row w g' _ cur _ q2) (c2.one c4)
            simp only [Nat.add_zero, hw'] at hrun
            refine ⟨_, undef, w', m', Im, ?_, .inr ⟨rfl, rfl⟩, s2, s3, fun _ _ h => h, .v _, ?_⟩
            · simp [hxa, Instr.storeAt, Instr.sureAddr, storeVar, sizeOf, typeInfo, e1, e3, c1, c3, hrun]
            · have hgd : l.getD i [] = l[i] := by rw [List.getD_eq_getElem?_getD, List.getElem?_eq_getElem hil]; rfl
              have hrow : l[i].length = R.n := by
                cases hro with
                | rp _ _ _ hn _ _ _ _ => exact hn i hil
              rw [hgd, rowPut_eq hrow]
              exact hst.less fun k hk => hk.1
        · cases hd
      · cases hd
    · cases hd
  · -- buildSlice
    rename_i t len parts ho
    simp only [ho]
    obtain ⟨v, w', m', Im', q1, q2, q3, q4, q5, q6⟩ := bsl_run (P := P) hT h hn hd
    exact ⟨_, v, w', m', Im', by simp [q1], .inl rfl, q2, q3, q4, q5, q6⟩
  · -- makeSlice
    rename_i t l c ho
    simp only [ho]
    unfold mkslD at hd
    split at hd
    · cases hd
    · rename_i ti hti
      split at hd
      · cases hd
      · rename_i E hE
        split at hd
        · cases hd
        · rename_i te hte
          split at hd
          · rename_i n hl hc
            split at hd
            · rename_i hb
              cases hd
              obtain ⟨ei, ed, e1, e2, e3, e4, e5, e6, e7, e8⟩ := (hT _ _ hte).parts
              have hsl := (hT _ _ hti).slice hE
              have hl' := rel_v.1 (h.ev hl)
              have hc' := rel_v.1 (h.ev hc)
              obtain ⟨k, rfl⟩ : ∃ k : Nat, n = (k : Int) := ⟨n.toNat, by omega⟩
              obtain ⟨w', r1, r2, r3⟩ := run_make_own (P := P) w 0 t E ei (zeroOf te) te.sz hsl e1 e5 e3 .i64 .i64 k (by
                rw [e4]
                have : te.bys * k ≤ 1000 * 1000000 := Nat.mul_le_mul hb.2.1 (by omega)
                omega) (by unfold maxLen; omega) (Nat.zero_le _)
              have hbl : Below w.heap.size w w' := ⟨r3.os, r3.tape, r3.output, r3.size, fun b hb => r3.block b hb (by simp)⟩
              obtain ⟨s1, s2⟩ := h.rowMade hn (.slice (some ⟨w.heap.size, 0, none⟩) 0 k) E te.sz hbl r2 rfl
              refine ⟨_, .slice (some ⟨w.heap.size, 0, none⟩) 0 k, w', _, Im, by simp [hl', hc', r1], .inl rfl, s2, KeepI.below hbl, fun _ _ h => h, ?_, s1⟩
              exact .sl _ k 0 0 te.sz (fun _ _ => undef) [] (some nm) ⟨Nat.zero_le _, Nat.zero_le _⟩ (fun h => absurd h (by simp)) (fun i _ h => absurd h (by simp)) (fun i h => absurd h (by simp)) (fun i _ h => absurd h (by simp)) (fun i h => absurd h (by simp)) fun r e => by
                cases e; exact ⟨⟨_, 0, E, te.sz⟩, by simp [Mp.setR], Nat.le_refl _, fun _ => rfl⟩
            · cases hd
          · cases hd
  · -- lookup
    rename_i t x y ok ho
    simp only [ho]
    unfold lkD at hd
    split at hd
    · rename_i ti k n hti hx hy
      split at hd
      · cases hd
      · rename_i e he
        split at hd
        · rename_i te l hte hl
          cases hd
          have hy' := rel_v.1 (h.ev hy)
          obtain ⟨v, r1, r2⟩ := look_run (P := P) h (hT _ _ hti) he (hT _ _ hte) hl (h.ev hx) n ok
          refine ⟨_, v, w, m, Im, by simp [hy', r1], .inl rfl, Mp.le.refl m, KeepI.refl _ _, fun _ _ h => h, ?_, h.less fun k hk => hk.1⟩
          cases ok <;> exact r2
        · cases hd
    · cases hd
  · -- mapUpdate
    rename_i t x y z ho
    simp only [ho]
    unfold updD at hd
    split at hd
    · rename_i ti k n d hti hx hy hz
      split at hd
      · cases hd
      · rename_i e he
        split at hd
        · rename_i l hl
          cases hd
          have hy' := rel_v.1 (h.ev hy)
          obtain ⟨w', r1, r2, r3⟩ := upd_run (P := P) h (hT _ _ hti) he hl (h.ev hx) n (h.ev hz)
          exact ⟨_, undef, w', m, Im, by simp [hy', r1], .inr ⟨rfl, rfl⟩, Mp.le.refl m, r2, fun _ _ h => h, .v _, r3.less fun k hk => hk.1⟩
        · cases hd
    · cases hd
  · -- insert
    rename_i t x y z ho
    simp only [ho]
    unfold updD at hd
    split at hd
    · rename_i ti k n d hti hx hy hz
      split at hd
      · cases hd
      · rename_i e he
        split at hd
        · rename_i l hl
          cases hd
          have hy' := rel_v.1 (h.ev hy)
          obtain ⟨w', r1, r2, r3⟩ := upd_run (P := P) h (hT _ _ hti) he hl (h.ev hx) n (h.ev hz)
          exact ⟨_, undef, w', m, Im, by simp [hy', r1], .inr ⟨rfl, rfl⟩, Mp.le.refl m, r2, fun _ _ h => h, .v _, r3.less fun k hk => hk.1⟩
        · cases hd
    · cases hd
  · -- makeMap
    rename_i t r ho
    simp only [ho]
    split at hd
    · cases hd
      obtain ⟨s1, s2⟩ := h.newObj hn (o := .map #[] 0) (d := .mp []) fun m' w' hb => obOk_mp.2 ⟨#[], 0, hb, trivial, List.nodup_nil, fun _ h => (by cases h)⟩
      have hbl : Below w.heap.size w (w.alloc (.map #[] 0)) := (Below.refl _ _).alloc (Nat.le_refl _) _
      refine ⟨_, .map (some w.heap.size), w.alloc (.map #[] 0), _, Im, ?_, .inl rfl, s2, KeepI.below hbl, fun _ _ h => h, .mo nm _ (by simp [Mp.setO]), s1⟩
      simp [Instr.makeMap, newObj]
      rfl
    · cases hd
  · -- append
    rename_i c ho
    simp only [ho]
    split at hd
    · rename_i x y t t' h1 h2 h3
      split at hd
      · rename_i ht
        subst ht
        obtain ⟨d, hx, hd⟩ := bind_some hd
        obtain ⟨e, hy, hd⟩ := bind_some hd
        obtain ⟨v, w', m', Im', q1, q2, q3, q4, q5, q6⟩ := app_run (P := P) (ty := o.type) hT h hn (h.ev hx) (h.ev hy) hd
        have e2 : c.args = #[x, y] := by apply Array.ext'; simpa using h2
        have e3 : c.argTypes = #[t, t] := by apply Array.ext'; simpa using h3
        exact ⟨_, v, w', m', Im', by simp [resolve, h1, e2, e3, invoke, builtin, q1], .inl rfl, q2, q3, q4, q5, q6⟩
      · cases hd
    · rename_i x t h1 h2 h3
      obtain ⟨d, hx, hd⟩ := bind_some hd
      obtain ⟨v, w', m', q1, q2, q3, q5, q6⟩ := clr_run (P := P) (ty := o.type) hT h (h.ev hx) hd
      have e2 : c.args = #[x] := by apply Array.ext'; simpa using h2
      have e3 : c.argTypes = #[t] := by apply Array.ext'; simpa using h3
      exact ⟨_, v, w', m', Im, by simp [resolve, h1, e2, e3, invoke, builtin, q1], .inl rfl, q2, q3, fun _ _ h => h, q5, q6.less fun k hk => hk.1⟩
    · cases hd
  · cases hd

/-! what is told hangs on what is read -/
def Agree (σ σ' : List (Key × D)) (k : Key) : Prop := ∀ d, get σ k = some d → get σ' k = some d
theorem ev_mono {x : Operand} (h : ∀ t, x = .tmp t → Agree σ σ' (.t t)) {d : D} (hx : ev σ x = some d) : ev σ' x = some d := by
  cases x with
  | tmp t => exact h t rfl d hx
  | _ => exact hx
theorem evs_mono : ∀ {xs : List Operand} (_ : ∀ x ∈ xs, ∀ t, x = .tmp t → Agree σ σ' (.t t)) {ds : List D}, evs σ xs = some ds → evs σ' xs = some ds
  | [], _, ds, hx => hx
  | x :: xs, h, ds, hx => by
    simp only [evs] at hx ⊢
    cases hd : ev σ x with
    | none => rw [hd] at hx; cases hx
    | some d =>
      rw [hd] at hx
      cases hr : evs σ xs with
      | none => rw [hr] at hx; cases hx
      | some ds' =>
        rw [hr] at hx
        rw [ev_mono (h x (by simp)) hd, evs_mono (fun y hy => h y (by simp [hy])) hr]
        exact hx
theorem cellsAt_mono {k : Nat} : ∀ {n o : Nat} (_ : ∀ i, i < n → Agree σ σ' (.c k (o + i))) {l : List D}, cellsAt σ k o n = some l → cellsAt σ' k o n = some l
  | 0, o, _, l, hl => hl
  | n + 1, o, h, l, hl => by
    simp only [cellsAt] at hl ⊢
    cases hg : get σ (.c k o) with
    | none => rw [hg] at hl; cases hl
    | some d =>
      rw [hg] at hl
      cases hr : cellsAt σ k (o + 1) n with
      | none => rw [hr] at hl; cases hl
      | some l' =>
        rw [hr] at hl
        have h0 : get σ' (.c k o) = some d := h 0 (by omega) d hg
        rw [h0, cellsAt_mono (fun i hi => by rw [show o + 1 + i = o + (i + 1) by omega]; exact h (i + 1) (by omega)) hr]
        exact hl
theorem mem_trd {o : Oper} {t : Nat} (h : (.tmp t : Operand) ∈ o.op.operands.toList) : (.t t : Key) ∈ trd o := by
  unfold trd
  exact List.mem_filterMap.2 ⟨.tmp t, h, rfl⟩
theorem ldD_mono {t : Nat} {x e : D} (h : ∀ k off ti, x = .p k off → tget T t = some ti → ∀ i, i < ti.sz → Agree σ σ' (.c k (off + i))) (h' : ∀ g len n i j ti, x = .pr g len n i j → tget T t = some ti → Agree σ σ' (.r g)) (hd : ldD T σ t x = some e) : ldD T σ' t x = some e := by
  unfold ldD at hd ⊢
  split at hd
  · cases hd
  · rename_i ti hti
    split at hd
    · rename_i k off
      obtain ⟨l, h1, h2⟩ := bind_some hd
      simp only [cellsAt_mono (h k off ti rfl hti) h1]
      exact h2
    · exact hd
    · rename_i g len n i j
      split at hd
      · rename_i E n' l hg
        rw [h' g len n i j ti rfl hti _ hg]
        exact hd
      · cases hd
    · cases hd
theorem pval_mono {o : Oper} (h : ∀ k ∈ trd o ++ mrd T σ o, Agree σ σ' k) {e : D} (hd : pval T σ o = some e) : pval T σ' o = some e := by
  have hx : ∀ x ∈ o.op.operands.toList, ∀ t, x = .tmp t → Agree σ σ' (.t t) := fun x hx t e => h _ (List.mem_append_left _ (mem_trd (e ▸ hx)))
  unfold pval at hd ⊢
  split at hd
  · rename_i x ho; exact ev_mono (hx x (by simp [ho, Op.operands])) hd
  · rename_i x ho; exact ev_mono (hx x (by simp [ho, Op.operands])) hd
  · rename_i c x y ho
    unfold pickD at hd ⊢
    split at hd
    · rename_i t hc
      rw [ev_mono (hx c (by simp [ho, Op.operands])) hc]
      cases t with
      | true => exact ev_mono (hx x (by simp [ho, Op.operands])) hd
      | false => exact ev_mono (hx y (by simp [ho, Op.operands])) hd
    · cases hd
  · rename_i t x ho
    obtain ⟨d, q1, q2⟩ := bind_some hd
    rw [ev_mono (hx x (by simp [ho, Op.operands])) q1]
    refine ldD_mono (fun k off ti e hti i hi => h _ (List.mem_append_right _ ?_)) (fun g len n i j ti e hti => h _ (List.mem_append_right _ (by simp only [mrd, ho, q1, e, hti]; simp))) q2
    simp only [mrd, ho, q1, e, hti]
    exact List.mem_map.2 ⟨i, List.mem_range.2 hi, rfl⟩
  · rename_i x ho
    obtain ⟨d, q1, q2⟩ := bind_some hd
    rw [ev_mono (hx x (by simp [ho, Op.operands])) q1]; exact q2
  · rename_i op t x y _ ho
    unfold bin2 at hd ⊢
    split at hd
    · rename_i ti d f h1 h2 h3
      rw [h1, ev_mono (hx x (by simp [ho, Op.operands])) h2, ev_mono (hx y (by simp [ho, Op.operands])) h3]; exact hd
    · cases hd
  · rename_i op t x ho
    obtain ⟨d, q1, q2⟩ := bind_some hd
    rw [ev_mono (hx x (by simp [ho, Op.operands])) q1]; exact q2
  · rename_i t t2 x ho
    obtain ⟨d, q1, q2⟩ := bind_some hd
    rw [ev_mono (hx x (by simp [ho, Op.operands])) q1]; exact q2
  · rename_i t x f ho
    obtain ⟨d, q1, q2⟩ := bind_some hd
    rw [ev_mono (hx x (by simp [ho, Op.operands])) q1]; exact q2
  · rename_i t x f ho
    obtain ⟨d, q1, q2⟩ := bind_some hd
    rw [ev_mono (hx x (by simp [ho, Op.operands])) q1]; exact q2
  · rename_i t x y ho
    obtain ⟨d, q1, q2⟩ := bind_some hd
    obtain ⟨f, q3, q4⟩ := bind_some q2
    rw [ev_mono (hx x (by simp [ho, Op.operands])) q1, ev_mono (hx y (by simp [ho, Op.operands])) q3]
    exact q4
  · rename_i x i ho
    obtain ⟨d, q1, q2⟩ := bind_some hd
    rw [ev_mono (hx x (by simp [ho, Op.operands])) q1]; exact q2
  · rename_i f first caps ho
    unfold makeFnD at hd ⊢
    split at hd
    · cases hc : evs σ caps.toList with
      | none => rw [hc] at hd; cases hd
      | some ds => rw [hc] at hd; rw [evs_mono (fun x hm => hx x (by simp only [ho, Op.operands, Array.toList_append, List.mem_append]; exact .inr hm)) hc]; exact hd
    · cases hd
  · rename_i t parts ho
    unfold buildD at hd ⊢
    split at hd
    · cases hd
    · rename_i ti hti
      split at hd
      · rename_i hk
        split at hd
        · cases hd
        · rename_i ds hds
          rw [if_pos hk, evs_mono (fun x hm => hx x (by simp only [ho, Op.operands]; exact hm)) hds]; exact hd
      · cases hd
  · rename_i t x lo hi mx ho
    have hI : ∀ {y : Option Operand} {i : Option Int}, (∀ z, y = some z → z ∈ o.op.operands.toList) → evI σ y = some i → evI σ' y = some i := fun {y i} hy he => by
      cases y with
      | none => exact he
      | some z =>
        simp only [evI] at he ⊢
        cases hz : ev σ z with
        | none => rw [hz] at he; cases he
        | some d => rw [hz] at he; rw [ev_mono (hx z (hy z rfl)) hz]; exact he
    unfold slD at hd ⊢
    split at hd
    · rename_i d i j k h1 h2 h3 h4
      rw [ev_mono (hx x (by simp [ho, Op.operands])) h1, hI (fun z e => by subst e; simp [ho, Op.operands]) h2, hI (fun z e => by subst e; simp [ho, Op.operands]) h3, hI (fun z e => by subst e; simp [ho, Op.operands]) h4]
      exact hd
    · cases hd
  · rename_i c ho
    split at hd
    · rename_i x t h1 h2 h3
      obtain ⟨d, q1, q2⟩ := bind_some hd
      rw [ev_mono (hx x (by
        have e2 : c.args = #[x] := by apply Array.ext'; simpa using h2
        simp [ho, Op.operands, Call.operands, h1, e2])) q1]; exact q2
    · rename_i x y t t' h1 h2 h3
      obtain ⟨d, q1, hd⟩ := bind_some hd
      obtain ⟨e', q2, hd⟩ := bind_some hd
      have e2 : c.args = #[x, y] := by apply Array.ext'; simpa using h2
      rw [ev_mono (hx x (by simp [ho, Op.operands, Call.operands, h1, e2])) q1, ev_mono (hx y (by simp [ho, Op.operands, Call.operands, h1, e2])) q2]; exact hd
    · rename_i x y t t' h1 h2 h3
      obtain ⟨d, q1, hd⟩ := bind_some hd
      obtain ⟨e', q2, hd⟩ := bind_some hd
      have e2 : c.args = #[x, y] := by apply Array.ext'; simpa using h2
      rw [ev_mono (hx x (by simp [ho, Op.operands, Call.operands, h1, e2])) q1, ev_mono (hx y (by simp [ho, Op.operands, Call.operands, h1, e2])) q2]; exact hd
    · cases hd
  · cases hd
theorem mop_mono {o : Oper} {nm : Nat} {V : D} {W : List (Key × D)} {R : List Key} (hd : mop T σ nm o = some (V, W, R)) (h : ∀ k ∈ trd o ++ R, Agree σ σ' k) : mop T σ' nm o = some (V, W, R) := by
  have hx : ∀ x ∈ o.op.operands.toList, ∀ t, x = .tmp t → Agree σ σ' (.t t) := fun x hx t e => h _ (List.mem_append_left _ (mem_trd (e ▸ hx)))
  unfold mop at hd ⊢
  split at hd
  · exact hd
  · rename_i t x ho
    obtain ⟨ti, hti, hd⟩ := bind_some hd
    obtain ⟨d, q1, q2⟩ := bind_some hd
    rw [hti, ev_mono (hx x (by simp [ho, Op.operands])) q1]; exact q2
  · rename_i t x y ho
    obtain ⟨ti, hti, hd⟩ := bind_some hd
    split at hd
    · rename_i k off q1
      obtain ⟨d, q2, hd⟩ := bind_some hd
      obtain ⟨l, hl, hd⟩ := bind_some hd
      cases hc : cellsAt σ k off ti.sz with
      | none => rw [hc] at hd; cases hd
      | some l0 =>
        rw [hc] at hd
        simp only [Option.map_some, Option.some.injEq, Prod.mk.injEq] at hd
        obtain ⟨e1, e2, e3⟩ := hd
        rw [hti, ev_mono (hx x (by simp [ho, Op.operands])) q1, ev_mono (hx y (by simp [ho, Op.operands])) q2]
        have hc' := cellsAt_mono (σ' := σ') (fun i hi => h (.c k (off + i)) (List.mem_append_right _ (by rw [← e3]; exact List.mem_map.2 ⟨i, List.mem_range.2 hi, rfl⟩))) hc
        simp only [Option.bind_some, hl, hc', Option.map_some, e1, e2, e3]
    · rename_i g len n i j q1
      split at hd
      · rename_i E n' l hg
        split at hd
        · rename_i hcc
          obtain ⟨d, q2, hd⟩ := bind_some hd
          cases hc : dcells ti d with
          | none => rw [hc] at hd; cases hd
          | some c =>
            rw [hc] at hd
            simp only [Option.map_some, Option.some.injEq, Prod.mk.injEq] at hd
            obtain ⟨e1, e2, e3⟩ := hd
            have := h (.r g) (List.mem_append_right _ (by rw [← e3]; simp)) _ hg
            rw [hti, ev_mono (hx x (by simp [ho, Op.operands])) q1, ev_mono (hx y (by simp [ho, Op.operands])) q2]
            simp only [Option.bind_some, this, if_pos hcc, hc, Option.map_some, e1, e2, e3]
        · cases hd
      · cases hd
    · cases hd
  · rename_i t len parts ho
    unfold bslD at hd ⊢
    split at hd
    · cases hd
    · split at hd
      · cases hd
      · split at hd
        · cases hd
        · split at hd
          · rename_i hc
            split at hd
            · cases hd
            · rename_i ds hds
              rw [if_pos hc, evs_mono (fun x hm => hx x (by simp only [ho, Op.operands]; exact hm)) hds]; exact hd
          · cases hd
  · rename_i t l c ho
    unfold mkslD at hd ⊢
    split at hd
    · cases hd
    · split at hd
      · cases hd
      · split at hd
        · cases hd
        · split at hd
          · rename_i n hl hc
            rw [ev_mono (hx l (by simp [ho, Op.operands])) hl, ev_mono (hx c (by simp [ho, Op.operands])) hc]; exact hd
          · cases hd
  · rename_i t x y ok ho
    unfold lkD at hd ⊢
    split at hd
    · rename_i ti k n hti q1 q2
      rw [hti, ev_mono (hx x (by simp [ho, Op.operands])) q1, ev_mono (hx y (by simp [ho, Op.operands])) q2]
      split at hd
      · cases hd
      · rename_i e he
        simp only [he]
        split at hd
        · rename_i te l hte hl
          simp only [Option.some.injEq, Prod.mk.injEq] at hd
          obtain ⟨a1, a2, a3⟩ := hd
          have := h (.o k) (List.mem_append_right _ (by rw [← a3]; simp)) _ hl
          simp only [hte, this, a1, a2, a3]
        · cases hd
    · cases hd
  · rename_i t x y z ho
    unfold updD at hd ⊢
    split at hd
    · rename_i ti k n d hti q1 q2 q3
      rw [hti, ev_mono (hx x (by simp [ho, Op.operands])) q1, ev_mono (hx y (by simp [ho, Op.operands])) q2, ev_mono (hx z (by simp [ho, Op.operands])) q3]
      split at hd
      · cases hd
      · rename_i e he
        simp only [he]
        split at hd
        · rename_i l hl
          simp only [Option.some.injEq, Prod.mk.injEq] at hd
          obtain ⟨a1, a2, a3⟩ := hd
          have := h (.o k) (List.mem_append_right _ (by rw [← a3]; simp)) _ hl
          simp only [this, a1, a2, a3]
        · cases hd
    · cases hd
  · rename_i t x y z ho
    unfold updD at hd ⊢
    split at hd
    · rename_i ti k n d hti q1 q2 q3
      rw [hti, ev_mono (hx x (by simp [ho, Op.operands])) q1, ev_mono (hx y (by simp [ho, Op.operands])) q2, ev_mono (hx z (by simp [ho, Op.operands])) q3]
      split at hd
      · cases hd
      · rename_i e he
        simp only [he]
        split at hd
        · rename_i l hl
          simp only [Option.some.injEq, Prod.mk.injEq] at hd
          obtain ⟨a1, a2, a3⟩ := hd
          have := h (.o k) (List.mem_append_right _ (by rw [← a3]; simp)) _ hl
          simp only [this, a1, a2, a3]
        · cases hd
    · cases hd
  · exact hd
  · rename_i c ho
    split at hd
    · rename_i x y t t' h1 h2 h3
      split at hd
      · rename_i ht
        obtain ⟨d, q1, hd⟩ := bind_some hd
        obtain ⟨e, q2, hd⟩ := bind_some hd
        have e2 : c.args = #[x, y] := by apply Array.ext'; simpa using h2
        rw [if_pos ht, ev_mono (hx x (by simp [ho, Op.operands, Call.operands, h1, e2])) q1, ev_mono (hx y (by simp [ho, Op.operands, Call.operands, h1, e2])) q2]
        simp only [Option.bind_some]
        unfold appD at hd ⊢
        split at hd
        · cases hd
        · split at hd
          · cases hd
          · split at hd
            · cases hd
            · split at hd
              · cases hd
              · rename_i l2 hl2
                split at hd
                · rename_i hsz
                  rw [if_pos hsz]
                  split at hd
                  · exact hd
                  · rename_i n l g _
                    split at hd
                    · rename_i E' n' len hg
                      split at hd
                      · rename_i hcc
                        simp only [Option.some.injEq, Prod.mk.injEq] at hd
                        obtain ⟨a1, a2, a3⟩ := hd
                        have := h (.r g) (List.mem_append_right _ (by rw [← a3]; simp)) _ hg
                        simp only [this, if_pos hcc, a1, a2, a3]
                      · cases hd
                    · cases hd
                  · rename_i g len _
                    split at hd
                    · rename_i E' n' l hg
                      split at hd
                      · rename_i hcc
                        simp only [Option.some.injEq, Prod.mk.injEq] at hd
                        obtain ⟨a1, a2, a3⟩ := hd
                        have := h (.r g) (List.mem_append_right _ (by rw [← a3]; simp)) _ hg
                        simp only [this, if_pos hcc, a1, a2, a3]
                      · cases hd
                    · rename_i E' n' hg
                      split at hd
                      · rename_i hcc
                        simp only [Option.some.injEq, Prod.mk.injEq] at hd
                        obtain ⟨a1, a2, a3⟩ := hd
                        have := h (.r g) (List.mem_append_right _ (by rw [← a3]; simp)) _ hg
                        simp only [this, if_pos hcc, a1, a2, a3]
                      · cases hd
                    · cases hd
                  · exact hd
                  · cases hd
                · cases hd
      · cases hd
    · rename_i x t h1 h2 h3
      obtain ⟨d, q1, hd⟩ := bind_some hd
      have e2 : c.args = #[x] := by apply Array.ext'; simpa using h2
      rw [ev_mono (hx x (by simp [ho, Op.operands, Call.operands, h1, e2])) q1]
      simp only [Option.bind_some]
      unfold clrD at hd ⊢
      split at hd
      · rename_i ti g len n lo hti
        split at hd
        · rename_i E hel
          split at hd
          · rename_i te E' n' l hte hg
            split at hd
            · rename_i hcc
              simp only [Option.some.injEq, Prod.mk.injEq] at hd
              obtain ⟨a1, a2, a3⟩ := hd
              have hg' := h (.r g) (List.mem_append_right _ (by rw [← a3]; simp)) _ hg
              simp only [hel, hte, hg', if_pos hcc, a1, a2, a3]
            · cases hd
          · cases hd
        · cases hd
      · cases hd
    · cases hd
  · cases hd
end
end Go.Proofs.Ytdmiekaeodcehaa

namespace Go.Proofs.Ytdmiekaeodcehaa
open Go.RowKit

def entersB (P : Program) (f : FuncId) : Bool := match P.funcs[f]? with
  | none => false
  | some fn => !(fn.name == "runtime.NumGoroutine") && !fn.body.isNone
def Holds (cx : Cx) (m : Mp) (Im : Nat → Nat → Prop) (w : World) (R : List (Key × D)) : Prop := ∀ p ∈ R, match p with
  | (.c k off, d) => ∃ b v, m.blk k = some b ∧ w.cell? ⟨b, off, none⟩ = some v ∧ Rel m Im w v d
  | (.j, d) => ∃ X J, d = .j X J ∧ XOk cx m Im w X J
  | (.o k, d) => ∃ b, m.obj k = some b ∧ ObOk m Im w b d
  | (.r g, d) => ∃ Rw, m.row g = some Rw ∧ RoOk m Im w Rw d
  | _ => False
def Tch (m : Mp) (R : List (Key × D)) (b : Nat) : Prop := (∃ k off d, (Key.c k off, d) ∈ R ∧ m.blk k = some b) ∨ (∃ X J, (Key.j, D.j X J) ∈ R ∧ X b) ∨ ∃ k d, (Key.o k, d) ∈ R ∧ m.obj k = some b
def CallC (P : Program) (f : FuncId) (args : List D) (R W : List (Key × D)) (V : D) : Prop :=
  entersB P f = true ∧ ∀ cx Fr m Im w vs, MemOk cx Fr m Im w → RelL m Im w vs args → Holds cx m Im w R →
    Calls P f vs.toArray w fun e w' => ∃ v Im', e = .returned v ∧ Off (Tch m R) w w' ∧ (∀ b o, Im b o → Im' b o) ∧ (∀ b o, Im' b o → Im b o ∨ w.heap.size ≤ b) ∧ (∀ b o, Im' b o → ∃ v, w'.cell? ⟨b, o, none⟩ = some v) ∧
      (∀ k b o, m.blk k = some b → w'.frozen? ⟨b, o, none⟩ = false) ∧ Rel m Im' w' v V ∧ Holds cx m Im' w' W
abbrev PureC (P : Program) (f : FuncId) (args : List D) (V : D) : Prop := CallC P f args [] [] V

def isJ : Key → Bool
  | .j => true
  | _ => false
def touches (R : List (Key × D)) : Key → Bool
  | .c k _ => R.any fun p => match p.1 with | .c k' _ => k' == k | _ => false
  | .j => R.any fun p => isJ p.1
  | .o k => R.any fun p => match p.1 with | .o k' => k' == k | _ => false
  | _ => false
def dropT (R : List (Key × D)) (σ : List (Key × D)) : List (Key × D) := σ.filter fun p => !touches R p.1
def CallN (P : Program) (f : FuncId) (args : List D) (R : List (Key × D)) (nm : Nat) (W : List (Key × D)) (V : D) : Prop :=
  entersB P f = true ∧ ∀ cx (Fr : Nat → Prop) m Im w a σ vs, Fr nm → St cx Fr m Im w a σ → RelL m Im w vs args → (∀ p ∈ R, get σ p.1 = some p.2) →
    Calls P f vs.toArray w fun e w' => ∃ v m' Im', e = .returned v ∧ St cx (minus Fr nm) m' Im' w' a (puts (dropT R σ) W) ∧ Rel m' Im' w' v V
abbrev CallX (P : Program) (f : FuncId) (args : List D) (R : List (Key × D)) (nm : Nat) (W : List (Key × D)) (V : D) : Prop := CallC P f args R W V ∨ CallN P f args R nm W V
theorem get_filter (f : Key → Bool) : ∀ (σ : List (Key × D)) (k : Key), get (σ.filter fun p => f p.1) k = if f k then get σ k else none
  | [], k => by simp [get]
  | (k', d) :: σ, k => by
    rw [List.filter_cons]
    by_cases hf : f k' = true
    · simp only [hf, if_true, get, get_filter f σ k]
      by_cases he : Key.eq k' k = true
      · have := Key.eq_iff.1 he; subst this
        rw [if_pos he, if_pos he, if_pos hf]
      · rw [if_neg he, if_neg he]
    · have hf' : f k' = false := by simpa using hf
      simp only [hf', get]
      rw [if_neg (by simp), get_filter f σ k]
      by_cases he : Key.eq k' k = true
      · have := Key.eq_iff.1 he; subst this
        rw [hf', if_neg (by simp), if_neg (by simp)]
      · rw [if_neg he]

section
variable {P : Program} {T : List (Nat × TI)} {cx : Cx} {Fr Fr' : Nat → Prop} {m m' : Mp} {Im Im' : Nat → Nat → Prop} {w w' : World} {a : Act} {σ σ' : List (Key × D)}
theorem St.holds (h : St cx Fr m Im w a σ) {R : List (Key × D)} (hR : ∀ p ∈ R, get σ p.1 = some p.2) (hk : ∀ p ∈ R, match p.1 with | .c _ _ => True | .j => True | .o _ => True | .r _ => True | _ => False) : Holds cx m Im w R := fun p hp => by
  have h1 := hR p hp
  have h2 := hk p hp
  obtain ⟨k, d⟩ := p
  cases k with
  | c k off => exact h.ce k off d h1
  | j => exact h.jk d h1
  | o k => exact h.ok k d h1
  | t x => exact h2.elim
  | r g => exact h.ro g d h1
theorem St.putj (h : St cx Fr m Im w a σ) {X : Nat → Prop} {J : World → Prop} (hX : XOk cx m Im w X J) : St cx Fr m Im w a (put1 .j (.j X J) σ) where
  mem := h.mem
  df := h.df
  nt := h.nt
  tm x d' hx := by rw [get_put1, if_neg (by simp [Key.eq])] at hx; exact h.tm x d' hx
  ce k off d' hx := by rw [get_put1, if_neg (by simp [Key.eq])] at hx; exact h.ce k off d' hx
  ro g d' hx := by rw [get_put1, if_neg (by simp [Key.eq])] at hx; exact h.ro g d' hx
  jk d' hx := by rw [get_put1, if_pos (Key.eq_refl _)] at hx; cases hx; exact ⟨X, J, rfl, hX⟩
  ok k d' hx := by rw [get_put1, if_neg (by simp [Key.eq])] at hx; exact h.ok k d' hx
theorem St.puto (h : St cx Fr m Im w a σ) {k b : Nat} {d : D} (hb : m.obj k = some b) (hd : ObOk m Im w b d) : St cx Fr m Im w a (put1 (.o k) d σ) where
  mem := h.mem
  df := h.df
  nt := h.nt
  tm x d' hx := by rw [get_put1, if_neg (by simp [Key.eq])] at hx; exact h.tm x d' hx
  ce k off d' hx := by rw [get_put1, if_neg (by simp [Key.eq])] at hx; exact h.ce k off d' hx
  ro g d' hx := by rw [get_put1, if_neg (by simp [Key.eq])] at hx; exact h.ro g d' hx
  jk d' hx := by rw [get_put1, if_neg (by simp [Key.eq])] at hx; exact h.jk d' hx
  ok k' d' hx := by
    rw [get_put1] at hx
    by_cases he : Key.eq (.o k) (.o k') = true
    · rw [if_pos he] at hx
      cases hx
      have := Key.eq_iff.1 he
      cases this
      exact ⟨b, hb, hd⟩
    · rw [if_neg he] at hx; exact h.ok k' d' hx
theorem St.putHolds : ∀ {W : List (Key × D)} {σ : List (Key × D)}, St cx Fr m Im w a σ → Holds cx m Im w W → St cx Fr m Im w a (puts σ W)
  | [], σ, h, _ => h
  | (k, d) :: W, σ, h, hW => by
    rw [puts]
    have h1 := hW (k, d) (by simp)
    refine St.putHolds ?_ fun p hp => hW p (by simp [hp])
    cases k with
    | c k off =>
      obtain ⟨b, v, q1, q2, q3⟩ := h1
      exact h.putc q1 q2 q3
    | j =>
      obtain ⟨X, J, rfl, q⟩ := h1
      exact h.putj q
    | o k =>
      obtain ⟨b, q1, q2⟩ := h1
      exact h.puto q1 q2
    | t x => exact h1.elim
    | r g =>
      obtain ⟨Rw, q1, q2⟩ := h1
      exact h.putro q1 q2

theorem St.called (h : St cx Fr m Im w a σ) {R W : List (Key × D)} (hR : Holds cx m Im w R) (ho : Off (Tch m R) w w') (hi : ∀ b o, Im b o → Im' b o) (hib : ∀ b o, Im' b o → Im b o ∨ w.heap.size ≤ b) (hex : ∀ b o, Im' b o → ∃ v, w'.cell? ⟨b, o, none⟩ = some v)
    (hfz : ∀ k b o, m.blk k = some b → w'.frozen? ⟨b, o, none⟩ = false) (hW : Holds cx m Im' w' W) : St cx Fr m Im' w' a (puts (dropT R σ) W) ∧ KeepI Im w w' := by
  have hxown : ∀ X J, (Key.j, D.j X J) ∈ R → XOk cx m Im w X J := fun X J hm => by
    obtain ⟨X', J', e, hX⟩ := hR _ hm
    cases e; exact hX
  have hTown : ∀ b, Tch m R b → cx.C b ∨ cx.w0.heap.size ≤ b := fun b hb => by
    rcases hb with ⟨k, off, d, _, hb⟩ | ⟨X, J, hm, hb⟩ | ⟨k, d, _, hb⟩
    · exact h.mem.own k b hb
    · exact (hxown X J hm).own b hb
    · exact h.mem.oown k b hb
  have hTim : ∀ b o, Tch m R b → ¬ Im b o := fun b o hb => by
    rcases hb with ⟨k, off, d, _, hb⟩ | ⟨X, J, hm, hb⟩ | ⟨k, d, _, hb⟩
    · exact h.mem.nim k b o hb
    · exact (hxown X J hm).nim b o hb
    · exact h.mem.onim k b o hb
  have hTrow : ∀ b g Rw, Tch m R b → m.row g = some Rw → Rw.hv.ownBlock ≠ some b := fun b g Rw hb hg e => by
    rcases hb with ⟨k, off, d, _, hb⟩ | ⟨X, J, hm, hb⟩ | ⟨k, d, _, hb⟩
    · exact h.mem.rblk g Rw b k hg e hb
    · exact (hxown X J hm).row b g Rw hb hg e
    · exact h.mem.orow k g Rw b hb hg e
  have hki : KeepI Im w w' := fun b o v hi hv => (World.cell?_of_block (a := ⟨b, o, none⟩) (ho.block b (ltOfCell hv) fun ht => hTim b o ht hi)).trans hv
  refine ⟨?_, hki⟩
  refine St.putHolds ?_ hW
  have hmono : ∀ {x d}, Rel m Im w x d → Rel m Im' w' x d := fun hx => hx.mono (Mp.le.refl m) hki hi
  have hg : ∀ k, get (dropT R σ) k = if touches R k then none else get σ k := fun k => by
    unfold dropT
    rw [get_filter (fun k => !touches R k)]
    cases touches R k <;> rfl
  refine ⟨⟨?off, hex, ?imb, fun b o hh => hi b o (h.mem.im0 b o hh), h.mem.own, fun k b hk => Nat.lt_of_lt_of_le (h.mem.lt k b hk) ho.size, hfz, ?nim, h.mem.inj, ?row, ?rIm, h.mem.rblk, h.mem.rinj, h.mem.fr, h.mem.m0, h.mem.m0o, h.mem.oown, fun k b hk => Nat.lt_of_lt_of_le (h.mem.olt k b hk) ho.size, ?onim, h.mem.oinj, h.mem.oblk, h.mem.orow, h.mem.dis, h.mem.k0.trans (hki.weaken h.mem.im0), h.mem.rown, h.mem.m0r⟩, h.df, h.nt, fun x d hx => ?tm, fun k off d hx => ?ce, fun g d hx => ?ro, fun d hx => ?jk, fun k d hx => ?okk⟩
  case off =>
    refine ⟨ho.os.trans h.mem.off.os, ho.tape.trans h.mem.off.tape, ho.output.trans h.mem.off.output, Nat.le_trans h.mem.off.size ho.size, fun b hb hC => ?_⟩
    refine (ho.block b (Nat.lt_of_lt_of_le hb h.mem.off.size) fun ht => ?_).trans (h.mem.off.block b hb hC)
    rcases hTown b ht with hc | hc
    · exact hC hc
    · omega
  case imb =>
    intro b o hh
    rcases hib b o hh with h1 | h1
    · exact h.mem.imb b o h1
    · exact .inr (.inl (Nat.le_trans h.mem.off.size h1))
  case nim =>
    intro k b o hk hh
    rcases hib b o hh with h1 | h1
    · exact h.mem.nim k b o hk h1
    · have := h.mem.lt k b hk; omega
  case onim =>
    intro k b o hk hh
    rcases hib b o hh with h1 | h1
    · exact h.mem.onim k b o hk h1
    · have := h.mem.olt k b hk; omega
  case row =>
    intro g Rw hg
    obtain ⟨xs, hx⟩ := h.mem.row g Rw hg
    refine ⟨xs, hx.1, ?_⟩
    rcases hx.2 with h0 | ⟨g', cap, cur, e, h1, h2, h3⟩
    · exact .inl h0
    · refine .inr ⟨g', cap, cur, e, h1, ?_, h3⟩
      rw [ho.block g' (lt_of_block h2) fun ht => hTrow g' g Rw ht hg (by rw [e]; rfl)]; exact h2
  case rIm =>
    intro g Rw b o hg hob hh
    rcases hib b o hh with h1 | h1
    · exact h.mem.rIm g Rw b o hg hob h1
    · obtain ⟨xs, hx⟩ := h.mem.row g Rw hg
      have := (row_lt hx hob).2; omega
  case tm => rw [hg] at hx; simp only [touches] at hx; exact hmono (h.tm x d hx)
  case ce =>
    rw [hg] at hx
    by_cases ht : touches R (.c k off) = true
    · rw [if_pos ht] at hx; cases hx
    · rw [if_neg ht] at hx
      obtain ⟨b, v, q1, q2, q3⟩ := h.ce k off d hx
      refine ⟨b, v, q1, ?_, hmono q3⟩
      refine (World.cell?_of_block (a := ⟨b, off, none⟩) (ho.block b (ltOfCell q2) fun hb => ?_)).trans q2
      rcases hb with ⟨k', off', d', hm, hb⟩ | ⟨X, J, hm, hb⟩ | ⟨k', d', hm, hb⟩
      · have := h.mem.inj k k' b q1 hb
        subst this
        exact ht (by simp only [touches, List.any_eq_true]; exact ⟨_, hm, by simp⟩)
      · exact (hxown X J hm).blk b k hb q1
      · exact h.mem.oblk k' k b hb q1
  case ro =>
    rw [hg] at hx; simp only [touches] at hx
    obtain ⟨Rw, q1, q2⟩ := h.ro g d hx
    exact ⟨Rw, q1, q2.mono (fun b hb => ho.block b (h.mem.rlt q1 hb) fun ht => hTrow b g Rw ht q1 hb) (Mp.le.refl m) hki hi fun b o hb hh => (hib b o hh).elim id fun h2 => absurd (h.mem.rlt q1 hb) (Nat.not_lt.2 h2)⟩
  case jk =>
    rw [hg] at hx
    by_cases ht : touches R .j = true
    · rw [if_pos ht] at hx; cases hx
    · rw [if_neg ht] at hx
      obtain ⟨X, J, e, hX⟩ := h.jk d hx
      have hsame : ∀ b, X b → w'.heap[b]? = w.heap[b]? := fun b hb => ho.block b (hX.lt b hb) fun hT => by
        rcases hT with ⟨k', off', d', hm, hb'⟩ | ⟨X', J', hm, hb'⟩ | ⟨k', d', hm, hb'⟩
        · exact hX.blk b k' hb hb'
        · exact ht (by simp only [touches, List.any_eq_true]; exact ⟨_, hm, rfl⟩)
        · exact hX.obj b k' hb hb'
      exact ⟨X, J, e, hX.stable _ ho.size hsame, fun w2 hs hx2 => hX.stable w2 (Nat.le_trans ho.size hs) fun b hb => (hx2 b hb).trans (hsame b hb), fun b hb => Nat.lt_of_lt_of_le (hX.lt b hb) ho.size, hX.own, fun b o hb hh => by
        rcases hib b o hh with h1 | h1
        · exact hX.nim b o hb h1
        · have := hX.lt b hb; omega, hX.blk, hX.row, hX.obj⟩
  case okk =>
    rw [hg] at hx
    by_cases ht : touches R (.o k) = true
    · rw [if_pos ht] at hx; cases hx
    · rw [if_neg ht] at hx
      obtain ⟨b, q1, q2⟩ := h.ok k d hx
      refine ⟨b, q1, q2.mono (ho.block b (h.mem.olt k b q1) fun hT => ?_) (Mp.le.refl m) hki hi⟩
      rcases hT with ⟨k', off', d', hm, hb'⟩ | ⟨X', J', hm, hb'⟩ | ⟨k', d', hm, hb'⟩
      · exact h.mem.oblk k k' b q1 hb'
      · exact (hxown X' J' hm).obj b k hb' q1
      · have := h.mem.oinj k k' b q1 hb'
        subst this
        exact ht (by simp only [touches, List.any_eq_true]; exact ⟨_, hm, by simp⟩)

def callD (σ : List (Key × D)) (o : Oper) : Option (FuncId × List D) := match o.op with
  | .call c => match c.callee with
    | .value x => match ev σ x with
      | some (.fn f caps) => (evs σ c.args.toList).map fun ars => (f, ars ++ caps)
      | _ => none
    | _ => none
  | _ => none
theorem callD_mono {o : Oper} (h : ∀ k ∈ trd o, Agree σ σ' k) {e : FuncId × List D} (hd : callD σ o = some e) : callD σ' o = some e := by
  have hx : ∀ x ∈ o.op.operands.toList, ∀ t, x = .tmp t → Agree σ σ' (.t t) := fun x hx t e => h _ (mem_trd (e ▸ hx))
  unfold callD at hd ⊢
  split at hd
  · rename_i c ho
    split at hd
    · rename_i x hc
      split at hd
      · rename_i f caps hf
        have hxm : x ∈ o.op.operands.toList := by simp [ho, Op.operands, Call.operands, hc]
        rw [ev_mono (hx x hxm) hf]
        cases he : evs σ c.args.toList with
        | none => rw [he] at hd; cases hd
        | some ars =>
          rw [he] at hd
          simp only [evs_mono (fun y hy => hx y (by simp only [ho, Op.operands, Call.operands, hc, Array.toList_append, List.mem_append]; exact .inr hy)) he]
          exact hd
      · cases hd
    · cases hd
  · cases hd
theorem call_exec {o : Oper} (h : St cx Fr m Im w a σ) {f : FuncId} {ars : List D} (hd : callD σ o = some (f, ars)) (hf : entersB P f = true) : ∃ vs : List Value, (execOp a.eval o).run P w = .ok (.enter f vs.toArray) w ∧ RelL m Im w vs ars := by
  unfold callD at hd
  split at hd
  · rename_i c ho
    split at hd
    · rename_i x hc
      split at hd
      · rename_i f' caps hx
        cases he : evs σ c.args.toList with
        | none => rw [he] at hd; cases hd
        | some ds =>
          rw [he] at hd
          cases hd
          obtain ⟨cs, ec, hcs⟩ := rel_fn.1 (h.ev hx)
          have hargs := h.evs he
          refine ⟨c.args.toList.map a.eval ++ cs, ?_, hargs.append hcs⟩
          unfold entersB at hf
          cases hfn : P.funcs[f]? with
          | none => rw [hfn] at hf; cases hf
          | some fn =>
            rw [hfn] at hf
            simp only [Bool.and_eq_true, Bool.not_eq_true'] at hf
            have hargs2 : (c.args.map a.eval ++ cs.toArray) = (c.args.toList.map a.eval ++ cs).toArray := by apply Array.ext'; simp
            have hn : ¬ fn.name = "runtime.NumGoroutine" := by simpa using hf.1
            obtain ⟨body, hb⟩ : ∃ body, fn.body = some body := by
              cases hb : fn.body with
              | none => rw [hb] at hf; cases hf.2
              | some body => exact ⟨body, rfl⟩
            simp only [execOp, ho, resolve, hc, ec, Deferred.ofValue, invoke, callFunc]
            simp [hfn, hn, hb, hargs2]
      · cases hd
    · cases hd
  · cases hd
end
end Go.Proofs.Ytdmiekaeodcehaa

namespace Go.Proofs.Ytdmiekaeodcehaa
open Go.RowKit

structure RStep where
  Rv : List (Key × D)
  R : List (Key × D)
  W : List (Key × D)
def RStep.wk (s : RStep) (k : Key) : Bool := touches s.R k || s.W.any fun p => Key.eq p.1 k
def RStep.ap (s : RStep) (σ : List (Key × D)) : List (Key × D) := puts (dropT s.R σ) s.W

theorem get_dropT (R σ : List (Key × D)) (k : Key) : get (dropT R σ) k = if touches R k then none else get σ k := by
  unfold dropT
  rw [get_filter (fun k => !touches R k)]
  cases touches R k <;> rfl
theorem dropT_nil (σ : List (Key × D)) : dropT [] σ = σ := by
  unfold dropT
  rw [List.filter_eq_self]
  intro p _
  cases p.1 <;> rfl
namespace RStep
variable {s : RStep} {σ σ' : List (Key × D)} {k : Key}
theorem notW (h : s.wk k = false) : touches s.R k = false ∧ ∀ p ∈ s.W, p.1 ≠ k := by
  simp only [wk, Bool.or_eq_false_iff, List.any_eq_false] at h
  exact ⟨h.1, fun p hp e => h.2 p hp (by rw [e]; exact Key.eq_refl _)⟩
theorem ap_out (h : s.wk k = false) : get (s.ap σ) k = get σ k := by
  obtain ⟨h1, h2⟩ := notW h
  rw [ap, get_puts_not _ _ _ h2, get_dropT, h1, if_neg (by simp)]
theorem ap_congr (h : get σ k = get σ' k) : get (s.ap σ) k = get (s.ap σ') k := by
  rw [ap, ap]
  exact get_puts_congr _ _ _ _ (by rw [get_dropT, get_dropT, h])
theorem ap_in (h : s.wk k = true) : get (s.ap σ) k = get (s.ap σ') k := by
  rw [ap, ap]
  by_cases hw : ∃ p ∈ s.W, p.1 = k
  · exact get_puts_in _ _ _ _ hw
  · have hn : ∀ p ∈ s.W, p.1 ≠ k := fun p hp e => hw ⟨p, hp, e⟩
    have ht : touches s.R k = true := by
      simp only [wk, Bool.or_eq_true, List.any_eq_true] at h
      rcases h with h | ⟨p, hp, he⟩
      · exact h
      · exact absurd (Key.eq_iff.1 he) (hn p hp)
    rw [get_puts_not _ _ _ hn, get_puts_not _ _ _ hn, get_dropT, get_dropT, ht, if_pos rfl, if_pos rfl]
end RStep

section perm
variable (S : Nat → RStep) (σ0 : List (Key × D))
def canL (L : Nat → Bool) : Nat → List (Key × D)
  | 0 => σ0
  | i + 1 => if L i then (S i).ap (canL L i) else canL L i
variable {S σ0}
theorem canL_congr {L L' : Nat → Bool} {k : Key} : ∀ {n : Nat}, (∀ j, j < n → (S j).wk k = true → L j = L' j) → get (canL S σ0 L n) k = get (canL S σ0 L' n) k
  | 0, _ => rfl
  | n + 1, h => by
    have ih := canL_congr (n := n) fun j hj hw => h j (by omega) hw
    simp only [canL]
    cases hw : (S n).wk k with
    | true =>
      rw [h n (by omega) hw]
      split
      · exact RStep.ap_congr ih
      · exact ih
    | false =>
      have h1 : ∀ σ, get ((S n).ap σ) k = get σ k := fun σ => RStep.ap_out hw
      split <;> split <;> simp only [h1, ih]
theorem canL_cut {L : Nat → Bool} {i : Nat} : ∀ {n : Nat}, i ≤ n → (∀ j, i ≤ j → j < n → L j = false) → canL S σ0 L n = canL S σ0 L i
  | 0, h, _ => by have : i = 0 := by omega
                  rw [this]
  | n + 1, h, hl => by
    by_cases hi : i = n + 1
    · rw [hi]
    · rw [canL, hl n (by omega) (by omega), if_neg (by simp), canL_cut (n := n) (by omega) fun j h1 h2 => hl j h1 (by omega)]
def all' : Nat → Bool := fun _ => true
theorem canL_lt {k : Key} {i n : Nat} (h : i ≤ n) : get (canL S σ0 (fun j => decide (j < i)) n) k = get (canL S σ0 all' i) k := by
  rw [canL_cut h fun j h1 _ => by simp; omega]
  exact canL_congr fun j hj _ => by simp [all', hj]

def Cf (s t : RStep) : Prop := (∀ p ∈ t.Rv, s.wk p.1 = false) ∧ (∀ p ∈ s.Rv, t.wk p.1 = false) ∧ ∀ k, s.wk k = true → t.wk k = false
variable {anc : Nat → Nat → Prop} {n : Nat} (hc : ∀ i j, i < j → j < n → anc j i ∨ Cf (S i) (S j))
include hc
theorem perm_read {L : Nat → Bool} (hcl : ∀ j i, j < n → L j = true → anc j i → L i = true) {i : Nat} (hi : i < n) (hL : L i = false) (hr : ∀ x, anc i x → L x = true) {p : Key × D} (hp : p ∈ (S i).Rv) : get (canL S σ0 L n) p.1 = get (canL S σ0 all' i) p.1 := by
  rw [← canL_lt (Nat.le_of_lt hi)]
  refine canL_congr fun j hj hw => ?_
  rcases Nat.lt_trichotomy j i with h | h | h
  · rcases hc j i h hi with h1 | h1
    · simp [hr j h1, h]
    · have := h1.1 p hp; rw [hw] at this; cases this
  · subst h; simp [hL]
  · have hn : L j = false := by
      cases hLj : L j with
      | false => rfl
      | true =>
        rcases hc i j h hj with h1 | h1
        · have := hcl j i hj hLj h1; rw [hL] at this; cases this
        · have := h1.2.1 p hp; rw [hw] at this; cases this
    simp [hn]; omega
theorem perm_step {L : Nat → Bool} (hcl : ∀ j i, j < n → L j = true → anc j i → L i = true) {i : Nat} (hi : i < n) (hL : L i = false) (k : Key) : get ((S i).ap (canL S σ0 L n)) k = get (canL S σ0 (fun j => L j || j == i) n) k := by
  cases hw : (S i).wk k with
  | false =>
    rw [RStep.ap_out hw]
    refine canL_congr fun j hj hwj => ?_
    have : j ≠ i := fun e => by subst e; rw [hw] at hwj; cases hwj
    simp [this]
  | true =>
    have h1 : get (canL S σ0 (fun j => L j || j == i) n) k = get (canL S σ0 (fun j => (L j || j == i) && decide (j < i + 1)) n) k := canL_congr fun j hj hwj => by
      by_cases h : j < i + 1
      · simp [h]
      · have hji : j ≠ i := by omega
        have hn : L j = false := by
          cases hLj : L j with
          | false => rfl
          | true =>
            rcases hc i j (by omega) hj with h1 | h1
            · have := hcl j i hj hLj h1; rw [hL] at this; cases this
            · have := h1.2.2 k hw; rw [hwj] at this; cases this
        simp [hn, hji]
    rw [h1, canL_cut (L := fun j => (L j || j == i) && decide (j < i + 1)) (i := i + 1) (by omega) fun j h1 _ => by simp; intro _; omega]
    simp only [canL]
    rw [if_pos (by simp)]
    exact RStep.ap_in hw
end perm
end Go.Proofs.Ytdmiekaeodcehaa

