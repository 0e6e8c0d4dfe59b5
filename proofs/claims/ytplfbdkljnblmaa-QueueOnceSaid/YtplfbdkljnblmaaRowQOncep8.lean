/-
  A queue in memory: what waits, by ages; Peek.
-/
import Derived.Test.YtplfbdkljnblmaaRowQOncep7
set_option linter.unusedVariables false
set_option linter.unusedSimpArgs false
namespace Go.Proofs.Ytplfbdkljnblmaa
open Go.RowKit Go.Maps

structure QS where
  period : Int
  taken : Int
  put : Nat
  L : List Ent

structure QInv (s : QS) (light old : List Ent) : Prop where
  per : 1 ≤ s.period ∧ s.period ≤ 1000
  tak : 0 ≤ s.taken ∧ s.taken ≤ 800000
  many : s.put ≤ 800000
  keys : (s.L.map Ent.key).Nodup
  ages : s.L.Pairwise fun a b => a.age < b.age
  inl : ∀ e ∈ s.L, e ∈ light
  ino : ∀ e ∈ s.L, e ∈ old
  wkl : ∀ e ∈ light, W64 e.key
  wko : ∀ e ∈ old, W64 e.key
  last : ∀ e ∈ s.L, e.age < s.put
  lenl : light.length ≤ s.put
  leno : old.length ≤ s.put

def qCells (s : QS) (lv ov : Value) (m : Nat) : Array Value :=
  #[.int .i64 s.period, .int .i64 s.taken, .int .i64 s.put, lv, .func (.func 22) #[] #[], ov, .func (.func 23) #[] #[], .map (some m)]

structure QMem (F : Nat → Prop) (w : World) (q : Nat) (s : QS) (lv ov : Value) (m n : Nat) (light old : List Ent) : Prop where
  inv : QInv s light old
  blk : Blk w q (qCells s lv ov m) 62
  rl : Row w 0 lv light
  ro : Row w 0 ov old
  mp : MapOf w m n s.L
  hn : n ≤ s.put
  hl : Hp.Heap Hp.lighter light
  ho : Hp.Heap Hp.elder old
  lq : lv.ownBlock ≠ some q
  lm : lv.ownBlock ≠ some m
  oq : ov.ownBlock ≠ some q
  om : ov.ownBlock ≠ some m
  mq : m ≠ q
  lo : ∀ g, lv.ownBlock = some g → ov.ownBlock ≠ some g
  fq : F q
  fm : F m
  fl : ∀ g, lv.ownBlock = some g → F g
  fo : ∀ g, ov.ownBlock = some g → F g
def QueueAt (F : Nat → Prop) (w : World) (q : Nat) (s : QS) : Prop := ∃ lv ov m n light old, QMem F w q s lv ov m n light old

theorem Row.off {w w' : World} {base : Nat} {v : Value} {l : List Ent} {F : Nat → Prop} (h : Row w base v l) (ho : Off F w w') (hF : ∀ g, v.ownBlock = some g → ¬ F g) : Row w' base v l := by
  rcases h with ⟨h1, h2 | ⟨g, cap, cur, rfl, hb, hc, h3⟩⟩
  · exact ⟨h1, .inl h2⟩
  · exact ⟨h1, .inr ⟨g, cap, cur, rfl, hb, (ho.block g (Array.getElem?_eq_some_iff.1 hc).1 (hF g rfl)).trans hc, h3⟩⟩

def QB (q m : Nat) (lv ov : Value) (k : Nat) : Prop := k = q ∨ k = m ∨ lv.ownBlock = some k ∨ ov.ownBlock = some k
theorem QMem.qb {F : Nat → Prop} {w : World} {q : Nat} {s : QS} {lv ov : Value} {m n : Nat} {light old : List Ent} (h : QMem F w q s lv ov m n light old) {k : Nat} (hk : QB q m lv ov k) : k < w.heap.size ∧ F k := by
  rcases hk with rfl | rfl | hk | hk
  · exact ⟨h.blk.lt, h.fq⟩
  · exact ⟨h.mp.lt, h.fm⟩
  · exact ⟨(h.rl.base_le k hk).2, h.fl k hk⟩
  · exact ⟨(h.ro.base_le k hk).2, h.fo k hk⟩
theorem QMem.off {F G : Nat → Prop} {w w' : World} {q : Nat} {s : QS} {lv ov : Value} {m n : Nat} {light old : List Ent} (h : QMem F w q s lv ov m n light old) (ho : Off G w w') (hG : ∀ k, QB q m lv ov k → ¬ G k) : QMem F w' q s lv ov m n light old :=
  { h with
    blk := ho.blk h.blk (hG _ (.inl rfl))
    rl := h.rl.off ho fun g hg => hG g (.inr (.inr (.inl hg)))
    ro := h.ro.off ho fun g hg => hG g (.inr (.inr (.inr hg)))
    mp := h.mp.off ho (hG _ (.inr (.inl rfl))) }
theorem QueueAt.off {F G : Nat → Prop} {w w' : World} {q : Nat} {s : QS} (h : QueueAt F w q s) (ho : Off G w w') (hG : ∀ k, k < w.heap.size → F k → ¬ G k) : QueueAt F w' q s := by
  obtain ⟨lv, ov, m, n, light, old, h⟩ := h
  exact ⟨lv, ov, m, n, light, old, h.off ho fun k hk => hG k (h.qb hk).1 (h.qb hk).2⟩
theorem QueueAt.below {F : Nat → Prop} {w w' : World} {q : Nat} {s : QS} (h : QueueAt F w q s) (hb : Below w.heap.size w w') : QueueAt F w' q s :=
  h.off (Off.of_below (fun _ => False) hb) fun _ _ _ h => h
theorem QueueAt.weaken {F G : Nat → Prop} {w : World} {q : Nat} {s : QS} (h : QueueAt F w q s) (hG : ∀ k, F k → G k) : QueueAt G w q s := by
  obtain ⟨lv, ov, m, n, light, old, h⟩ := h
  exact ⟨lv, ov, m, n, light, old, { h with fq := hG _ h.fq, fm := hG _ h.fm, fl := fun g hg => hG _ (h.fl g hg), fo := fun g hg => hG _ (h.fo g hg) }⟩

theorem findK_mem {L : List Ent} {k : Int} {e : Ent} (h : findK L k = some e) : e ∈ L ∧ e.key = k := by
  unfold findK at h
  exact ⟨List.mem_of_find?_eq_some h, by have := List.find?_some h; simpa using this⟩
theorem findK_of_mem {L : List Ent} (hL : (L.map Ent.key).Nodup) {e : Ent} (he : e ∈ L) : findK L e.key = some e := by
  induction L with
  | nil => cases he
  | cons x L ih =>
    simp only [List.map_cons, List.nodup_cons] at hL
    unfold findK
    rcases List.mem_cons.1 he with rfl | he
    · simp
    · have : x.key ≠ e.key := fun h => hL.1 (h ▸ List.mem_map.2 ⟨e, he, rfl⟩)
      rw [List.find?_cons_of_neg (by simpa using this)]
      exact ih hL.2 he
theorem findK_none {L : List Ent} {k : Int} (h : findK L k = none) : ∀ e ∈ L, e.key ≠ k := by
  unfold findK at h
  intro e he hk
  have := List.find?_eq_none.1 h e he
  simp [hk] at this

def QS.lt (s : QS) : Ent → Ent → Bool := if (s.taken + 1).tmod s.period = 0 then Hp.elder else Hp.lighter

def PeekRes (s : QS) (e : Ending) : Prop :=
  (s.L = [] ∧ e = .returned (.tuple #[Hp.z0.v, .bool false])) ∨ ∃ x ∈ s.L, (∀ y ∈ s.L, s.lt y x = false) ∧ e = .returned (.tuple #[x.v, .bool true])

theorem top_says {lt : Ent → Ent → Bool} (O : Hp.Ord lt) {l l' gone L : List Ent} (hk : (L.map Ent.key).Nodup) (hin : ∀ e ∈ L, e ∈ l) (hp : l.Perm (gone ++ l')) (hg : ∀ x ∈ gone, findK L x.key ≠ some x) (hh : Hp.Heap lt l') :
    (∀ e ∈ L, e ∈ l') ∧ (l' = [] → L = []) ∧ (0 < l'.length → findK L (Hp.at_ l' 0).key = some (Hp.at_ l' 0) → Hp.at_ l' 0 ∈ L ∧ ∀ y ∈ L, lt y (Hp.at_ l' 0) = false) := by
  have h1 : ∀ e ∈ L, e ∈ l' := fun e he => by
    have := hp.mem_iff.1 (hin e he)
    rcases List.mem_append.1 this with h | h
    · exact absurd (findK_of_mem hk he) (hg e h)
    · exact h
  refine ⟨h1, fun h => ?_, fun h0 hf => ⟨(findK_mem hf).1, fun y hy => ?_⟩⟩
  · rw [List.eq_nil_iff_forall_not_mem]
    intro e he
    have := h1 e he
    rw [h] at this; cases this
  · obtain ⟨j, hj, he⟩ := List.getElem_of_mem (h1 y hy)
    rw [← he, ← Hp.at_get hj]
    exact hh.first O j hj

theorem QMem.topOld {F : Nat → Prop} {w w' : World} {q : Nat} {s : QS} {lv ov : Value} {m n : Nat} {light old : List Ent} (h : QMem F w q s lv ov m n light old) {e : Ending} (ht : TopPost Hp.elder q 5 (qCells s lv ov m) 62 ov 0 old s.L w e w') :
    (∃ ov' old', QMem F w' q s lv ov' m n light old' ∧ ov'.ownBlock = ov.ownBlock) ∧ Off (Turn q ov) w w' ∧ ((s.L = [] ∧ e = .returned (.tuple #[Hp.z0.v, .bool false])) ∨ ∃ x ∈ s.L, (∀ y ∈ s.L, Hp.elder y x = false) ∧ e = .returned (.tuple #[x.v, .bool true])) := by
  obtain ⟨v', l', gone, ⟨h1, h2, h3⟩, h4, h5, h6, h7, h8⟩ := ht
  obtain ⟨t1, t2, t3⟩ := top_says Hp.elder_ord h.inv.keys h.inv.ino h5 h6 h4
  have hlen := h5.length_eq
  simp only [List.length_append] at hlen
  refine ⟨⟨v', l', { h with inv := { h.inv with ino := t1, wko := fun e he => h.inv.wko e (h5.mem_iff.2 (List.mem_append_right _ he)), leno := by have := h.inv.leno; omega }, blk := h1, rl := ?_, ro := h2, mp := ?_, ho := h4, oq := by rw [h3]; exact h.oq, om := by rw [h3]; exact h.om, lo := fun g hg => by rw [h3]; exact h.lo g hg, fo := fun g hg => h.fo g (by rw [← h3]; exact hg) }, h3⟩, h7, ?_⟩
  · exact h.rl.off h7 fun g hg => by rintro (rfl | e); exact h.lq hg; exact h.lo g hg e
  · exact h.mp.off h7 (by rintro (e | e); exact h.mq e; exact h.om e)
  · rcases h8 with ⟨h8, h9⟩ | ⟨h8, h9, h10⟩
    · exact .inl ⟨t2 h8, h9⟩
    · exact .inr ⟨_, (t3 h8 h9).1, (t3 h8 h9).2, h10⟩
theorem QMem.topLight {F : Nat → Prop} {w w' : World} {q : Nat} {s : QS} {lv ov : Value} {m n : Nat} {light old : List Ent} (h : QMem F w q s lv ov m n light old) {e : Ending} (ht : TopPost Hp.lighter q 3 (qCells s lv ov m) 62 lv 0 light s.L w e w') :
    (∃ lv' light', QMem F w' q s lv' ov m n light' old ∧ lv'.ownBlock = lv.ownBlock) ∧ Off (Turn q lv) w w' ∧ ((s.L = [] ∧ e = .returned (.tuple #[Hp.z0.v, .bool false])) ∨ ∃ x ∈ s.L, (∀ y ∈ s.L, Hp.lighter y x = false) ∧ e = .returned (.tuple #[x.v, .bool true])) := by
  obtain ⟨v', l', gone, ⟨h1, h2, h3⟩, h4, h5, h6, h7, h8⟩ := ht
  obtain ⟨t1, t2, t3⟩ := top_says Hp.lighter_ord h.inv.keys h.inv.inl h5 h6 h4
  have hlen := h5.length_eq
  simp only [List.length_append] at hlen
  refine ⟨⟨v', l', { h with inv := { h.inv with inl := t1, wkl := fun e he => h.inv.wkl e (h5.mem_iff.2 (List.mem_append_right _ he)), lenl := by have := h.inv.lenl; omega }, blk := h1, rl := h2, ro := ?_, mp := ?_, hl := h4, lq := by rw [h3]; exact h.lq, lm := by rw [h3]; exact h.lm, lo := fun g hg => h.lo g (by rw [← h3]; exact hg), fl := fun g hg => h.fl g (by rw [← h3]; exact hg) }, h3⟩, h7, ?_⟩
  · exact h.ro.off h7 fun g hg => by rintro (rfl | e); exact h.oq hg; exact h.lo g e hg
  · exact h.mp.off h7 (by rintro (e | e); exact h.mq e; exact h.lm e)
  · rcases h8 with ⟨h8, h9⟩ | ⟨h8, h9, h10⟩
    · exact .inl ⟨t2 h8, h9⟩
    · exact .inr ⟨_, (t3 h8 h9).1, (t3 h8 h9).2, h10⟩

set_option maxRecDepth 100000 in
set_option maxHeartbeats 4000000 in
theorem peek_q {F : Nat → Prop} {w : World} {q : Nat} {s : QS} (h : QueueAt F w q s) :
    Calls Try.prog 16 #[.pointer (some ⟨q, 0, none⟩)] w fun e w' => PeekRes s e ∧ QueueAt F w' q s ∧ Off F w w' := by
  obtain ⟨lv, ov, m, n, light, old, h⟩ := h
  obtain ⟨wB, hwB⟩ : ∃ wB, w.alloc (.cells #[.int .i64 0, .int .i64 0, .int .i64 0] 30) = wB := ⟨_, rfl⟩
  have B0 : Below w.heap.size w wB := by rw [← hwB]; exact (Below.refl _ _).alloc (Nat.le_refl _) _
  have x0 : Blk wB w.heap.size #[.int .i64 0, .int .i64 0, .int .i64 0] 30 := by rw [← hwB]; exact Blk.new _ _ _ rfl
  have hqB := h.blk.below B0
  have Hh := Lib.hid h
  have p1 := h.inv.per.1
  have p2 := h.inv.per.2
  have p3 := h.inv.tak.1
  have p4 := h.inv.tak.2
  clear h
  obtain ⟨per, tak, put, L⟩ := s
  unfold qCells at hqB
  dsimp only at *
  have p5 : ¬ per = 0 := by omega
  have p6 : IntKind.i64.wrap (tak + 1) = tak + 1 := IntWalk.i64_in _ (by omega)
  go_enter Try.func16, Try.ntmps16
  go_wp2_with fail
  try rw [hwB]
  clear hwB
  have c0 : wB.cell? ⟨q, 0, none⟩ = some (.int .i64 per) := hqB.cell rfl
  have c1 : wB.cell? ⟨q, 1, none⟩ = some (.int .i64 tak) := hqB.cell rfl
  refine wp_region_noPanic (wp_region_need (S := fun w' => w'.cell? ⟨q, 1, none⟩ = some (.int .i64 tak) ∧ w'.cell? ⟨q, 0, none⟩ = some (.int .i64 per)) (by kernel_rfl) ?_)
  have hS : (wB.drew).cell? ⟨q, 1, none⟩ = some (.int .i64 tak) ∧ (wB.drew).cell? ⟨q, 0, none⟩ = some (.int .i64 per) := ⟨c1, c0⟩
  refine wpN_pure (i := 0) (v := ?v1) rfl (by kernel_rfl) (fun _ _ _ h => h) (Or.inl ⟨by rfl, ?hy1⟩) ?hr1
  case hy1 => (intro wS hSw; go_simp; (try with_reducible rfl))
  try simp only [Act.put, List.setIfInBounds_toArray, List.set_cons_zero, List.set_cons_succ, List.getElem_toArray, List.getElem_cons_zero, List.getElem_cons_succ]
  refine wpN_pure (i := 1) (v := ?v2) rfl (by kernel_rfl) (fun _ _ _ h => h) (Or.inl ⟨by rfl, ?hy2⟩) ?hr2
  case hy2 => (intro wS hSw; go_simp; (try with_reducible rfl))
  try simp only [Act.put, List.setIfInBounds_toArray, List.set_cons_zero, List.set_cons_succ, List.getElem_toArray, List.getElem_cons_zero, List.getElem_cons_succ]
  refine wpN_pure (i := 2) (v := ?v3) rfl (by kernel_rfl) (fun _ _ _ h => h) (Or.inl ⟨by rfl, ?hy3⟩) ?hr3
  case hy3 => (intro wS hSw; go_simp; (try with_reducible rfl))
  try simp only [Act.put, List.setIfInBounds_toArray, List.set_cons_zero, List.set_cons_succ, List.getElem_toArray, List.getElem_cons_zero, List.getElem_cons_succ]
  refine wpN_takeD [4, 9, 10, 11] (i := 3) (v := ?v4) rfl (by kernel_rfl) (fun _ _ _ h => h) hS (Or.inl ⟨by rfl, ?hy4⟩) ?hr4
  case hy4 => (intro wS hSw; (try dsimp only at hSw); go_simp; (try with_reducible rfl))
  try simp only [Act.put, List.setIfInBounds_toArray, List.set_cons_zero, List.set_cons_succ, List.getElem_toArray, List.getElem_cons_zero, List.getElem_cons_succ]
  refine wpN_pure (i := 4) (v := ?v5) rfl (by kernel_rfl) (fun _ _ _ h => h) (Or.inl ⟨by rfl, ?hy5⟩) ?hr5
  case hy5 => (intro wS hSw; go_simp; (try with_reducible rfl))
  try simp only [Act.put, List.setIfInBounds_toArray, List.set_cons_zero, List.set_cons_succ, List.getElem_toArray, List.getElem_cons_zero, List.getElem_cons_succ]
  refine wpN_pure (i := 5) (v := ?v6) rfl (by kernel_rfl) (fun _ _ _ h => h) (Or.inl ⟨by rfl, ?hy6⟩) ?hr6
  case hy6 => (intro wS hSw; go_simp; (try with_reducible rfl))
  try simp only [Act.put, List.setIfInBounds_toArray, List.set_cons_zero, List.set_cons_succ, List.getElem_toArray, List.getElem_cons_zero, List.getElem_cons_succ]
  refine wpN_pure (i := 6) (v := ?v7) rfl (by kernel_rfl) (fun _ _ _ h => h) (Or.inl ⟨by rfl, ?hy7⟩) ?hr7
  case hy7 => (intro wS hSw; go_simp; (try with_reducible rfl))
  try simp only [Act.put, List.setIfInBounds_toArray, List.set_cons_zero, List.set_cons_succ, List.getElem_toArray, List.getElem_cons_zero, List.getElem_cons_succ]
  refine wpN_pure (i := 7) (v := ?v8) rfl (by kernel_rfl) (fun _ _ _ h => h) (Or.inl ⟨by rfl, ?hy8⟩) ?hr8
  case hy8 => (intro wS hSw; go_simp; (try with_reducible rfl))
  try simp only [Act.put, List.setIfInBounds_toArray, List.set_cons_zero, List.set_cons_succ, List.getElem_toArray, List.getElem_cons_zero, List.getElem_cons_succ]
  refine wpN_takeD [9, 10, 11] (i := 8) (v := ?v9) rfl (by kernel_rfl) (fun _ _ _ h => h) hS (Or.inl ⟨by rfl, ?hy9⟩) ?hr9
  case hy9 => (intro wS hSw; (try dsimp only at hSw); go_simp; (try with_reducible rfl))
  try simp only [Act.put, List.setIfInBounds_toArray, List.set_cons_zero, List.set_cons_succ, List.getElem_toArray, List.getElem_cons_zero, List.getElem_cons_succ]
  refine wpN_pure (i := 9) (v := ?v10) rfl (by kernel_rfl) (fun _ _ _ h => h) (Or.inl ⟨by rfl, ?hy10⟩) ?hr10
  case hy10 => (intro wS hSw; go_simp; (try with_reducible rfl))
  try simp only [Act.put, List.setIfInBounds_toArray, List.set_cons_zero, List.set_cons_succ, List.getElem_toArray, List.getElem_cons_zero, List.getElem_cons_succ]
  refine wpN_pure (i := 10) (v := ?v11) rfl (by kernel_rfl) (fun _ _ _ h => h) (Or.inl ⟨by rfl, ?hy11⟩) ?hr11
  case hy11 => (intro wS hSw; go_simp; (try with_reducible rfl))
  try simp only [Act.put, List.setIfInBounds_toArray, List.set_cons_zero, List.set_cons_succ, List.getElem_toArray, List.getElem_cons_zero, List.getElem_cons_succ]
  refine wpN_pure (i := 11) (v := ?v12) rfl (by kernel_rfl) (fun _ _ _ h => h) (Or.inl ⟨by rfl, ?hy12⟩) ?hr12
  case hy12 => (intro wS hSw; go_simp; (try with_reducible rfl))
  try simp only [Act.put, List.setIfInBounds_toArray, List.set_cons_zero, List.set_cons_succ, List.getElem_toArray, List.getElem_cons_zero, List.getElem_cons_succ]
  refine wpN_done (by kernel_rfl) ?_
  refine NoPanic.normal ?_
  have hB1 : Below w.heap.size w wB.drew := B0.drew
  have h1 := Lib.hid (Hh.out.off (Off.of_below (fun _ => False) hB1) fun _ _ h => h)
  have x1 := x0.drew
  obtain ⟨w1, hw1⟩ : ∃ w1, wB.drew = w1 := ⟨_, rfl⟩
  rw [hw1] at h1 x1 hB1 ⊢
  clear hw1 hqB x0 hS c0 c1 B0
  by_cases hc : (tak + 1).tmod per = 0
  · have hcb : ((tak + 1).tmod per == 0) = true := by simpa using hc
    have Hlt : Hid (QS.lt ⟨per, tak, put, L⟩ = Hp.elder) := by show _ = _; unfold QS.lt; rw [if_pos hc]
    clear hc
    go_wp2_with fail
    refine (top_q fst_elder Hp.elder_ord (o := 5) h1.out.blk rfl rfl rfl (by decide) h1.out.ro h1.out.ho h1.out.oq h1.out.om h1.out.mq h1.out.mp h1.out.inv.wko (by have a := h1.out.inv.leno; have b := h1.out.inv.many; dsimp only at a b; omega)).mono ?_
    intro e w2 ht
    obtain ⟨⟨v2, l2, h2, hv2⟩, B2, hres⟩ := h1.out.topOld ht
    have H2 := Lib.hid h2
    have hlt : ∀ k, QB q m lv ov k → k < w.heap.size := fun k hk => (Hh.out.qb hk).1
    have x2 := B2.blk x1 (by rintro (e | e); exact absurd (hlt _ (.inl rfl)) (by omega); exact absurd (hlt _ (.inr (.inr (.inr e)))) (by omega))
    have hBo : Off F w w2 := (Off.of_below F hB1).trans (B2.mono fun k _ hk => by rcases hk with rfl | hk; exact Hh.out.fq; exact Hh.out.fo k hk)
    have Hlt2 := Lib.hid hlt; have Hv2 := Lib.hid hv2; clear hlt hv2
    have hsz := B2.size
    have hsz1 := x1.lt
    have f1 := x2.free 0; have f2 := x2.free 1; have f3 := x2.free 2
    have d0 := x2.cell (i := 0) rfl; have d1 := x2.cell (i := 1) rfl; have d2 := x2.cell (i := 2) rfl
    clear ht h2
    have fin : ∀ (e : Ent) (w3 : World), w3 = ((w2.setCell ⟨w.heap.size, 0, none⟩ (.int .i64 e.key)).setCell ⟨w.heap.size, 1, none⟩ (.int .i64 e.weight)).setCell ⟨w.heap.size, 2, none⟩ (.int .i64 e.age) →
        Blk w3 w.heap.size #[.int .i64 e.key, .int .i64 e.weight, .int .i64 e.age] 30 ∧ QueueAt F w3 q ⟨per, tak, put, L⟩ ∧ Off F w w3 := by
      rintro e w3 rfl
      refine ⟨((x2.set 0 (.int .i64 e.key)).set 1 (.int .i64 e.weight)).set 2 (.int .i64 e.age), ?_, ((hBo.set ⟨w.heap.size, 0, none⟩ (.int .i64 e.key) (.inr (Nat.le_refl _))).set ⟨w.heap.size, 1, none⟩ (.int .i64 e.weight) (.inr (Nat.le_refl _))).set ⟨w.heap.size, 2, none⟩ (.int .i64 e.age) (.inr (Nat.le_refl _))⟩
      refine ⟨_, _, _, _, _, _, H2.out.off (G := fun k => k = w.heap.size) ((((Off.refl (fun k => k = w.heap.size) w2).set ⟨w.heap.size, 0, none⟩ (.int .i64 e.key) (.inl rfl)).set ⟨w.heap.size, 1, none⟩ (.int .i64 e.weight) (.inl rfl)).set ⟨w.heap.size, 2, none⟩ (.int .i64 e.age) (.inl rfl)) fun k hk e => by have := Hlt2.out k (by unfold QB at hk ⊢; rw [← Hv2.out]; exact hk); omega⟩
    have Fin := Lib.hid fin; clear fin
    rcases hres with ⟨hL, rfl⟩ | ⟨x, hx, hmin, rfl⟩
    · have HL := Lib.hid hL; clear hL
      unfold Ent.v Hp.z0
      dsimp only
      go_wp2_with fail
      obtain ⟨z1, z2, z3⟩ := Fin.out ⟨0, 0, 0⟩ _ rfl
      (try simp only [Exit.inBlock, Exit.then]); refine bodyPost_ret (results_ent rfl _ _ rfl (e := ⟨0, 0, 0⟩) z1) rfl ?_
      exact ⟨.inl ⟨HL.out, rfl⟩, z2, z3⟩
    · have HX := Lib.hid hx; have HM := Lib.hid hmin; clear hx hmin
      obtain ⟨xk, xw, xg⟩ := x
      unfold Ent.v
      dsimp only
      go_wp2_with fail
      obtain ⟨z1, z2, z3⟩ := Fin.out ⟨xk, xw, xg⟩ _ rfl
      (try simp only [Exit.inBlock, Exit.then]); refine bodyPost_ret (results_ent rfl _ _ rfl (e := ⟨xk, xw, xg⟩) z1) rfl ?_
      exact ⟨.inr ⟨⟨xk, xw, xg⟩, HX.out, fun y hy => by rw [Hlt.out]; exact HM.out y hy, rfl⟩, z2, z3⟩
  · have hcb : ((tak + 1).tmod per == 0) = false := by simpa using hc
    have Hlt : Hid (QS.lt ⟨per, tak, put, L⟩ = Hp.lighter) := by show _ = _; unfold QS.lt; rw [if_neg hc]
    clear hc
    go_wp2_with fail
    refine (top_q fst_lighter Hp.lighter_ord (o := 3) h1.out.blk rfl rfl rfl (by decide) h1.out.rl h1.out.hl h1.out.lq h1.out.lm h1.out.mq h1.out.mp h1.out.inv.wkl (by have a := h1.out.inv.lenl; have b := h1.out.inv.many; dsimp only at a b; omega)).mono ?_
    intro e w2 ht
    obtain ⟨⟨v2, l2, h2, hv2⟩, B2, hres⟩ := h1.out.topLight ht
    have H2 := Lib.hid h2
    have hlt : ∀ k, QB q m lv ov k → k < w.heap.size := fun k hk => (Hh.out.qb hk).1
    have x2 := B2.blk x1 (by rintro (e | e); exact absurd (hlt _ (.inl rfl)) (by omega); exact absurd (hlt _ (.inr (.inr (.inl e)))) (by omega))
    have hBo : Off F w w2 := (Off.of_below F hB1).trans (B2.mono fun k _ hk => by rcases hk with rfl | hk; exact Hh.out.fq; exact Hh.out.fl k hk)
    have Hlt2 := Lib.hid hlt; have Hv2 := Lib.hid hv2; clear hlt hv2
    have hsz := B2.size
    have hsz1 := x1.lt
    have f1 := x2.free 0; have f2 := x2.free 1; have f3 := x2.free 2
    have d0 := x2.cell (i := 0) rfl; have d1 := x2.cell (i := 1) rfl; have d2 := x2.cell (i := 2) rfl
    clear ht h2
    have fin : ∀ (e : Ent) (w3 : World), w3 = ((w2.setCell ⟨w.heap.size, 0, none⟩ (.int .i64 e.key)).setCell ⟨w.heap.size, 1, none⟩ (.int .i64 e.weight)).setCell ⟨w.heap.size, 2, none⟩ (.int .i64 e.age) →
        Blk w3 w.heap.size #[.int .i64 e.key, .int .i64 e.weight, .int .i64 e.age] 30 ∧ QueueAt F w3 q ⟨per, tak, put, L⟩ ∧ Off F w w3 := by
      rintro e w3 rfl
      refine ⟨((x2.set 0 (.int .i64 e.key)).set 1 (.int .i64 e.weight)).set 2 (.int .i64 e.age), ?_, ((hBo.set ⟨w.heap.size, 0, none⟩ (.int .i64 e.key) (.inr (Nat.le_refl _))).set ⟨w.heap.size, 1, none⟩ (.int .i64 e.weight) (.inr (Nat.le_refl _))).set ⟨w.heap.size, 2, none⟩ (.int .i64 e.age) (.inr (Nat.le_refl _))⟩
      refine ⟨_, _, _, _, _, _, H2.out.off (G := fun k => k = w.heap.size) ((((Off.refl (fun k => k = w.heap.size) w2).set ⟨w.heap.size, 0, none⟩ (.int .i64 e.key) (.inl rfl)).set ⟨w.heap.size, 1, none⟩ (.int .i64 e.weight) (.inl rfl)).set ⟨w.heap.size, 2, none⟩ (.int .i64 e.age) (.inl rfl)) fun k hk e => by have := Hlt2.out k (by unfold QB at hk ⊢; rw [← Hv2.out]; exact hk); omega⟩
    have Fin := Lib.hid fin; clear fin
    rcases hres with ⟨hL, rfl⟩ | ⟨x, hx, hmin, rfl⟩
    · have HL := Lib.hid hL; clear hL
      unfold Ent.v Hp.z0
      dsimp only
      go_wp2_with fail
      obtain ⟨z1, z2, z3⟩ := Fin.out ⟨0, 0, 0⟩ _ rfl
      (try simp only [Exit.inBlock, Exit.then]); refine bodyPost_ret (results_ent rfl _ _ rfl (e := ⟨0, 0, 0⟩) z1) rfl ?_
      exact ⟨.inl ⟨HL.out, rfl⟩, z2, z3⟩
    · have HX := Lib.hid hx; have HM := Lib.hid hmin; clear hx hmin
      obtain ⟨xk, xw, xg⟩ := x
      unfold Ent.v
      dsimp only
      go_wp2_with fail
      obtain ⟨z1, z2, z3⟩ := Fin.out ⟨xk, xw, xg⟩ _ rfl
      (try simp only [Exit.inBlock, Exit.then]); refine bodyPost_ret (results_ent rfl _ _ rfl (e := ⟨xk, xw, xg⟩) z1) rfl ?_
      exact ⟨.inr ⟨⟨xk, xw, xg⟩, HX.out, fun y hy => by rw [Hlt.out]; exact HM.out y hy, rfl⟩, z2, z3⟩
end Go.Proofs.Ytplfbdkljnblmaa

