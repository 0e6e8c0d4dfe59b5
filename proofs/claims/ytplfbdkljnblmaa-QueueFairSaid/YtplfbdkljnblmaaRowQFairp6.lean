/-
  A queue in memory: what waits, by ages; Peek. Queue.Next: the next one is taken. Queue.Put: one more.
-/
import Derived.Test.YtplfbdkljnblmaaRowQFairp5
set_option linter.unusedVariables false
set_option linter.unusedSimpArgs false
namespace Go.Proofs.Ytplfbdkljnblmaa
open Go.RowKit Go.Maps

structure QS where
  period : Int
  taken : Int
  put : Nat
  L : List Ent

structure QInv (s : QS) (light old : List Ent) : Prop where
  per : 1 ≤ s.period ∧ s.period ≤ 1000
  tak : 0 ≤ s.taken ∧ s.taken ≤ 800000
  many : s.put ≤ 800000
  keys : (s.L.map Ent.key).Nodup
  ages : s.L.Pairwise fun a b => a.age < b.age
  inl : ∀ e ∈ s.L, e ∈ light
  ino : ∀ e ∈ s.L, e ∈ old
  wkl : ∀ e ∈ light, W64 e.key
  wko : ∀ e ∈ old, W64 e.key
  last : ∀ e ∈ s.L, e.age < s.put
  lenl : light.length ≤ s.put
  leno : old.length ≤ s.put

def qCells (s : QS) (lv ov : Value) (m : Nat) : Array Value :=
  #[.int .i64 s.period, .int .i64 s.taken, .int .i64 s.put, lv, .func (.func 22) #[] #[], ov, .func (.func 23) #[] #[], .map (some m)]

structure QMem (F : Nat → Prop) (w : World) (q : Nat) (s : QS) (lv ov : Value) (m n : Nat) (light old : List Ent) : Prop where
  inv : QInv s light old
  blk : Blk w q (qCells s lv ov m) 62
  rl : Row w 0 lv light
  ro : Row w 0 ov old
  mp : MapOf w m n s.L
  hn : n ≤ s.put
  hl : Hp.Heap Hp.lighter light
  ho : Hp.Heap Hp.elder old
  lq : lv.ownBlock ≠ some q
  lm : lv.ownBlock ≠ some m
  oq : ov.ownBlock ≠ some q
  om : ov.ownBlock ≠ some m
  mq : m ≠ q
  lo : ∀ g, lv.ownBlock = some g → ov.ownBlock ≠ some g
  fq : F q
  fm : F m
  fl : ∀ g, lv.ownBlock = some g → F g
  fo : ∀ g, ov.ownBlock = some g → F g
def QueueAt (F : Nat → Prop) (w : World) (q : Nat) (s : QS) : Prop := ∃ lv ov m n light old, QMem F w q s lv ov m n light old

theorem Row.off {w w' : World} {base : Nat} {v : Value} {l : List Ent} {F : Nat → Prop} (h : Row w base v l) (ho : Off F w w') (hF : ∀ g, v.ownBlock = some g → ¬ F g) : Row w' base v l := by
  rcases h with ⟨h1, h2 | ⟨g, cap, cur, rfl, hb, hc, h3⟩⟩
  · exact ⟨h1, .inl h2⟩
  · exact ⟨h1, .inr ⟨g, cap, cur, rfl, hb, (ho.block g (Array.getElem?_eq_some_iff.1 hc).1 (hF g rfl)).trans hc, h3⟩⟩

def QB (q m : Nat) (lv ov : Value) (k : Nat) : Prop := k = q ∨ k = m ∨ lv.ownBlock = some k ∨ ov.ownBlock = some k
theorem QMem.qb {F : Nat → Prop} {w : World} {q : Nat} {s : QS} {lv ov : Value} {m n : Nat} {light old : List Ent} (h : QMem F w q s lv ov m n light old) {k : Nat} (hk : QB q m lv ov k) : k < w.heap.size ∧ F k := by
  rcases hk with rfl | rfl | hk | hk
  · exact ⟨h.blk.lt, h.fq⟩
  · exact ⟨h.mp.lt, h.fm⟩
  · exact ⟨(h.rl.base_le k hk).2, h.fl k hk⟩
  · exact ⟨(h.ro.base_le k hk).2, h.fo k hk⟩
theorem QMem.off {F G : Nat → Prop} {w w' : World} {q : Nat} {s : QS} {lv ov : Value} {m n : Nat} {light old : List Ent} (h : QMem F w q s lv ov m n light old) (ho : Off G w w') (hG : ∀ k, QB q m lv ov k → ¬ G k) : QMem F w' q s lv ov m n light old :=
  { h with
    blk := ho.blk h.blk (hG _ (.inl rfl))
    rl := h.rl.off ho fun g hg => hG g (.inr (.inr (.inl hg)))
    ro := h.ro.off ho fun g hg => hG g (.inr (.inr (.inr hg)))
    mp := h.mp.off ho (hG _ (.inr (.inl rfl))) }
theorem QueueAt.off {F G : Nat → Prop} {w w' : World} {q : Nat} {s : QS} (h : QueueAt F w q s) (ho : Off G w w') (hG : ∀ k, k < w.heap.size → F k → ¬ G k) : QueueAt F w' q s := by
  obtain ⟨lv, ov, m, n, light, old, h⟩ := h
  exact ⟨lv, ov, m, n, light, old, h.off ho fun k hk => hG k (h.qb hk).1 (h.qb hk).2⟩
theorem QueueAt.below {F : Nat → Prop} {w w' : World} {q : Nat} {s : QS} (h : QueueAt F w q s) (hb : Below w.heap.size w w') : QueueAt F w' q s :=
  h.off (Off.of_below (fun _ => False) hb) fun _ _ _ h => h
theorem QueueAt.weaken {F G : Nat → Prop} {w : World} {q : Nat} {s : QS} (h : QueueAt F w q s) (hG : ∀ k, F k → G k) : QueueAt G w q s := by
  obtain ⟨lv, ov, m, n, light, old, h⟩ := h
  exact ⟨lv, ov, m, n, light, old, { h with fq := hG _ h.fq, fm := hG _ h.fm, fl := fun g hg => hG _ (h.fl g hg), fo := fun g hg => hG _ (h.fo g hg) }⟩

theorem findK_mem {L : List Ent} {k : Int} {e : Ent} (h : findK L k = some e) : e ∈ L ∧ e.key = k := by
  unfold findK at h
  exact ⟨List.mem_of_find?_eq_some h, by have := List.find?_some h; simpa using this⟩
theorem findK_of_mem {L : List Ent} (hL : (L.map Ent.key).Nodup) {e : Ent} (he : e ∈ L) : findK L e.key = some e := by
  induction L with
  | nil => cases he
  | cons x L ih =>
    simp only [List.map_cons, List.nodup_cons] at hL
    unfold findK
    rcases List.mem_cons.1 he with rfl | he
    · simp
    · have : x.key ≠ e.key := fun h => hL.1 (h ▸ List.mem_map.2 ⟨e, he, rfl⟩)
      rw [List.find?_cons_of_neg (by simpa using this)]
      exact ih hL.2 he
theorem findK_none {L : List Ent} {k : Int} (h : findK L k = none) : ∀ e ∈ L, e.key ≠ k := by
  unfold findK at h
  intro e he hk
  have := List.find?_eq_none.1 h e he
  simp [hk] at this

def QS.lt (s : QS) : Ent → Ent → Bool := if (s.taken + 1).tmod s.period = 0 then Hp.elder else Hp.lighter

def PeekRes (s : QS) (e : Ending) : Prop :=
  (s.L = [] ∧ e = .returned (.tuple #[Hp.z0.v, .bool false])) ∨ ∃ x ∈ s.L, (∀ y ∈ s.L, s.lt y x = false) ∧ e = .returned (.tuple #[x.v, .bool true])

theorem top_says {lt : Ent → Ent → Bool} (O : Hp.Ord lt) {l l' gone L : List Ent} (hk : (L.map Ent.key).Nodup) (hin : ∀ e ∈ L, e ∈ l) (hp : l.Perm (gone ++ l')) (hg : ∀ x ∈ gone, findK L x.key ≠ some x) (hh : Hp.Heap lt l') :
    (∀ e ∈ L, e ∈ l') ∧ (l' = [] → L = []) ∧ (0 < l'.length → findK L (Hp.at_ l' 0).key = some (Hp.at_ l' 0) → Hp.at_ l' 0 ∈ L ∧ ∀ y ∈ L, lt y (Hp.at_ l' 0) = false) := by
  have h1 : ∀ e ∈ L, e ∈ l' := fun e he => by
    have := hp.mem_iff.1 (hin e he)
    rcases List.mem_append.1 this with h | h
    · exact absurd (findK_of_mem hk he) (hg e h)
    · exact h
  refine ⟨h1, fun h => ?_, fun h0 hf => ⟨(findK_mem hf).1, fun y hy => ?_⟩⟩
  · rw [List.eq_nil_iff_forall_not_mem]
    intro e he
    have := h1 e he
    rw [h] at this; cases this
  · obtain ⟨j, hj, he⟩ := List.getElem_of_mem (h1 y hy)
    rw [← he, ← Hp.at_get hj]
    exact hh.first O j hj

theorem QMem.topOld {F : Nat → Prop} {w w' : World} {q : Nat} {s : QS} {lv ov : Value} {m n : Nat} {light old : List Ent} (h : QMem F w q s lv ov m n light old) {e : Ending} (ht : TopPost Hp.elder q 5 (qCells s lv ov m) 62 ov 0 old s.L w e w') :
    (∃ ov' old', QMem F w' q s lv ov' m n light old' ∧ ov'.ownBlock = ov.ownBlock) ∧ Off (Turn q ov) w w' ∧ ((s.L = [] ∧ e = .returned (.tuple #[Hp.z0.v, .bool false])) ∨ ∃ x ∈ s.L, (∀ y ∈ s.L, Hp.elder y x = false) ∧ e = .returned (.tuple #[x.v, .bool true])) := by
  obtain ⟨v', l', gone, ⟨h1, h2, h3⟩, h4, h5, h6, h7, h8⟩ := ht
  obtain ⟨t1, t2, t3⟩ := top_says Hp.elder_ord h.inv.keys h.inv.ino h5 h6 h4
  have hlen := h5.length_eq
  simp only [List.length_append] at hlen
  refine ⟨⟨v', l', { h with inv := { h.inv with ino := t1, wko := fun e he => h.inv.wko e (h5.mem_iff.2 (List.mem_append_right _ he)), leno := by have := h.inv.leno; omega }, blk := h1, rl := ?_, ro := h2, mp := ?_, ho := h4, oq := by rw [h3]; exact h.oq, om := by rw [h3]; exact h.om, lo := fun g hg => by rw [h3]; exact h.lo g hg, fo := fun g hg => h.fo g (by rw [← h3]; exact hg) }, h3⟩, h7, ?_⟩
  · exact h.rl.off h7 fun g hg => by rintro (rfl | e); exact h.lq hg; exact h.lo g hg e
  · exact h.mp.off h7 (by rintro (e | e); exact h.mq e; exact h.om e)
  · rcases h8 with ⟨h8, h9⟩ | ⟨h8, h9, h10⟩
    · exact .inl ⟨t2 h8, h9⟩
    · exact .inr ⟨_, (t3 h8 h9).1, (t3 h8 h9).2, h10⟩
theorem QMem.topLight {F : Nat → Prop} {w w' : World} {q : Nat} {s : QS} {lv ov : Value} {m n : Nat} {light old : List Ent} (h : QMem F w q s lv ov m n light old) {e : Ending} (ht : TopPost Hp.lighter q 3 (qCells s lv ov m) 62 lv 0 light s.L w e w') :
    (∃ lv' light', QMem F w' q s lv' ov m n light' old ∧ lv'.ownBlock = lv.ownBlock) ∧ Off (Turn q lv) w w' ∧ ((s.L = [] ∧ e = .returned (.tuple #[Hp.z0.v, .bool false])) ∨ ∃ x ∈ s.L, (∀ y ∈ s.L, Hp.lighter y x = false) ∧ e = .returned (.tuple #[x.v, .bool true])) := by
  obtain ⟨v', l', gone, ⟨h1, h2, h3⟩, h4, h5, h6, h7, h8⟩ := ht
  obtain ⟨t1, t2, t3⟩ := top_says Hp.lighter_ord h.inv.keys h.inv.inl h5 h6 h4
  have hlen := h5.length_eq
  simp only [List.length_append] at hlen
  refine ⟨⟨v', l', { h with inv := { h.inv with inl := t1, wkl := fun e he => h.inv.wkl e (h5.mem_iff.2 (List.mem_append_right _ he)), lenl := by have := h.inv.lenl; omega }, blk := h1, rl := h2, ro := ?_, mp := ?_, hl := h4, lq := by rw [h3]; exact h.lq, lm := by rw [h3]; exact h.lm, lo := fun g hg => h.lo g (by rw [← h3]; exact hg), fl := fun g hg => h.fl g (by rw [← h3]; exact hg) }, h3⟩, h7, ?_⟩
  · exact h.ro.off h7 fun g hg => by rintro (rfl | e); exact h.oq hg; exact h.lo g e hg
  · exact h.mp.off h7 (by rintro (e | e); exact h.mq e; exact h.lm e)
  · rcases h8 with ⟨h8, h9⟩ | ⟨h8, h9, h10⟩
    · exact .inl ⟨t2 h8, h9⟩
    · exact .inr ⟨_, (t3 h8 h9).1, (t3 h8 h9).2, h10⟩

set_option maxRecDepth 100000 in
set_option maxHeartbeats 4000000 in
theorem peek_q {F : Nat → Prop} {w : World} {q : Nat} {s : QS} (h : QueueAt F w q s) :
    Calls Try.prog 16 #[.pointer (some ⟨q, 0, none⟩)] w fun e w' => PeekRes s e ∧ QueueAt F w' q s ∧ Off F w w' := by
  obtain ⟨lv, ov, m, n, light, old, h⟩ := h
  obtain ⟨wB, hwB⟩ : ∃ wB, w.alloc (.cells #[.int .i64 0, .int .i64 0, .int .i64 0] 30) = wB := ⟨_, rfl⟩
  have B0 : Below w.heap.size w wB := by rw [← hwB]; exact (Below.refl _ _).alloc (Nat.le_refl _) _
  have x0 : Blk wB w.heap.size #[.int .i64 0, .int .i64 0, .int .i64 0] 30 := by rw [← hwB]; exact Blk.new _ _ _ rfl
  have hqB := h.blk.below B0
  have Hh := Lib.hid h
  have p1 := h.inv.per.1
  have p2 := h.inv.per.2
  have p3 := h.inv.tak.1
  have p4 := h.inv.tak.2
  clear h
  obtain ⟨per, tak, put, L⟩ := s
  unfold qCells at hqB
  dsimp only at *
  have p5 : ¬ per = 0 := by omega
  have p6 : IntKind.i64.wrap (tak + 1) = tak + 1 := IntWalk.i64_in _ (by omega)
  go_enter Try.func16, Try.ntmps16
  go_wp2_with fail
  try rw [hwB]
  clear hwB
  have c0 : wB.cell? ⟨q, 0, none⟩ = some (.int .i64 per) := hqB.cell rfl
  have c1 : wB.cell? ⟨q, 1, none⟩ = some (.int .i64 tak) := hqB.cell rfl
  refine wp_region_noPanic (wp_region_need (S := fun w' => w'.cell? ⟨q, 1, none⟩ = some (.int .i64 tak) ∧ w'.cell? ⟨q, 0, none⟩ = some (.int .i64 per)) (by kernel_rfl) ?_)
  have hS : (wB.drew).cell? ⟨q, 1, none⟩ = some (.int .i64 tak) ∧ (wB.drew).cell? ⟨q, 0, none⟩ = some (.int .i64 per) := ⟨c1, c0⟩
  refine wpN_pure (i := 0) (v := ?v1) rfl (by kernel_rfl) (fun _ _ _ h => h) (Or.inl ⟨by rfl, ?hy1⟩) ?hr1
  case hy1 => (intro wS hSw; go_simp; (try with_reducible rfl))
  try simp only [Act.put, List.setIfInBounds_toArray, List.set_cons_zero, List.set_cons_succ, List.getElem_toArray, List.getElem_cons_zero, List.getElem_cons_succ]
  refine wpN_pure (i := 1) (v := ?v2) rfl (by kernel_rfl) (fun _ _ _ h => h) (Or.inl ⟨by rfl, ?hy2⟩) ?hr2
  case hy2 => (intro wS hSw; go_simp; (try with_reducible rfl))
  try simp only [Act.put, List.setIfInBounds_toArray, List.set_cons_zero, List.set_cons_succ, List.getElem_toArray, List.getElem_cons_zero, List.getElem_cons_succ]
  refine wpN_pure (i := 2) (v := ?v3) rfl (by kernel_rfl) (fun _ _ _ h => h) (Or.inl ⟨by rfl, ?hy3⟩) ?hr3
  case hy3 => (intro wS hSw; go_simp; (try with_reducible rfl))
  try simp only [Act.put, List.setIfInBounds_toArray, List.set_cons_zero, List.set_cons_succ, List.getElem_toArray, List.getElem_cons_zero, List.getElem_cons_succ]
  refine wpN_takeD [4, 9, 10, 11] (i := 3) (v := ?v4) rfl (by kernel_rfl) (fun _ _ _ h => h) hS (Or.inl ⟨by rfl, ?hy4⟩) ?hr4
  case hy4 => (intro wS hSw; (try dsimp only at hSw); go_simp; (try with_reducible rfl))
  try simp only [Act.put, List.setIfInBounds_toArray, List.set_cons_zero, List.set_cons_succ, List.getElem_toArray, List.getElem_cons_zero, List.getElem_cons_succ]
  refine wpN_pure (i := 4) (v := ?v5) rfl (by kernel_rfl) (fun _ _ _ h => h) (Or.inl ⟨by rfl, ?hy5⟩) ?hr5
  case hy5 => (intro wS hSw; go_simp; (try with_reducible rfl))
  try simp only [Act.put, List.setIfInBounds_toArray, List.set_cons_zero, List.set_cons_succ, List.getElem_toArray, List.getElem_cons_zero, List.getElem_cons_succ]
  refine wpN_pure (i := 5) (v := ?v6) rfl (by kernel_rfl) (fun _ _ _ h => h) (Or.inl ⟨by rfl, ?hy6⟩) ?hr6
  case hy6 => (intro wS hSw; go_simp; (try with_reducible rfl))
  try simp only [Act.put, List.setIfInBounds_toArray, List.set_cons_zero, List.set_cons_succ, List.getElem_toArray, List.getElem_cons_zero, List.getElem_cons_succ]
  refine wpN_pure (i := 6) (v := ?v7) rfl (by kernel_rfl) (fun _ _ _ h => h) (Or.inl ⟨by rfl, ?hy7⟩) ?hr7
  case hy7 => (intro wS hSw; go_simp; (try with_reducible rfl))
  try simp only [Act.put, List.setIfInBounds_toArray, List.set_cons_zero, List.set_cons_succ, List.getElem_toArray, List.getElem_cons_zero, List.getElem_cons_succ]
  refine wpN_pure (i := 7) (v := ?v8) rfl (by kernel_rfl) (fun _ _ _ h => h) (Or.inl ⟨by rfl, ?hy8⟩) ?hr8
  case hy8 => (intro wS hSw; go_simp; (try with_reducible rfl))
  try simp only [Act.put, List.setIfInBounds_toArray, List.set_cons_zero, List.set_cons_succ, List.getElem_toArray, List.getElem_cons_zero, List.getElem_cons_succ]
  refine wpN_takeD [9, 10, 11] (i := 8) (v := ?v9) rfl (by kernel_rfl) (fun _ _ _ h => h) hS (Or.inl ⟨by rfl, ?hy9⟩) ?hr9
  case hy9 => (intro wS hSw; (try dsimp only at hSw); go_simp; (try with_reducible rfl))
  try simp only [Act.put, List.setIfInBounds_toArray, List.set_cons_zero, List.set_cons_succ, List.getElem_toArray, List.getElem_cons_zero, List.getElem_cons_succ]
  refine wpN_pure (i := 9) (v := ?v10) rfl (by kernel_rfl) (fun _ _ _ h => h) (Or.inl ⟨by rfl, ?hy10⟩) ?hr10
  case hy10 => (intro wS hSw; go_simp; (try with_reducible rfl))
  try simp only [Act.put, List.setIfInBounds_toArray, List.set_cons_zero, List.set_cons_succ, List.getElem_toArray, List.getElem_cons_zero, List.getElem_cons_succ]
  refine wpN_pure (i := 10) (v := ?v11) rfl (by kernel_rfl) (fun _ _ _ h => h) (Or.inl ⟨by rfl, ?hy11⟩) ?hr11
  case hy11 => (intro wS hSw; go_simp; (try with_reducible rfl))
  try simp only [Act.put, List.setIfInBounds_toArray, List.set_cons_zero, List.set_cons_succ, List.getElem_toArray, List.getElem_cons_zero, List.getElem_cons_succ]
  refine wpN_pure (i := 11) (v := ?v12) rfl (by kernel_rfl) (fun _ _ _ h => h) (Or.inl ⟨by rfl, ?hy12⟩) ?hr12
  case hy12 => (intro wS hSw; go_simp; (try with_reducible rfl))
  try simp only [Act.put, List.setIfInBounds_toArray, List.set_cons_zero, List.set_cons_succ, List.getElem_toArray, List.getElem_cons_zero, List.getElem_cons_succ]
  refine wpN_done (by kernel_rfl) ?_
  refine NoPanic.normal ?_
  have hB1 : Below w.heap.size w wB.drew := B0.drew
  have h1 := Lib.hid (Hh.out.off (Off.of_below (fun _ => False) hB1) fun _ _ h => h)
  have x1 := x0.drew
  obtain ⟨w1, hw1⟩ : ∃ w1, wB.drew = w1 := ⟨_, rfl⟩
  rw [hw1] at h1 x1 hB1 ⊢
  clear hw1 hqB x0 hS c0 c1 B0
  by_cases hc : (tak + 1).tmod per = 0
  · have hcb : ((tak + 1).tmod per == 0) = true := by simpa using hc
    have Hlt : Hid (QS.lt ⟨per, tak, put, L⟩ = Hp.elder) := by show _ = _; unfold QS.lt; rw [if_pos hc]
    clear hc
    go_wp2_with fail
    refine (top_q fst_elder Hp.elder_ord (o := 5) h1.out.blk rfl rfl rfl (by decide) h1.out.ro h1.out.ho h1.out.oq h1.out.om h1.out.mq h1.out.mp h1.out.inv.wko (by have a := h1.out.inv.leno; have b := h1.out.inv.many; dsimp only at a b; omega)).mono ?_
    intro e w2 ht
    obtain ⟨⟨v2, l2, h2, hv2⟩, B2, hres⟩ := h1.out.topOld ht
    have H2 := Lib.hid h2
    have hlt : ∀ k, QB q m lv ov k → k < w.heap.size := fun k hk => (Hh.out.qb hk).1
    have x2 := B2.blk x1 (by rintro (e | e); exact absurd (hlt _ (.inl rfl)) (by omega); exact absurd (hlt _ (.inr (.inr (.inr e)))) (by omega))
    have hBo : Off F w w2 := (Off.of_below F hB1).trans (B2.mono fun k _ hk => by rcases hk with rfl | hk; exact Hh.out.fq; exact Hh.out.fo k hk)
    have Hlt2 := Lib.hid hlt; have Hv2 := Lib.hid hv2; clear hlt hv2
    have hsz := B2.size
    have hsz1 := x1.lt
    have f1 := x2.free 0; have f2 := x2.free 1; have f3 := x2.free 2
    have d0 := x2.cell (i := 0) rfl; have d1 := x2.cell (i := 1) rfl; have d2 := x2.cell (i := 2) rfl
    clear ht h2
    have fin : ∀ (e : Ent) (w3 : World), w3 = ((w2.setCell ⟨w.heap.size, 0, none⟩ (.int .i64 e.key)).setCell ⟨w.heap.size, 1, none⟩ (.int .i64 e.weight)).setCell ⟨w.heap.size, 2, none⟩ (.int .i64 e.age) →
        Blk w3 w.heap.size #[.int .i64 e.key, .int .i64 e.weight, .int .i64 e.age] 30 ∧ QueueAt F w3 q ⟨per, tak, put, L⟩ ∧ Off F w w3 := by
      rintro e w3 rfl
      refine ⟨((x2.set 0 (.int .i64 e.key)).set 1 (.int .i64 e.weight)).set 2 (.int .i64 e.age), ?_, ((hBo.set ⟨w.heap.size, 0, none⟩ (.int .i64 e.key) (.inr (Nat.le_refl _))).set ⟨w.heap.size, 1, none⟩ (.int .i64 e.weight) (.inr (Nat.le_refl _))).set ⟨w.heap.size, 2, none⟩ (.int .i64 e.age) (.inr (Nat.le_refl _))⟩
      refine ⟨_, _, _, _, _, _, H2.out.off (G := fun k => k = w.heap.size) ((((Off.refl (fun k => k = w.heap.size) w2).set ⟨w.heap.size, 0, none⟩ (.int .i64 e.key) (.inl rfl)).set ⟨w.heap.size, 1, none⟩ (.int .i64 e.weight) (.inl rfl)).set ⟨w.heap.size, 2, none⟩ (.int .i64 e.age) (.inl rfl)) fun k hk e => by have := Hlt2.out k (by unfold QB at hk ⊢; rw [← Hv2.out]; exact hk); omega⟩
    have Fin := Lib.hid fin; clear fin
    rcases hres with ⟨hL, rfl⟩ | ⟨x, hx, hmin, rfl⟩
    · have HL := Lib.hid hL; clear hL
      unfold Ent.v Hp.z0
      dsimp only
      go_wp2_with fail
      obtain ⟨z1, z2, z3⟩ := Fin.out ⟨0, 0, 0⟩ _ rfl
      (try simp only [Exit.inBlock, Exit.then]); refine bodyPost_ret (results_ent rfl _ _ rfl (e := ⟨0, 0, 0⟩) z1) rfl ?_
      exact ⟨.inl ⟨HL.out, rfl⟩, z2, z3⟩
    · have HX := Lib.hid hx; have HM := Lib.hid hmin; clear hx hmin
      obtain ⟨xk, xw, xg⟩ := x
      unfold Ent.v
      dsimp only
      go_wp2_with fail
      obtain ⟨z1, z2, z3⟩ := Fin.out ⟨xk, xw, xg⟩ _ rfl
      (try simp only [Exit.inBlock, Exit.then]); refine bodyPost_ret (results_ent rfl _ _ rfl (e := ⟨xk, xw, xg⟩) z1) rfl ?_
      exact ⟨.inr ⟨⟨xk, xw, xg⟩, HX.out, fun y hy => by rw [Hlt.out]; exact HM.out y hy, rfl⟩, z2, z3⟩
  · have hcb : ((tak + 1).tmod per == 0) = false := by simpa using hc
    have Hlt : Hid (QS.lt ⟨per, tak, put, L⟩ = Hp.lighter) := by show _ = _; unfold QS.lt; rw [if_neg hc]
    clear hc
    go_wp2_with fail
    refine (top_q fst_lighter Hp.lighter_ord (o := 3) h1.out.blk rfl rfl rfl (by decide) h1.out.rl h1.out.hl h1.out.lq h1.out.lm h1.out.mq h1.out.mp h1.out.inv.wkl (by have a := h1.out.inv.lenl; have b := h1.out.inv.many; dsimp only at a b; omega)).mono ?_
    intro e w2 ht
    obtain ⟨⟨v2, l2, h2, hv2⟩, B2, hres⟩ := h1.out.topLight ht
    have H2 := Lib.hid h2
    have hlt : ∀ k, QB q m lv ov k → k < w.heap.size := fun k hk => (Hh.out.qb hk).1
    have x2 := B2.blk x1 (by rintro (e | e); exact absurd (hlt _ (.inl rfl)) (by omega); exact absurd (hlt _ (.inr (.inr (.inl e)))) (by omega))
    have hBo : Off F w w2 := (Off.of_below F hB1).trans (B2.mono fun k _ hk => by rcases hk with rfl | hk; exact Hh.out.fq; exact Hh.out.fl k hk)
    have Hlt2 := Lib.hid hlt; have Hv2 := Lib.hid hv2; clear hlt hv2
    have hsz := B2.size
    have hsz1 := x1.lt
    have f1 := x2.free 0; have f2 := x2.free 1; have f3 := x2.free 2
    have d0 := x2.cell (i := 0) rfl; have d1 := x2.cell (i := 1) rfl; have d2 := x2.cell (i := 2) rfl
    clear ht h2
    have fin : ∀ (e : Ent) (w3 : World), w3 = ((w2.setCell ⟨w.heap.size, 0, none⟩ (.int .i64 e.key)).setCell ⟨w.heap.size, 1, none⟩ (.int .i64 e.weight)).setCell ⟨w.heap.size, 2, none⟩ (.int .i64 e.age) →
        Blk w3 w.heap.size #[.int .i64 e.key, .int .i64 e.weight, .int .i64 e.age] 30 ∧ QueueAt F w3 q ⟨per, tak, put, L⟩ ∧ Off F w w3 := by
      rintro e w3 rfl
      refine ⟨((x2.set 0 (.int .i64 e.key)).set 1 (.int .i64 e.weight)).set 2 (.int .i64 e.age), ?_, ((hBo.set ⟨w.heap.size, 0, none⟩ (.int .i64 e.key) (.inr (Nat.le_refl _))).set ⟨w.heap.size, 1, none⟩ (.int .i64 e.weight) (.inr (Nat.le_refl _))).set ⟨w.heap.size, 2, none⟩ (.int .i64 e.age) (.inr (Nat.le_refl _))⟩
      refine ⟨_, _, _, _, _, _, H2.out.off (G := fun k => k = w.heap.size) ((((Off.refl (fun k => k = w.heap.size) w2).set ⟨w.heap.size, 0, none⟩ (.int .i64 e.key) (.inl rfl)).set ⟨w.heap.size, 1, none⟩ (.int .i64 e.weight) (.inl rfl)).set ⟨w.heap.size, 2, none⟩ (.int .i64 e.age) (.inl rfl)) fun k hk e => by have := Hlt2.out k (by unfold QB at hk ⊢; rw [← Hv2.out]; exact hk); omega⟩
    have Fin := Lib.hid fin; clear fin
    rcases hres with ⟨hL, rfl⟩ | ⟨x, hx, hmin, rfl⟩
    · have HL := Lib.hid hL; clear hL
      unfold Ent.v Hp.z0
      dsimp only
      go_wp2_with fail
      obtain ⟨z1, z2, z3⟩ := Fin.out ⟨0, 0, 0⟩ _ rfl
      (try simp only [Exit.inBlock, Exit.then]); refine bodyPost_ret (results_ent rfl _ _ rfl (e := ⟨0, 0, 0⟩) z1) rfl ?_
      exact ⟨.inl ⟨HL.out, rfl⟩, z2, z3⟩
    · have HX := Lib.hid hx; have HM := Lib.hid hmin; clear hx hmin
      obtain ⟨xk, xw, xg⟩ := x
      unfold Ent.v
      dsimp only
      go_wp2_with fail
      obtain ⟨z1, z2, z3⟩ := Fin.out ⟨xk, xw, xg⟩ _ rfl
      (try simp only [Exit.inBlock, Exit.then]); refine bodyPost_ret (results_ent rfl _ _ rfl (e := ⟨xk, xw, xg⟩) z1) rfl ?_
      exact ⟨.inr ⟨⟨xk, xw, xg⟩, HX.out, fun y hy => by rw [Hlt.out]; exact HM.out y hy, rfl⟩, z2, z3⟩
end Go.Proofs.Ytplfbdkljnblmaa

namespace Go.Proofs.Ytplfbdkljnblmaa
open Go.RowKit Go.Maps

theorem oper_delete_eq {P : Program} {w w' : World} {o : Oper} {a : Act} {K : Act → World → Prop} {Q : Exit → Act → World → Prop} (s x : Operand) (ta tb : TypeId) (v' : Value)
    (ho : o.op = .call { callee := .builtin .delete, args := #[s, x], argTypes := #[ta, tb] }) (hr : (Builtin.delete_ #[ta, tb] o.type #[a.eval s, a.eval x]).run P w = .ok v' w')
    (h : K (a.put o.dst v') w') : o.wp P a w K Q := by
  unfold Oper.wp execOp
  simp only [ho, resolve, invoke, builtin, Sem.run_bind, Sem.run_pure, Result.andThen_ok, List.map_toArray, List.map_cons, List.map_nil, hr]
  exact h

def QS.took (s : QS) (k : Int) : QS := { s with taken := s.taken + 1, L := MapOf.less s.L k }
def NextRes (s : QS) (e : Ending) (s' : QS) : Prop :=
  (s.L = [] ∧ e = .returned (.tuple #[Hp.z0.v, .bool false]) ∧ s' = s) ∨ ∃ x ∈ s.L, (∀ y ∈ s.L, s.lt y x = false) ∧ e = .returned (.tuple #[x.v, .bool true]) ∧ s' = s.took x.key

theorem QInv.took {s : QS} {light old : List Ent} (h : QInv s light old) (ht : s.taken ≤ 799999) (k : Int) : QInv (s.took k) light old :=
  have hs : ∀ e ∈ (s.took k).L, e ∈ s.L := fun e he => (List.mem_filter.1 he).1
  { per := h.per, tak := ⟨by show 0 ≤ s.taken + 1; have := h.tak.1; omega, by show s.taken + 1 ≤ 800000; omega⟩, many := h.many, keys := h.keys.sublist (List.Sublist.map _ List.filter_sublist), ages := h.ages.sublist List.filter_sublist
    inl := fun e he => h.inl e (hs e he), ino := fun e he => h.ino e (hs e he), wkl := h.wkl, wko := h.wko, last := fun e he => h.last e (hs e he), lenl := h.lenl, leno := h.leno }

set_option maxRecDepth 100000 in
set_option maxHeartbeats 4000000 in
theorem next_q {F : Nat → Prop} {w : World} {q : Nat} {s : QS} (h : QueueAt F w q s) (ht : s.taken ≤ 799999) :
    Calls Try.prog 9 #[.pointer (some ⟨q, 0, none⟩)] w fun e w' => ∃ s', NextRes s e s' ∧ QueueAt F w' q s' ∧ Off F w w' := by
  obtain ⟨wB, hwB⟩ : ∃ wB, w.alloc (.cells #[.int .i64 0, .int .i64 0, .int .i64 0] 30) = wB := ⟨_, rfl⟩
  have B0 : Below w.heap.size w wB := by rw [← hwB]; exact (Below.refl _ _).alloc (Nat.le_refl _) _
  have x0 : Blk wB w.heap.size #[.int .i64 0, .int .i64 0, .int .i64 0] 30 := by rw [← hwB]; exact Blk.new _ _ _ rfl
  have hA : QueueAt (fun k => F k ∧ k < w.heap.size) w q s := by
    obtain ⟨lv, ov, m, n, light, old, h⟩ := h
    exact ⟨lv, ov, m, n, light, old, { h with fq := h.qb (.inl rfl) |>.symm, fm := h.qb (.inr (.inl rfl)) |>.symm, fl := fun g hg => (h.qb (.inr (.inr (.inl hg)))).symm, fo := fun g hg => (h.qb (.inr (.inr (.inr hg)))).symm }⟩
  have Hht := Lib.hid ht; clear ht
  go_enter Try.func9, Try.ntmps9
  go_wp2_with fail
  try rw [hwB]
  clear hwB
  refine (peek_q (hA.below B0)).mono ?_
  rintro e w1 ⟨hres, hQ, hO⟩
  have x1 := hO.blk x0 (fun hf => by have := hf.2; omega)
  have B1 : Off F w w1 := (Off.of_below F B0).trans (hO.mono fun k _ hk => hk.1)
  clear hO x0 B0 hA h
  have hqlt : w.heap.size < w1.heap.size := x1.lt
  obtain ⟨lv, ov, m, n, light, old, hM⟩ := hQ
  obtain ⟨per, tak, put, L⟩ := s
  rcases hres with ⟨hL, rfl⟩ | ⟨x, hx, hmin, rfl⟩
  · have HL := Lib.hid hL; clear hL
    unfold Ent.v Hp.z0
    dsimp only
    have f1 := x1.free 0; have f2 := x1.free 1; have f3 := x1.free 2
    have d0 := x1.cell (i := 0) rfl; have d1 := x1.cell (i := 1) rfl; have d2 := x1.cell (i := 2) rfl
    go_wp2_with fail
    have z := (((x1.set 0 (.int .i64 0)).set 1 (.int .i64 0)).set 2 (.int .i64 0)).alloc (.cells #[.int .i64 0, .int .i64 0, .int .i64 0] 30)
    have hW : Off (fun k => k = w.heap.size) w1 ((((w1.setCell ⟨w.heap.size, 0, none⟩ (.int .i64 0)).setCell ⟨w.heap.size, 1, none⟩ (.int .i64 0)).setCell ⟨w.heap.size, 2, none⟩ (.int .i64 0)).alloc (.cells #[.int .i64 0, .int .i64 0, .int .i64 0] 30)) :=
      ((((Off.refl (fun k => k = w.heap.size) w1).set ⟨w.heap.size, 0, none⟩ (.int .i64 0) (.inl rfl)).set ⟨w.heap.size, 1, none⟩ (.int .i64 0) (.inl rfl)).set ⟨w.heap.size, 2, none⟩ (.int .i64 0) (.inl rfl)).alloc _
    have hq' := hM.off hW fun k hk e => by have := (hM.qb hk).2.2; omega
    have hB' : Off F w _ := ((((B1.set ⟨w.heap.size, 0, none⟩ (.int .i64 0) (.inr (Nat.le_refl _))).set ⟨w.heap.size, 1, none⟩ (.int .i64 0) (.inr (Nat.le_refl _))).set ⟨w.heap.size, 2, none⟩ (.int .i64 0) (.inr (Nat.le_refl _))).alloc (.cells #[.int .i64 0, .int .i64 0, .int .i64 0] 30))
    (try simp only [Exit.inBlock, Exit.then]); refine bodyPost_ret (results_ent rfl _ _ rfl (e := ⟨0, 0, 0⟩) z) rfl ?_
    exact ⟨_, .inl ⟨HL.out, rfl, rfl⟩, QueueAt.weaken ⟨_, _, _, _, _, _, hq'⟩ fun k hk => hk.1, hB'⟩
  · have HX := Lib.hid hx; have HM := Lib.hid hmin; clear hx hmin
    obtain ⟨xk, xw, xg⟩ := x
    unfold Ent.v
    dsimp only
    go_wp2_with fail
    obtain ⟨w2, hw2⟩ : ∃ w2, w1.alloc (.cells #[.int .i64 xk, .int .i64 xw, .int .i64 xg] 30) = w2 := ⟨_, rfl⟩
    have y2 : Blk w2 w1.heap.size #[.int .i64 xk, .int .i64 xw, .int .i64 xg] 30 := by rw [← hw2]; exact Blk.new _ _ _ rfl
    have hb12 : Below w1.heap.size w1 w2 := by rw [← hw2]; exact (Below.refl _ _).alloc (Nat.le_refl _) _
    have x2 := x1.below hb12
    have B2 := B1.below hb12
    have hM2 := hM.off (Off.of_below (fun _ => False) hb12) fun _ _ h => h
    rw [hw2]
    clear hw2
    have hxin : (⟨xk, xw, xg⟩ : Ent) ∈ L := HX.out
    have hxk : W64 xk := hM.inv.wkl _ (hM.inv.inl _ hxin)
    obtain ⟨Y, hY⟩ : ∃ Y, w1.heap.size = Y := ⟨_, rfl⟩
    rw [hY] at y2 hqlt ⊢
    have hYnew : ∀ k, QB q m lv ov k → k ≠ Y ∧ k ≠ w.heap.size := fun k hk => by have h1 := hM.qb hk; refine ⟨by omega, by have := h1.2.2; omega⟩
    have HYnew := Lib.hid hYnew
    clear hY hb12 x1 B1 hM hYnew hxin
    have c7 : w2.cell? ⟨q, 7, none⟩ = some (.map (some m)) := hM2.blk.cell rfl
    have cy := y2.cell (i := 0) rfl
    refine wp_region_noPanic (wp_region_need (S := fun w' => w'.cell? ⟨q, 7, none⟩ = some (.map (some m)) ∧ w'.cell? ⟨Y, 0, none⟩ = some (.int .i64 xk)) (by kernel_rfl) ?_)
    have hS : (w2.drew).cell? ⟨q, 7, none⟩ = some (.map (some m)) ∧ (w2.drew).cell? ⟨Y, 0, none⟩ = some (.int .i64 xk) := ⟨c7, cy⟩
    refine wpN_take (i := 0) (v := ?v1) rfl (by kernel_rfl) (fun _ _ _ h => h) hS (Or.inl ⟨by rfl, ?hy1⟩) ?hr1
    case hy1 => (intro wS hSw; (try dsimp only at hSw); go_simp; (try with_reducible rfl))
    try simp only [Act.put, List.setIfInBounds_toArray, List.set_cons_zero, List.set_cons_succ, List.getElem_toArray, List.getElem_cons_zero, List.getElem_cons_succ]
    refine wpN_take (i := 1) (v := ?v2) rfl (by kernel_rfl) (fun _ _ _ h => h) hS (Or.inl ⟨by rfl, ?hy2⟩) ?hr2
    case hy2 => (intro wS hSw; (try dsimp only at hSw); go_simp; (try with_reducible rfl))
    try simp only [Act.put, List.setIfInBounds_toArray, List.set_cons_zero, List.set_cons_succ, List.getElem_toArray, List.getElem_cons_zero, List.getElem_cons_succ]
    refine wpN_take (i := 2) (v := ?v3) rfl (by kernel_rfl) (fun _ _ _ h => h) hS (Or.inl ⟨by rfl, ?hy3⟩) ?hr3
    case hy3 => (intro wS hSw; (try dsimp only at hSw); go_simp; (try with_reducible rfl))
    try simp only [Act.put, List.setIfInBounds_toArray, List.set_cons_zero, List.set_cons_succ, List.getElem_toArray, List.getElem_cons_zero, List.getElem_cons_succ]
    refine wpN_take (i := 3) (v := ?v4) rfl (by kernel_rfl) (fun _ _ _ h => h) hS (Or.inl ⟨by rfl, ?hy4⟩) ?hr4
    case hy4 => (intro wS hSw; (try dsimp only at hSw); go_simp; (try with_reducible rfl))
    try simp only [Act.put, List.setIfInBounds_toArray, List.set_cons_zero, List.set_cons_succ, List.getElem_toArray, List.getElem_cons_zero, List.getElem_cons_succ]
    refine wpN_take (i := 4) (v := ?v5) rfl (by kernel_rfl) (fun _ _ _ h => h) hS (Or.inl ⟨by rfl, ?hy5⟩) ?hr5
    case hy5 => (intro wS hSw; (try dsimp only at hSw); go_simp; (try with_reducible rfl))
    try simp only [Act.put, List.setIfInBounds_toArray, List.set_cons_zero, List.set_cons_succ, List.getElem_toArray, List.getElem_cons_zero, List.getElem_cons_succ]
    refine wpN_take (i := 5) (v := ?v6) rfl (by kernel_rfl) (fun _ _ _ h => h) hS (Or.inl ⟨by rfl, ?hy6⟩) ?hr6
    case hy6 => (intro wS hSw; (try dsimp only at hSw); go_simp; (try with_reducible rfl))
    try simp only [Act.put, List.setIfInBounds_toArray, List.set_cons_zero, List.set_cons_succ, List.getElem_toArray, List.getElem_cons_zero, List.getElem_cons_succ]
    have y3 := y2.drew
    have x3 := x2.drew
    have B3 := B2.drew
    have hM3 := hM2.off ((Off.refl (fun _ => False) w2).drew) fun _ _ h => h
    obtain ⟨w3, hw3⟩ : ∃ w3, w2.drew = w3 := ⟨_, rfl⟩
    rw [hw3] at y3 x3 B3 hM3 ⊢
    clear hw3 y2 x2 B2 hM2 hS c7 cy
    refine wpN_step (i := 6) (by kernel_rfl) rfl (fun K hK => ?_)
    obtain ⟨w4, hrun, hmap, hg⟩ := hM3.mp.drop hM3.inv.keys hxk 1
    rw [if_pos (by rfl)]
    refine oper_delete_eq (.tmp 15) (.tmp 17) _ _ _ rfl hrun ?_
    try simp only [Act.put, List.setIfInBounds_toArray, List.set_cons_zero, List.set_cons_succ, List.getElem_toArray, List.getElem_cons_zero, List.getElem_cons_succ]
    have hO4 : Off (fun k => k = m) w3 w4 := (Off.refl _ _).grown hg fun k e => by cases e; rfl
    have hmn := HYnew.out m (.inr (.inl rfl))
    have y4 := hO4.blk y3 (Ne.symm hmn.1)
    have x4 := hO4.blk x3 (Ne.symm hmn.2)
    have q4 := hO4.blk hM3.blk (Ne.symm hM3.mq)
    have B4 : Off F w w4 := B3.grown hg fun k e => by cases e; exact hM3.fm.1
    have rl4 := hM3.rl.off hO4 (fun g hg e => hM3.lm (by rw [hg, e]))
    have ro4 := hM3.ro.off hO4 (fun g hg e => hM3.om (by rw [hg, e]))
    clear hrun hg
    have hS : (w4).cell? ⟨q, 7, none⟩ = some (.map (some m)) ∧ (w4).cell? ⟨Y, 0, none⟩ = some (.int .i64 xk) := ⟨q4.cell rfl, y4.cell rfl⟩
    refine hK.out _ _ (fun _ => hS) ?_
    clear hK K
    try simp only [Act.put, List.setIfInBounds_toArray, List.set_cons_zero, List.set_cons_succ, List.getElem_toArray, List.getElem_cons_zero, List.getElem_cons_succ]
    refine wpN_done (by kernel_rfl) ?_
    refine NoPanic.normal ?_
    have c1 : w4.cell? ⟨q, 1, none⟩ = some (.int .i64 tak) := q4.cell rfl
    have g1 := q4.free 1
    have t1 : (tak : Int) ≤ 799999 := Hht.out
    have t2 : (0 : Int) ≤ tak := hM3.inv.tak.1
    have t3 : IntKind.i64.wrap (tak + 1) = tak + 1 := IntWalk.i64_in _ (by omega)
    have hqn := HYnew.out q (.inl rfl)
    have n1 : ¬ q = Y := hqn.1
    have n2 : ¬ Y = q := Ne.symm hqn.1
    have n3 : ¬ q = w.heap.size := hqn.2
    have n4 : ¬ w.heap.size = q := Ne.symm hqn.2
    have n5 : ¬ Y = w.heap.size := by omega
    have n6 : ¬ w.heap.size = Y := by omega
    have e0 := y4.cell (i := 0) rfl; have e1 := y4.cell (i := 1) rfl; have e2 := y4.cell (i := 2) rfl
    have d0 := x4.cell (i := 0) rfl; have d1 := x4.cell (i := 1) rfl; have d2 := x4.cell (i := 2) rfl
    have f1 := x4.free 0; have f2 := x4.free 1; have f3 := x4.free 2
    go_wp2_with fail
    have hM5 : QMem (fun k => F k ∧ k < w.heap.size) (w4.setCell ⟨q, 1, none⟩ (.int .i64 (tak + 1))) q (QS.took ⟨per, tak, put, L⟩ xk) lv ov m n light old :=
      { hM3 with
        inv := hM3.inv.took t1 xk
        blk := q4.set 1 (.int .i64 (tak + 1))
        rl := rl4.far ⟨q, 1, none⟩ _ hM3.lq
        ro := ro4.far ⟨q, 1, none⟩ _ hM3.oq
        mp := hmap.far ⟨q, 1, none⟩ _ hM3.mq }
    have x5 := x4.far ⟨q, 1, none⟩ (.int .i64 (tak + 1)) n4
    have B5 := B4.set ⟨q, 1, none⟩ (.int .i64 (tak + 1)) (.inl hM3.fq.1)
    have hW : Off (fun k => k = w.heap.size) (w4.setCell ⟨q, 1, none⟩ (.int .i64 (tak + 1))) ((((w4.setCell ⟨q, 1, none⟩ (.int .i64 (tak + 1))).setCell ⟨w.heap.size, 0, none⟩ (.int .i64 xk)).setCell ⟨w.heap.size, 1, none⟩ (.int .i64 xw)).setCell ⟨w.heap.size, 2, none⟩ (.int .i64 xg)) :=
      (((Off.refl (fun k => k = w.heap.size) _).set ⟨w.heap.size, 0, none⟩ _ (.inl rfl)).set ⟨w.heap.size, 1, none⟩ _ (.inl rfl)).set ⟨w.heap.size, 2, none⟩ _ (.inl rfl)
    have hM6 := hM5.off hW fun k hk e => (HYnew.out k hk).2 e
    have z := ((x5.set 0 (.int .i64 xk)).set 1 (.int .i64 xw)).set 2 (.int .i64 xg)
    have B6 : Off F w _ := ((B5.set ⟨w.heap.size, 0, none⟩ (.int .i64 xk) (.inr (Nat.le_refl _))).set ⟨w.heap.size, 1, none⟩ (.int .i64 xw) (.inr (Nat.le_refl _))).set ⟨w.heap.size, 2, none⟩ (.int .i64 xg) (.inr (Nat.le_refl _))
    (try simp only [Exit.inBlock, Exit.then]); refine bodyPost_ret (results_ent rfl _ _ rfl (e := ⟨xk, xw, xg⟩) z) rfl ?_
    exact ⟨_, .inr ⟨⟨xk, xw, xg⟩, HX.out, HM.out, rfl, rfl⟩, QueueAt.weaken ⟨_, _, _, _, _, _, hM6⟩ fun k hk => hk.1, B6⟩
end Go.Proofs.Ytplfbdkljnblmaa

namespace Go.Proofs.Ytplfbdkljnblmaa
open Go.RowKit Go.Maps

theorem oper_mapUpdate_eq {P : Program} {w w' : World} {o : Oper} {a : Act} {K : Act → World → Prop} {Q : Exit → Act → World → Prop} (s x v : Operand) (ta : TypeId)
    (ho : o.op = .mapUpdate ta s x v) (hr : (Instr.mapUpdate ta (a.eval s) (a.eval x) (a.eval v)).run P w = .ok () w')
    (h : K (a.put o.dst undef) w') : o.wp P a w K Q := by
  unfold Oper.wp
  simp [execOp, ho, hr, Result.andThen]
  exact h

def QS.more (s : QS) (e : Ent) : QS := { s with put := s.put + 1, L := s.L ++ [e] }
def PutRes (s : QS) (key weight : Int) (e : Ending) (s' : QS) : Prop :=
  ((findK s.L key).isSome = true ∧ e = .returned (.int .i64 4) ∧ s' = s) ∨ (findK s.L key = none ∧ s.L.length = 10000 ∧ e = .returned (.int .i64 2) ∧ s' = s) ∨
  (findK s.L key = none ∧ s.L.length ≠ 10000 ∧ e = .returned (.int .i64 0) ∧ s' = s.more ⟨key, weight, s.put⟩)

theorem QInv.more {s : QS} {light old light' old' : List Ent} (h : QInv s light old) (hp : s.put ≤ 799999) {e : Ent} (he : e.age = s.put) (hw : W64 e.key) (hn : findK s.L e.key = none) (hl : light'.Perm (e :: light)) (ho : old'.Perm (e :: old)) : QInv (s.more e) light' old' :=
  { per := h.per, tak := h.tak, many := by show s.put + 1 ≤ 800000; omega
    keys := by
      show ((s.L ++ [e]).map Ent.key).Nodup
      rw [List.map_append, List.nodup_append]
      refine ⟨h.keys, by simp, ?_⟩
      intro a ha b hb
      obtain ⟨x, hx, rfl⟩ := List.mem_map.1 ha
      simp at hb; subst hb
      exact findK_none hn x hx
    ages := by
      show (s.L ++ [e]).Pairwise _
      rw [List.pairwise_append]
      refine ⟨h.ages, by simp, ?_⟩
      intro a ha b hb
      simp at hb; subst hb
      rw [he]; exact h.last a ha
    inl := fun x hx => hl.mem_iff.2 (by
      rcases List.mem_append.1 hx with hx | hx
      · exact List.mem_cons_of_mem _ (h.inl x hx)
      · simp at hx; subst hx; simp)
    ino := fun x hx => ho.mem_iff.2 (by
      rcases List.mem_append.1 hx with hx | hx
      · exact List.mem_cons_of_mem _ (h.ino x hx)
      · simp at hx; subst hx; simp)
    wkl := fun x hx => by
      rcases List.mem_cons.1 (hl.mem_iff.1 hx) with rfl | hx
      · exact hw
      · exact h.wkl x hx
    wko := fun x hx => by
      rcases List.mem_cons.1 (ho.mem_iff.1 hx) with rfl | hx
      · exact hw
      · exact h.wko x hx
    last := fun x hx => by
      show x.age < ((s.put + 1 : Nat) : Int)
      rcases List.mem_append.1 hx with hx | hx
      · have := h.last x hx; omega
      · simp at hx; subst hx; omega
    lenl := by have := hl.length_eq; have h2 := h.lenl; show light'.length ≤ s.put + 1; simp at this; omega
    leno := by have := ho.length_eq; have h2 := h.leno; show old'.length ≤ s.put + 1; simp at this; omega }

set_option maxRecDepth 100000 in
set_option maxHeartbeats 4000000 in
theorem put_q {F : Nat → Prop} {w : World} {q : Nat} {s : QS} (h : QueueAt F w q s) (hp : s.put ≤ 799999) (hF : ∀ k, w.heap.size ≤ k → F k) (key weight : Int) (hk : W64 key) :
    Calls Try.prog 8 #[.pointer (some ⟨q, 0, none⟩), .int .i64 key, .int .i64 weight] w fun e w' => ∃ s', PutRes s key weight e s' ∧ QueueAt F w' q s' ∧ Off F w w' := by
  obtain ⟨lv, ov, m, n, light, old, hM⟩ := h
  obtain ⟨per, tak, put, L⟩ := s
  have hlk := hM.mp.look hk
  dsimp only at hp hlk
  have HM := Lib.hid hM; have Hk := Lib.hid hk
  obtain ⟨y, hy⟩ : ∃ y, (findK L key).getD Hp.z0 = y := ⟨_, rfl⟩
  obtain ⟨ok, hok⟩ : ∃ ok, (findK L key).isSome = ok := ⟨_, rfl⟩
  rw [hy, hok] at hlk
  have Hok := Lib.hid hok
  clear hy hok
  obtain ⟨yk, yw, yg⟩ := y
  unfold Ent.v at hlk
  dsimp only at hlk
  have c7 : w.cell? ⟨q, 7, none⟩ = some (.map (some m)) := hM.blk.cell rfl
  have hql := hM.blk.lt
  have hln : ∀ o : Obj, (Builtin.len_ #[60] 3 #[.map (some m)]).run Try.prog (w.alloc o) = .ok (.int .i64 L.length) (w.alloc o) := fun o => (hM.mp.below ((Below.refl _ _).alloc (Nat.le_refl _) o)).len _
  have c2 : w.cell? ⟨q, 2, none⟩ = some (.int .i64 put) := hM.blk.cell rfl
  have g2 := hM.blk.free 2
  clear hM hk
  cases ok
  rotate_left
  · skip
    go_enter Try.func8, Try.ntmps8
    go_wp2_with fail
    go_ret
    have hb : Below w.heap.size w (w.alloc (.cells #[.int .i64 yk, .int .i64 yw, .int .i64 yg] 30)) := (Below.refl _ _).alloc (Nat.le_refl _) _
    exact ⟨_, .inl ⟨Hok.out, rfl, rfl⟩, QueueAt.below ⟨_, _, _, _, _, _, HM.out⟩ hb, Off.of_below _ hb⟩
  have Hno : Hid (findK L key = none) := by
    have h := Hok.out
    show _ = _
    cases hf : findK L key with
    | none => rfl
    | some e => rw [hf] at h; cases h
  clear Hok
  by_cases hlen : L.length = 10000
  · have hl1 : (((L.length : Nat) : Int) == 10000) = true := by rw [hlen]; rfl
    have hl2 : ((L.length : Nat) : Int) = 10000 := by rw [hlen]; rfl
    have Hlen := Lib.hid hlen; clear hlen
    rw [hl2] at hln
    clear hl1 hl2
    go_enter Try.func8, Try.ntmps8
    go_wp2_with fail
    go_ret
    have hb : Below w.heap.size w (w.alloc (.cells #[.int .i64 yk, .int .i64 yw, .int .i64 yg] 30)) := (Below.refl _ _).alloc (Nat.le_refl _) _
    exact ⟨_, .inr (.inl ⟨Hno.out, Hlen.out, rfl, rfl⟩), QueueAt.below ⟨_, _, _, _, _, _, HM.out⟩ hb, Off.of_below _ hb⟩
  · have hl2 : ¬ ((L.length : Nat) : Int) = 10000 := by omega
    have Hlen := Lib.hid hlen; clear hlen
    obtain ⟨ll, hll⟩ : ∃ ll : Int, ((L.length : Nat) : Int) = ll := ⟨_, rfl⟩
    rw [hll] at hln hl2
    clear hll
    have hpI : (put : Int) ≤ 799999 := by omega
    have hp0 : (0 : Int) ≤ put := by omega
    go_enter Try.func8, Try.ntmps8
    go_wp2_with fail
    have b1 : Below w.heap.size (w.setCell ⟨q, 2, none⟩ (.int .i64 ((put : Int) + 1))) (((w.setCell ⟨q, 2, none⟩ (.int .i64 ((put : Int) + 1))).alloc (.cells #[.int .i64 yk, .int .i64 yw, .int .i64 yg] 30)).alloc (.cells #[.int .i64 key, .int .i64 weight, .int .i64 put] 30)) := by
      have h0 : w.heap.size ≤ (w.setCell ⟨q, 2, none⟩ (.int .i64 ((put : Int) + 1))).heap.size := by simp
      exact ((Below.refl _ _).alloc h0 _).alloc (by simp) _
    have hM := HM.out
    have hqs := hM.blk.set 2 (.int .i64 ((put : Int) + 1))
    have q2 : Blk _ q #[.int .i64 per, .int .i64 tak, .int .i64 ((put : Int) + 1), lv, .func (.func 22) #[] #[], ov, .func (.func 23) #[] #[], .map (some m)] 62 := hqs.same (b1.block q hql)
    have hS1 : Off (fun k => k = q) w (w.setCell ⟨q, 2, none⟩ (.int .i64 ((put : Int) + 1))) := (Off.refl _ _).set ⟨q, 2, none⟩ _ (.inl rfl)
    have hS2 : Off (fun k => k = q) w (((w.setCell ⟨q, 2, none⟩ (.int .i64 ((put : Int) + 1))).alloc (.cells #[.int .i64 yk, .int .i64 yw, .int .i64 yg] 30)).alloc (.cells #[.int .i64 key, .int .i64 weight, .int .i64 put] 30)) := (hS1.alloc _).alloc _
    have x2 : Blk (((w.setCell ⟨q, 2, none⟩ (.int .i64 ((put : Int) + 1))).alloc (.cells #[.int .i64 yk, .int .i64 yw, .int .i64 yg] 30)).alloc (.cells #[.int .i64 key, .int .i64 weight, .int .i64 put] 30)) (w.heap.size + 1) #[.int .i64 key, .int .i64 weight, .int .i64 put] 30 := Blk.new _ _ _ (by simp)
    have rl2 := hM.rl.off hS2 (fun g hg e => hM.lq (by rw [hg, e]))
    have ro2 := hM.ro.off hS2 (fun g hg e => hM.oq (by rw [hg, e]))
    have mp2 := hM.mp.off hS2 hM.mq
    have B2 := hS2.mono (G := F) (fun k _ e => e ▸ hM.fq)
    obtain ⟨w2, hw2⟩ : ∃ w2, ((w.setCell ⟨q, 2, none⟩ (.int .i64 ((put : Int) + 1))).alloc (.cells #[.int .i64 yk, .int .i64 yw, .int .i64 yg] 30)).alloc (.cells #[.int .i64 key, .int .i64 weight, .int .i64 put] 30) = w2 := ⟨_, rfl⟩
    rw [hw2] at q2 x2 rl2 ro2 mp2 B2 ⊢
    have hml := hM.mp.lt
    have hll := hM.rl.base_le
    have hlo := hM.ro.base_le
    have hmX : m ≠ w.heap.size + 1 := by omega
    have hqX : q ≠ w.heap.size + 1 := by omega
    have hlX : lv.ownBlock ≠ some (w.heap.size + 1) := fun e => by have := (hll _ e).2; omega
    have hoX : ov.ownBlock ≠ some (w.heap.size + 1) := fun e => by have := (hlo _ e).2; omega
    clear hw2 hS1 hS2 hqs b1 hlk hln c7 c2 g2
    refine wp_region_noPanic (wp_region_need (S := fun w' => w'.cell? ⟨q, 7, none⟩ = some (.map (some m)) ∧ w'.cell? ⟨w.heap.size + 1, 0, none⟩ = some (.int .i64 key) ∧ w'.cell? ⟨w.heap.size + 1, 1, none⟩ = some (.int .i64 weight) ∧ w'.cell? ⟨w.heap.size + 1, 2, none⟩ = some (.int .i64 put)) (by kernel_rfl) ?_)
    have hS : (w2.drew).cell? ⟨q, 7, none⟩ = some (.map (some m)) ∧ (w2.drew).cell? ⟨w.heap.size + 1, 0, none⟩ = some (.int .i64 key) ∧ (w2.drew).cell? ⟨w.heap.size + 1, 1, none⟩ = some (.int .i64 weight) ∧ (w2.drew).cell? ⟨w.heap.size + 1, 2, none⟩ = some (.int .i64 put) := ⟨q2.drew.cell rfl, x2.drew.cell rfl, x2.drew.cell rfl, x2.drew.cell rfl⟩
    refine wpN_take (i := 0) (v := ?v1) rfl (by kernel_rfl) (fun _ _ _ h => h) hS (Or.inl ⟨by rfl, ?hy1⟩) ?hr1
    case hy1 => (intro wS hSw; (try dsimp only at hSw); go_simp; (try with_reducible rfl))
    try simp only [Act.put, List.setIfInBounds_toArray, List.set_cons_zero, List.set_cons_succ, List.getElem_toArray, List.getElem_cons_zero, List.getElem_cons_succ]
    refine wpN_take (i := 1) (v := ?v2) rfl (by kernel_rfl) (fun _ _ _ h => h) hS (Or.inl ⟨by rfl, ?hy2⟩) ?hr2
    case hy2 => (intro wS hSw; (try dsimp only at hSw); go_simp; (try with_reducible rfl))
    try simp only [Act.put, List.setIfInBounds_toArray, List.set_cons_zero, List.set_cons_succ, List.getElem_toArray, List.getElem_cons_zero, List.getElem_cons_succ]
    refine wpN_take (i := 2) (v := ?v3) rfl (by kernel_rfl) (fun _ _ _ h => h) hS (Or.inl ⟨by rfl, ?hy3⟩) ?hr3
    case hy3 => (intro wS hSw; (try dsimp only at hSw); go_simp; (try with_reducible rfl))
    try simp only [Act.put, List.setIfInBounds_toArray, List.set_cons_zero, List.set_cons_succ, List.getElem_toArray, List.getElem_cons_zero, List.getElem_cons_succ]
    refine wpN_take (i := 3) (v := ?v4) rfl (by kernel_rfl) (fun _ _ _ h => h) hS (Or.inl ⟨by rfl, ?hy4⟩) ?hr4
    case hy4 => (intro wS hSw; (try dsimp only at hSw); go_simp; (try with_reducible rfl))
    try simp only [Act.put, List.setIfInBounds_toArray, List.set_cons_zero, List.set_cons_succ, List.getElem_toArray, List.getElem_cons_zero, List.getElem_cons_succ]
    refine wpN_take (i := 4) (v := ?v5) rfl (by kernel_rfl) (fun _ _ _ h => h) hS (Or.inl ⟨by rfl, ?hy5⟩) ?hr5
    case hy5 => (intro wS hSw; (try dsimp only at hSw); go_simp; (try with_reducible rfl))
    try simp only [Act.put, List.setIfInBounds_toArray, List.set_cons_zero, List.set_cons_succ, List.getElem_toArray, List.getElem_cons_zero, List.getElem_cons_succ]
    refine wpN_take (i := 5) (v := ?v6) rfl (by kernel_rfl) (fun _ _ _ h => h) hS (Or.inl ⟨by rfl, ?hy6⟩) ?hr6
    case hy6 => (intro wS hSw; (try dsimp only at hSw); go_simp; (try with_reducible rfl))
    try simp only [Act.put, List.setIfInBounds_toArray, List.set_cons_zero, List.set_cons_succ, List.getElem_toArray, List.getElem_cons_zero, List.getElem_cons_succ]
    have hd : Below w2.heap.size w2 w2.drew := (Below.refl _ _).drew
    have q3 := q2.below hd
    have x3 := x2.below hd
    have rl3 := rl2.below hd
    have ro3 := ro2.below hd
    have mp3 := mp2.below hd
    have B3 := B2.below hd
    obtain ⟨w3, hw3⟩ : ∃ w3, w2.drew = w3 := ⟨_, rfl⟩
    rw [hw3] at q3 x3 rl3 ro3 mp3 B3 ⊢
    clear hw3 hd q2 x2 rl2 ro2 mp2 B2 hS
    refine wpN_step (i := 6) (by kernel_rfl) rfl (fun K hK => ?_)
    obtain ⟨w4, hrun, mp4, hg⟩ := mp3.store (by have := hM.hn; dsimp only at this; simp only [maxLen]; omega) ⟨key, weight, put⟩ Hk.out Hno.out
    rw [if_pos (by rfl)]
    refine oper_mapUpdate_eq (.tmp 45) (.tmp 46) (.tmp 47) _ rfl hrun ?_
    try simp only [Act.put, List.setIfInBounds_toArray, List.set_cons_zero, List.set_cons_succ, List.getElem_toArray, List.getElem_cons_zero, List.getElem_cons_succ]
    have hO4 : Off (fun k => k = m) w3 w4 := (Off.refl _ _).grown hg fun k e => by cases e; rfl
    have x4 := hO4.blk x3 (Ne.symm hmX)
    have q4 := hO4.blk q3 (Ne.symm hM.mq)
    have B4 : Off F w w4 := B3.grown hg fun k e => by cases e; exact hM.fm
    have rl4 := rl3.off hO4 (fun g hg e => hM.lm (by rw [hg, e]))
    have ro4 := ro3.off hO4 (fun g hg e => hM.om (by rw [hg, e]))
    clear hrun hg hO4 x3 q3 rl3 ro3 mp3 B3
    have hS : (w4).cell? ⟨q, 7, none⟩ = some (.map (some m)) ∧ (w4).cell? ⟨w.heap.size + 1, 0, none⟩ = some (.int .i64 key) ∧ (w4).cell? ⟨w.heap.size + 1, 1, none⟩ = some (.int .i64 weight) ∧ (w4).cell? ⟨w.heap.size + 1, 2, none⟩ = some (.int .i64 put) := ⟨q4.cell rfl, x4.cell rfl, x4.cell rfl, x4.cell rfl⟩
    refine hK.out _ _ (fun _ => hS) ?_
    clear hK K
    try simp only [Act.put, List.setIfInBounds_toArray, List.set_cons_zero, List.set_cons_succ, List.getElem_toArray, List.getElem_cons_zero, List.getElem_cons_succ]
    refine wpN_done (by kernel_rfl) ?_
    refine NoPanic.normal ?_
    go_wp2_with fail
    have hs24 : w.heap.size + 2 ≤ w4.heap.size := by have := x4.lt; omega
    refine wp_region_noPanic (wp_region_need (S := fun w' => w'.cell? ⟨w.heap.size + 1, 0, none⟩ = some (.int .i64 key) ∧ w'.cell? ⟨w.heap.size + 1, 1, none⟩ = some (.int .i64 weight) ∧ w'.cell? ⟨w.heap.size + 1, 2, none⟩ = some (.int .i64 put)) (by kernel_rfl) ?_)
    have hS : (w4.drew).cell? ⟨w.heap.size + 1, 0, none⟩ = some (.int .i64 key) ∧ (w4.drew).cell? ⟨w.heap.size + 1, 1, none⟩ = some (.int .i64 weight) ∧ (w4.drew).cell? ⟨w.heap.size + 1, 2, none⟩ = some (.int .i64 put) := ⟨x4.drew.cell rfl, x4.drew.cell rfl, x4.drew.cell rfl⟩
    refine wpN_take (i := 0) (v := ?v7) rfl (by kernel_rfl) (fun _ _ _ h => h) hS (Or.inl ⟨by rfl, ?hy7⟩) ?hr7
    case hy7 => (intro wS hSw; (try dsimp only at hSw); go_simp; (try with_reducible rfl))
    try simp only [Act.put, List.setIfInBounds_toArray, List.set_cons_zero, List.set_cons_succ, List.getElem_toArray, List.getElem_cons_zero, List.getElem_cons_succ]
    refine wpN_take (i := 1) (v := ?v8) rfl (by kernel_rfl) (fun _ _ _ h => h) hS (Or.inl ⟨by rfl, ?hy8⟩) ?hr8
    case hy8 => (intro wS hSw; (try dsimp only at hSw); go_simp; (try with_reducible rfl))
    try simp only [Act.put, List.setIfInBounds_toArray, List.set_cons_zero, List.set_cons_succ, List.getElem_toArray, List.getElem_cons_zero, List.getElem_cons_succ]
    refine wpN_take (i := 2) (v := ?v9) rfl (by kernel_rfl) (fun _ _ _ h => h) hS (Or.inl ⟨by rfl, ?hy9⟩) ?hr9
    case hy9 => (intro wS hSw; (try dsimp only at hSw); go_simp; (try with_reducible rfl))
    try simp only [Act.put, List.setIfInBounds_toArray, List.set_cons_zero, List.set_cons_succ, List.getElem_toArray, List.getElem_cons_zero, List.getElem_cons_succ]
    refine wpN_take (i := 3) (v := ?v10) rfl (by kernel_rfl) (fun _ _ _ h => h) hS (Or.inl ⟨by rfl, ?hy10⟩) ?hr10
    case hy10 => (intro wS hSw; (try dsimp only at hSw); go_simp; (try with_reducible rfl))
    try simp only [Act.put, List.setIfInBounds_toArray, List.set_cons_zero, List.set_cons_succ, List.getElem_toArray, List.getElem_cons_zero, List.getElem_cons_succ]
    have hd : Below w4.heap.size w4 w4.drew := (Below.refl _ _).drew
    have q5 := q4.below hd
    have x5 := x4.below hd
    have rl5 := rl4.below hd
    have ro5 := ro4.below hd
    have mp5 := mp4.below hd
    have B5 := B4.below hd
    obtain ⟨w5, hw5⟩ : ∃ w5, w4.drew = w5 := ⟨_, rfl⟩
    have hs5 : w.heap.size + 2 ≤ w5.heap.size := by rw [← hw5]; simpa using hs24
    rw [hw5] at q5 x5 rl5 ro5 mp5 B5 ⊢
    clear hw5 hd q4 x4 rl4 ro4 mp4 B4 hS hs24
    refine wpN_step (i := 4) (by kernel_rfl) rfl (fun K hK => ?_)
    go_simp
    refine (push_q fst_lighter Hp.lighter_ord (o := 3) q5 rfl rfl rl5 hM.hl hM.lq (Nat.zero_le _) (by have := hM.inv.lenl; dsimp only at this; omega) ⟨key, weight, put⟩).mono ?_
    rintro e w6 ⟨rfl, v6, l6, q6, rl6, p6, h6, own6, O6⟩
    have hX6 : ∀ k, k < w5.heap.size → Turn q lv k → F k := fun k _ hk => by rcases hk with rfl | hk; exact hM.fq; exact hM.fl k hk
    have x6 := O6.blk x5 (by rintro (e | e); exact hqX e.symm; exact hlX e)
    have ro6 := ro5.off O6 (fun g hg => by rintro (e | e); exact hM.oq (by rw [hg, e]); exact hM.lo g e hg)
    have mp6 := mp5.off O6 (by rintro (e | e); exact hM.mq e; exact hM.lm e)
    have B6 := B5.trans (O6.mono hX6)
    have hs6 : w.heap.size + 2 ≤ w6.heap.size := Nat.le_trans hs5 O6.size
    have own6' : ∀ g, v6.ownBlock = some g → lv.ownBlock = some g ∨ w.heap.size + 2 ≤ g := fun g hg => (own6 g hg).imp id (fun h => by omega)
    have q6' : Blk w6 q #[.int .i64 per, .int .i64 tak, .int .i64 ((put : Int) + 1), v6, .func (.func 22) #[] #[], ov, .func (.func 23) #[] #[], .map (some m)] 62 := q6
    clear q6 O6 own6 q5 x5 rl5 ro5 mp5 B5 hX6
    have hS : (w6).cell? ⟨w.heap.size + 1, 0, none⟩ = some (.int .i64 key) ∧ (w6).cell? ⟨w.heap.size + 1, 1, none⟩ = some (.int .i64 weight) ∧ (w6).cell? ⟨w.heap.size + 1, 2, none⟩ = some (.int .i64 put) := ⟨x6.cell rfl, x6.cell rfl, x6.cell rfl⟩
    refine hK.out _ _ (fun _ => hS) ?_
    clear hK K
    try simp only [Act.put, List.setIfInBounds_toArray, List.set_cons_zero, List.set_cons_succ, List.getElem_toArray, List.getElem_cons_zero, List.getElem_cons_succ]
    refine wpN_done (by kernel_rfl) ?_
    refine NoPanic.normal ?_
    go_wp2_with fail
    refine wp_region_noPanic (wp_region_need (S := fun w' => w'.cell? ⟨w.heap.size + 1, 0, none⟩ = some (.int .i64 key) ∧ w'.cell? ⟨w.heap.size + 1, 1, none⟩ = some (.int .i64 weight) ∧ w'.cell? ⟨w.heap.size + 1, 2, none⟩ = some (.int .i64 put)) (by kernel_rfl) ?_)
    have hS : (w6.drew).cell? ⟨w.heap.size + 1, 0, none⟩ = some (.int .i64 key) ∧ (w6.drew).cell? ⟨w.heap.size + 1, 1, none⟩ = some (.int .i64 weight) ∧ (w6.drew).cell? ⟨w.heap.size + 1, 2, none⟩ = some (.int .i64 put) := ⟨x6.drew.cell rfl, x6.drew.cell rfl, x6.drew.cell rfl⟩
    refine wpN_take (i := 0) (v := ?v11) rfl (by kernel_rfl) (fun _ _ _ h => h) hS (Or.inl ⟨by rfl, ?hy11⟩) ?hr11
    case hy11 => (intro wS hSw; (try dsimp only at hSw); go_simp; (try with_reducible rfl))
    try simp only [Act.put, List.setIfInBounds_toArray, List.set_cons_zero, List.set_cons_succ, List.getElem_toArray, List.getElem_cons_zero, List.getElem_cons_succ]
    refine wpN_take (i := 1) (v := ?v12) rfl (by kernel_rfl) (fun _ _ _ h => h) hS (Or.inl ⟨by rfl, ?hy12⟩) ?hr12
    case hy12 => (intro wS hSw; (try dsimp only at hSw); go_simp; (try with_reducible rfl))
    try simp only [Act.put, List.setIfInBounds_toArray, List.set_cons_zero, List.set_cons_succ, List.getElem_toArray, List.getElem_cons_zero, List.getElem_cons_succ]
    refine wpN_take (i := 2) (v := ?v13) rfl (by kernel_rfl) (fun _ _ _ h => h) hS (Or.inl ⟨by rfl, ?hy13⟩) ?hr13
    case hy13 => (intro wS hSw; (try dsimp only at hSw); go_simp; (try with_reducible rfl))
    try simp only [Act.put, List.setIfInBounds_toArray, List.set_cons_zero, List.set_cons_succ, List.getElem_toArray, List.getElem_cons_zero, List.getElem_cons_succ]
    refine wpN_take (i := 3) (v := ?v14) rfl (by kernel_rfl) (fun _ _ _ h => h) hS (Or.inl ⟨by rfl, ?hy14⟩) ?hr14
    case hy14 => (intro wS hSw; (try dsimp only at hSw); go_simp; (try with_reducible rfl))
    try simp only [Act.put, List.setIfInBounds_toArray, List.set_cons_zero, List.set_cons_succ, List.getElem_toArray, List.getElem_cons_zero, List.getElem_cons_succ]
    have hd : Below w6.heap.size w6 w6.drew := (Below.refl _ _).drew
    have q7 := q6'.below hd
    have x7 := x6.below hd
    have rl7 := rl6.below hd
    have ro7 := ro6.below hd
    have mp7 := mp6.below hd
    have B7 := B6.below hd
    obtain ⟨w7, hw7⟩ : ∃ w7, w6.drew = w7 := ⟨_, rfl⟩
    have hs7 : w.heap.size + 2 ≤ w7.heap.size := by rw [← hw7]; simpa using hs6
    rw [hw7] at q7 x7 rl7 ro7 mp7 B7 ⊢
    clear hw7 hd q6' x6 rl6 ro6 mp6 B6 hS hs6
    refine wpN_step (i := 4) (by kernel_rfl) rfl (fun K hK => ?_)
    go_simp
    refine (push_q fst_elder Hp.elder_ord (o := 5) q7 rfl rfl ro7 hM.ho hM.oq (Nat.zero_le _) (by have := hM.inv.leno; dsimp only at this; omega) ⟨key, weight, put⟩).mono ?_
    rintro e w8 ⟨rfl, v8, l8, q8, ro8, p8, h8, own8, O8⟩
    have hX8 : ∀ k, k < w7.heap.size → Turn q ov k → F k := fun k _ hk => by rcases hk with rfl | hk; exact hM.fq; exact hM.fo k hk
    have n6q : v6.ownBlock ≠ some q := fun e => by rcases own6' q e with h | h; exact hM.lq h; omega
    have n6m : v6.ownBlock ≠ some m := fun e => by rcases own6' m e with h | h; exact hM.lm h; omega
    have n6o : ∀ g, v6.ownBlock = some g → ov.ownBlock ≠ some g := fun g hg e => by
      rcases own6' g hg with h | h
      · exact hM.lo g h e
      · have := (hlo g e).2; omega
    have x8 := O8.blk x7 (by rintro (e | e); exact hqX e.symm; exact hoX e)
    have rl8 := rl7.off O8 (fun g hg => by rintro (e | e); exact n6q (by rw [hg, e]); exact n6o g hg e)
    have mp8 := mp7.off O8 (by rintro (e | e); exact hM.mq e; exact hM.om e)
    have B8 := B7.trans (O8.mono hX8)
    have h6lt := rl7.base_le
    have hfin : QMem F w8 q (QS.more ⟨per, tak, put, L⟩ ⟨key, weight, put⟩) v6 v8 m (n + 1) l6 l8 :=
      { inv := hM.inv.more hp rfl Hk.out Hno.out p6 p8
        blk := q8
        rl := rl8
        ro := ro8
        mp := mp8
        hn := by have := hM.hn; dsimp only at this; show n + 1 ≤ put + 1; omega
        hl := h6
        ho := h8
        lq := n6q
        lm := n6m
        oq := fun e => by rcases own8 q e with h | h; exact hM.oq h; omega
        om := fun e => by rcases own8 m e with h | h; exact hM.om h; omega
        mq := hM.mq
        lo := fun g hg e => by
          rcases own8 g e with h | h
          · exact n6o g hg h
          · have := (h6lt g hg).2; omega
        fq := hM.fq
        fm := hM.fm
        fl := fun g hg => by rcases own6' g hg with h | h; exact hM.fl g h; exact hF g (by omega)
        fo := fun g hg => by rcases own8 g hg with h | h; exact hM.fo g h; exact hF g (by omega) }
    have Hfin := Lib.hid hfin
    clear hfin O8 q8 own8 q7 x7 rl7 ro7 mp7 B7 hX8
    have hS : (w8).cell? ⟨w.heap.size + 1, 0, none⟩ = some (.int .i64 key) ∧ (w8).cell? ⟨w.heap.size + 1, 1, none⟩ = some (.int .i64 weight) ∧ (w8).cell? ⟨w.heap.size + 1, 2, none⟩ = some (.int .i64 put) := ⟨x8.cell rfl, x8.cell rfl, x8.cell rfl⟩
    refine hK.out _ _ (fun _ => hS) ?_
    clear hK K
    try simp only [Act.put, List.setIfInBounds_toArray, List.set_cons_zero, List.set_cons_succ, List.getElem_toArray, List.getElem_cons_zero, List.getElem_cons_succ]
    refine wpN_done (by kernel_rfl) ?_
    refine NoPanic.normal ?_
    go_wp2_with fail
    go_ret
    exact ⟨_, .inr (.inr ⟨Hno.out, Hlen.out, rfl, rfl⟩), ⟨_, _, _, _, _, _, Hfin.out⟩, B8⟩
end Go.Proofs.Ytplfbdkljnblmaa

