/-
  queue.New, Len, Taken; and what a nil queue answers. Queue.Drop: some go. Queue.All: what waits, by ages. The document's queue: rows of its entries in memory. The document's queue in memory: place, next, Peek. The document's queue in memory: Put, less, Next, Drop. The document's queue in memory: less, Next, Drop. The document's queue in memory: Next, Drop; what is told is one.
-/
import Derived.Test.YtplfbdkljnblmaaRowQPlaysp3
import Derived.Maps.RangeWalk
set_option linter.unusedVariables false
set_option linter.unusedSimpArgs false
namespace Go.Proofs.Ytplfbdkljnblmaa
open Go.RowKit Go.Maps

theorem new_q (w : World) (period : Int) (h1 : 1 ≤ period) (h2 : period ≤ 1000) :
    Calls Try.prog 7 #[.int .i64 period] w fun e w' => ∃ q, e = .returned (.tuple #[.pointer (some ⟨q, 0, none⟩), .int .i64 0]) ∧ w.heap.size ≤ q ∧ QueueAt (fun k => w.heap.size ≤ k) w' q ⟨period, 0, 0, []⟩ ∧ Below w.heap.size w w' := by
  have hmm := @run_makeMap Try.prog
  have n1 : ¬ period < 1 := by omega
  have n2 : ¬ period > 1000 := by omega
  have n3 : ¬ 1000 < period := by omega
  go_enter Try.func7, Try.ntmps7
  go_wp2_with fail
  go_ret2
  have hm : MapOf ((w.alloc (.map #[] 0)).alloc (.cells #[.int .i64 period, .int .i64 0, .int .i64 0, .slice none 0 0, .func (.func 22) #[] #[], .slice none 0 0, .func (.func 23) #[] #[], .map (some w.heap.size)] 62)) w.heap.size 0 [] :=
    (MapOf.made w).below ((Below.refl _ _).alloc (Nat.le_refl _) _)
  have hb : Blk ((w.alloc (.map #[] 0)).alloc (.cells #[.int .i64 period, .int .i64 0, .int .i64 0, .slice none 0 0, .func (.func 22) #[] #[], .slice none 0 0, .func (.func 23) #[] #[], .map (some w.heap.size)] 62)) (w.heap.size + 1) (qCells ⟨period, 0, 0, []⟩ (.slice none 0 0) (.slice none 0 0) w.heap.size) 62 := Blk.new _ _ _ (by simp)
  refine ⟨w.heap.size + 1, rfl, by omega, ⟨.slice none 0 0, .slice none 0 0, w.heap.size, 0, [], [], ?_⟩, ((Below.refl _ _).alloc (Nat.le_refl _) _).alloc (by simp) _⟩
  exact {
    inv := { per := ⟨h1, h2⟩, tak := ⟨Int.le_refl _, (by show (0 : Int) ≤ 800000; decide)⟩, many := (by show (0 : Nat) ≤ 800000; decide), keys := by simp, ages := by simp, inl := fun _ h => h, ino := fun _ h => h, wkl := fun _ h => (by cases h), wko := fun _ h => (by cases h), last := fun _ h => (by cases h), lenl := Nat.le_refl _, leno := Nat.le_refl _ }
    blk := hb
    rl := Row.nil _ _
    ro := Row.nil _ _
    mp := hm
    hn := Nat.le_refl _
    hl := fun j hj => by simp at hj
    ho := fun j hj => by simp at hj
    lq := by simp [Value.ownBlock]
    lm := by simp [Value.ownBlock]
    oq := by simp [Value.ownBlock]
    om := by simp [Value.ownBlock]
    mq := by omega
    lo := fun g hg => by cases hg
    fq := by show _ ≤ _; omega
    fm := Nat.le_refl _
    fl := fun g hg => by cases hg
    fo := fun g hg => by cases hg }

theorem len_q {F : Nat → Prop} {w : World} {q : Nat} {s : QS} (h : QueueAt F w q s) :
    Calls Try.prog 12 #[.pointer (some ⟨q, 0, none⟩)] w fun e w' => e = .returned (.int .i64 s.L.length) ∧ Below w.heap.size w w' := by
  obtain ⟨lv, ov, m, n, light, old, h⟩ := h
  have c7 : w.cell? ⟨q, 7, none⟩ = some (.map (some m)) := h.blk.cell rfl
  have hln := h.mp.len 3
  go_enter Try.func12, Try.ntmps12
  go_wp2_with fail
  go_ret
  exact ⟨rfl, Below.refl _ _⟩
theorem taken_q {F : Nat → Prop} {w : World} {q : Nat} {s : QS} (h : QueueAt F w q s) :
    Calls Try.prog 21 #[.pointer (some ⟨q, 0, none⟩)] w fun e w' => e = .returned (.int .i64 s.taken) ∧ Below w.heap.size w w' := by
  obtain ⟨lv, ov, m, n, light, old, h⟩ := h
  have c1 : w.cell? ⟨q, 1, none⟩ = some (.int .i64 s.taken) := h.blk.cell rfl
  go_enter Try.func21, Try.ntmps21
  go_wp2_with fail
  go_ret
  exact ⟨rfl, Below.refl _ _⟩

theorem len_nil (w : World) : Calls Try.prog 12 #[.pointer none] w fun e w' => e = .returned (.int .i64 0) ∧ Below w.heap.size w w' := by
  go_enter Try.func12, Try.ntmps12
  go_wp2_with fail
  go_ret
  exact ⟨rfl, Below.refl _ _⟩
theorem taken_nil (w : World) : Calls Try.prog 21 #[.pointer none] w fun e w' => e = .returned (.int .i64 0) ∧ Below w.heap.size w w' := by
  go_enter Try.func21, Try.ntmps21
  go_wp2_with fail
  go_ret
  exact ⟨rfl, Below.refl _ _⟩
theorem put_nil (w : World) (a b : Int) : Calls Try.prog 8 #[.pointer none, .int .i64 a, .int .i64 b] w fun e w' => e = .returned (.int .i64 13) ∧ Below w.heap.size w w' := by
  go_enter Try.func8, Try.ntmps8
  go_wp2_with fail
  go_ret
  exact ⟨rfl, Below.refl _ _⟩
theorem drop_nil (w : World) (v : Value) : Calls Try.prog 11 #[.pointer none, v] w fun e w' => e = .returned (.int .i64 0) ∧ Below w.heap.size w w' := by
  go_enter Try.func11, Try.ntmps11
  go_wp2_with fail
  go_ret
  exact ⟨rfl, Below.refl _ _⟩
theorem all_nil (w : World) : Calls Try.prog 20 #[.pointer none] w fun e w' => e = .returned (.slice none 0 0) ∧ Below w.heap.size w w' := by
  go_enter Try.func20, Try.ntmps20
  go_wp2_with fail
  go_ret
  exact ⟨rfl, Below.refl _ _⟩
theorem copy_nil (w : World) : Calls Try.prog 19 #[.pointer none] w fun e w' => e = .returned (.pointer none) ∧ Below w.heap.size w w' := by
  go_enter Try.func19, Try.ntmps19
  go_wp2_with fail
  go_ret
  exact ⟨rfl, Below.refl _ _⟩
theorem peek_nil (w : World) : Calls Try.prog 16 #[.pointer none] w fun e w' => e = .returned (.tuple #[.agg #[.int .i64 0, .int .i64 0, .int .i64 0], .bool false]) ∧ Below w.heap.size w w' := by
  go_enter Try.func16, Try.ntmps16
  go_wp2_with fail
  have z := Blk.new w #[.int .i64 0, .int .i64 0, .int .i64 0] 30 rfl
  (try simp only [Exit.inBlock, Exit.then]); refine bodyPost_ret (results_ent rfl _ _ rfl (e := ⟨0, 0, 0⟩) z) rfl ?_
  exact ⟨rfl, (Below.refl _ _).alloc (Nat.le_refl _) _⟩
theorem next_nil (w : World) : Calls Try.prog 9 #[.pointer none] w fun e w' => e = .returned (.tuple #[.agg #[.int .i64 0, .int .i64 0, .int .i64 0], .bool false]) ∧ Below w.heap.size w w' := by
  obtain ⟨wB, hwB⟩ : ∃ wB, w.alloc (.cells #[.int .i64 0, .int .i64 0, .int .i64 0] 30) = wB := ⟨_, rfl⟩
  have B0 : Below w.heap.size w wB := by rw [← hwB]; exact (Below.refl _ _).alloc (Nat.le_refl _) _
  have x0 : Blk wB w.heap.size #[.int .i64 0, .int .i64 0, .int .i64 0] 30 := by rw [← hwB]; exact Blk.new _ _ _ rfl
  go_enter Try.func9, Try.ntmps9
  go_wp2_with fail
  try rw [hwB]
  clear hwB
  refine (peek_nil _).mono ?_
  rintro e w1 ⟨rfl, hb⟩
  have x1 := x0.below hb
  have B1 := B0.trans (hb.mono B0.size)
  have f1 := x1.free 0; have f2 := x1.free 1; have f3 := x1.free 2
  have d0 := x1.cell (i := 0) rfl; have d1 := x1.cell (i := 1) rfl; have d2 := x1.cell (i := 2) rfl
  have hlt := x1.lt
  clear x0 B0 hb
  go_wp2_with fail
  have z := (((x1.set 0 (.int .i64 0)).set 1 (.int .i64 0)).set 2 (.int .i64 0)).alloc (.cells #[.int .i64 0, .int .i64 0, .int .i64 0] 30)
  (try simp only [Exit.inBlock, Exit.then]); refine bodyPost_ret (results_ent rfl _ _ rfl (e := ⟨0, 0, 0⟩) z) rfl ?_
  exact ⟨rfl, (((B1.setCell (p := ⟨w.heap.size, 0, none⟩) (Nat.le_refl _) _).setCell (p := ⟨w.heap.size, 1, none⟩) (Nat.le_refl _) _).setCell (p := ⟨w.heap.size, 2, none⟩) (Nat.le_refl _) _).alloc (by simp; omega) _⟩
end Go.Proofs.Ytplfbdkljnblmaa

namespace Go.Proofs.Ytplfbdkljnblmaa
open Go.RowKit Go.Maps

def QS.gone (s : QS) (k : Int) : QS := { s with L := MapOf.less s.L k }
def dr (p : QS × Nat) (k : Int) : QS × Nat := (p.1.gone k, p.2 + if (findK p.1.L k).isSome then 1 else 0)
theorem less_none {L : List Ent} {k : Int} (h : findK L k = none) : MapOf.less L k = L := by
  unfold MapOf.less
  rw [List.filter_eq_self]
  intro x hx
  have := findK_none h x hx
  simpa using this
theorem QInv.gone {s : QS} {light old : List Ent} (h : QInv s light old) (k : Int) : QInv (s.gone k) light old :=
  have hs : ∀ e ∈ (s.gone k).L, e ∈ s.L := fun e he => (List.mem_filter.1 he).1
  { per := h.per, tak := h.tak, many := h.many, keys := h.keys.sublist (List.Sublist.map _ List.filter_sublist), ages := h.ages.sublist List.filter_sublist
    inl := fun e he => h.inl e (hs e he), ino := fun e he => h.ino e (hs e he), wkl := h.wkl, wko := h.wko, last := fun e he => h.last e (hs e he), lenl := h.lenl, leno := h.leno }

theorem dr_le (s : QS) (l : List Int) : ∀ n, (l.foldl dr (s, n)).2 ≤ n + l.length := by
  induction l generalizing s with
  | nil => intro n; simp
  | cons k l ih => intro n; simp only [List.foldl_cons, List.length_cons, dr]; have := ih (s.gone k) (n + if (findK s.L k).isSome then 1 else 0); split at this <;> rename_i h <;> simp [h] at * <;> omega

set_option maxRecDepth 100000 in
set_option maxHeartbeats 4000000 in
theorem drop_q {F : Nat → Prop} {w : World} {q : Nat} {s : QS} (h : QueueAt F w q s) {a : Option Addr} {c : Nat} {l : List Int} (hl : l.length ≤ 100000) (hcell : ∀ j (hj : j < l.length), ∃ bl o, a = some ⟨bl, o, none⟩ ∧ w.cell? ⟨bl, o + j, none⟩ = some (.int .i64 l[j]) ∧ ¬ F bl) (hW : ∀ k ∈ l, W64 k) :
    Calls Try.prog 11 #[.pointer (some ⟨q, 0, none⟩), .slice a l.length c] w fun e w' => e = .returned (.int .i64 (l.foldl dr (s, 0)).2) ∧ QueueAt F w' q (l.foldl dr (s, 0)).1 ∧ Off F w w' := by
  obtain ⟨n, hn⟩ : ∃ n, l.length = n := ⟨_, rfl⟩
  rw [hn] at hl ⊢
  have Hn := Lib.hid hn; clear hn
  have Hcell := Lib.hid hcell; clear hcell
  go_enter Try.func11, Try.ntmps11
  go_wp2_with fail
  go_loopw [5, 14] (fun nv jv wr => ∃ j : Nat, jv = .int .i64 j ∧ j ≤ n ∧ nv = .int .i64 ((l.take j).foldl dr (s, 0)).2 ∧ QueueAt F wr q ((l.take j).foldl dr (s, 0)).1 ∧ Off F w wr) (fun _ jv _ => n - (intOf jv).toNat)
  case atStart => exact ⟨0, rfl, by omega, rfl, h, Off.refl _ _⟩
  case round =>
    obtain ⟨j, rfl, hj, rfl, hQ, hO⟩ := hrel
    by_cases hlt : j < n
    · have hltI : (j : Int) < n := by omega
      obtain ⟨bl, o, rfl, hc, hnF⟩ := Hcell.out j (by rw [Hn.out]; exact hlt)
      have hc' : wr.cell? ⟨bl, o + j, none⟩ = some (.int .i64 (l[j]'(by rw [Hn.out]; exact hlt))) := (World.cell?_of_block (hO.block bl (Keep.lt hc) hnF)).trans hc
      have hkW : W64 (l[j]'(by rw [Hn.out]; exact hlt)) := hW _ (List.getElem_mem _)
      have htk : (l.take (j + 1)).foldl dr (s, 0) = dr ((l.take j).foldl dr (s, 0)) (l[j]'(by rw [Hn.out]; exact hlt)) := by
        rw [List.take_succ_eq_append_getElem (by rw [Hn.out]; exact hlt), List.foldl_append]; rfl
      have hle : ((l.take j).foldl dr (s, 0)).2 ≤ 100000 := by have := dr_le s (l.take j) 0; simp at this; omega
      obtain ⟨k, hk⟩ : ∃ k, l[j]'(by rw [Hn.out]; exact hlt) = k := ⟨_, rfl⟩
      obtain ⟨p, hp⟩ : ∃ p, (l.take j).foldl dr (s, 0) = p := ⟨_, rfl⟩
      rw [hk] at hc' hkW htk
      rw [hp] at hQ htk hle ⊢
      have Htk := Lib.hid htk; clear htk hk hp hc
      obtain ⟨s1, n1⟩ := p
      dsimp only at hQ hle Htk ⊢
      obtain ⟨lv, ov, m, nn, light, old, hM⟩ := hQ
      have hlk := hM.mp.look hkW
      have c7 : wr.cell? ⟨q, 7, none⟩ = some (.map (some m)) := hM.blk.cell rfl
      have hql := hM.blk.lt
      obtain ⟨y, hy⟩ : ∃ y, (findK s1.L k).getD Hp.z0 = y := ⟨_, rfl⟩
      obtain ⟨ok, hok⟩ : ∃ ok, (findK s1.L k).isSome = ok := ⟨_, rfl⟩
      rw [hy, hok] at hlk
      have Hok := Lib.hid hok
      clear hy hok
      obtain ⟨yk, yw, yg⟩ := y
      unfold Ent.v at hlk
      dsimp only at hlk
      have hb : Below wr.heap.size wr (wr.alloc (.cells #[.int .i64 yk, .int .i64 yw, .int .i64 yg] 30)) := (Below.refl _ _).alloc (Nat.le_refl _) _
      have hM2 := hM.off (Off.of_below (fun _ => False) hb) fun _ _ h => h
      have hO2 := hO.below hb
      cases ok
      · have hno : findK s1.L k = none := by
          have h := Hok.out
          cases hf : findK s1.L k with
          | none => rfl
          | some e => rw [hf] at h; cases h
        have hs : s1.gone k = s1 := by unfold QS.gone; rw [less_none hno]
        have HE : Hid (dr (s1, n1) k = (s1, n1)) := by show _ = _; unfold dr; dsimp only; rw [hs, Hok.out]; rfl
        clear hno hs
        go_wp2_with fail
        go_roundw
        case rel => exact ⟨j + 1, by go_num, by omega, by rw [Htk.out, HE.out], by rw [Htk.out, HE.out]; exact ⟨_, _, _, _, _, _, hM2⟩, hO2⟩
        case measure => simp [intOf]; omega
      · have HE : Hid (dr (s1, n1) k = (s1.gone k, n1 + 1)) := by show _ = _; unfold dr; dsimp only; rw [Hok.out]; rfl
        obtain ⟨w4, hrun, hmap, hg⟩ := hM2.mp.drop hM2.inv.keys hkW 0
        have hn1 : (n1 : Int) ≤ 100000 := by omega
        have hn0 : (0 : Int) ≤ n1 := by omega
        go_wp2_with fail
        have hO4 : Off (fun k => k = m) (wr.alloc (.cells #[.int .i64 yk, .int .i64 yw, .int .i64 yg] 30)) w4 := (Off.refl _ _).grown hg fun k e => by cases e; rfl
        have hM5 : QMem F w4 q (s1.gone k) lv ov m nn light old :=
          { hM2 with
            inv := hM2.inv.gone k
            blk := hO4.blk hM2.blk (Ne.symm hM2.mq)
            rl := hM2.rl.off hO4 (fun g hg e => hM2.lm (by rw [hg, e]))
            ro := hM2.ro.off hO4 (fun g hg e => hM2.om (by rw [hg, e]))
            mp := hmap }
        have hO5 : Off F w w4 := hO2.grown hg fun k e => by cases e; exact hM2.fm
        clear hrun hg hmap
        go_roundw
        case rel => exact ⟨j + 1, by go_num, by omega, by rw [Htk.out, HE.out]; push_cast; rfl, by rw [Htk.out, HE.out]; exact ⟨_, _, _, _, _, _, hM5⟩, hO5⟩
        case measure => simp [intOf]; omega
    · obtain rfl : j = n := by omega
      have he : l.take j = l := List.take_of_length_le (by rw [Hn.out]; omega)
      rw [he] at hQ ⊢
      go_wp2_with fail
      go_ret
      exact ⟨rfl, hQ, hO⟩
end Go.Proofs.Ytplfbdkljnblmaa

namespace Go.Proofs.Ytplfbdkljnblmaa
open Go.RowKit Go.Maps Go.Sort

instance : Inhabited Ent := ⟨⟨0, 0, 0⟩⟩

def encE (e : Ent) : List Value := [.int .i64 e.key, .int .i64 e.weight, .int .i64 e.age]
def cfE (a b : Ent) : Int := sgn a.age b.age
theorem ltE (a b : Ent) : ltOf cfE a b = decide (a.age < b.age) := by
  unfold ltOf cfE sgn
  by_cases h1 : a.age < b.age
  · simp [h1]
  · by_cases h2 : b.age < a.age <;> simp [h1, h2]
theorem swoE : SWO (ltOf cfE) where
  irrefl x := by rw [ltE]; simp
  trans x y z h1 h2 := by rw [ltE] at *; simp at *; omega
  ntrans x y z h1 h2 := by rw [ltE] at *; simp at *; omega

theorem flat_encs (l : List Ent) : (flatK encE 3 l.toArray).toList = encs l := by
  apply List.ext_getElem?
  intro j
  by_cases hj : j < l.length * 3
  · obtain ⟨i, m, rfl, hm⟩ : ∃ i m, j = i * 3 + m ∧ (m = 0 ∨ m = 1 ∨ m = 2) := ⟨j / 3, j % 3, by omega, by omega⟩
    have hi : i < l.length := by omega
    have hs : i * 3 + m < (flatK encE 3 l.toArray).size := by simp; omega
    have e1 : (flatK encE 3 l.toArray).toList[i * 3 + m]? = some (flatK encE 3 l.toArray)[i * 3 + m]! := by
      rw [Array.getElem?_toList, Array.getElem?_eq_getElem hs, getElem!_pos (flatK encE 3 l.toArray) _ hs]
    rw [e1, get_flatK _ _ _ _ (by simpa using hj)]
    have e2 : (i * 3 + m) / 3 = i := by omega
    have e3 : (i * 3 + m) % 3 = m := by omega
    rw [e2, e3]
    have e4 : (l.toArray)[i]! = l[i] := by rw [getElem!_pos l.toArray _ (by simpa using hi)]; simp
    rw [e4]
    obtain ⟨p0, p1, p2⟩ := encs_get l i hi
    rcases hm with rfl | rfl | rfl
    · rw [Nat.add_zero, p0]; rfl
    · rw [p1]; rfl
    · rw [p2]; rfl
  · rw [List.getElem?_eq_none (by simp; omega), List.getElem?_eq_none (by rw [length_encs]; omega)]

theorem Row.holds {w : World} {base : Nat} {l : List Ent} {g cap n : Nat} (h : Row w base (.slice (some ⟨g, 0, none⟩) n cap) l) (hn : n = l.length) : HoldsK encE 3 w g 0 l.toArray ∧ g < w.heap.size := by
  rcases h.2 with ⟨h2, h0⟩ | ⟨g', cap', cur, h2, hb, hc, h3, h4, h5, h6⟩
  · cases h2
  · have hg : g = g' := by injection h2 with q1 _ _; cases q1; rfl
    subst hg
    have hb' : Blk w g cur 30 := hc
    refine ⟨fun j hj => ⟨?_, hb'.free _⟩, hb'.lt⟩
    rw [Nat.zero_add]
    have hjs : j < l.length * 3 := by simpa using hj
    have e1 : (flatK encE 3 l.toArray).toList[j]? = some (flatK encE 3 l.toArray)[j]! := by
      rw [Array.getElem?_toList, Array.getElem?_eq_getElem hj, getElem!_pos (flatK encE 3 l.toArray) _ hj]
    rw [flat_encs, ← h6, List.getElem?_take, if_pos hjs] at e1
    exact hb'.cell (by rw [← Array.getElem?_toList]; exact e1)

theorem grownBy_sortedK {w : World} {g n : Nat} {os : Array Obj} (d : Array Ent) : w.grownBy (sortWorldK encE 3 w g 0 n d os) (some g) := by
  refine ⟨rfl, rfl, rfl, by simp [sortWorldK, putRowK], fun k hk hne => ?_⟩
  unfold sortWorldK putRowK
  rw [heap_grow_old _ _ (by simpa using hk)]
  have : g ≠ k := fun e => hne (by rw [e])
  simp [putRow, mapBlock, Sort.ahead, Array.getElem?_modify, this]

theorem take_putCells_id (cur F : Array Value) (h : F.size ≤ cur.size) : (putCells id 0 F cur).toList.take F.size = F.toList := by
  apply List.ext_getElem?
  intro j
  by_cases hj : j < F.size
  · rw [List.getElem?_take_of_lt hj, Array.getElem?_toList]
    simp [putCells, hj, show j < cur.size by omega]
  · rw [List.getElem?_take_eq_none (by omega), List.getElem?_eq_none (by simp; omega)]

theorem Row.sorted {w : World} {base : Nat} {l l' : List Ent} {g cap m n : Nat} {os : Array Obj} (h : Row w base (.slice (some ⟨g, 0, none⟩) m cap) l) (hl : l'.length = l.length) (hn : m = l.length) :
    Row (sortWorldK encE 3 w g 0 n l'.toArray os) base (.slice (some ⟨g, 0, none⟩) m cap) l' := by
  rcases h.2 with ⟨h2, h0⟩ | ⟨g', cap', cur, h2, hb, hc, h3, h4, h5, h6⟩
  · cases h2
  · injection h2 with q1 q2 q3
    cases q1
    subst q3
    subst hn
    have hg : g < w.heap.size := (Array.getElem?_eq_some_iff.1 hc).1
    refine ⟨by rw [length_encs], .inr ⟨g, cap, putCells id 0 (flatK encE 3 l'.toArray) cur, by rw [hl], hb, ?_, by rw [hl]; exact h3, h4, by simpa [putCells] using h5, ?_⟩⟩
    · unfold sortWorldK putRowK
      rw [heap_grow_old _ _ (by simpa using hg)]
      simp [putRow, mapBlock, Sort.ahead, Array.getElem?_modify, hc, onCells]
    · have hs : (flatK encE 3 l'.toArray).size = l'.length * 3 := by simp
      have hle : l'.length * 3 ≤ cur.size := by rw [h5, hl]; exact Nat.mul_le_mul_right 3 h3
      have := take_putCells_id cur (flatK encE 3 l'.toArray) (by rw [hs]; exact hle)
      rw [hs, flat_encs] at this
      exact this

theorem sorted_is {l L : List Ent} {d' : Array Ent} (hp : l.Perm L) (hL : L.Pairwise fun a b => a.age < b.age) (hP : PermIn 0 l.toArray.size l.toArray d') (hS : SortedIn (ltOf cfE) 0 l.toArray.size d') : d'.toList = L := by
  obtain ⟨hsz, _, hperm⟩ := hP
  have e1 : d'.extract 0 l.toArray.size = d' := by rw [← hsz]; exact Array.extract_size
  rw [e1, Array.extract_size] at hperm
  have hpd : d'.toList.Perm L := hperm.trans (by simpa using hp)
  refine List.Perm.eq_of_pairwise (le := fun x y => x.age ≤ y.age) ?_ ?_ ?_ hpd
  · intro a b ha hb h1 h2
    obtain ⟨i, hi, rfl⟩ := List.getElem_of_mem (hpd.mem_iff.1 ha)
    obtain ⟨j, hj, rfl⟩ := List.getElem_of_mem hb
    by_cases hij : i < j
    · have := List.pairwise_iff_getElem.1 hL i j hi hj hij; omega
    · by_cases hji : j < i
      · have := List.pairwise_iff_getElem.1 hL j i hj hi hji; omega
      · obtain rfl : i = j := by omega
        rfl
  · rw [List.pairwise_iff_getElem]
    intro i j hi hj hij
    have hi' : i < d'.size := by simpa using hi
    have hj' : j < d'.size := by simpa using hj
    have := hS i j (Nat.zero_le _) hij (by rw [← hsz]; exact hj')
    rw [ltE, getElem!_pos d' _ hj', getElem!_pos d' _ hi'] at this
    simp at this
    simpa using this
  · exact hL.imp fun h => by omega

theorem compare_x (w : World) (x y : Int) : Calls Try.prog 32 #[.int .i64 x, .int .i64 y] w fun e w' => e = .returned (.int .i64 (sgn x y)) ∧ w' = w := by
  by_cases h1 : x < y
  · have Hs := Lib.hid (sgn_lt h1)
    go_enter Try.func32, Try.ntmps32
    go_wp2_with fail
    refine (isNaN_i w x).mono ?_
    rintro e w1 ⟨rfl, rfl⟩
    go_wp2_with fail
    refine (isNaN_i _ y).mono ?_
    rintro e w2 ⟨rfl, rfl⟩
    go_wp2_with fail
    go_ret
    exact ⟨by rw [Hs.out]; rfl, rfl⟩
  · by_cases h2 : y < x
    · have Hs := Lib.hid (sgn_gt h2)
      have h2' : x > y := h2
      go_enter Try.func32, Try.ntmps32
      go_wp2_with fail
      refine (isNaN_i w x).mono ?_
      rintro e w1 ⟨rfl, rfl⟩
      go_wp2_with fail
      refine (isNaN_i _ y).mono ?_
      rintro e w2 ⟨rfl, rfl⟩
      go_wp2_with fail
      go_ret
      exact ⟨by rw [Hs.out]; rfl, rfl⟩
    · have Hs := Lib.hid (sgn_eq h1 h2)
      have h2' : ¬ x > y := h2
      go_enter Try.func32, Try.ntmps32
      go_wp2_with fail
      refine (isNaN_i w x).mono ?_
      rintro e w1 ⟨rfl, rfl⟩
      go_wp2_with fail
      refine (isNaN_i _ y).mono ?_
      rintro e w2 ⟨rfl, rfl⟩
      go_wp2_with fail
      go_ret
      exact ⟨by rw [Hs.out]; rfl, rfl⟩

set_option maxHeartbeats 1000000 in
theorem allcmp_q (a b : Ent) (W : World) : Calls Try.prog 31 #[a.v, b.v] W fun e w' => e = .returned (.int .i64 (cfE a b)) ∧ ∃ q os', w' = grow (W.drewN q) os' := by
  obtain ⟨k, x, g⟩ := a
  obtain ⟨k', x', g'⟩ := b
  unfold Ent.v cfE
  dsimp only
  have hcon := fun W' => compare_x W' g g'
  generalize sgn g g' = r at hcon ⊢
  go_enter Try.func31, Try.ntmps31
  go_wp2_with fail
  refine (hcon _).mono ?_
  rintro e w' ⟨rfl, rfl⟩
  go_wp2_with fail
  go_ret
  exact ⟨rfl, 0, _, by rw [alloc_eq_grow, alloc_eq_grow, grow_grow]; rfl⟩
theorem cmpLays_q (blk off size : Nat) (w : World) : CmpLays Try.prog 31 #[] encE 3 cfE blk off size w :=
  fun _ _ _ _ x y => allcmp_q x y _
end Go.Proofs.Ytplfbdkljnblmaa

namespace Go.Proofs.Ytplfbdkljnblmaa
open Go.RowKit

def RowR (w : World) (base : Nat) (v : Value) (l : List Ent) : Prop := w.ownsRow base 47 3 v l.length (encs l)
namespace RowR
variable {w w' : World} {base : Nat} {v : Value} {l : List Ent}
theorem nil (w : World) (base : Nat) : RowR w base (.slice none 0 0) [] := World.ownsRow_nil _ _ _ _
theorem shape (h : RowR w base v l) : ∃ a c, v = .slice a l.length c := by
  rcases h.2 with ⟨rfl, h0⟩ | ⟨g, cap, cur, rfl, _⟩
  · exact ⟨none, 0, by rw [h0]⟩
  · exact ⟨_, _, rfl⟩
theorem below (h : RowR w base v l) (hb : Below w.heap.size w w') : RowR w' base v l :=
  h.kept ⟨hb.os, hb.tape, hb.output, hb.size, fun k hk _ => hb.block k hk⟩ (row := none) (by cases h : v.ownBlock <;> simp)
theorem base_le (h : RowR w base v l) : ∀ g, v.ownBlock = some g → base ≤ g ∧ g < w.heap.size := by
  intro g hg
  rcases h.2 with ⟨rfl, h0⟩ | ⟨g', cap, cur, rfl, hb, hc, _⟩
  · cases hg
  · cases hg; exact ⟨hb, (Array.getElem?_eq_some_iff.1 hc).1⟩
theorem far (h : RowR w base v l) (p : Addr) (u : Value) (hp : v.ownBlock ≠ some p.block) : RowR (w.setCell p u) base v l := by
  rcases h with ⟨h1, h2 | ⟨g, cap, cur, rfl, hb, hc, h3⟩⟩
  · exact ⟨h1, .inl h2⟩
  · refine ⟨h1, .inr ⟨g, cap, cur, rfl, hb, ?_, h3⟩⟩
    rw [← hc]; exact Below.heap_setCell _ _ _ _ (fun e => hp (by rw [← e]; rfl))
theorem open_ (h : RowR w base v l) (h0 : 0 < l.length) : ∃ g cap, v = .slice (some ⟨g, 0, none⟩) l.length cap ∧ base ≤ g ∧ l.length ≤ cap ∧ cap ≤ maxLen ∧
    (∀ i (hi : i < l.length), w.cell? ⟨g, i * 3, none⟩ = some (.int .i64 l[i].key) ∧ w.cell? ⟨g, i * 3 + 1, none⟩ = some (.int .i64 l[i].weight) ∧ w.cell? ⟨g, i * 3 + 2, none⟩ = some (.int .i64 l[i].age)) ∧ ∀ o, w.frozen? ⟨g, o, none⟩ = false := by
  rcases h.2 with ⟨rfl, he⟩ | ⟨g, cap, cur, rfl, hb, hc, h1, h2, h3, h4⟩
  · omega
  · refine ⟨g, cap, rfl, hb, h1, h2, fun i hi => ?_, fun o => Blk.free (cs := cur) hc o⟩
    obtain ⟨e1, e2, e3⟩ := encs_get l i hi
    rw [← h4] at e1 e2 e3
    have key : ∀ j u, (cur.toList.take (l.length * 3))[j]? = some u → w.cell? ⟨g, j, none⟩ = some u := fun j u hj => by
      rw [List.getElem?_take] at hj
      split at hj
      · exact Blk.cell (cs := cur) hc (by rw [← Array.getElem?_toList]; exact hj)
      · cases hj
    exact ⟨key _ _ e1, key _ _ e2, key _ _ e3⟩
theorem take (h : RowR w base v l) (k : Nat) (hk : k ≤ l.length) {a : Option Addr} {c : Nat} (hv : v = .slice a l.length c) : RowR w base (.slice a k c) (l.take k) := by
  subst hv
  have hl : (l.take k).length = k := by simp; omega
  rcases h with ⟨h1, ⟨h2, h0⟩ | ⟨g, cap, cur, h2, hb, hc, h3, h4, h5, h6⟩⟩
  · injection h2 with q1 q2 q3
    subst q1; subst q3
    obtain rfl : k = 0 := by omega
    exact ⟨by rw [length_encs], .inl ⟨rfl, by simp⟩⟩
  · cases h2
    refine ⟨by rw [length_encs], .inr ⟨g, _, cur, by rw [hl], hb, hc, by omega, h4, h5, ?_⟩⟩
    rw [hl, encs_take, ← h6, List.take_take, Nat.min_eq_left (by omega)]
theorem set (h : RowR w base v l) (i : Nat) (hi : i < l.length) (e : Ent) {g cap : Nat} (hv : v = .slice (some ⟨g, 0, none⟩) l.length cap) :
    RowR (((w.setCell ⟨g, i * 3, none⟩ (.int .i64 e.key)).setCell ⟨g, i * 3 + 1, none⟩ (.int .i64 e.weight)).setCell ⟨g, i * 3 + 2, none⟩ (.int .i64 e.age)) base v (l.set i e) := by
  subst hv
  rcases h with ⟨h1, ⟨h2, h0⟩ | ⟨g', cap', cur, h2, hb, hc, h3, h4, h5, h6⟩⟩
  · cases h2
  · cases h2
    refine ⟨by rw [length_encs], .inr ⟨g, _, ((cur.setIfInBounds (i * 3) (.int .i64 e.key)).setIfInBounds (i * 3 + 1) (.int .i64 e.weight)).setIfInBounds (i * 3 + 2) (.int .i64 e.age), by simp, hb, ?_, by simpa using h3, h4, by simpa using h5, ?_⟩⟩
    · have b0 : Blk w g cur 47 := hc
      exact ((b0.set (i * 3) (.int .i64 e.key)).set (i * 3 + 1) (.int .i64 e.weight)).set (i * 3 + 2) (.int .i64 e.age)
    · simp only [List.length_set, Array.toList_setIfInBounds]
      apply List.ext_getElem?
      intro j
      rw [List.getElem?_take]
      by_cases hj : j < l.length * 3
      · rw [if_pos hj]
        have hcur : cur.toList.length = cap * 3 := by simpa using h5
        obtain ⟨d, m, rfl, hm⟩ : ∃ d m, j = d * 3 + m ∧ (m = 0 ∨ m = 1 ∨ m = 2) := ⟨j / 3, j % 3, by omega, by omega⟩
        have hd : d < l.length := by omega
        obtain ⟨q1, q2, q3⟩ := encs_get (l.set i e) d (by simpa using hd)
        have hold : ∀ j, j < l.length * 3 → cur.toList[j]? = (encs l)[j]? := fun j hj => by
          rw [← h6, List.getElem?_take, if_pos hj]
        obtain ⟨p1, p2, p3⟩ := encs_get l d hd
        simp only [List.getElem?_set, List.length_set]
        by_cases hji : d = i
        · subst hji
          have eE : (l.set d e)[d]'(by simpa using hd) = e := by simp
          rw [eE] at q1 q2 q3
          rcases hm with rfl | rfl | rfl
          · rw [if_neg (by omega), if_neg (by omega), if_pos (by omega), if_pos (by omega)]; exact q1.symm
          · rw [if_neg (by omega), if_pos rfl, if_pos (by omega)]; exact q2.symm
          · rw [if_pos rfl, if_pos (by omega)]; exact q3.symm
        · have eE : (l.set i e)[d]'(by simpa using hd) = l[d] := by rw [List.getElem_set_ne (by omega)]
          rw [eE] at q1 q2 q3
          rw [if_neg (by omega), if_neg (by omega), if_neg (by omega), hold _ hj]
          rcases hm with rfl | rfl | rfl
          · exact p1.trans q1.symm
          · exact p2.trans q2.symm
          · exact p3.trans q3.symm
      · rw [if_neg hj, List.getElem?_eq_none (by rw [length_encs]; simp; omega)]
end RowR

theorem RowR.off {w w' : World} {base : Nat} {v : Value} {l : List Ent} {F : Nat → Prop} (h : RowR w base v l) (ho : Off F w w') (hF : ∀ g, v.ownBlock = some g → ¬ F g) : RowR w' base v l := by
  rcases h with ⟨h1, h2 | ⟨g, cap, cur, rfl, hb, hc, h3⟩⟩
  · exact ⟨h1, .inl h2⟩
  · exact ⟨h1, .inr ⟨g, cap, cur, rfl, hb, (ho.block g (Array.getElem?_eq_some_iff.1 hc).1 (hF g rfl)).trans hc, h3⟩⟩

theorem infoR : (Try.prog.info? 47).map (fun i => (i.zero, i.size, i.bytes)) = some (some (.agg #[.int .i64 0, .int .i64 0, .int .i64 0]), 3, 24) := by kernel_rfl

theorem row_accR {w : World} {base : Nat} {v : Value} {l : List Ent} (h : RowR w base v l) : Acc rpE 47 base (fun _ => True) w v l :=
  ⟨l.map fun e => [.int .i64 e.key, .int .i64 e.weight, .int .i64 e.age], by simp, by rw [← encs_flat]; exact h, fun i hi => ⟨[.int .i64 l[i].key, .int .i64 l[i].weight, .int .i64 l[i].age], by simp [hi], rfl⟩⟩
theorem acc_rowR {F : Nat → Prop} {w : World} {base : Nat} {v : Value} {l : List Ent} (h : Acc rpE 47 base F w v l) : RowR w base v l := by
  obtain ⟨X, h1, h2, h3⟩ := h
  have : X = l.map fun e => [.int .i64 e.key, .int .i64 e.weight, .int .i64 e.age] := by
    apply List.ext_getElem (by simpa using h1)
    intro i hi hi2
    obtain ⟨x, hx, hr⟩ := h3 i (by omega)
    rw [List.getElem?_eq_getElem hi] at hx
    cases hx
    have hr' : X[i] = [.int .i64 l[i].key, .int .i64 l[i].weight, .int .i64 l[i].age] := hr
    simpa using hr'
  subst this
  unfold RowR
  rw [encs_flat]
  exact h2
end Go.Proofs.Ytplfbdkljnblmaa

namespace Go.Proofs.Ytplfbdkljnblmaa
open Go.RowKit Go.Maps

structure RefM (F : Nat → Prop) (w : World) (d : Nat) (s : QS) (v : Value) : Prop where
  blk : Blk w d #[.int .i64 s.period, .int .i64 s.taken, .int .i64 s.put, v] 43
  row : RowR w 0 v s.L
  vd : v.ownBlock ≠ some d
  fd : F d
  fv : ∀ g, v.ownBlock = some g → F g
def RefAt (F : Nat → Prop) (w : World) (d : Nat) (s : QS) : Prop := ∃ v, RefM F w d s v
structure SOk (s : QS) : Prop where
  per : 1 ≤ s.period ∧ s.period ≤ 1000
  tak : 0 ≤ s.taken ∧ s.taken ≤ 800000
  many : s.put ≤ 800000
  keys : (s.L.map Ent.key).Nodup
  ages : s.L.Pairwise fun a b => a.age < b.age
  len : s.L.length ≤ 800000

theorem RefM.qb {F : Nat → Prop} {w : World} {d : Nat} {s : QS} {v : Value} (h : RefM F w d s v) {k : Nat} (hk : k = d ∨ v.ownBlock = some k) : k < w.heap.size ∧ F k := by
  rcases hk with rfl | hk
  · exact ⟨h.blk.lt, h.fd⟩
  · exact ⟨(h.row.base_le k hk).2, h.fv k hk⟩
theorem RefAt.off {F G : Nat → Prop} {w w' : World} {d : Nat} {s : QS} (h : RefAt F w d s) (ho : Off G w w') (hG : ∀ k, k < w.heap.size → F k → ¬ G k) : RefAt F w' d s := by
  obtain ⟨v, h⟩ := h
  exact ⟨v, { h with blk := ho.blk h.blk (hG _ (h.qb (.inl rfl)).1 h.fd), row := h.row.off ho fun g hg => hG g (h.qb (.inr hg)).1 (h.qb (.inr hg)).2 }⟩
theorem RefAt.below {F : Nat → Prop} {w w' : World} {d : Nat} {s : QS} (h : RefAt F w d s) (hb : Below w.heap.size w w') : RefAt F w' d s :=
  h.off (Off.of_below (fun _ => False) hb) fun _ _ _ h => h
theorem RefAt.weaken {F G : Nat → Prop} {w : World} {d : Nat} {s : QS} (h : RefAt F w d s) (hG : ∀ k, F k → G k) : RefAt G w d s := by
  obtain ⟨v, h⟩ := h
  exact ⟨v, { h with fd := hG _ h.fd, fv := fun g hg => hG _ (h.fv g hg) }⟩
theorem RefAt.tight {F : Nat → Prop} {w : World} {d : Nat} {s : QS} (h : RefAt F w d s) : RefAt (fun k => F k ∧ k < w.heap.size) w d s := by
  obtain ⟨v, h⟩ := h
  exact ⟨v, { h with fd := (h.qb (.inl rfl)).symm, fv := fun g hg => (h.qb (.inr hg)).symm }⟩

theorem less_erase {L : List Ent} (hL : (L.map Ent.key).Nodup) {i : Nat} (hi : i < L.length) : MapOf.less L L[i].key = L.take i ++ L.drop (i + 1) := by
  induction L generalizing i with
  | nil => simp at hi
  | cons e L ih =>
    simp only [List.map_cons, List.nodup_cons] at hL
    cases i with
    | zero =>
      have h1 : MapOf.less L e.key = L := by
        unfold MapOf.less
        rw [List.filter_eq_self]
        intro x hx
        have : x.key ≠ e.key := fun h => hL.1 (h ▸ List.mem_map.2 ⟨x, hx, rfl⟩)
        simpa using this
      have h2 : MapOf.less (e :: L) e.key = MapOf.less L e.key := by simp [MapOf.less]
      show MapOf.less (e :: L) e.key = _
      rw [h2, h1]; simp
    | succ i =>
      simp only [List.length_cons] at hi
      have hi' : i < L.length := by omega
      have hne : e.key ≠ L[i].key := fun h => hL.1 (h ▸ List.mem_map.2 ⟨_, List.getElem_mem hi', rfl⟩)
      have h3 : MapOf.less (e :: L) L[i].key = e :: MapOf.less L L[i].key := by simp [MapOf.less, hne]
      show MapOf.less (e :: L) L[i].key = _
      rw [h3, ih hL.2 hi']; simp

def PlcRes (L : List Ent) (key r : Int) : Prop :=
  (r = -1 ∧ findK L key = none) ∨ ∃ i, ∃ h : i < L.length, r = (i : Nat) ∧ L[i].key = key ∧ (findK L key).isSome = true

theorem findK_none_of {L : List Ent} {key : Int} (h : ∀ j (hj : j < L.length), L[j].key ≠ key) : findK L key = none := by
  unfold findK
  rw [List.find?_eq_none]
  intro e he hk
  obtain ⟨j, hj, rfl⟩ := List.getElem_of_mem he
  exact h j hj (by simpa using hk)
theorem findK_some_of {L : List Ent} {key : Int} {j : Nat} (hj : j < L.length) (h : L[j].key = key) : (findK L key).isSome = true := by
  unfold findK
  rw [List.find?_isSome]
  exact ⟨L[j], List.getElem_mem hj, by simpa using h⟩

set_option maxRecDepth 100000 in
set_option maxHeartbeats 4000000 in
theorem place_r {F : Nat → Prop} {w : World} {d : Nat} {s : QS} {v : Value} (h : RefM F w d s v) (hl : s.L.length ≤ 800000) (key : Int) :
    Calls Try.prog 25 #[.pointer (some ⟨d, 0, none⟩), .int .i64 key] w fun e w' => (∃ r, PlcRes s.L key r ∧ e = .returned (.int .i64 r)) ∧ Below w.heap.size w w' := by
  obtain ⟨per, tak, put, L⟩ := s
  obtain ⟨a, c, rfl⟩ := h.row.shape
  dsimp only at *
  obtain ⟨n, hn⟩ : ∃ n, L.length = n := ⟨_, rfl⟩
  have c3 : w.cell? ⟨d, 3, none⟩ = some (.slice a n c) := by have := h.blk.cell (i := 3) rfl; rw [hn] at this; exact this
  have H := Lib.hid h
  have hnI : (n : Int) ≤ 800000 := by omega
  have HN := Lib.hid hn
  clear h hn
  rw [HN.out] at hl
  go_enter Try.func25, Try.ntmps25
  go_wp2_with fail
  go_loopw [5] (fun iv wr => ∃ i : Nat, iv = .int .i64 i ∧ i ≤ n ∧ wr = w ∧ Hid (∀ j (hj : j < L.length), j < i → L[j].key ≠ key)) (fun iv _ => n - (intOf iv).toNat)
  case atStart => exact ⟨0, rfl, by omega, rfl, fun j _ h => absurd h (by omega)⟩
  case round =>
    obtain ⟨i, rfl, hi, rfl, hno⟩ := hrel
    by_cases hlt : i < n
    · have hltI : (i : Int) < n := by omega
      have hiL : i < L.length := by rw [HN.out]; exact hlt
      obtain ⟨g, cap, hv, -, -, -, hcell, -⟩ := H.out.row.open_ (by dsimp only; omega)
      dsimp only at hv hcell
      rw [HN.out] at hv
      injection hv with q1 q2 q3
      subst q1
      have a0 := (hcell i hiL).1
      clear hcell q2 q3
      by_cases hk : L[i].key = key
      · have HK := Lib.hid hk
        rw [hk] at a0
        clear hk
        go_wp2_with fail
        go_ret
        exact ⟨⟨i, .inr ⟨i, hiL, rfl, HK.out, findK_some_of hiL HK.out⟩, rfl⟩, Below.refl _ _⟩
      · have HK := Lib.hid hk
        obtain ⟨x, hx⟩ : ∃ x, L[i].key = x := ⟨_, rfl⟩
        rw [hx] at a0 hk
        have hkb : (x == key) = false := by simpa using hk
        have HX := Lib.hid hx
        clear hx
        go_wp2_with fail
        go_roundw
        case rel =>
          refine ⟨i + 1, by go_num, by omega, by trivial, fun j hj hji => ?_⟩
          by_cases hje : j = i
          · subst hje; exact HK.out
          · exact hno.out j hj (by omega)
        case measure => simp [intOf]; omega
    · have hltI : ¬ (i : Int) < n := by omega
      go_wp2_with fail
      go_ret
      exact ⟨⟨-1, .inl ⟨rfl, findK_none_of fun j hj => hno.out j hj (by have := HN.out; omega)⟩, rfl⟩, Below.refl _ _⟩

def NxtRes (s : QS) (r : Int) : Prop :=
  (s.L = [] ∧ r = -1) ∨ ∃ b, ∃ h : b < s.L.length, r = (b : Nat) ∧ ∀ y ∈ s.L, s.lt y s.L[b] = false

theorem ages_get {L : List Ent} (h : L.Pairwise fun a b => a.age < b.age) {i j : Nat} (hi : i < L.length) (hj : j < L.length) (hij : i < j) : L[i].age < L[j].age :=
  List.pairwise_iff_getElem.1 h i j hi hj hij

set_option maxRecDepth 100000 in
set_option maxHeartbeats 4000000 in
theorem nxt_r {F : Nat → Prop} {w : World} {d : Nat} {s : QS} {v : Value} (h : RefM F w d s v) (ok : SOk s) :
    Calls Try.prog 27 #[.pointer (some ⟨d, 0, none⟩)] w fun e w' => (∃ r, NxtRes s r ∧ e = .returned (.int .i64 r)) ∧ Below w.heap.size w w' := by
  obtain ⟨per, tak, put, L⟩ := s
  obtain ⟨a, c, rfl⟩ := h.row.shape
  have hl := ok.len
  have p1 := ok.per.1
  have p2 := ok.per.2
  have p3 := ok.tak.1
  have p4 := ok.tak.2
  have Hages := Lib.hid ok.ages
  clear ok
  dsimp only at *
  obtain ⟨n, hn⟩ : ∃ n, L.length = n := ⟨_, rfl⟩
  have hb0 : Blk w d #[.int .i64 per, .int .i64 tak, .int .i64 put, .slice a n c] 43 := by have := h.blk; dsimp only at this; rw [hn] at this; exact this
  have H := Lib.hid h.row
  have hnI : (n : Int) ≤ 800000 := by omega
  have HN := Lib.hid hn
  clear h hn
  rw [HN.out] at hl
  have p5 : ¬ per = 0 := by omega
  have p6 : IntKind.i64.wrap (tak + 1) = tak + 1 := IntWalk.i64_in _ (by omega)
  by_cases hn0 : n = 0
  · have hn0I : ((n : Int) == 0) = true := by subst hn0; rfl
    have HE : Hid (L = []) := List.eq_nil_of_length_eq_zero (by rw [HN.out]; exact hn0)
    have c3 : w.cell? ⟨d, 3, none⟩ = some (.slice a 0 c) := by have := hb0.cell (i := 3) rfl; rw [hn0] at this; exact this
    clear hn0I hn0
    go_enter Try.func27, Try.ntmps27
    go_wp2_with fail
    go_ret
    exact ⟨⟨-1, .inl ⟨HE.out, rfl⟩, rfl⟩, Below.refl _ _⟩
  · have hn0I : ¬ (n : Int) = 0 := by omega
    obtain ⟨g, cap, hv, -, -, -, hcell, -⟩ := H.out.open_ (by dsimp only; rw [HN.out]; omega)
    dsimp only at hv hcell
    injection hv with q1 q2 q3
    subst q1
    clear q2 q3 H
    have Hcell := Lib.hid hcell
    clear hcell
    have hcnt0 : (0 : Int) < n := by omega
    have c3 : w.cell? ⟨d, 3, none⟩ = some (.slice (some ⟨g, 0, none⟩) n c) := hb0.cell (i := 3) rfl
    have hmode : ∃ lm : Bool, Hid (((tak + 1).tmod per != 0) = lm) ∧ QS.lt ⟨per, tak, put, L⟩ = if lm then Hp.lighter else Hp.elder := by
      by_cases hm : (tak + 1).tmod per = 0
      · exact ⟨false, (show _ = _ by simp [hm]), by unfold QS.lt; rw [if_pos hm]; rfl⟩
      · exact ⟨true, (show _ = _ by simp [hm]), by unfold QS.lt; rw [if_neg hm]; rfl⟩
    obtain ⟨lm, hlm, hlt⟩ := hmode
    have Hlt := Lib.hid hlt
    clear hlt
    go_enter Try.func27, Try.ntmps27
    go_wp2_with fail
    go_loopw [3, 4] (fun bv iv wr => ∃ b i : Nat, bv = .int .i64 b ∧ iv = .int .i64 i ∧ b < i ∧ 1 ≤ i ∧ i ≤ n ∧ Hid (∀ j (hj : j < L.length) (hb : b < L.length), j < i → (if lm then Hp.lighter else Hp.elder) L[j] L[b] = false ∧ (j < b → L[b].weight < L[j].weight)) ∧ Hid (lm = false → b = 0) ∧ Below w.heap.size w wr) (fun _ iv _ => n - (intOf iv).toNat)
    case atStart =>
      refine ⟨0, 1, rfl, rfl, by omega, by omega, by omega, fun j hj hb hji => ?_, fun _ => rfl, Below.refl _ _⟩
      obtain rfl : j = 0 := by omega
      exact ⟨by cases lm <;> simp [Hp.lighter, Hp.elder], fun h => absurd h (by omega)⟩
    case round =>
      obtain ⟨b, i, rfl, rfl, hbi, hi1, hin, hbest, hb0m, hbw⟩ := hrel
      have hbw0 := hb0.below hbw
      by_cases hlt : i < n
      · have hltI : (i : Int) < n := by omega
        have hbI : (b : Int) < n := by omega
        have c3' : wr.cell? ⟨d, 3, none⟩ = some (.slice (some ⟨g, 0, none⟩) n c) := hbw0.cell (i := 3) rfl
        have hiL : i < L.length := by rw [HN.out]; exact hlt
        have hbL : b < L.length := by rw [HN.out]; omega
        have a1 := (Keep.refl (fun _ => True) w).below hbw _ _ _ trivial (Hcell.out i hiL).2.1
        have a2 := (Keep.refl (fun _ => True) w).below hbw _ _ _ trivial (Hcell.out b hbL).2.1
        obtain ⟨x, hx⟩ : ∃ x, L[i].weight = x := ⟨_, rfl⟩
        obtain ⟨y, hy⟩ : ∃ y, L[b].weight = y := ⟨_, rfl⟩
        rw [hx] at a1
        rw [hy] at a2
        have HX := Lib.hid hx; have HY := Lib.hid hy
        clear hx hy
        have c0 : wr.cell? ⟨d, 0, none⟩ = some (.int .i64 per) := hbw0.cell (i := 0) rfl
        have c1 : wr.cell? ⟨d, 1, none⟩ = some (.int .i64 tak) := hbw0.cell (i := 1) rfl
        go_wp2_with fail
        refine wp_region_noPanic (wp_region_need (S := fun w' => w'.cell? ⟨d, 3, none⟩ = some (.slice (some ⟨g, 0, none⟩) n c) ∧ w'.cell? ⟨d, 0, none⟩ = some (.int .i64 per) ∧ w'.cell? ⟨d, 1, none⟩ = some (.int .i64 tak) ∧ w'.cell? ⟨g, i * 3 + 1, none⟩ = some (.int .i64 x) ∧ w'.cell? ⟨g, b * 3 + 1, none⟩ = some (.int .i64 y)) (by kernel_rfl) ?_)
        have hS : (wr.drew).cell? ⟨d, 3, none⟩ = some (.slice (some ⟨g, 0, none⟩) n c) ∧ (wr.drew).cell? ⟨d, 0, none⟩ = some (.int .i64 per) ∧ (wr.drew).cell? ⟨d, 1, none⟩ = some (.int .i64 tak) ∧ (wr.drew).cell? ⟨g, i * 3 + 1, none⟩ = some (.int .i64 x) ∧ (wr.drew).cell? ⟨g, b * 3 + 1, none⟩ = some (.int .i64 y) := ⟨c3', c0, c1, a1, a2⟩
        refine wpN_pure (i := 0) (v := ?v1) rfl (by kernel_rfl) (fun _ _ _ h => h) (Or.inl ⟨by rfl, ?hy1⟩) ?hr1
        case hy1 => (intro wS hSw; go_simp; (try with_reducible rfl))
        try simp only [Act.put, List.setIfInBounds_toArray, List.set_cons_zero, List.set_cons_succ, List.getElem_toArray, List.getElem_cons_zero, List.getElem_cons_succ]
        refine wpN_pure (i := 1) (v := ?v2) rfl (by kernel_rfl) (fun _ _ _ h => h) (Or.inl ⟨by rfl, ?hy2⟩) ?hr2
        case hy2 => (intro wS hSw; go_simp; (try with_reducible rfl))
        try simp only [Act.put, List.setIfInBounds_toArray, List.set_cons_zero, List.set_cons_succ, List.getElem_toArray, List.getElem_cons_zero, List.getElem_cons_succ]
        refine wpN_pure (i := 2) (v := ?v3) rfl (by kernel_rfl) (fun _ _ _ h => h) (Or.inl ⟨by rfl, ?hy3⟩) ?hr3
        case hy3 => (intro wS hSw; go_simp; (try with_reducible rfl))
        try simp only [Act.put, List.setIfInBounds_toArray, List.set_cons_zero, List.set_cons_succ, List.getElem_toArray, List.getElem_cons_zero, List.getElem_cons_succ]
        refine wpN_takeD [4, 9, 10, 11] (i := 3) (v := ?v4) rfl (by kernel_rfl) (fun _ _ _ h => h) hS (Or.inl ⟨by rfl, ?hy4⟩) ?hr4
        case hy4 => (intro wS hSw; (try dsimp only at hSw); go_simp; (try with_reducible rfl))
        try simp only [Act.put, List.setIfInBounds_toArray, List.set_cons_zero, List.set_cons_succ, List.getElem_toArray, List.getElem_cons_zero, List.getElem_cons_succ]
        refine wpN_pure (i := 4) (v := ?v5) rfl (by kernel_rfl) (fun _ _ _ h => h) (Or.inl ⟨by rfl, ?hy5⟩) ?hr5
        case hy5 => (intro wS hSw; go_simp; (try with_reducible rfl))
        try simp only [Act.put, List.setIfInBounds_toArray, List.set_cons_zero, List.set_cons_succ, List.getElem_toArray, List.getElem_cons_zero, List.getElem_cons_succ]
        refine wpN_pure (i := 5) (v := ?v6) rfl (by kernel_rfl) (fun _ _ _ h => h) (Or.inl ⟨by rfl, ?hy6⟩) ?hr6
        case hy6 => (intro wS hSw; go_simp; (try with_reducible rfl))
        try simp only [Act.put, List.setIfInBounds_toArray, List.set_cons_zero, List.set_cons_succ, List.getElem_toArray, List.getElem_cons_zero, List.getElem_cons_succ]
        refine wpN_pure (i := 6) (v := ?v7) rfl (by kernel_rfl) (fun _ _ _ h => h) (Or.inl ⟨by rfl, ?hy7⟩) ?hr7
        case hy7 => (intro wS hSw; go_simp; (try with_reducible rfl))
        try simp only [Act.put, List.setIfInBounds_toArray, List.set_cons_zero, List.set_cons_succ, List.getElem_toArray, List.getElem_cons_zero, List.getElem_cons_succ]
        refine wpN_pure (i := 7) (v := ?v8) rfl (by kernel_rfl) (fun _ _ _ h => h) (Or.inl ⟨by rfl, ?hy8⟩) ?hr8
        case hy8 => (intro wS hSw; go_simp; (try with_reducible rfl))
        try simp only [Act.put, List.setIfInBounds_toArray, List.set_cons_zero, List.set_cons_succ, List.getElem_toArray, List.getElem_cons_zero, List.getElem_cons_succ]
        refine wpN_takeD [9, 10, 11] (i := 8) (v := ?v9) rfl (by kernel_rfl) (fun _ _ _ h => h) hS (Or.inl ⟨by rfl, ?hy9⟩) ?hr9
        case hy9 => (intro wS hSw; (try dsimp only at hSw); go_simp; (try with_reducible rfl))
        try simp only [Act.put, List.setIfInBounds_toArray, List.set_cons_zero, List.set_cons_succ, List.getElem_toArray, List.getElem_cons_zero, List.getElem_cons_succ]
        cases lm
        · have hmt : ((tak + 1).tmod per != 0) = false := hlm.out
          refine wpN_pure (i := 9) (v := ?v10) rfl (by kernel_rfl) (fun _ _ _ h => h) (Or.inl ⟨by rfl, ?hy10⟩) ?hr10
          case hy10 => (intro wS hSw; go_simp; (try with_reducible rfl))
          try simp only [Act.put, List.setIfInBounds_toArray, List.set_cons_zero, List.set_cons_succ, List.getElem_toArray, List.getElem_cons_zero, List.getElem_cons_succ]
          refine wpN_pure (i := 10) (v := ?v11) rfl (by kernel_rfl) (fun _ _ _ h => h) (Or.inl ⟨by rfl, ?hy11⟩) ?hr11
          case hy11 => (intro wS hSw; go_simp; (try with_reducible rfl))
          try simp only [Act.put, List.setIfInBounds_toArray, List.set_cons_zero, List.set_cons_succ, List.getElem_toArray, List.getElem_cons_zero, List.getElem_cons_succ]
          try rw [hmt]
          refine wpN_pure (i := 11) (v := ?v12) rfl (by kernel_rfl) (fun _ _ _ h => h) (Or.inl ⟨by rfl, ?hy12⟩) ?hr12
          case hy12 => (intro wS hSw; go_simp; (try with_reducible rfl))
          try simp only [Act.put, List.setIfInBounds_toArray, List.set_cons_zero, List.set_cons_succ, List.getElem_toArray, List.getElem_cons_zero, List.getElem_cons_succ]
          refine wpN_pure (i := 12) (v := undef) rfl (by kernel_rfl) (fun _ _ _ h => h) (Or.inr ⟨by rfl, rfl⟩) ?_
          try simp only [Act.put, List.setIfInBounds_toArray, List.set_cons_zero, List.set_cons_succ, List.getElem_toArray, List.getElem_cons_zero, List.getElem_cons_succ]
          refine wpN_pure (i := 13) (v := undef) rfl (by kernel_rfl) (fun _ _ _ h => h) (Or.inr ⟨by rfl, rfl⟩) ?_
          try simp only [Act.put, List.setIfInBounds_toArray, List.set_cons_zero, List.set_cons_succ, List.getElem_toArray, List.getElem_cons_zero, List.getElem_cons_succ]
          refine wpN_pure (i := 14) (v := undef) rfl (by kernel_rfl) (fun _ _ _ h => h) (Or.inr ⟨by rfl, rfl⟩) ?_
          try simp only [Act.put, List.setIfInBounds_toArray, List.set_cons_zero, List.set_cons_succ, List.getElem_toArray, List.getElem_cons_zero, List.getElem_cons_succ]
          refine wpN_pure (i := 15) (v := undef) rfl (by kernel_rfl) (fun _ _ _ h => h) (Or.inr ⟨by rfl, rfl⟩) ?_
          try simp only [Act.put, List.setIfInBounds_toArray, List.set_cons_zero, List.set_cons_succ, List.getElem_toArray, List.getElem_cons_zero, List.getElem_cons_succ]
          refine wpN_pure (i := 16) (v := undef) rfl (by kernel_rfl) (fun _ _ _ h => h) (Or.inr ⟨by rfl, rfl⟩) ?_
          try simp only [Act.put, List.setIfInBounds_toArray, List.set_cons_zero, List.set_cons_succ, List.getElem_toArray, List.getElem_cons_zero, List.getElem_cons_succ]
          refine wpN_pure (i := 17) (v := undef) rfl (by kernel_rfl) (fun _ _ _ h => h) (Or.inr ⟨by rfl, rfl⟩) ?_
          try simp only [Act.put, List.setIfInBounds_toArray, List.set_cons_zero, List.set_cons_succ, List.getElem_toArray, List.getElem_cons_zero, List.getElem_cons_succ]
          refine wpN_pure (i := 18) (v := undef) rfl (by kernel_rfl) (fun _ _ _ h => h) (Or.inr ⟨by rfl, rfl⟩) ?_
          try simp only [Act.put, List.setIfInBounds_toArray, List.set_cons_zero, List.set_cons_succ, List.getElem_toArray, List.getElem_cons_zero, List.getElem_cons_succ]
          refine wpN_pure (i := 19) (v := undef) rfl (by kernel_rfl) (fun _ _ _ h => h) (Or.inr ⟨by rfl, rfl⟩) ?_
          try simp only [Act.put, List.setIfInBounds_toArray, List.set_cons_zero, List.set_cons_succ, List.getElem_toArray, List.getElem_cons_zero, List.getElem_cons_succ]
          refine wpN_pure (i := 20) (v := undef) rfl (by kernel_rfl) (fun _ _ _ h => h) (Or.inr ⟨by rfl, rfl⟩) ?_
          try simp only [Act.put, List.setIfInBounds_toArray, List.set_cons_zero, List.set_cons_succ, List.getElem_toArray, List.getElem_cons_zero, List.getElem_cons_succ]
          refine wpN_pure (i := 21) (v := undef) rfl (by kernel_rfl) (fun _ _ _ h => h) (Or.inr ⟨by rfl, rfl⟩) ?_
          try simp only [Act.put, List.setIfInBounds_toArray, List.set_cons_zero, List.set_cons_succ, List.getElem_toArray, List.getElem_cons_zero, List.getElem_cons_succ]
          refine wpN_pure (i := 22) (v := undef) rfl (by kernel_rfl) (fun _ _ _ h => h) (Or.inr ⟨by rfl, rfl⟩) ?_
          try simp only [Act.put, List.setIfInBounds_toArray, List.set_cons_zero, List.set_cons_succ, List.getElem_toArray, List.getElem_cons_zero, List.getElem_cons_succ]
          refine wpN_pure (i := 23) (v := undef) rfl (by kernel_rfl) (fun _ _ _ h => h) (Or.inr ⟨by rfl, rfl⟩) ?_
          try simp only [Act.put, List.setIfInBounds_toArray, List.set_cons_zero, List.set_cons_succ, List.getElem_toArray, List.getElem_cons_zero, List.getElem_cons_succ]
          refine wpN_pure (i := 24) (v := undef) rfl (by kernel_rfl) (fun _ _ _ h => h) (Or.inr ⟨by rfl, rfl⟩) ?_
          try simp only [Act.put, List.setIfInBounds_toArray, List.set_cons_zero, List.set_cons_succ, List.getElem_toArray, List.getElem_cons_zero, List.getElem_cons_succ]
          refine wpN_pure (i := 25) (v := undef) rfl (by kernel_rfl) (fun _ _ _ h => h) (Or.inr ⟨by rfl, rfl⟩) ?_
          try simp only [Act.put, List.setIfInBounds_toArray, List.set_cons_zero, List.set_cons_succ, List.getElem_toArray, List.getElem_cons_zero, List.getElem_cons_succ]
          refine wpN_pure (i := 26) (v := undef) rfl (by kernel_rfl) (fun _ _ _ h => h) (Or.inr ⟨by rfl, rfl⟩) ?_
          try simp only [Act.put, List.setIfInBounds_toArray, List.set_cons_zero, List.set_cons_succ, List.getElem_toArray, List.getElem_cons_zero, List.getElem_cons_succ]
          refine wpN_pure (i := 27) (v := undef) rfl (by kernel_rfl) (fun _ _ _ h => h) (Or.inr ⟨by rfl, rfl⟩) ?_
          try simp only [Act.put, List.setIfInBounds_toArray, List.set_cons_zero, List.set_cons_succ, List.getElem_toArray, List.getElem_cons_zero, List.getElem_cons_succ]
          refine wpN_pure (i := 28) (v := undef) rfl (by kernel_rfl) (fun _ _ _ h => h) (Or.inr ⟨by rfl, rfl⟩) ?_
          try simp only [Act.put, List.setIfInBounds_toArray, List.set_cons_zero, List.set_cons_succ, List.getElem_toArray, List.getElem_cons_zero, List.getElem_cons_succ]
          refine wpN_pure (i := 29) (v := ?v13) rfl (by kernel_rfl) (fun _ _ _ h => h) (Or.inl ⟨by rfl, ?hy13⟩) ?hr13
          case hy13 => (intro wS hSw; go_simp; (try with_reducible rfl))
          try simp only [Act.put, List.setIfInBounds_toArray, List.set_cons_zero, List.set_cons_succ, List.getElem_toArray, List.getElem_cons_zero, List.getElem_cons_succ]
          refine wpN_done (by kernel_rfl) ?_
          refine NoPanic.normal ?_
          clear hmt
          have hbw2 := hbw.drew
          have Hb0 := Lib.hid (hb0m.out rfl)
          go_wp2_with fail
          go_roundw
          case rel =>
            refine ⟨b, i + 1, rfl, by go_num, by omega, by omega, by omega, fun j hj hb hji => ?_, fun _ => Hb0.out, hbw2⟩
            by_cases hje : j = i
            · subst hje
              refine ⟨?_, fun h => absurd h (by omega)⟩
              have := ages_get Hages.out hb hj (by omega)
              show Hp.elder _ _ = false
              simp [Hp.elder]; omega
            · exact hbest.out j hj hb (by omega)
          case measure => simp [intOf]; omega
        · have hmt : ((tak + 1).tmod per != 0) = true := hlm.out
          refine wpN_pure (i := 9) (v := ?v14) rfl (by kernel_rfl) (fun _ _ _ h => h) (Or.inl ⟨by rfl, ?hy14⟩) ?hr14
          case hy14 => (intro wS hSw; go_simp; (try with_reducible rfl))
          try simp only [Act.put, List.setIfInBounds_toArray, List.set_cons_zero, List.set_cons_succ, List.getElem_toArray, List.getElem_cons_zero, List.getElem_cons_succ]
          refine wpN_pure (i := 10) (v := ?v15) rfl (by kernel_rfl) (fun _ _ _ h => h) (Or.inl ⟨by rfl, ?hy15⟩) ?hr15
          case hy15 => (intro wS hSw; go_simp; (try with_reducible rfl))
          try simp only [Act.put, List.setIfInBounds_toArray, List.set_cons_zero, List.set_cons_succ, List.getElem_toArray, List.getElem_cons_zero, List.getElem_cons_succ]
          try rw [hmt]
          refine wpN_pure (i := 11) (v := ?v16) rfl (by kernel_rfl) (fun _ _ _ h => h) (Or.inl ⟨by rfl, ?hy16⟩) ?hr16
          case hy16 => (intro wS hSw; go_simp; (try with_reducible rfl))
          try simp only [Act.put, List.setIfInBounds_toArray, List.set_cons_zero, List.set_cons_succ, List.getElem_toArray, List.getElem_cons_zero, List.getElem_cons_succ]
          refine wpN_pure (i := 12) (v := ?v17) rfl (by kernel_rfl) (fun _ _ _ h => h) (Or.inl ⟨by rfl, ?hy17⟩) ?hr17
          case hy17 => (intro wS hSw; go_simp; (try with_reducible rfl))
          try simp only [Act.put, List.setIfInBounds_toArray, List.set_cons_zero, List.set_cons_succ, List.getElem_toArray, List.getElem_cons_zero, List.getElem_cons_succ]
          refine wpN_pure (i := 13) (v := ?v18) rfl (by kernel_rfl) (fun _ _ _ h => h) (Or.inl ⟨by rfl, ?hy18⟩) ?hr18
          case hy18 => (intro wS hSw; go_simp; (try with_reducible rfl))
          try simp only [Act.put, List.setIfInBounds_toArray, List.set_cons_zero, List.set_cons_succ, List.getElem_toArray, List.getElem_cons_zero, List.getElem_cons_succ]
          refine wpN_pure (i := 14) (v := ?v19) rfl (by kernel_rfl) (fun _ _ _ h => h) (Or.inl ⟨by rfl, ?hy19⟩) ?hr19
          case hy19 => (intro wS hSw; go_simp; (try with_reducible rfl))
          try simp only [Act.put, List.setIfInBounds_toArray, List.set_cons_zero, List.set_cons_succ, List.getElem_toArray, List.getElem_cons_zero, List.getElem_cons_succ]
          refine wpN_take (i := 15) (v := ?v20) rfl (by kernel_rfl) (fun _ _ _ h => h) hS (Or.inl ⟨by rfl, ?hy20⟩) ?hr20
          case hy20 => (intro wS hSw; (try dsimp only at hSw); go_simp; (try with_reducible rfl))
          try simp only [Act.put, List.setIfInBounds_toArray, List.set_cons_zero, List.set_cons_succ, List.getElem_toArray, List.getElem_cons_zero, List.getElem_cons_succ]
          refine wpN_pure (i := 16) (v := ?v21) rfl (by kernel_rfl) (fun _ _ _ h => h) (Or.inl ⟨by rfl, ?hy21⟩) ?hr21
          case hy21 => (intro wS hSw; go_simp; (try with_reducible rfl))
          try simp only [Act.put, List.setIfInBounds_toArray, List.set_cons_zero, List.set_cons_succ, List.getElem_toArray, List.getElem_cons_zero, List.getElem_cons_succ]
          refine wpN_take (i := 17) (v := ?v22) rfl (by kernel_rfl) (fun _ _ _ h => h) hS (Or.inl ⟨by rfl, ?hy22⟩) ?hr22
          case hy22 => (intro wS hSw; (try dsimp only at hSw); go_simp; (try with_reducible rfl))
          try simp only [Act.put, List.setIfInBounds_toArray, List.set_cons_zero, List.set_cons_succ, List.getElem_toArray, List.getElem_cons_zero, List.getElem_cons_succ]
          refine wpN_pure (i := 18) (v := ?v23) rfl (by kernel_rfl) (fun _ _ _ h => h) (Or.inl ⟨by rfl, ?hy23⟩) ?hr23
          case hy23 => (intro wS hSw; go_simp; (try with_reducible rfl))
          try simp only [Act.put, List.setIfInBounds_toArray, List.set_cons_zero, List.set_cons_succ, List.getElem_toArray, List.getElem_cons_zero, List.getElem_cons_succ]
          refine wpN_take (i := 19) (v := ?v24) rfl (by kernel_rfl) (fun _ _ _ h => h) hS (Or.inl ⟨by rfl, ?hy24⟩) ?hr24
          case hy24 => (intro wS hSw; (try dsimp only at hSw); go_simp; (try with_reducible rfl))
          try simp only [Act.put, List.setIfInBounds_toArray, List.set_cons_zero, List.set_cons_succ, List.getElem_toArray, List.getElem_cons_zero, List.getElem_cons_succ]
          refine wpN_pure (i := 20) (v := ?v25) rfl (by kernel_rfl) (fun _ _ _ h => h) (Or.inl ⟨by rfl, ?hy25⟩) ?hr25
          case hy25 => (intro wS hSw; go_simp; (try with_reducible rfl))
          try simp only [Act.put, List.setIfInBounds_toArray, List.set_cons_zero, List.set_cons_succ, List.getElem_toArray, List.getElem_cons_zero, List.getElem_cons_succ]
          refine wpN_pure (i := 21) (v := ?v26) rfl (by kernel_rfl) (fun _ _ _ h => h) (Or.inl ⟨by rfl, ?hy26⟩) ?hr26
          case hy26 => (intro wS hSw; go_simp; (try with_reducible rfl))
          try simp only [Act.put, List.setIfInBounds_toArray, List.set_cons_zero, List.set_cons_succ, List.getElem_toArray, List.getElem_cons_zero, List.getElem_cons_succ]
          refine wpN_pure (i := 22) (v := ?v27) rfl (by kernel_rfl) (fun _ _ _ h => h) (Or.inl ⟨by rfl, ?hy27⟩) ?hr27
          case hy27 => (intro wS hSw; go_simp; (try with_reducible rfl))
          try simp only [Act.put, List.setIfInBounds_toArray, List.set_cons_zero, List.set_cons_succ, List.getElem_toArray, List.getElem_cons_zero, List.getElem_cons_succ]
          refine wpN_take (i := 23) (v := ?v28) rfl (by kernel_rfl) (fun _ _ _ h => h) hS (Or.inl ⟨by rfl, ?hy28⟩) ?hr28
          case hy28 => (intro wS hSw; (try dsimp only at hSw); go_simp; (try with_reducible rfl))
          try simp only [Act.put, List.setIfInBounds_toArray, List.set_cons_zero, List.set_cons_succ, List.getElem_toArray, List.getElem_cons_zero, List.getElem_cons_succ]
          refine wpN_pure (i := 24) (v := ?v29) rfl (by kernel_rfl) (fun _ _ _ h => h) (Or.inl ⟨by rfl, ?hy29⟩) ?hr29
          case hy29 => (intro wS hSw; go_simp; (try with_reducible rfl))
          try simp only [Act.put, List.setIfInBounds_toArray, List.set_cons_zero, List.set_cons_succ, List.getElem_toArray, List.getElem_cons_zero, List.getElem_cons_succ]
          refine wpN_take (i := 25) (v := ?v30) rfl (by kernel_rfl) (fun _ _ _ h => h) hS (Or.inl ⟨by rfl, ?hy30⟩) ?hr30
          case hy30 => (intro wS hSw; (try dsimp only at hSw); go_simp; (try with_reducible rfl))
          try simp only [Act.put, List.setIfInBounds_toArray, List.set_cons_zero, List.set_cons_succ, List.getElem_toArray, List.getElem_cons_zero, List.getElem_cons_succ]
          refine wpN_pure (i := 26) (v := ?v31) rfl (by kernel_rfl) (fun _ _ _ h => h) (Or.inl ⟨by rfl, ?hy31⟩) ?hr31
          case hy31 => (intro wS hSw; go_simp; (try with_reducible rfl))
          try simp only [Act.put, List.setIfInBounds_toArray, List.set_cons_zero, List.set_cons_succ, List.getElem_toArray, List.getElem_cons_zero, List.getElem_cons_succ]
          refine wpN_take (i := 27) (v := ?v32) rfl (by kernel_rfl) (fun _ _ _ h => h) hS (Or.inl ⟨by rfl, ?hy32⟩) ?hr32
          case hy32 => (intro wS hSw; (try dsimp only at hSw); go_simp; (try with_reducible rfl))
          try simp only [Act.put, List.setIfInBounds_toArray, List.set_cons_zero, List.set_cons_succ, List.getElem_toArray, List.getElem_cons_zero, List.getElem_cons_succ]
          refine wpN_pure (i := 28) (v := ?v33) rfl (by kernel_rfl) (fun _ _ _ h => h) (Or.inl ⟨by rfl, ?hy33⟩) ?hr33
          case hy33 => (intro wS hSw; go_simp; (try with_reducible rfl))
          try simp only [Act.put, List.setIfInBounds_toArray, List.set_cons_zero, List.set_cons_succ, List.getElem_toArray, List.getElem_cons_zero, List.getElem_cons_succ]
          refine wpN_pure (i := 29) (v := ?v34) rfl (by kernel_rfl) (fun _ _ _ h => h) (Or.inl ⟨by rfl, ?hy34⟩) ?hr34
          case hy34 => (intro wS hSw; go_simp; (try with_reducible rfl))
          try simp only [Act.put, List.setIfInBounds_toArray, List.set_cons_zero, List.set_cons_succ, List.getElem_toArray, List.getElem_cons_zero, List.getElem_cons_succ]
          refine wpN_done (by kernel_rfl) ?_
          refine NoPanic.normal ?_
          clear hmt
          have hbw2 := hbw.drew
          by_cases hxy : x < y
          · have Hxy := Lib.hid hxy
            go_wp2_with fail
            go_roundw
            case rel =>
              refine ⟨i, i + 1, rfl, by go_num, by omega, by omega, by omega, fun j hj hb hji => ?_, (fun h => by cases h), hbw2⟩
              show Hp.lighter _ _ = false ∧ _
              by_cases hje : j = i
              · subst hje
                exact ⟨by simp [Hp.lighter], fun h => absurd h (by omega)⟩
              · have h1 : Hp.lighter L[j] L[b] = false := (hbest.out j hj hbL (by omega)).1
                have h2 : L[i].weight < L[b].weight := by rw [HX.out, HY.out]; exact Hxy.out
                have h3 : ¬ L[j].weight < L[b].weight := fun h => by
                  have : Hp.lighter L[j] L[b] = true := by simp [Hp.lighter, h]
                  rw [this] at h1; cases h1
                exact ⟨by simp [Hp.lighter]; omega, fun _ => by omega⟩
            case measure => simp [intOf]; omega
          · have Hxy := Lib.hid hxy
            go_wp2_with fail
            go_roundw
            case rel =>
              refine ⟨b, i + 1, rfl, by go_num, by omega, by omega, by omega, fun j hj hb hji => ?_, (fun h => by cases h), hbw2⟩
              by_cases hje : j = i
              · subst hje
                refine ⟨?_, fun h => absurd h (by omega)⟩
                have h2 : ¬ L[j].weight < L[b].weight := by rw [HX.out, HY.out]; exact Hxy.out
                have := ages_get Hages.out hb hj (by omega)
                show Hp.lighter _ _ = false
                simp [Hp.lighter]; omega
              · exact hbest.out j hj hb (by omega)
            case measure => simp [intOf]; omega
      · have hie : i = n := by omega
        have hltI : ¬ (i : Int) < n := by omega
        have hbI : (b : Int) < n := by omega
        have c3' : wr.cell? ⟨d, 3, none⟩ = some (.slice (some ⟨g, 0, none⟩) n c) := hbw0.cell (i := 3) rfl
        clear hie
        go_wp2_with fail
        go_ret
        have hbL : b < L.length := by rw [HN.out]; omega
        refine ⟨⟨b, .inr ⟨b, hbL, rfl, fun y hy => ?_⟩, rfl⟩, hbw⟩
        obtain ⟨j, hj, rfl⟩ := List.getElem_of_mem hy
        rw [Hlt.out]
        exact (hbest.out j hj hbL (by have := HN.out; dsimp only at hj; omega)).1

theorem results_entR {fn : Func} {c u : Tmp} (h : fn.results = #[.cell c 47, .tmp u]) (tmps : Array Value) (w : World) {r : Nat} (hp : tmps.getD c undef = .pointer (some ⟨r, 0, none⟩)) {e : Ent} (hb : Blk w r #[.int .i64 e.key, .int .i64 e.weight, .int .i64 e.age] 47) :
    (results fn tmps).run Try.prog w = .ok (.tuple #[e.v, tmps.getD u undef]) w := by
  have c0 := hb.cell (i := 0) rfl; have c1 := hb.cell (i := 1) rfl; have c2 := hb.cell (i := 2) rfl
  rw [Array.getD_eq_getD_getElem?] at hp
  simp [results, h, hp]
  go_simp
  rfl

set_option maxRecDepth 100000 in
set_option maxHeartbeats 4000000 in
theorem peek_r {F : Nat → Prop} {w : World} {d : Nat} {s : QS} {v : Value} (h : RefM F w d s v) (ok : SOk s) :
    Calls Try.prog 17 #[.pointer (some ⟨d, 0, none⟩)] w fun e w' => PeekRes s e ∧ Below w.heap.size w w' := by
  obtain ⟨wB, hwB⟩ : ∃ wB, w.alloc (.cells #[.int .i64 0, .int .i64 0, .int .i64 0] 47) = wB := ⟨_, rfl⟩
  have B0 : Below w.heap.size w wB := by rw [← hwB]; exact (Below.refl _ _).alloc (Nat.le_refl _) _
  have x0 : Blk wB w.heap.size #[.int .i64 0, .int .i64 0, .int .i64 0] 47 := by rw [← hwB]; exact Blk.new _ _ _ rfl
  have h1 : RefM (fun _ => True) wB d s v := { h with blk := h.blk.below B0, row := h.row.below B0, fd := trivial, fv := fun _ _ => trivial }
  have H1 := Lib.hid h1
  have OK := Lib.hid ok
  clear h ok h1
  go_enter Try.func17, Try.ntmps17
  go_wp2_with fail
  try rw [hwB]
  clear hwB
  refine (nxt_r H1.out OK.out).mono ?_
  rintro e w1 ⟨⟨r, hres, rfl⟩, hb⟩
  have x1 := x0.below hb
  have B1 := B0.trans (hb.mono B0.size)
  have hblk := H1.out.blk.below hb
  have hrow := H1.out.row.below hb
  have hx1 := x1.lt
  have f1 := x1.free 0; have f2 := x1.free 1; have f3 := x1.free 2
  have d0 := x1.cell (i := 0) rfl; have d1 := x1.cell (i := 1) rfl; have d2 := x1.cell (i := 2) rfl
  clear x0 B0 hb H1
  rcases hres with ⟨hL, rfl⟩ | ⟨b, hbL, rfl, hmin⟩
  · have HL := Lib.hid hL; clear hL
    clear hblk hrow
    go_wp2_with fail
    have z := ((x1.set 0 (.int .i64 0)).set 1 (.int .i64 0)).set 2 (.int .i64 0)
    (try simp only [Exit.inBlock, Exit.then]); refine bodyPost_ret (results_entR rfl _ _ rfl (e := ⟨0, 0, 0⟩) z) rfl ?_
    exact ⟨.inl ⟨HL.out, rfl⟩, ((B1.setCell (p := ⟨w.heap.size, 0, none⟩) (Nat.le_refl _) _).setCell (p := ⟨w.heap.size, 1, none⟩) (Nat.le_refl _) _).setCell (p := ⟨w.heap.size, 2, none⟩) (Nat.le_refl _) _⟩
  · have HM := Lib.hid hmin; clear hmin
    have hlen := OK.out.len
    obtain ⟨per, tak, put, L⟩ := s
    replace hbL : b < L.length := hbL
    replace hlen : L.length ≤ 800000 := hlen
    obtain ⟨g, cap, rfl, -, -, -, hcell, -⟩ := hrow.open_ (show 0 < L.length by omega)
    replace hcell := fun i (hi : i < L.length) => hcell i hi
    dsimp only at hcell
    obtain ⟨a0, a1, a2⟩ := hcell b hbL
    obtain ⟨n, hn⟩ : ∃ n, L.length = n := ⟨_, rfl⟩
    have c3 : w1.cell? ⟨d, 3, none⟩ = some (.slice (some ⟨g, 0, none⟩) n cap) := by have := hblk.cell (i := 3) rfl; rw [hn] at this; exact this
    have hbI : (b : Int) < n := by omega
    have hb0I : (0 : Int) ≤ b := by omega
    have hbn : ¬ (b : Int) < 0 := by omega
    obtain ⟨x, hx⟩ : ∃ x, L[b] = x := ⟨_, rfl⟩
    rw [hx] at a0 a1 a2
    have HX := Lib.hid hx
    obtain ⟨xk, xw, xg⟩ := x
    dsimp only at a0 a1 a2
    clear hx hn hrow hcell hblk
    go_wp2_with fail
    have z := ((x1.set 0 (.int .i64 xk)).set 1 (.int .i64 xw)).set 2 (.int .i64 xg)
    (try simp only [Exit.inBlock, Exit.then]); refine bodyPost_ret (results_entR rfl _ _ rfl (e := ⟨xk, xw, xg⟩) z) rfl ?_
    exact ⟨.inr ⟨⟨xk, xw, xg⟩, by rw [← HX.out]; exact List.getElem_mem hbL, fun y hy => by rw [← HX.out]; exact HM.out y hy, rfl⟩, ((B1.setCell (p := ⟨w.heap.size, 0, none⟩) (Nat.le_refl _) _).setCell (p := ⟨w.heap.size, 1, none⟩) (Nat.le_refl _) _).setCell (p := ⟨w.heap.size, 2, none⟩) (Nat.le_refl _) _⟩
end Go.Proofs.Ytplfbdkljnblmaa

namespace Go.Proofs.Ytplfbdkljnblmaa
open Go.RowKit Go.Maps

theorem RefM.below {F : Nat → Prop} {w w' : World} {d : Nat} {s : QS} {v : Value} (h : RefM F w d s v) (hb : Below w.heap.size w w') : RefM F w' d s v :=
  { h with blk := h.blk.below hb, row := h.row.below hb }

theorem newE {w : World} {X : Nat} {x : Ent} {F : Nat → Prop} {t : TypeId} (b : Blk w X #[.int .i64 x.key, .int .i64 x.weight, .int .i64 x.age] t) : IsSl2 rpE (fun _ => True) F w (.slice (some ⟨X, 0, none⟩) 1 1) [x] :=
  ⟨_, 1, X, 0, fun _ => [.int .i64 x.key, .int .i64 x.weight, .int .i64 x.age], rfl, ⟨by simp [maxLen], by simp⟩, fun _ => ⟨rfl, trivial⟩, fun i j u hi hu => by
    obtain rfl : i = 0 := by simp at hi; omega
    exact b.cell (by simpa using hu), fun i hi => by
    obtain rfl : i = 0 := by simp at hi; omega
    rfl⟩
theorem ownBlock_len {a : Option Addr} {n n' c : Nat} : (Value.slice a n c).ownBlock = (Value.slice a n' c).ownBlock := by cases a <;> rfl

set_option maxRecDepth 100000 in
set_option maxHeartbeats 4000000 in
theorem put_r {F : Nat → Prop} {w : World} {d : Nat} {s : QS} (h : RefAt F w d s) (ok : SOk s) (hp : s.put ≤ 799999) (hF : ∀ k, w.heap.size ≤ k → F k) (key weight : Int) :
    Calls Try.prog 13 #[.pointer (some ⟨d, 0, none⟩), .int .i64 key, .int .i64 weight] w fun e w' => ∃ s', PutRes s key weight e s' ∧ RefAt F w' d s' ∧ Off F w w' := by
  obtain ⟨i0, hi0, hz0, hz1, hz2⟩ := info_parts infoR
  obtain ⟨v, h⟩ := h
  have H := Lib.hid h
  have OK := Lib.hid ok
  clear h ok
  go_enter Try.func13, Try.ntmps13
  go_wp2_with fail
  refine (place_r H.out OK.out.len key).mono ?_
  rintro e w1 ⟨⟨r, hres, rfl⟩, hb⟩
  have H1 := Lib.hid (H.out.below hb)
  have Hb := Lib.hid hb
  clear hb H
  rcases hres with ⟨rfl, hno⟩ | ⟨i, hi, rfl, hk, hsome⟩
  rotate_left
  · have hge : (i : Int) ≥ 0 := by omega
    have HS := Lib.hid hsome
    clear hi hk hsome
    go_wp2_with fail
    go_ret
    exact ⟨_, .inl ⟨HS.out, rfl, rfl⟩, ⟨_, H1.out⟩, Off.of_below _ Hb.out⟩
  have HN := Lib.hid hno
  clear hno
  obtain ⟨per, tak, put, L⟩ := s
  have hlen := OK.out.len
  replace hlen : L.length ≤ 800000 := hlen
  replace hp : put ≤ 799999 := hp
  obtain ⟨a, c, rfl⟩ := H1.out.row.shape
  obtain ⟨n, hn⟩ : ∃ n, L.length = n := ⟨_, rfl⟩
  have q1 : Blk w1 d #[.int .i64 per, .int .i64 tak, .int .i64 put, .slice a n c] 43 := by have := H1.out.blk; dsimp only at this; rw [hn] at this; exact this
  have r1 : RowR w1 0 (.slice a n c) L := by have := H1.out.row; dsimp only at this; rw [hn] at this; exact this
  have vd : (Value.slice a n c).ownBlock ≠ some d := by rw [ownBlock_len]; exact H1.out.vd
  have fd : F d := H1.out.fd
  have fv : ∀ g, (Value.slice a n c).ownBlock = some g → F g := by rw [ownBlock_len]; exact H1.out.fv
  rw [hn] at hlen
  have HNl := Lib.hid hn
  clear hn
  have c3 : w1.cell? ⟨d, 3, none⟩ = some (.slice a n c) := q1.cell rfl
  by_cases hl : n = 10000
  · have HL := Lib.hid hl
    subst hl
    have hM : RefM F w1 d ⟨per, tak, put, L⟩ (.slice a 10000 c) := ⟨q1, r1, vd, fd, fv⟩
    have HM := Lib.hid hM
    clear hM q1 r1 vd fv H1
    go_wp2_with fail
    go_ret
    exact ⟨_, .inr (.inl ⟨HN.out, HNl.out, rfl, rfl⟩), ⟨_, HM.out⟩, Off.of_below _ Hb.out⟩
  · have hlI : ¬ (n : Int) = 10000 := by omega
    have hpI : (put : Int) ≤ 799999 := by omega
    have hp0 : (0 : Int) ≤ put := by omega
    have c2 : w1.cell? ⟨d, 2, none⟩ = some (.int .i64 put) := q1.cell rfl
    go_wp2_with fail
    refine wp_region_noPanic (wp_region_need (S := fun w' => w'.cell? ⟨d, 3, none⟩ = some (.slice a n c) ∧ w'.cell? ⟨d, 2, none⟩ = some (.int .i64 put)) (by kernel_rfl) ?_)
    have hS : (w1.drew).cell? ⟨d, 3, none⟩ = some (.slice a n c) ∧ (w1.drew).cell? ⟨d, 2, none⟩ = some (.int .i64 put) := ⟨c3, c2⟩
    refine wpN_take (i := 0) (v := ?v1) rfl (by kernel_rfl) (fun _ _ _ h => h) hS (Or.inl ⟨by rfl, ?hy1⟩) ?hr1
    case hy1 => (intro wS hSw; (try dsimp only at hSw); go_simp; (try with_reducible rfl))
    try simp only [Act.put, List.setIfInBounds_toArray, List.set_cons_zero, List.set_cons_succ, List.getElem_toArray, List.getElem_cons_zero, List.getElem_cons_succ]
    refine wpN_take (i := 1) (v := ?v2) rfl (by kernel_rfl) (fun _ _ _ h => h) hS (Or.inl ⟨by rfl, ?hy2⟩) ?hr2
    case hy2 => (intro wS hSw; (try dsimp only at hSw); go_simp; (try with_reducible rfl))
    try simp only [Act.put, List.setIfInBounds_toArray, List.set_cons_zero, List.set_cons_succ, List.getElem_toArray, List.getElem_cons_zero, List.getElem_cons_succ]
    refine wpN_take (i := 2) (v := ?v3) rfl (by kernel_rfl) (fun _ _ _ h => h) hS (Or.inl ⟨by rfl, ?hy3⟩) ?hr3
    case hy3 => (intro wS hSw; (try dsimp only at hSw); go_simp; (try with_reducible rfl))
    try simp only [Act.put, List.setIfInBounds_toArray, List.set_cons_zero, List.set_cons_succ, List.getElem_toArray, List.getElem_cons_zero, List.getElem_cons_succ]
    refine wpN_take (i := 3) (v := ?v4) rfl (by kernel_rfl) (fun _ _ _ h => h) hS (Or.inl ⟨by rfl, ?hy4⟩) ?hr4
    case hy4 => (intro wS hSw; (try dsimp only at hSw); go_simp; (try with_reducible rfl))
    try simp only [Act.put, List.setIfInBounds_toArray, List.set_cons_zero, List.set_cons_succ, List.getElem_toArray, List.getElem_cons_zero, List.getElem_cons_succ]
    refine wpN_take (i := 4) (v := ?v5) rfl (by kernel_rfl) (fun _ _ _ h => h) hS (Or.inl ⟨by rfl, ?hy5⟩) ?hr5
    case hy5 => (intro wS hSw; (try dsimp only at hSw); go_simp; (try with_reducible rfl))
    try simp only [Act.put, List.setIfInBounds_toArray, List.set_cons_zero, List.set_cons_succ, List.getElem_toArray, List.getElem_cons_zero, List.getElem_cons_succ]
    refine wpN_take (i := 5) (v := ?v6) rfl (by kernel_rfl) (fun _ _ _ h => h) hS (Or.inl ⟨by rfl, ?hy6⟩) ?hr6
    case hy6 => (intro wS hSw; (try dsimp only at hSw); go_simp; (try with_reducible rfl))
    try simp only [Act.put, List.setIfInBounds_toArray, List.set_cons_zero, List.set_cons_succ, List.getElem_toArray, List.getElem_cons_zero, List.getElem_cons_succ]
    refine wpN_take (i := 6) (v := ?v7) rfl (by kernel_rfl) (fun _ _ _ h => h) hS (Or.inl ⟨by rfl, ?hy7⟩) ?hr7
    case hy7 => (intro wS hSw; (try dsimp only at hSw); go_simp; (try with_reducible rfl))
    try simp only [Act.put, List.setIfInBounds_toArray, List.set_cons_zero, List.set_cons_succ, List.getElem_toArray, List.getElem_cons_zero, List.getElem_cons_succ]
    refine wpN_take (i := 7) (v := ?v8) rfl (by kernel_rfl) (fun _ _ _ h => h) hS (Or.inl ⟨by rfl, ?hy8⟩) ?hr8
    case hy8 => (intro wS hSw; (try dsimp only at hSw); go_simp; (try with_reducible rfl))
    try simp only [Act.put, List.setIfInBounds_toArray, List.set_cons_zero, List.set_cons_succ, List.getElem_toArray, List.getElem_cons_zero, List.getElem_cons_succ]
    refine wpN_take (i := 8) (v := ?v9) rfl (by kernel_rfl) (fun _ _ _ h => h) hS (Or.inl ⟨by rfl, ?hy9⟩) ?hr9
    case hy9 => (intro wS hSw; (try dsimp only at hSw); go_simp; (try with_reducible rfl))
    try simp only [Act.put, List.setIfInBounds_toArray, List.set_cons_zero, List.set_cons_succ, List.getElem_toArray, List.getElem_cons_zero, List.getElem_cons_succ]
    refine wpN_take (i := 9) (v := ?v10) rfl (by kernel_rfl) (fun _ _ _ h => h) hS (Or.inl ⟨by rfl, ?hy10⟩) ?hr10
    case hy10 => (intro wS hSw; (try dsimp only at hSw); go_simp; (try with_reducible rfl))
    try simp only [Act.put, List.setIfInBounds_toArray, List.set_cons_zero, List.set_cons_succ, List.getElem_toArray, List.getElem_cons_zero, List.getElem_cons_succ]
    refine wpN_take (i := 10) (v := ?v11) rfl (by kernel_rfl) (fun _ _ _ h => h) hS (Or.inl ⟨by rfl, ?hy11⟩) ?hr11
    case hy11 => (intro wS hSw; (try dsimp only at hSw); go_simp; (try with_reducible rfl))
    try simp only [Act.put, List.setIfInBounds_toArray, List.set_cons_zero, List.set_cons_succ, List.getElem_toArray, List.getElem_cons_zero, List.getElem_cons_succ]
    refine wpN_take (i := 11) (v := ?v12) rfl (by kernel_rfl) (fun _ _ _ h => h) hS (Or.inl ⟨by rfl, ?hy12⟩) ?hr12
    case hy12 => (intro wS hSw; (try dsimp only at hSw); go_simp; (try with_reducible rfl))
    try simp only [Act.put, List.setIfInBounds_toArray, List.set_cons_zero, List.set_cons_succ, List.getElem_toArray, List.getElem_cons_zero, List.getElem_cons_succ]
    refine wpN_step (i := 12) (by kernel_rfl) rfl (fun K hK => ?_)
    go_simp
    obtain ⟨wC, hwC⟩ : ∃ wC, (w1.alloc (.cells #[.int .i64 key, .int .i64 weight, .int .i64 put] 47)).drew = wC := ⟨_, rfl⟩
    have B2 : Below w1.heap.size w1 wC := by rw [← hwC]; exact ((Below.refl _ _).alloc (Nat.le_refl _) _).drew
    have y2 : Blk wC w1.heap.size #[.int .i64 key, .int .i64 weight, .int .i64 put] 47 := by rw [← hwC]; exact (Blk.new _ _ _ rfl).drew
    have q2 := q1.below B2
    have r2 := r1.below B2
    rw [hwC]
    clear hwC c3 c2
    have hS : (wC).cell? ⟨d, 3, none⟩ = some (.slice a n c) ∧ (wC).cell? ⟨d, 2, none⟩ = some (.int .i64 put) := ⟨q2.cell rfl, q2.cell rfl⟩
    refine hK.out _ _ (fun _ => hS) ?_
    clear hK K
    try simp only [Act.put, List.setIfInBounds_toArray, List.set_cons_zero, List.set_cons_succ, List.getElem_toArray, List.getElem_cons_zero, List.getElem_cons_succ]
    refine wpN_step (i := 13) (by kernel_rfl) rfl (fun K hK => ?_)
    obtain ⟨v', w3, hrun, hacc, hg, hloc⟩ := run_append_sl rpE (by decide) (P := Try.prog) wC 41 41 0 47 i0 _ 24 Try.underlying41 hi0 hz0 hz1 hz2 rfl (by decide) (fun _ => True) (.slice a n c) L (row_accR r2) _ [⟨key, weight, put⟩] (newE y2) (by rw [HNl.out]; simp; omega) (Nat.zero_le _)
    rw [if_pos (by rfl)]
    refine oper_append_eq (.tmp 21) (.tmp 29) _ _ v' rfl hrun ?_
    try simp only [Act.put, List.setIfInBounds_toArray, List.set_cons_zero, List.set_cons_succ, List.getElem_toArray, List.getElem_cons_zero, List.getElem_cons_succ]
    have B3 : Off F w w3 := (Off.of_below F (Hb.out.trans (B2.mono Hb.out.size))).grown hg (fun k hk => fv k hk)
    have q3 := q2.grown hg vd
    have r3 := acc_rowR hacc
    have vd3 : v'.ownBlock ≠ some d := fun e => by
      rcases hloc with h | h
      · exact vd (by rw [← h]; exact e)
      · have : d = wC.heap.size := by rw [e] at h; exact Option.some.inj h
        have := q2.lt; omega
    have fv3 : ∀ g, v'.ownBlock = some g → F g := fun g hgo => by
      rcases hloc with h | h
      · exact fv g (by rw [← h]; exact hgo)
      · have : g = wC.heap.size := by rw [hgo] at h; exact Option.some.inj h
        exact hF g (by have := Hb.out.size; have := B2.size; omega)
    obtain ⟨a3, k3, rfl⟩ := r3.shape
    obtain ⟨N, hN⟩ : ∃ N, (L ++ [(⟨key, weight, put⟩ : Ent)]).length = N := ⟨_, rfl⟩
    rw [hN] at r3 vd3 fv3 ⊢
    have R3 := Lib.hid r3; have V3 := Lib.hid vd3; have W3 := Lib.hid fv3; have O3 := Lib.hid B3
    clear hN hrun hacc hg hloc r3 vd3 fv3 B3 q2 r2 y2 B2 q1 r1 H1
    have hS : (w3).cell? ⟨d, 3, none⟩ = some (.slice a n c) ∧ (w3).cell? ⟨d, 2, none⟩ = some (.int .i64 put) := ⟨q3.cell rfl, q3.cell rfl⟩
    refine hK.out _ _ (fun _ => hS) ?_
    clear hK K
    try simp only [Act.put, List.setIfInBounds_toArray, List.set_cons_zero, List.set_cons_succ, List.getElem_toArray, List.getElem_cons_zero, List.getElem_cons_succ]
    refine wpN_pure (i := 14) (v := ?v13) rfl (by kernel_rfl) (fun _ _ _ h => h) (Or.inl ⟨by rfl, ?hy13⟩) ?hr13
    case hy13 => (intro wS hSw; go_simp; (try with_reducible rfl))
    try simp only [Act.put, List.setIfInBounds_toArray, List.set_cons_zero, List.set_cons_succ, List.getElem_toArray, List.getElem_cons_zero, List.getElem_cons_succ]
    refine wpN_pure (i := 15) (v := ?v14) rfl (by kernel_rfl) (fun _ _ _ h => h) (Or.inl ⟨by rfl, ?hy14⟩) ?hr14
    case hy14 => (intro wS hSw; go_simp; (try with_reducible rfl))
    try simp only [Act.put, List.setIfInBounds_toArray, List.set_cons_zero, List.set_cons_succ, List.getElem_toArray, List.getElem_cons_zero, List.getElem_cons_succ]
    have f3 := q3.free 3
    refine wpN_step (i := 16) (by kernel_rfl) rfl (fun K hK => ?_)
    go_simp
    refine hK.out _ _ (fun h => absurd h (by decide)) ?_
    clear hK K
    try simp only [Act.put, List.setIfInBounds_toArray, List.set_cons_zero, List.set_cons_succ, List.getElem_toArray, List.getElem_cons_zero, List.getElem_cons_succ]
    refine wpN_done (by kernel_rfl) ?_
    refine NoPanic.normal ?_
    have q4 := q3.set 3 (.slice a3 N k3)
    have r4 := R3.out.far ⟨d, 3, none⟩ (.slice a3 N k3) V3.out
    have O4 := O3.out.set ⟨d, 3, none⟩ (.slice a3 N k3) (.inl fd)
    obtain ⟨w4, hw4⟩ : ∃ w4, w3.setCell ⟨d, 3, none⟩ (.slice a3 N k3) = w4 := ⟨_, rfl⟩
    rw [hw4] at q4 r4 O4 ⊢
    have R4 := Lib.hid r4; have OO4 := Lib.hid O4
    have c2 : w4.cell? ⟨d, 2, none⟩ = some (.int .i64 put) := q4.cell rfl
    have g2 := q4.free 2
    clear hw4 q3 R3 r4 O4 f3 O3
    go_wp2_with fail
    go_ret
    refine ⟨QS.more ⟨per, tak, put, L⟩ ⟨key, weight, put⟩, .inr (.inr ⟨HN.out, by show L.length ≠ 10000; rw [HNl.out]; exact hl, rfl, rfl⟩), ⟨(.slice a3 N k3), ?_⟩, OO4.out.set ⟨d, 2, none⟩ _ (.inl fd)⟩
    exact { blk := q4.set 2 (.int .i64 ((put : Int) + 1)), row := R4.out.far ⟨d, 2, none⟩ _ V3.out, vd := V3.out, fd := fd, fv := W3.out }
end Go.Proofs.Ytplfbdkljnblmaa

namespace Go.Proofs.Ytplfbdkljnblmaa
open Go.RowKit Go.Maps

theorem RowR.base0 {w : World} {base : Nat} {v : Value} {l : List Ent} (h : RowR w base v l) : RowR w 0 v l := by
  rcases h with ⟨h1, h2 | ⟨g, cap, cur, rfl, hb, hc, h3⟩⟩
  · exact ⟨h1, .inl h2⟩
  · exact ⟨h1, .inr ⟨g, cap, cur, rfl, Nat.zero_le _, hc, h3⟩⟩
theorem RowR.empty (w : World) : RowR (w.alloc (.cells #[] 47)) w.heap.size (.slice (some ⟨w.heap.size, 0, none⟩) 0 0) [] :=
  ⟨rfl, .inr ⟨w.heap.size, 0, #[], rfl, Nat.le_refl _, Blk.new w #[] 47 rfl, Nat.le_refl _, by simp [maxLen], rfl, rfl⟩⟩
def CellsE (w : World) (g : Nat) (L : List Ent) : Prop := ∀ i (hi : i < L.length), w.cell? ⟨g, i * 3, none⟩ = some (.int .i64 L[i].key) ∧ w.cell? ⟨g, i * 3 + 1, none⟩ = some (.int .i64 L[i].weight) ∧ w.cell? ⟨g, i * 3 + 2, none⟩ = some (.int .i64 L[i].age)
theorem CellsE.keep {w w' : World} {g : Nat} {L : List Ent} (h : CellsE w g L) (hk : Keep (fun k => k = g) w w') : CellsE w' g L :=
  fun i hi => ⟨hk _ _ _ rfl (h i hi).1, hk _ _ _ rfl (h i hi).2.1, hk _ _ _ rfl (h i hi).2.2⟩
theorem sl_part {w : World} {g : Nat} {L : List Ent} (h : CellsE w g L) (lo m c : Nat) (hm : lo + m ≤ L.length) (hL : L.length ≤ 800000) (hc : m ≤ c) (a : Option Addr) (ha : 0 < m → a = some ⟨g, lo * 3, none⟩) {F : Nat → Prop} :
    IsSl2 rpE (fun _ => True) F w (.slice a m c) ((L.drop lo).take m) := by
  have hl : ((L.drop lo).take m).length = m := by simp; omega
  have hX : ∀ i (hi : i < m), ((L.drop lo).take m)[i]'(by omega) = L[lo + i]'(by omega) := fun i hi => by simp
  refine ⟨a, c, g, lo * 3, fun i => if hi : i < m then [.int .i64 (L[lo + i]'(by omega)).key, .int .i64 (L[lo + i]'(by omega)).weight, .int .i64 (L[lo + i]'(by omega)).age] else [], by rw [hl], ⟨by rw [hl]; simp only [maxLen]; omega, by omega⟩, fun h0 => ⟨ha (by omega), trivial⟩, fun i j u hi hu => ?_, fun i hi => ?_⟩
  · rw [hl] at hi
    simp only [dif_pos hi] at hu
    obtain ⟨c0, c1, c2⟩ := h (lo + i) (by omega)
    have e : lo * 3 + i * rpE.n + j = (lo + i) * 3 + j := by show lo * 3 + i * 3 + j = _; omega
    rw [e]
    match j, hu with
    | 0, hu => cases hu; exact c0
    | 1, hu => cases hu; exact c1
    | 2, hu => cases hu; exact c2
    | j + 3, hu => simp at hu
  · rw [hl] at hi
    show (if hi : i < m then _ else _) = _
    rw [dif_pos hi, hX i hi]

def QS.without (s : QS) (i : Nat) : QS := { s with L := s.L.take i ++ s.L.drop (i + 1) }

set_option maxRecDepth 100000 in
set_option maxHeartbeats 4000000 in
theorem less_r {F : Nat → Prop} {w : World} {d : Nat} {s : QS} (h : RefAt F w d s) (hlen : s.L.length ≤ 800000) (hF : ∀ k, w.heap.size ≤ k → F k) (i : Nat) (hi : i < s.L.length) :
    Calls Try.prog 26 #[.pointer (some ⟨d, 0, none⟩), .int .i64 i] w fun e w' => e = .returned (.tuple #[]) ∧ RefAt F w' d (s.without i) ∧ Off F w w' := by
  obtain ⟨i0, hi0, hz0, hz1, hz2⟩ := info_parts infoR
  obtain ⟨v, h⟩ := h
  obtain ⟨per, tak, put, L⟩ := s
  replace hlen : L.length ≤ 800000 := hlen
  replace hi : i < L.length := hi
  have hr : RowR w 0 v L := h.row
  obtain ⟨g, c, rfl, -, hnc, hcm, hcell, -⟩ := hr.open_ (by omega)
  obtain ⟨n, hn⟩ : ∃ n, L.length = n := ⟨_, rfl⟩
  rw [hn] at hr hlen hi hnc
  have q1 : Blk w d #[.int .i64 per, .int .i64 tak, .int .i64 put, .slice (some ⟨g, 0, none⟩) n c] 43 := by have := h.blk; dsimp only at this; rw [hn] at this; exact this
  have vd : g ≠ d := fun e => h.vd (by rw [← e]; rfl)
  have fd : F d := h.fd
  have fv : F g := h.fv g rfl
  have gl : g < w.heap.size := (hr.base_le g rfl).2
  have HN := Lib.hid hn; have Hcell := Lib.hid hcell; have Hr := Lib.hid hr
  clear hn hcell h hr
  have c3 : w.cell? ⟨d, 3, none⟩ = some (.slice (some ⟨g, 0, none⟩) n c) := q1.cell rfl
  have i1 : (i : Int) + 1 ≤ n := by omega
  have i2 : (n : Int) ≤ c := by omega
  have i3 : (0 : Int) ≤ i := by omega
  have i4 : (i : Int) ≤ c := by omega
  have i5 : (n : Int) ≤ 800000 := by omega
  have i6 : IntKind.i64.wrap ((i : Int) + 1) = (i : Int) + 1 := IntWalk.i64_in _ (by omega)
  have i7 : ((i : Int) + 1).toNat = i + 1 := by omega
  have i8 : (0 : Int) ≤ (i : Int) + 1 := by omega
  obtain ⟨a2, ha2⟩ : ∃ a2, (if c = i + 1 then some (⟨g, 0, none⟩ : Addr) else some ⟨g, (i + 1) * 3, none⟩) = a2 := ⟨_, rfl⟩
  have HA2 := Lib.hid ha2
  go_enter Try.func26, Try.ntmps26
  go_wp2_with fail
  refine wp_region_noPanic (wp_region_need (S := fun w' => w'.cell? ⟨d, 3, none⟩ = some (.slice (some ⟨g, 0, none⟩) n c)) (by kernel_rfl) ?_)
  have hS : (w.drew).cell? ⟨d, 3, none⟩ = some (.slice (some ⟨g, 0, none⟩) n c) := c3
  refine wpN_take (i := 0) (v := ?v1) rfl (by kernel_rfl) (fun _ _ _ h => h) hS (Or.inl ⟨by rfl, ?hy1⟩) ?hr1
  case hy1 => (intro wS hSw; (try dsimp only at hSw); go_simp; (try with_reducible rfl))
  try simp only [Act.put, List.setIfInBounds_toArray, List.set_cons_zero, List.set_cons_succ, List.getElem_toArray, List.getElem_cons_zero, List.getElem_cons_succ]
  refine wpN_take (i := 2) (v := ?v2) rfl (by kernel_rfl) (fun _ _ _ h => h) hS (Or.inl ⟨by rfl, ?hy2⟩) ?hr2
  case hy2 => (intro wS hSw; (try dsimp only at hSw); go_simp; (try with_reducible rfl))
  try simp only [Act.put, List.setIfInBounds_toArray, List.set_cons_zero, List.set_cons_succ, List.getElem_toArray, List.getElem_cons_zero, List.getElem_cons_succ]
  refine wpN_take (i := 3) (v := ?v3) rfl (by kernel_rfl) (fun _ _ _ h => h) hS (Or.inl ⟨by rfl, ?hy3⟩) ?hr3
  case hy3 => (intro wS hSw; (try dsimp only at hSw); go_simp; (try with_reducible rfl))
  try simp only [Act.put, List.setIfInBounds_toArray, List.set_cons_zero, List.set_cons_succ, List.getElem_toArray, List.getElem_cons_zero, List.getElem_cons_succ]
  refine wpN_take (i := 4) (v := ?v4) rfl (by kernel_rfl) (fun _ _ _ h => h) hS (Or.inl ⟨by rfl, ?hy4⟩) ?hr4
  case hy4 => (intro wS hSw; (try dsimp only at hSw); go_simp; (try with_reducible rfl))
  try simp only [Act.put, List.setIfInBounds_toArray, List.set_cons_zero, List.set_cons_succ, List.getElem_toArray, List.getElem_cons_zero, List.getElem_cons_succ]
  refine wpN_take (i := 5) (v := ?v5) rfl (by kernel_rfl) (fun _ _ _ h => h) hS (Or.inl ⟨by rfl, ?hy5⟩) ?hr5
  case hy5 => (intro wS hSw; (try dsimp only at hSw); go_simp; (try with_reducible rfl))
  try simp only [Act.put, List.setIfInBounds_toArray, List.set_cons_zero, List.set_cons_succ, List.getElem_toArray, List.getElem_cons_zero, List.getElem_cons_succ]
  refine wpN_take (i := 6) (v := ?v6) rfl (by kernel_rfl) (fun _ _ _ h => h) hS (Or.inl ⟨by rfl, ?hy6⟩) ?hr6
  case hy6 => (intro wS hSw; (try dsimp only at hSw); go_simp; (try with_reducible rfl))
  try simp only [Act.put, List.setIfInBounds_toArray, List.set_cons_zero, List.set_cons_succ, List.getElem_toArray, List.getElem_cons_zero, List.getElem_cons_succ]
  refine wpN_take (i := 7) (v := ?v7) rfl (by kernel_rfl) (fun _ _ _ h => h) hS (Or.inl ⟨by rfl, ?hy7⟩) ?hr7
  case hy7 => (intro wS hSw; (try dsimp only at hSw); go_simp; (try with_reducible rfl))
  try simp only [Act.put, List.setIfInBounds_toArray, List.set_cons_zero, List.set_cons_succ, List.getElem_toArray, List.getElem_cons_zero, List.getElem_cons_succ]
  refine wpN_take (i := 9) (v := ?v8) rfl (by kernel_rfl) (fun _ _ _ h => h) hS (Or.inl ⟨by rfl, ?hy8⟩) ?hr8
  case hy8 => (intro wS hSw; (try dsimp only at hSw); go_simp; (try with_reducible rfl))
  try simp only [Act.put, List.setIfInBounds_toArray, List.set_cons_zero, List.set_cons_succ, List.getElem_toArray, List.getElem_cons_zero, List.getElem_cons_succ]
  refine wpN_take (i := 10) (v := ?v9) rfl (by kernel_rfl) (fun _ _ _ h => h) hS (Or.inl ⟨by rfl, ?hy9⟩) ?hr9
  case hy9 => (intro wS hSw; (try dsimp only at hSw); go_simp; (try with_reducible rfl))
  try simp only [Act.put, List.setIfInBounds_toArray, List.set_cons_zero, List.set_cons_succ, List.getElem_toArray, List.getElem_cons_zero, List.getElem_cons_succ]
  refine wpN_take (i := 11) (v := ?v10) rfl (by kernel_rfl) (fun _ _ _ h => h) hS (Or.inl ⟨by rfl, ?hy10⟩) ?hr10
  case hy10 => (intro wS hSw; (try dsimp only at hSw); go_simp; (try with_reducible rfl))
  try simp only [Act.put, List.setIfInBounds_toArray, List.set_cons_zero, List.set_cons_succ, List.getElem_toArray, List.getElem_cons_zero, List.getElem_cons_succ]
  refine wpN_take (i := 12) (v := ?v11) rfl (by kernel_rfl) (fun _ _ _ h => h) hS (Or.inl ⟨by rfl, ?hy11⟩) ?hr11
  case hy11 => (intro wS hSw; (try dsimp only at hSw); go_simp; (try with_reducible rfl))
  try simp only [Act.put, List.setIfInBounds_toArray, List.set_cons_zero, List.set_cons_succ, List.getElem_toArray, List.getElem_cons_zero, List.getElem_cons_succ]
  refine wpN_take (i := 13) (v := ?v12) rfl (by kernel_rfl) (fun _ _ _ h => h) hS (Or.inl ⟨by rfl, ?hy12⟩) ?hr12
  case hy12 => (intro wS hSw; (try dsimp only at hSw); go_simp; (try with_reducible rfl))
  try simp only [Act.put, List.setIfInBounds_toArray, List.set_cons_zero, List.set_cons_succ, List.getElem_toArray, List.getElem_cons_zero, List.getElem_cons_succ]
  refine wpN_take (i := 14) (v := ?v13) rfl (by kernel_rfl) (fun _ _ _ h => h) hS (Or.inl ⟨by rfl, ?hy13⟩) ?hr13
  case hy13 => (intro wS hSw; (try dsimp only at hSw); go_simp; (try with_reducible rfl))
  try simp only [Act.put, List.setIfInBounds_toArray, List.set_cons_zero, List.set_cons_succ, List.getElem_toArray, List.getElem_cons_zero, List.getElem_cons_succ]
  refine wpN_take (i := 15) (v := ?v14) rfl (by kernel_rfl) (fun _ _ _ h => h) hS (Or.inl ⟨by rfl, ?hy14⟩) ?hr14
  case hy14 => (intro wS hSw; (try dsimp only at hSw); go_simp; (try with_reducible rfl))
  try simp only [Act.put, List.setIfInBounds_toArray, List.set_cons_zero, List.set_cons_succ, List.getElem_toArray, List.getElem_cons_zero, List.getElem_cons_succ]
  clear ha2
  refine wpN_step (i := 1) (by kernel_rfl) rfl (fun K hK => ?_)
  go_simp
  obtain ⟨wC, hwC⟩ : ∃ wC, (w.alloc (.cells #[] 47)).drew = wC := ⟨_, rfl⟩
  have B2 : Below w.heap.size w wC := by rw [← hwC]; exact ((Below.refl _ _).alloc (Nat.le_refl _) _).drew
  have e2 : RowR wC w.heap.size (.slice (some ⟨w.heap.size, 0, none⟩) 0 0) [] := by rw [← hwC]; exact (RowR.empty w).below (Below.refl _ _).drew
  have k2 : CellsE wC g L := CellsE.keep (w := w) Hcell.out ((Keep.refl _ _).below B2)
  have q2 := q1.below B2
  rw [hwC]
  clear hwC c3
  have hS : (wC).cell? ⟨d, 3, none⟩ = some (.slice (some ⟨g, 0, none⟩) n c) := (q2.cell rfl)
  refine hK.out _ _ (fun _ => hS) ?_
  clear hK K
  try simp only [Act.put, List.setIfInBounds_toArray, List.set_cons_zero, List.set_cons_succ, List.getElem_toArray, List.getElem_cons_zero, List.getElem_cons_succ]
  refine wpN_step (i := 8) (by kernel_rfl) rfl (fun K hK => ?_)
  obtain ⟨v3, w3, hrun, hacc, hg, hloc⟩ := run_append_sl rpE (by decide) (P := Try.prog) wC 41 41 w.heap.size 47 i0 _ 24 Try.underlying41 hi0 hz0 hz1 hz2 rfl (by decide) (fun _ => True) _ [] (row_accR e2) _ _ (sl_part k2 0 i c (by rw [HN.out]; omega) (by rw [HN.out]; exact hlen) (by omega) (some ⟨g, 0, none⟩) (fun _ => rfl)) (by simp; omega) B2.size
  rw [if_pos (by rfl)]
  refine oper_append_eq (.tmp 5) (.tmp 11) _ _ v3 rfl hrun ?_
  try simp only [Act.put, List.setIfInBounds_toArray, List.set_cons_zero, List.set_cons_succ, List.getElem_toArray, List.getElem_cons_zero, List.getElem_cons_succ]
  have hgl : ∀ k, (Value.slice (some ⟨w.heap.size, 0, none⟩) 0 0).ownBlock = some k → k = w.heap.size := fun k hk => by cases hk; rfl
  have q3 := q2.grown hg (fun e => by have := hgl _ e; have := q1.lt; omega)
  have k3 : CellsE w3 g L := k2.keep ((Keep.refl _ _).grown hg (fun k hk e => by have := hgl _ hk; omega))
  have B3 : Below w.heap.size w w3 := B2.grown hg B2.size (fun j hj => by have := hgl _ hj; omega)
  have r3 := acc_rowR hacc
  simp only [List.nil_append, List.drop_zero] at r3
  clear hrun hacc hg hloc hgl e2 k2 q2 B2
  have hS : (w3).cell? ⟨d, 3, none⟩ = some (.slice (some ⟨g, 0, none⟩) n c) := (q3.cell rfl)
  refine hK.out _ _ (fun _ => hS) ?_
  clear hK K
  try simp only [Act.put, List.setIfInBounds_toArray, List.set_cons_zero, List.set_cons_succ, List.getElem_toArray, List.getElem_cons_zero, List.getElem_cons_succ]
  refine wpN_step (i := 16) (by kernel_rfl) rfl (fun K hK => ?_)
  obtain ⟨v4, w4, hrun, hacc, hg, hloc⟩ := run_append_sl rpE (by decide) (P := Try.prog) w3 41 41 w.heap.size 47 i0 _ 24 Try.underlying41 hi0 hz0 hz1 hz2 rfl (by decide) (fun _ => True) _ _ (row_accR r3) _ _ (sl_part k3 (i + 1) (n - (i + 1)) (c - (i + 1)) (by rw [HN.out]; omega) (by rw [HN.out]; exact hlen) (by omega) a2 (fun h0 => by rw [← HA2.out, if_neg (by omega)])) (by simp; omega) B3.size
  rw [if_pos (by rfl)]
  refine oper_append_eq (.tmp 12) (.tmp 19) _ _ v4 rfl hrun ?_
  try simp only [Act.put, List.setIfInBounds_toArray, List.set_cons_zero, List.set_cons_succ, List.getElem_toArray, List.getElem_cons_zero, List.getElem_cons_succ]
  have hgl : ∀ k, v3.ownBlock = some k → w.heap.size ≤ k := fun k hk => (r3.base_le k hk).1
  have q4 := q3.grown hg (fun e => by have := hgl _ e; have := q1.lt; omega)
  have B4 : Below w.heap.size w w4 := B3.grown hg B3.size (fun j hj => hgl _ hj)
  have r4 := acc_rowR hacc
  have hL2 : (L.drop (i + 1)).take (n - (i + 1)) = L.drop (i + 1) := List.take_of_length_le (by rw [List.length_drop, HN.out]; omega)
  rw [hL2] at r4
  have hgl4 := fun k hk => (r4.base_le k hk).1
  obtain ⟨a4, k4, rfl⟩ := r4.shape
  obtain ⟨N, hN⟩ : ∃ N, (L.take i ++ L.drop (i + 1)).length = N := ⟨_, rfl⟩
  rw [hN] at r4 hgl4 ⊢
  have R4 := Lib.hid r4; have B4' := Lib.hid B4; have G4 := Lib.hid hgl4
  clear hrun hacc hg hloc hgl r3 k3 q3 B3 hL2 hN r4 hgl4 B4
  have hS : (w4).cell? ⟨d, 3, none⟩ = some (.slice (some ⟨g, 0, none⟩) n c) := (q4.cell rfl)
  refine hK.out _ _ (fun _ => hS) ?_
  clear hK K
  try simp only [Act.put, List.setIfInBounds_toArray, List.set_cons_zero, List.set_cons_succ, List.getElem_toArray, List.getElem_cons_zero, List.getElem_cons_succ]
  refine wpN_pure (i := 17) (v := ?v15) rfl (by kernel_rfl) (fun _ _ _ h => h) (Or.inl ⟨by rfl, ?hy15⟩) ?hr15
  case hy15 => (intro wS hSw; go_simp; (try with_reducible rfl))
  try simp only [Act.put, List.setIfInBounds_toArray, List.set_cons_zero, List.set_cons_succ, List.getElem_toArray, List.getElem_cons_zero, List.getElem_cons_succ]
  refine wpN_pure (i := 18) (v := ?v16) rfl (by kernel_rfl) (fun _ _ _ h => h) (Or.inl ⟨by rfl, ?hy16⟩) ?hr16
  case hy16 => (intro wS hSw; go_simp; (try with_reducible rfl))
  try simp only [Act.put, List.setIfInBounds_toArray, List.set_cons_zero, List.set_cons_succ, List.getElem_toArray, List.getElem_cons_zero, List.getElem_cons_succ]
  have f3 := q4.free 3
  refine wpN_step (i := 19) (by kernel_rfl) rfl (fun K hK => ?_)
  go_simp
  refine hK.out _ _ (fun h => absurd h (by decide)) ?_
  clear hK K
  try simp only [Act.put, List.setIfInBounds_toArray, List.set_cons_zero, List.set_cons_succ, List.getElem_toArray, List.getElem_cons_zero, List.getElem_cons_succ]
  refine wpN_done (by kernel_rfl) ?_
  refine NoPanic.normal ?_
  have hq := q1.lt
  have vd4 : (Value.slice a4 N k4).ownBlock ≠ some d := fun e => by have := G4.out _ e; omega
  go_end0
  refine ⟨rfl, ⟨.slice a4 N k4, ?_⟩, (Off.of_below F B4'.out).set ⟨d, 3, none⟩ _ (.inl fd)⟩
  exact { blk := q4.set 3 (.slice a4 N k4), row := (R4.out.far ⟨d, 3, none⟩ _ vd4).base0, vd := vd4, fd := fd, fv := fun k hk => hF k (G4.out k hk) }
end Go.Proofs.Ytplfbdkljnblmaa

namespace Go.Proofs.Ytplfbdkljnblmaa
open Go.RowKit Go.Maps

def hasN (L : List Ent) (k : Int) : Nat := if (findK L k).isSome then 1 else 0

theorem age_inj {L : List Ent} (h : L.Pairwise fun a b => a.age < b.age) {x y : Ent} (hx : x ∈ L) (hy : y ∈ L) (he : x.age = y.age) : x = y := by
  obtain ⟨i, hi, rfl⟩ := List.getElem_of_mem hx
  obtain ⟨j, hj, rfl⟩ := List.getElem_of_mem hy
  by_cases h1 : i < j
  · have := ages_get h hi hj h1; omega
  · by_cases h2 : j < i
    · have := ages_get h hj hi h2; omega
    · obtain rfl : i = j := by omega
      rfl
theorem min_one {s : QS} (h : s.L.Pairwise fun a b => a.age < b.age) {x y : Ent} (hx : x ∈ s.L) (hy : y ∈ s.L) (mx : ∀ z ∈ s.L, s.lt z x = false) (my : ∀ z ∈ s.L, s.lt z y = false) : x = y := by
  have h1 := mx y hy
  have h2 := my x hx
  refine age_inj h hx hy ?_
  unfold QS.lt at h1 h2
  split at h1 <;> rename_i hc
  · rw [if_pos hc] at h2
    simp [Hp.elder] at h1 h2; omega
  · rw [if_neg hc] at h2
    simp [Hp.lighter] at h1 h2; omega
theorem peek_one {s : QS} (h : s.L.Pairwise fun a b => a.age < b.age) {e e' : Ending} (h1 : PeekRes s e) (h2 : PeekRes s e') : e = e' := by
  rcases h1 with ⟨hL, rfl⟩ | ⟨x, hx, mx, rfl⟩ <;> rcases h2 with ⟨hL', rfl⟩ | ⟨y, hy, my, rfl⟩
  · rfl
  · rw [hL] at hy; cases hy
  · rw [hL'] at hx; cases hx
  · rw [min_one h hx hy mx my]
theorem next_one {s s1 s2 : QS} (h : s.L.Pairwise fun a b => a.age < b.age) {e e' : Ending} (h1 : NextRes s e s1) (h2 : NextRes s e' s2) : e = e' ∧ s1 = s2 := by
  rcases h1 with ⟨hL, rfl, rfl⟩ | ⟨x, hx, mx, rfl, rfl⟩ <;> rcases h2 with ⟨hL', rfl, rfl⟩ | ⟨y, hy, my, rfl, rfl⟩
  · exact ⟨rfl, rfl⟩
  · rw [hL] at hy; cases hy
  · rw [hL'] at hx; cases hx
  · rw [min_one h hx hy mx my]; exact ⟨rfl, rfl⟩
theorem put_one {s s1 s2 : QS} {k wt : Int} {e e' : Ending} (h1 : PutRes s k wt e s1) (h2 : PutRes s k wt e' s2) : e = e' ∧ s1 = s2 := by
  rcases h1 with ⟨a, rfl, rfl⟩ | ⟨a, b, rfl, rfl⟩ | ⟨a, b, rfl, rfl⟩ <;> rcases h2 with ⟨a', rfl, rfl⟩ | ⟨a', b', rfl, rfl⟩ | ⟨a', b', rfl, rfl⟩
  · exact ⟨rfl, rfl⟩
  · rw [a'] at a; cases a
  · rw [a'] at a; cases a
  · rw [a] at a'; cases a'
  · exact ⟨rfl, rfl⟩
  · exact absurd b b'
  · rw [a] at a'; cases a'
  · exact absurd b' b
  · exact ⟨rfl, rfl⟩

set_option maxRecDepth 100000 in
set_option maxHeartbeats 4000000 in
theorem next_r {F : Nat → Prop} {w : World} {d : Nat} {s : QS} (h : RefAt F w d s) (ok : SOk s) (ht : s.taken ≤ 799999) (hF : ∀ k, w.heap.size ≤ k → F k) :
    Calls Try.prog 14 #[.pointer (some ⟨d, 0, none⟩)] w fun e w' => ∃ s', NextRes s e s' ∧ RefAt F w' d s' ∧ Off F w w' := by
  obtain ⟨wB, hwB⟩ : ∃ wB, w.alloc (.cells #[.int .i64 0, .int .i64 0, .int .i64 0] 47) = wB := ⟨_, rfl⟩
  have B0 : Below w.heap.size w wB := by rw [← hwB]; exact (Below.refl _ _).alloc (Nat.le_refl _) _
  have x0 : Blk wB w.heap.size #[.int .i64 0, .int .i64 0, .int .i64 0] 47 := by rw [← hwB]; exact Blk.new _ _ _ rfl
  have hR := h.tight.below B0
  have OK := Lib.hid ok
  have Ht := Lib.hid ht
  clear h ok ht
  go_enter Try.func14, Try.ntmps14
  go_wp2_with fail
  try rw [hwB]
  clear hwB
  obtain ⟨v, hM⟩ := hR
  refine (peek_r hM OK.out).mono ?_
  rintro e w1 ⟨hres, hb⟩
  have x1 := x0.below hb
  have B1 := B0.trans (hb.mono B0.size)
  have hM1 := Lib.hid (hM.below hb)
  have hx1 := x1.lt
  have f1 := x1.free 0; have f2 := x1.free 1; have f3 := x1.free 2
  have d0 := x1.cell (i := 0) rfl; have d1 := x1.cell (i := 1) rfl; have d2 := x1.cell (i := 2) rfl
  clear x0 B0 hb hM
  rcases hres with ⟨hL, rfl⟩ | ⟨x, hx, hmin, rfl⟩
  · have HL := Lib.hid hL; clear hL
    unfold Ent.v Hp.z0
    dsimp only
    go_wp2_with fail
    have z := (((x1.set 0 (.int .i64 0)).set 1 (.int .i64 0)).set 2 (.int .i64 0)).alloc (.cells #[.int .i64 0, .int .i64 0, .int .i64 0] 47)
    have hW : Off (fun k => k = w.heap.size) w1 ((((w1.setCell ⟨w.heap.size, 0, none⟩ (.int .i64 0)).setCell ⟨w.heap.size, 1, none⟩ (.int .i64 0)).setCell ⟨w.heap.size, 2, none⟩ (.int .i64 0)).alloc (.cells #[.int .i64 0, .int .i64 0, .int .i64 0] 47)) :=
      ((((Off.refl (fun k => k = w.heap.size) w1).set ⟨w.heap.size, 0, none⟩ (.int .i64 0) (.inl rfl)).set ⟨w.heap.size, 1, none⟩ (.int .i64 0) (.inl rfl)).set ⟨w.heap.size, 2, none⟩ (.int .i64 0) (.inl rfl)).alloc _
    have hq' : RefAt (fun k => F k ∧ k < w.heap.size) _ d s := RefAt.off ⟨_, hM1.out⟩ hW fun k _ hk e => by have := hk.2; omega
    have hB' : Off F w _ := (((((Off.of_below F B1).set ⟨w.heap.size, 0, none⟩ (.int .i64 0) (.inr (Nat.le_refl _))).set ⟨w.heap.size, 1, none⟩ (.int .i64 0) (.inr (Nat.le_refl _))).set ⟨w.heap.size, 2, none⟩ (.int .i64 0) (.inr (Nat.le_refl _))).alloc (.cells #[.int .i64 0, .int .i64 0, .int .i64 0] 47))
    (try simp only [Exit.inBlock, Exit.then]); refine bodyPost_ret (results_entR rfl _ _ rfl (e := ⟨0, 0, 0⟩) z) rfl ?_
    exact ⟨_, .inl ⟨HL.out, rfl, rfl⟩, hq'.weaken fun k hk => hk.1, hB'⟩
  · have HX := Lib.hid hx; have HM := Lib.hid hmin; clear hx hmin
    obtain ⟨xk, xw, xg⟩ := x
    unfold Ent.v
    dsimp only
    obtain ⟨w2, hw2⟩ : ∃ w2, w1.alloc (.cells #[.int .i64 xk, .int .i64 xw, .int .i64 xg] 47) = w2 := ⟨_, rfl⟩
    have hb12 : Below w1.heap.size w1 w2 := by rw [← hw2]; exact (Below.refl _ _).alloc (Nat.le_refl _) _
    have y2 : Blk w2 w1.heap.size #[.int .i64 xk, .int .i64 xw, .int .i64 xg] 47 := by rw [← hw2]; exact Blk.new _ _ _ rfl
    have x2 := x1.below hb12
    have B2 := B1.trans (hb12.mono B1.size)
    have hM2 := Lib.hid (hM1.out.below hb12)
    go_wp2_with fail
    try rw [hw2]
    obtain ⟨Y, hY⟩ : ∃ Y, w1.heap.size = Y := ⟨_, rfl⟩
    rw [hY] at y2 hx1 ⊢
    clear hw2 hb12 x1 B1 hM1 d0 d1 d2 f1 f2 f3 hY
    refine (nxt_r hM2.out OK.out).mono ?_
    rintro e w3 ⟨⟨r, hr, rfl⟩, hb3⟩
    have y3 := y2.below hb3
    have x3 := x2.below hb3
    have B3 := B2.trans (hb3.mono B2.size)
    have hM3 := Lib.hid (hM2.out.below hb3)
    clear hM2 y2 x2 B2 hb3
    rcases hr with ⟨hL, -⟩ | ⟨b, hbL, rfl, hmin⟩
    · exact absurd HX.out (by rw [hL]; simp)
    have hone := min_one OK.out.ages HX.out (List.getElem_mem hbL) HM.out hmin
    have HO := Lib.hid hone
    clear hone hmin
    go_wp2_with fail
    have hlt3 := y3.lt
    refine (less_r (F := fun k => (F k ∧ k < w.heap.size) ∨ w3.heap.size ≤ k) (RefAt.weaken ⟨_, hM3.out⟩ fun k hk => .inl hk) OK.out.len (fun k hk => .inr hk) b hbL).mono ?_
    rintro e w4 ⟨rfl, hR4, hO4⟩
    have y4 := hO4.blk y3 (by rintro (e | e) <;> omega)
    have x4 := hO4.blk x3 (by rintro (e | e) <;> omega)
    have B4 : Off F w w4 := (Off.of_below F B3).trans (hO4.mono fun k hk1 hk2 => by
      rcases hk2 with hk2 | hk2
      · exact hk2.1
      · omega)
    have hR4' := hR4.tight
    have hs34 := hO4.size
    clear hO4 hR4 hM3 y3 x3 B3
    obtain ⟨v4, hM4⟩ := hR4'
    have HM4 := Lib.hid hM4
    have Htk := Ht.out
    have Htk0 := OK.out.tak.1
    obtain ⟨per, tak, put, L⟩ := s
    replace Htk : tak ≤ 799999 := Htk
    replace Htk0 : 0 ≤ tak := Htk0
    have q4 : Blk w4 d #[.int .i64 per, .int .i64 tak, .int .i64 put, v4] 43 := hM4.blk
    have c1 : w4.cell? ⟨d, 1, none⟩ = some (.int .i64 tak) := q4.cell rfl
    have g1 := q4.free 1
    have t3 : IntKind.i64.wrap (tak + 1) = tak + 1 := IntWalk.i64_in _ (by omega)
    have hdF := hM4.fd
    have hdl := q4.lt
    have n1 : ¬ d = Y := by rintro rfl; rcases hdF.1 with h | h <;> omega
    have n2 : ¬ Y = d := Ne.symm n1
    have n3 : ¬ d = w.heap.size := by rintro rfl; rcases hdF.1 with h | h <;> omega
    have n4 : ¬ w.heap.size = d := Ne.symm n3
    have n5 : ¬ Y = w.heap.size := by omega
    have n6 : ¬ w.heap.size = Y := by omega
    have e0 := y4.cell (i := 0) rfl; have e1 := y4.cell (i := 1) rfl; have e2 := y4.cell (i := 2) rfl
    have d0 := x4.cell (i := 0) rfl; have d1 := x4.cell (i := 1) rfl; have d2 := x4.cell (i := 2) rfl
    have f1 := x4.free 0; have f2 := x4.free 1; have f3 := x4.free 2
    clear hM4
    have HD := Lib.hid hdF
    clear hdF
    go_wp2_with fail
    have x5 := x4.far ⟨d, 1, none⟩ (.int .i64 (tak + 1)) n4
    have z := ((x5.set 0 (.int .i64 xk)).set 1 (.int .i64 xw)).set 2 (.int .i64 xg)
    have hFd : F d := by rcases HD.out.1 with h | h; exact h.1; exact hF d (by omega)
    have B5 := B4.set ⟨d, 1, none⟩ (.int .i64 (tak + 1)) (.inl hFd)
    have B6 : Off F w _ := ((B5.set ⟨w.heap.size, 0, none⟩ (.int .i64 xk) (.inr (Nat.le_refl _))).set ⟨w.heap.size, 1, none⟩ (.int .i64 xw) (.inr (Nat.le_refl _))).set ⟨w.heap.size, 2, none⟩ (.int .i64 xg) (.inr (Nat.le_refl _))
    have hR5 : RefAt (fun k => (F k ∧ k < w.heap.size ∨ w3.heap.size ≤ k) ∧ k < w4.heap.size) (w4.setCell ⟨d, 1, none⟩ (.int .i64 (tak + 1))) d (QS.took ⟨per, tak, put, L⟩ xk) := by
      refine ⟨v4, { blk := q4.set 1 (.int .i64 (tak + 1)), row := ?_, vd := HM4.out.vd, fd := HM4.out.fd, fv := HM4.out.fv }⟩
      have h1 := HM4.out.row.far ⟨d, 1, none⟩ (.int .i64 (tak + 1)) HM4.out.vd
      have h2 : (QS.without ⟨per, tak, put, L⟩ b).L = (QS.took ⟨per, tak, put, L⟩ xk).L := by
        show L.take b ++ L.drop (b + 1) = MapOf.less L xk
        have h3 := less_erase (L := L) OK.out.keys hbL
        have h4 : L[b] = ⟨xk, xw, xg⟩ := HO.out.symm
        rw [h4] at h3
        exact h3.symm
      rw [h2] at h1
      exact h1
    have hW : Off (fun k => k = w.heap.size) (w4.setCell ⟨d, 1, none⟩ (.int .i64 (tak + 1))) ((((w4.setCell ⟨d, 1, none⟩ (.int .i64 (tak + 1))).setCell ⟨w.heap.size, 0, none⟩ (.int .i64 xk)).setCell ⟨w.heap.size, 1, none⟩ (.int .i64 xw)).setCell ⟨w.heap.size, 2, none⟩ (.int .i64 xg)) :=
      (((Off.refl (fun k => k = w.heap.size) _).set ⟨w.heap.size, 0, none⟩ _ (.inl rfl)).set ⟨w.heap.size, 1, none⟩ _ (.inl rfl)).set ⟨w.heap.size, 2, none⟩ _ (.inl rfl)
    have hR6 := hR5.off hW fun k _ hk e => by rcases hk.1 with h | h <;> omega
    (try simp only [Exit.inBlock, Exit.then]); refine bodyPost_ret (results_entR rfl _ _ rfl (e := ⟨xk, xw, xg⟩) z) rfl ?_
    exact ⟨_, .inr ⟨⟨xk, xw, xg⟩, HX.out, HM.out, rfl, rfl⟩, hR6.weaken fun k hk => by rcases hk.1 with h | h; exact h.1; exact hF k (by omega), B6⟩

set_option maxRecDepth 100000 in
set_option maxHeartbeats 4000000 in
theorem drop_r {F : Nat → Prop} {w : World} {d : Nat} {s : QS} (h : RefAt F w d s) (ok : SOk s) (hF : ∀ k, w.heap.size ≤ k → F k) (key : Int) :
    Calls Try.prog 18 #[.pointer (some ⟨d, 0, none⟩), .int .i64 key] w fun e w' => e = .returned (.int .i64 (hasN s.L key : Nat)) ∧ RefAt F w' d (s.gone key) ∧ Off F w w' := by
  obtain ⟨v, hM⟩ := h
  have HM := Lib.hid hM; have OK := Lib.hid ok
  clear hM ok
  go_enter Try.func18, Try.ntmps18
  go_wp2_with fail
  refine (place_r HM.out OK.out.len key).mono ?_
  rintro e w1 ⟨⟨r, hres, rfl⟩, hb⟩
  have HM1 := Lib.hid (HM.out.below hb)
  have Hb := Lib.hid hb
  clear hb HM
  rcases hres with ⟨rfl, hno⟩ | ⟨i, hi, rfl, hk, hsome⟩
  · have HN := Lib.hid hno
    clear hno
    go_wp2_with fail
    go_ret
    refine ⟨by unfold hasN; rw [HN.out]; rfl, ⟨v, ?_⟩, Off.of_below _ Hb.out⟩
    have : s.gone key = s := by unfold QS.gone; rw [less_none HN.out]
    rw [this]; exact HM1.out
  · have hge : ¬ (i : Int) < 0 := by omega
    have HS := Lib.hid hsome; have HK := Lib.hid hk
    clear hk hsome
    go_wp2_with fail
    refine (less_r ⟨_, HM1.out⟩ OK.out.len (fun k hk => hF k (by have := Hb.out.size; omega)) i hi).mono ?_
    rintro e w2 ⟨rfl, hR, hO⟩
    have HR := Lib.hid hR; have HO := Lib.hid hO
    clear hR hO
    go_wp2_with fail
    go_ret
    refine ⟨by unfold hasN; rw [HS.out]; rfl, ?_, (Off.of_below _ Hb.out).trans HO.out⟩
    have : s.without i = s.gone key := by
      unfold QS.without QS.gone
      rw [← HK.out, less_erase OK.out.keys hi]
    rw [← this]; exact HR.out
end Go.Proofs.Ytplfbdkljnblmaa

