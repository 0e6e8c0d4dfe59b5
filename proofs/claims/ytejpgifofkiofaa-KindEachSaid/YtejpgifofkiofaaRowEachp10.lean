/-
  Operations of a region that may come up in any order among themselves, each of which asks nothing of the others: each is looked at once.
-/
import Derived.Test.YtejpgifofkiofaaRowEachp2
import Derived.Test.YtejpgifofkiofaaRowEachp1
import Derived.RegionTactic
set_option linter.unusedVariables false
set_option linter.unusedSimpArgs false
namespace Go.Proofs.Ytejpgifofkiofaa
open Go.RowKit

def subs : List Nat → List (List Nat)
  | [] => [[]]
  | a :: l => subs l ++ (subs l).map (a :: ·)
theorem filter_mem_subs (D : Nat → Bool) : ∀ l : List Nat, l.filter D ∈ subs l
  | [] => by simp [subs]
  | a :: l => by
    simp only [subs, List.mem_append, List.mem_map, List.filter_cons]
    cases h : D a
    · exact .inl (by simpa using filter_mem_subs D l)
    · exact .inr ⟨_, filter_mem_subs D l, by simp⟩

def markL (D : Nat → Bool) : List Bool → Nat → List Bool
  | [], _ => []
  | b :: l, k => (b || D k) :: markL D l (k + 1)
theorem markL_len (D : Nat → Bool) : ∀ (l : List Bool) (k : Nat), (markL D l k).length = l.length
  | [], _ => rfl
  | b :: l, k => by simp [markL, markL_len D l (k + 1)]
theorem markL_get (D : Nat → Bool) : ∀ (l : List Bool) (k i : Nat) (h : i < (markL D l k).length), (markL D l k)[i] = (l[i]'(by rw [markL_len] at h; exact h) || D (k + i))
  | [], _, _, h => absurd h (by simp [markL])
  | b :: l, k, 0, h => by simp [markL]
  | b :: l, k, i + 1, h => by
    simp only [markL, List.getElem_cons_succ]
    rw [markL_get D l (k + 1) i (by simpa [markL] using h), show k + 1 + i = k + (i + 1) by omega]
def mark (listed : Array Bool) (D : Nat → Bool) : Array Bool := (markL D listed.toList 0).toArray
theorem mark_size (listed : Array Bool) (D : Nat → Bool) : (mark listed D).size = listed.size := by simp [mark, markL_len]
theorem mark_get (listed : Array Bool) (D : Nat → Bool) (i : Nat) (h : i < (mark listed D).size) : (mark listed D)[i] = (listed[i]'(by rw [mark_size] at h; exact h) || D i) := by
  simp only [mark, List.getElem_toArray]
  rw [markL_get]; simp
theorem mark_none (listed : Array Bool) : mark listed (fun _ => false) = listed := by
  apply Array.ext
  · exact mark_size _ _
  · intro i h1 h2; rw [mark_get]; simp
theorem mark_set (listed : Array Bool) (D : Nat → Bool) (i : Nat) : (mark listed D).setIfInBounds i true = mark listed (fun k => D k || k == i) := by
  apply Array.ext
  · simp [mark_size]
  · intro k h1 h2
    have hk : k < (mark listed D).size := by simpa using h1
    rw [Array.getElem_setIfInBounds hk, mark_get _ _ _ hk, mark_get]
    by_cases h : i = k
    · simp [h]
    · rw [if_neg h]
      simp [show (k == i) = false by simpa using Ne.symm h]
theorem mark_ext {listed : Array Bool} {D D' : Nat → Bool} (h : ∀ k, D k = D' k) : mark listed D = mark listed D' := by
  rw [show D = D' from funext h]

def upd (u : Nat → Value) (j : Nat) (v : Value) : Nat → Value := fun k => if k = j then v else u k

def possible (md : Region.Mode) (ops : Array Oper) (G : List Nat) (D : Nat → Bool) : Bool :=
  G.all fun i => !D i || match ops[i]? with
    | some o => o.after.all fun e => !Region.binds md e || !G.contains e.on || D e.on
    | none => true

def gathers (md : Region.Mode) (ops : Array Oper) (listed : Array Bool) (G : List Nat) : Bool :=
  decide G.Nodup && (G.all fun i => !listed.getD i true) && (subs G).all fun sub => sub.length == G.length || !possible md ops G (fun k => sub.contains k) ||
    (!(Region.ready md ops (mark listed fun k => sub.contains k)).isEmpty && (Region.ready md ops (mark listed fun k => sub.contains k)).all fun i => G.contains i && !sub.contains i)

def gathersQ (md : Region.Mode) (ops : Array Oper) (listed : Array Bool) (G Pu : List Nat) : Bool :=
  decide G.Nodup && (G.all fun i => !listed.getD i true) && (Pu.all fun i => G.contains i) && (subs G).all fun sub => sub.length == G.length || !possible md ops G (fun k => sub.contains k) ||
    (Pu.any fun i => !sub.contains i && ((Region.ready md ops (mark listed fun k => sub.contains k)).contains i && Region.free md ops (mark listed fun k => sub.contains k) i)) ||
    (!(Region.ready md ops (mark listed fun k => sub.contains k)).isEmpty && (Region.ready md ops (mark listed fun k => sub.contains k)).all fun i => G.contains i && !sub.contains i)

def updn (u : Nat → Nat) (j : Nat) (v : Nat) : Nat → Nat := fun k => if k = j then v else u k

def Parts (G : List Nat) (D : Nat → Bool) (Φ : Nat → Value → Nat → Nat → World → Prop) (b : Nat) (u : Nat → Value) (lo hi : Nat → Nat) (w : World) : Prop :=
  (∀ j ∈ G, D j = true → Φ j (u j) (lo j) (hi j) w ∧ b ≤ lo j ∧ lo j ≤ hi j ∧ hi j ≤ w.heap.size) ∧ ∀ j ∈ G, ∀ k ∈ G, D j = true → D k = true → j ≠ k → hi j ≤ lo k ∨ hi k ≤ lo j

def dep (md : Region.Mode) (ops : Array Oper) (j k : Nat) : Bool := match ops[j]? with
  | some o => o.after.any fun e => Region.binds md e && e.on == k
  | none => false

section
variable {P : Program} {ops : Array Oper} {Q : Exit → Act → World → Prop} {md : Region.Mode} {S : World → Prop}

theorem wpN_gather (G : List Nat) {n n0 : Nat} {listed : Array Bool} {a : Act} {w0 : World} (A : (Nat → Value) → Act) (u0 : Nat → Value) (Φ : Nat → Value → Nat → Nat → World → Prop) (Ψ : Nat → (Nat → Value) → Prop)
    (hn : n0 = n + G.length) (hA : a = A u0) (hg : gathers md ops listed G = true) (hst : ∀ j v x y w w', Φ j v x y w → Below w.heap.size w w' → Φ j v x y w') (hst' : ∀ j ∈ G, ∀ u u', (∀ k, k = j ∨ dep md ops j k = true → u' k = u k) → Ψ j u → Ψ j u') (hS : S w0)
    (hop : ∀ j ∈ G, ∀ u w, (∀ k ∈ G, dep md ops j k = true → Ψ k u ∧ ∃ x y, Φ k (u k) x y w) → Below w0.heap.size w0 w → S w → wpOp P ops Q j (fun a' w' => ∃ v, a' = A (upd u j v) ∧ Φ j v w.heap.size w'.heap.size w' ∧ Ψ j (upd u j v) ∧ Below w.heap.size w w' ∧ S w') (A u) w)
    (hend : ∀ u lo hi w, Parts G (fun _ => true) Φ w0.heap.size u lo hi w → (∀ j ∈ G, Ψ j u) → Below w0.heap.size w0 w → S w → wpN P md ops Q S n (mark listed fun k => G.contains k) (A u) w) :
    wpN P md ops Q S n0 listed a w0 := by
  subst hn hA
  obtain ⟨hnd, hg⟩ := Bool.and_eq_true_iff.1 hg
  obtain ⟨hnd, hun⟩ := Bool.and_eq_true_iff.1 hnd
  have hun : ∀ i ∈ G, listed.getD i true = false := fun i hi => by simpa using List.all_eq_true.1 hun i hi
  have hnd := of_decide_eq_true hnd
  have key : ∀ (m : Nat) (D : Nat → Bool) (u : Nat → Value) (lo hi : Nat → Nat) (w : World), (G.filter D).length + m = G.length → (∀ k, D k = true → k ∈ G) → possible md ops G D = true → Parts G D Φ w0.heap.size u lo hi w → (∀ j ∈ G, D j = true → Ψ j u) → Below w0.heap.size w0 w → S w →
      wpN P md ops Q S (n + m) (mark listed D) (A u) w := by
    intro m
    induction m with
    | zero =>
      intro D u lo hi w hm hD hp hΦ hΨ hB hSw
      have hall : ∀ j ∈ G, D j = true := List.filter_eq_self.1 (List.Sublist.eq_of_length List.filter_sublist (by omega))
      rw [mark_ext (D' := fun k => G.contains k) (fun k => by
        by_cases h : k ∈ G
        · simp [hall k h, h]
        · have : D k = false := by
            cases h' : D k
            · rfl
            · exact absurd (hD k h') h
          simp [this, h])]
      exact hend u lo hi w ⟨fun j hj _ => hΦ.1 j hj (hall j hj), fun j hj k hk _ _ hne => hΦ.2 j hj k hk (hall j hj) (hall k hk) hne⟩ (fun j hj => hΨ j hj (hall j hj)) hB hSw
    | succ m ih =>
      intro D u lo hi w hm hD hp hΦ hΨ hB hSw
      have hg2 := List.all_eq_true.1 hg _ (filter_mem_subs D G)
      have hfun : (fun k => (G.filter D).contains k) = D := funext fun k => by
        by_cases h : D k = true
        · have : k ∈ G.filter D := List.mem_filter.2 ⟨hD k h, h⟩
          simp [this, h]
        · have h' : D k = false := by simpa using h
          simp [h']
      rw [hfun, hp] at hg2
      simp only [Bool.or_eq_true, Bool.not_true, Bool.false_eq_true, or_false, beq_iff_eq, Bool.and_eq_true, List.all_eq_true, Bool.not_eq_true', List.contains_eq_mem, decide_eq_true_eq, decide_eq_false_iff_not] at hg2
      rcases hg2 with hg2 | ⟨hg2, hg3⟩
      · omega
      refine ⟨fun h0 => (by rw [h0] at hg2; simp at hg2), fun i hi' => ?_⟩
      obtain ⟨hiG, hiD⟩ := hg3 i hi'
      have hiD : D i = false := by
        cases h : D i
        · rfl
        · exact absurd (List.mem_filter.2 ⟨hiG, h⟩) hiD
      have hlst : ∀ k ∈ G, dep md ops i k = true → D k = true := fun k hk hdep => by
        obtain ⟨_, o, ho, hall⟩ := mem_ready.1 hi'
        simp only [dep, ho] at hdep
        obtain ⟨e, he, hbe⟩ := Array.any_eq_true'.1 hdep
        simp only [Bool.and_eq_true, beq_iff_eq] at hbe
        obtain ⟨hbe, rfl⟩ := hbe
        have h2 := hall e he hbe
        have h3 := hun e.on hk
        have hs : e.on < listed.size := by
          rcases Nat.lt_or_ge e.on listed.size with h | h
          · exact h
          · simp [Array.getElem?_eq_none h] at h3
        have h4 : e.on < (mark listed D).size := by rw [mark_size]; exact hs
        have h5 : listed[e.on] = false := by simpa [hs] using h3
        have h6 : (mark listed D)[e.on] = true := by simpa [h4] using h2
        rw [mark_get, h5] at h6
        simpa using h6
      refine wpOp_mono (fun a' w' hh => ?_) (hop i hiG u w (fun k hk hdep => ⟨hΨ k hk (hlst k hk hdep), _, _, (hΦ.1 k hk (hlst k hk hdep)).1⟩) hB hSw)
      obtain ⟨v, rfl, hv, hψ, hb, hS'⟩ := hh
      refine ⟨fun _ _ => hS', ?_⟩
      rw [mark_set]
      refine ih _ _ (updn lo i w.heap.size) (updn hi i w'.heap.size) _ ?_ (fun k hk => ?_) ?_ ⟨fun j hj hDj => ?_, fun j hj k hk hDj hDk hne => ?_⟩ (fun j hj hDj => ?_) (hB.trans (hb.mono hB.size)) hS'
      · have hout : ∀ (l : List Nat), i ∉ l → (l.filter fun k => D k || k == i) = l.filter D := by
          intro l hl
          refine List.filter_congr fun k hk => ?_
          have : k ≠ i := fun h => hl (h ▸ hk)
          simp [this]
        have hlen : ∀ (l : List Nat), l.Nodup → i ∈ l → (l.filter fun k => D k || k == i).length = (l.filter D).length + 1 := by
          intro l
          induction l with
          | nil => intro _ h; cases h
          | cons x l ihl =>
            intro hn hx
            obtain ⟨hn1, hn2⟩ := List.nodup_cons.1 hn
            by_cases hxi : x = i
            · subst hxi
              simp only [List.filter_cons, hiD, beq_self_eq_true, Bool.or_true, if_true, Bool.false_eq_true, if_false, List.length_cons, hout l hn1]
            · have hil : i ∈ l := by
                rcases List.mem_cons.1 hx with h | h
                · exact absurd h.symm hxi
                · exact h
              have := ihl hn2 hil
              simp only [List.filter_cons, show (x == i) = false by simpa using hxi, Bool.or_false]
              split <;> simp only [List.length_cons, this]
        rw [hlen G hnd hiG]; omega
      · simp only [Bool.or_eq_true, beq_iff_eq] at hk
        rcases hk with hk | rfl
        · exact hD k hk
        · exact hiG
      · refine List.all_eq_true.2 fun x hx => ?_
        have h1 := List.all_eq_true.1 hp x hx
        simp only [Bool.or_eq_true, Bool.not_eq_true', Bool.or_eq_false_iff] at h1 ⊢
        by_cases hxi : x = i
        · subst hxi
          right
          obtain ⟨_, o, ho, hall⟩ := mem_ready.1 hi'
          rw [ho]
          refine Array.all_eq_true'.2 fun e he => ?_
          simp only [Bool.or_eq_true, Bool.not_eq_true']
          by_cases hbe : Region.binds md e = true
          · by_cases heG : G.contains e.on = true
            · right; left
              have h2 := hall e he hbe
              have h3 := hun e.on (by simpa using heG)
              have hs : e.on < listed.size := by
                rcases Nat.lt_or_ge e.on listed.size with h | h
                · exact h
                · simp [Array.getElem?_eq_none h] at h3
              have h4 : e.on < (mark listed D).size := by rw [mark_size]; exact hs
              have h5 : listed[e.on] = false := by simpa [hs] using h3
              have h6 : (mark listed D)[e.on] = true := by simpa [h4] using h2
              rw [mark_get, h5] at h6
              simpa using h6
            · exact .inl (.inr (by simpa using heG))
          · exact .inl (.inl (by simpa using hbe))
        · rcases h1 with h1 | h1
          · exact .inl ⟨h1, by simpa using hxi⟩
          · right
            cases ho : ops[x]? with
            | none => rfl
            | some o =>
              rw [ho] at h1
              refine Array.all_eq_true'.2 fun e he => ?_
              have h2 := Array.all_eq_true'.1 h1 e he
              simp only [Bool.or_eq_true, Bool.not_eq_true'] at h2 ⊢
              rcases h2 with h2 | h2
              · exact .inl h2
              · exact .inr (.inl h2)
      · have hbs := hb.size
        have hBs := hB.size
        by_cases hji : j = i
        · subst hji
          simp only [upd, updn, if_true]
          exact ⟨hv, hBs, hbs, Nat.le_refl _⟩
        · simp only [upd, updn, if_neg hji]
          have hDj' : D j = true := by simpa [hji] using hDj
          obtain ⟨h1, h2, h3, h4⟩ := hΦ.1 j hj hDj'
          exact ⟨hst _ _ _ _ _ _ h1 hb, h2, h3, Nat.le_trans h4 hbs⟩
      · have hDD : ∀ x, x ≠ i → (D x || x == i) = true → D x = true := fun x hx h => by simpa [hx] using h
        by_cases hji : j = i
        · subst hji
          have hkj : k ≠ j := Ne.symm hne
          simp only [updn, if_true, if_neg hkj]
          exact .inr (hΦ.1 k hk (hDD k hkj hDk)).2.2.2
        · by_cases hki : k = i
          · subst hki
            simp only [updn, if_true, if_neg hji]
            exact .inl (hΦ.1 j hj (hDD j hji hDj)).2.2.2
          · simp only [updn, if_neg hji, if_neg hki]
            exact hΦ.2 j hj k hk (hDD j hji hDj) (hDD k hki hDk) hne
      · by_cases hji : j = i
        · subst hji; exact hψ
        · have hDj' : D j = true := by simpa [hji] using hDj
          refine hst' j hj u _ (fun k hk => ?_) (hΨ j hj hDj')
          have hki : k ≠ i := by
            rcases hk with rfl | hk
            · exact hji
            · intro e
              subst e
              have h1 := List.all_eq_true.1 hp j hj
              simp only [Bool.or_eq_true, Bool.not_eq_true', hDj'] at h1
              rcases h1 with h1 | h1
              · cases h1
              · cases ho : ops[j]? with
                | none => simp [dep, ho] at hk
                | some o =>
                  rw [ho] at h1
                  simp only [dep, ho] at hk
                  obtain ⟨e, he, hbe⟩ := Array.any_eq_true'.1 hk
                  simp only [Bool.and_eq_true, beq_iff_eq] at hbe
                  have h2 := Array.all_eq_true'.1 h1 e he
                  simp only [Bool.or_eq_true, Bool.not_eq_true', hbe.1, hbe.2] at h2
                  have h3 : G.contains k = true := by simpa using hiG
                  rw [h3, hiD] at h2
                  rcases h2 with (h2 | h2) | h2 <;> cases h2
          simp [upd, hki]
  have h := key G.length (fun _ => false) u0 (fun _ => 0) (fun _ => 0) w0 (by simp) (by simp) (by simp [possible]) ⟨by simp, by simp⟩ (by simp) (Below.refl _ _) hS
  rw [mark_none] at h
  exact h

theorem wpN_gatherQ (G Pu : List Nat) {n n0 : Nat} {listed : Array Bool} {a : Act} {w0 : World} (A : (Nat → Value) → Act) (u0 : Nat → Value) (Φ : Nat → Value → Nat → Nat → World → Prop) (Ψ : Nat → (Nat → Value) → Prop)
    (hn : n0 = n + G.length) (hA : a = A u0) (hg : gathersQ md ops listed G Pu = true) (hst : ∀ j v x y w w', Φ j v x y w → Below w.heap.size w w' → Φ j v x y w') (hst' : ∀ j ∈ G, ∀ u u', (∀ k, k = j ∨ dep md ops j k = true → u' k = u k) → Ψ j u → Ψ j u') (hS : S w0)
    (hop : ∀ j ∈ G, ∀ u w, (∀ k ∈ G, dep md ops j k = true → Ψ k u ∧ ∃ x y, Φ k (u k) x y w) → Below w0.heap.size w0 w → S w → wpOp P ops Q j (fun a' w' => ∃ v, a' = A (upd u j v) ∧ Φ j v w.heap.size w'.heap.size w' ∧ Ψ j (upd u j v) ∧ Below w.heap.size w w' ∧ S w') (A u) w)
    (hsel : Region.noSelect ops = true) (hQ : ∀ c a b w, Q (.panic c) b w → Q (.panic c) a w)
    (hpu : ∀ j ∈ Pu, ∀ u w, (∀ k ∈ G, dep md ops j k = true → ∃ x y, Φ k (u k) x y w) → ∃ oj v, ops[j]? = some oj ∧ YieldsIf P ops (fun _ => True) oj v (A u) ∧ (A u).put oj.dst v = A (upd u j v) ∧ Φ j v w.heap.size w.heap.size w ∧ Ψ j (upd u j v))
    (hend : ∀ u lo hi w, Parts G (fun _ => true) Φ w0.heap.size u lo hi w → (∀ j ∈ G, Ψ j u) → Below w0.heap.size w0 w → S w → wpN P md ops Q S n (mark listed fun k => G.contains k) (A u) w) :
    wpN P md ops Q S n0 listed a w0 := by
  subst hn hA
  obtain ⟨hnd, hg⟩ := Bool.and_eq_true_iff.1 hg
  obtain ⟨hnd, hPG⟩ := Bool.and_eq_true_iff.1 hnd
  obtain ⟨hnd, hun⟩ := Bool.and_eq_true_iff.1 hnd
  have hPG : ∀ i ∈ Pu, i ∈ G := fun i hi => by simpa using List.all_eq_true.1 hPG i hi
  have hun : ∀ i ∈ G, listed.getD i true = false := fun i hi => by simpa using List.all_eq_true.1 hun i hi
  have hnd := of_decide_eq_true hnd
  have key : ∀ (m : Nat) (D : Nat → Bool) (u : Nat → Value) (lo hi : Nat → Nat) (w : World), (G.filter D).length + m = G.length → (∀ k, D k = true → k ∈ G) → possible md ops G D = true → Parts G D Φ w0.heap.size u lo hi w → (∀ j ∈ G, D j = true → Ψ j u) → Below w0.heap.size w0 w → S w →
      wpN P md ops Q S (n + m) (mark listed D) (A u) w := by
    intro m
    induction m with
    | zero =>
      intro D u lo hi w hm hD hp hΦ hΨ hB hSw
      have hall : ∀ j ∈ G, D j = true := List.filter_eq_self.1 (List.Sublist.eq_of_length List.filter_sublist (by omega))
      rw [mark_ext (D' := fun k => G.contains k) (fun k => by
        by_cases h : k ∈ G
        · simp [hall k h, h]
        · have : D k = false := by
            cases h' : D k
            · rfl
            · exact absurd (hD k h') h
          simp [this, h])]
      exact hend u lo hi w ⟨fun j hj _ => hΦ.1 j hj (hall j hj), fun j hj k hk _ _ hne => hΦ.2 j hj k hk (hall j hj) (hall k hk) hne⟩ (fun j hj => hΨ j hj (hall j hj)) hB hSw
    | succ m ih =>
      intro D u lo hi w hm hD hp hΦ hΨ hB hSw
      have hg2 := List.all_eq_true.1 hg _ (filter_mem_subs D G)
      have hfun : (fun k => (G.filter D).contains k) = D := funext fun k => by
        by_cases h : D k = true
        · have : k ∈ G.filter D := List.mem_filter.2 ⟨hD k h, h⟩
          simp [this, h]
        · have h' : D k = false := by simpa using h
          simp [h']
      rw [hfun, hp] at hg2
      have hg2 : ((G.filter D).length = G.length ∨ ∃ i ∈ Pu, i ∉ G.filter D ∧ i ∈ Region.ready md ops (mark listed D) ∧ Region.free md ops (mark listed D) i = true) ∨ (Region.ready md ops (mark listed D)).isEmpty = false ∧ ∀ i ∈ Region.ready md ops (mark listed D), i ∈ G ∧ i ∉ G.filter D := by
        simpa only [Bool.or_eq_true, Bool.not_true, Bool.false_eq_true, or_false, beq_iff_eq, Bool.and_eq_true, List.all_eq_true, List.any_eq_true, Bool.not_eq_true', List.contains_eq_mem, decide_eq_true_eq, decide_eq_false_iff_not, and_assoc] using hg2
      have hdone : ∀ i ∈ G, D i = false → (∀ k ∈ G, dep md ops i k = true → D k = true) → i ∈ Region.ready md ops (mark listed D) → ∀ v w', Φ i v w.heap.size w'.heap.size w' → Ψ i (upd u i v) → Below w.heap.size w w' → S w' → wpN P md ops Q S (n + m) ((mark listed D).setIfInBounds i true) (A (upd u i v)) w' := by
        intro i hiG hiD hlst hi' v w' hv hψ hb hS'
        rw [mark_set]
        refine ih _ _ (updn lo i w.heap.size) (updn hi i w'.heap.size) _ ?_ (fun k hk => ?_) ?_ ⟨fun j hj hDj => ?_, fun j hj k hk hDj hDk hne => ?_⟩ (fun j hj hDj => ?_) (hB.trans (hb.mono hB.size)) hS'
        · have hout : ∀ (l : List Nat), i ∉ l → (l.filter fun k => D k || k == i) = l.filter D := by
            intro l hl
            refine List.filter_congr fun k hk => ?_
            have : k ≠ i := fun h => hl (h ▸ hk)
            simp [this]
          have hlen : ∀ (l : List Nat), l.Nodup → i ∈ l → (l.filter fun k => D k || k == i).length = (l.filter D).length + 1 := by
            intro l
            induction l with
            | nil => intro _ h; cases h
            | cons x l ihl =>
              intro hn hx
              obtain ⟨hn1, hn2⟩ := List.nodup_cons.1 hn
              by_cases hxi : x = i
              · subst hxi
                simp only [List.filter_cons, hiD, beq_self_eq_true, Bool.or_true, if_true, Bool.false_eq_true, if_false, List.length_cons, hout l hn1]
              · have hil : i ∈ l := by
                  rcases List.mem_cons.1 hx with h | h
                  · exact absurd h.symm hxi
                  · exact h
                have := ihl hn2 hil
                simp only [List.filter_cons, show (x == i) = false by simpa using hxi, Bool.or_false]
                split <;> simp only [List.length_cons, this]
          rw [hlen G hnd hiG]; omega
        · simp only [Bool.or_eq_true, beq_iff_eq] at hk
          rcases hk with hk | rfl
          · exact hD k hk
          · exact hiG
        · refine List.all_eq_true.2 fun x hx => ?_
          have h1 := List.all_eq_true.1 hp x hx
          simp only [Bool.or_eq_true, Bool.not_eq_true', Bool.or_eq_false_iff] at h1 ⊢
          by_cases hxi : x = i
          · subst hxi
            right
            obtain ⟨_, o, ho, hall⟩ := mem_ready.1 hi'
            rw [ho]
            refine Array.all_eq_true'.2 fun e he => ?_
            simp only [Bool.or_eq_true, Bool.not_eq_true']
            by_cases hbe : Region.binds md e = true
            · by_cases heG : G.contains e.on = true
              · right; left
                have h2 := hall e he hbe
                have h3 := hun e.on (by simpa using heG)
                have hs : e.on < listed.size := by
                  rcases Nat.lt_or_ge e.on listed.size with h | h
                  · exact h
                  · simp [Array.getElem?_eq_none h] at h3
                have h4 : e.on < (mark listed D).size := by rw [mark_size]; exact hs
                have h5 : listed[e.on] = false := by simpa [hs] using h3
                have h6 : (mark listed D)[e.on] = true := by simpa [h4] using h2
                rw [mark_get, h5] at h6
                simpa using h6
              · exact .inl (.inr (by simpa using heG))
            · exact .inl (.inl (by simpa using hbe))
          · rcases h1 with h1 | h1
            · exact .inl ⟨h1, by simpa using hxi⟩
            · right
              cases ho : ops[x]? with
              | none => rfl
              | some o =>
                rw [ho] at h1
                refine Array.all_eq_true'.2 fun e he => ?_
                have h2 := Array.all_eq_true'.1 h1 e he
                simp only [Bool.or_eq_true, Bool.not_eq_true'] at h2 ⊢
                rcases h2 with h2 | h2
                · exact .inl h2
                · exact .inr (.inl h2)
        · have hbs := hb.size
          have hBs := hB.size
          by_cases hji : j = i
          · subst hji
            simp only [upd, updn, if_true]
            exact ⟨hv, hBs, hbs, Nat.le_refl _⟩
          · simp only [upd, updn, if_neg hji]
            have hDj' : D j = true := by simpa [hji] using hDj
            obtain ⟨h1, h2, h3, h4⟩ := hΦ.1 j hj hDj'
            exact ⟨hst _ _ _ _ _ _ h1 hb, h2, h3, Nat.le_trans h4 hbs⟩
        · have hDD : ∀ x, x ≠ i → (D x || x == i) = true → D x = true := fun x hx h => by simpa [hx] using h
          by_cases hji : j = i
          · subst hji
            have hkj : k ≠ j := Ne.symm hne
            simp only [updn, if_true, if_neg hkj]
            exact .inr (hΦ.1 k hk (hDD k hkj hDk)).2.2.2
          · by_cases hki : k = i
            · subst hki
              simp only [updn, if_true, if_neg hji]
              exact .inl (hΦ.1 j hj (hDD j hji hDj)).2.2.2
            · simp only [updn, if_neg hji, if_neg hki]
              exact hΦ.2 j hj k hk (hDD j hji hDj) (hDD k hki hDk) hne
        · by_cases hji : j = i
          · subst hji; exact hψ
          · have hDj' : D j = true := by simpa [hji] using hDj
            refine hst' j hj u _ (fun k hk => ?_) (hΨ j hj hDj')
            have hki : k ≠ i := by
              rcases hk with rfl | hk
              · exact hji
              · intro e
                subst e
                have h1 := List.all_eq_true.1 hp j hj
                simp only [Bool.or_eq_true, Bool.not_eq_true', hDj'] at h1
                rcases h1 with h1 | h1
                · cases h1
                · cases ho : ops[j]? with
                  | none => simp [dep, ho] at hk
                  | some o =>
                    rw [ho] at h1
                    simp only [dep, ho] at hk
                    obtain ⟨e, he, hbe⟩ := Array.any_eq_true'.1 hk
                    simp only [Bool.and_eq_true, beq_iff_eq] at hbe
                    have h2 := Array.all_eq_true'.1 h1 e he
                    simp only [Bool.or_eq_true, Bool.not_eq_true', hbe.1, hbe.2] at h2
                    have h3 : G.contains k = true := by simpa using hiG
                    rw [h3, hiD] at h2
                    rcases h2 with (h2 | h2) | h2 <;> cases h2
            simp [upd, hki]
      have hlstOf : ∀ i ∈ G, i ∈ Region.ready md ops (mark listed D) → ∀ k ∈ G, dep md ops i k = true → D k = true := fun i hiG hi' k hk hdep => by
        obtain ⟨_, o, ho, hall⟩ := mem_ready.1 hi'
        simp only [dep, ho] at hdep
        obtain ⟨e, he, hbe⟩ := Array.any_eq_true'.1 hdep
        simp only [Bool.and_eq_true, beq_iff_eq] at hbe
        obtain ⟨hbe, rfl⟩ := hbe
        have h2 := hall e he hbe
        have h3 := hun e.on hk
        have hs : e.on < listed.size := by
          rcases Nat.lt_or_ge e.on listed.size with h | h
          · exact h
          · simp [Array.getElem?_eq_none h] at h3
        have h4 : e.on < (mark listed D).size := by rw [mark_size]; exact hs
        have h5 : listed[e.on] = false := by simpa [hs] using h3
        have h6 : (mark listed D)[e.on] = true := by simpa [h4] using h2
        rw [mark_get, h5] at h6
        simpa using h6
      rcases hg2 with (hg2 | ⟨i, hiP, hiD, hi', hfree⟩) | ⟨hg2, hg3⟩
      · omega
      · have hiG : i ∈ G := hPG i hiP
        have hiD' : D i = false := by
          cases h : D i
          · rfl
          · exact absurd (List.mem_filter.2 ⟨hiG, h⟩) hiD
        have hlst := hlstOf i hiG hi'
        obtain ⟨oj, v, ho, hy, hput, hv, hψ⟩ := hpu i hiP u w fun k hk hdep => ⟨_, _, (hΦ.1 k hk (hlst k hk hdep)).1⟩
        rw [show n + (m + 1) = (n + m) + 1 by omega]
        refine wpN_pure ho (by simp [hsel, hfree]; simpa using hi') (fun c a w h => hQ c _ _ w h) hy ?_
        rw [hput]
        exact hdone i hiG hiD' hlst hi' v w hv hψ (Below.refl _ _) hSw
      refine ⟨fun h0 => (by rw [h0] at hg2; simp at hg2), fun i hi' => ?_⟩
      obtain ⟨hiG, hiD⟩ := hg3 i hi'
      have hiD : D i = false := by
        cases h : D i
        · rfl
        · exact absurd (List.mem_filter.2 ⟨hiG, h⟩) hiD
      have hlst := hlstOf i hiG hi'
      refine wpOp_mono (fun a' w' hh => ?_) (hop i hiG u w (fun k hk hdep => ⟨hΨ k hk (hlst k hk hdep), _, _, (hΦ.1 k hk (hlst k hk hdep)).1⟩) hB hSw)
      obtain ⟨v, rfl, hv, hψ, hb, hS'⟩ := hh
      exact ⟨fun _ _ => hS', hdone i hiG hiD hlst hi' v w' hv hψ hb hS'⟩
  have h := key G.length (fun _ => false) u0 (fun _ => 0) (fun _ => 0) w0 (by simp) (by simp) (by simp [possible]) ⟨by simp, by simp⟩ (by simp) (Below.refl _ _) hS
  rw [mark_none] at h
  exact h


def fills (a : Act) (GD : List (Nat × Nat)) (u : Nat → Value) : Act := GD.foldl (fun a x => a.put (some x.2) (u x.1)) a

theorem put_put (a : Act) (d : Tmp) (v v' : Value) : (a.put (some d) v).put (some d) v' = a.put (some d) v' := by
  simp [Act.put]
theorem put_comm (a : Act) {d e : Tmp} (h : d ≠ e) (v v' : Value) : (a.put (some d) v).put (some e) v' = (a.put (some e) v').put (some d) v := by
  simp only [Act.put]
  rw [Array.setIfInBounds_comm _ _ h]
theorem fills_comm (u : Nat → Value) (d : Nat) (v : Value) : ∀ (l : List (Nat × Nat)) (a : Act), d ∉ l.map (·.2) → (fills a l u).put (some d) v = fills (a.put (some d) v) l u
  | [], _, _ => rfl
  | (i, e) :: l, a, h => by
    have h1 : d ≠ e := fun hh => h (by simp [hh])
    have h2 : d ∉ l.map (·.2) := fun hh => h (List.mem_cons_of_mem _ hh)
    show (fills (a.put (some e) (u i)) l u).put (some d) v = fills ((a.put (some d) v).put (some e) (u i)) l u
    rw [fills_comm u d v l _ h2, put_comm a (Ne.symm h1)]
theorem fills_congr {u u' : Nat → Value} : ∀ (l : List (Nat × Nat)) (a : Act), (∀ i ∈ l.map (·.1), u' i = u i) → fills a l u' = fills a l u
  | [], _, _ => rfl
  | (i, e) :: l, a, h => by
    show fills (a.put (some e) (u' i)) l u' = fills (a.put (some e) (u i)) l u
    rw [h i (by simp), fills_congr l _ fun j hj => h j (List.mem_cons_of_mem _ hj)]
theorem fills_put {u : Nat → Value} {j d : Nat} {v : Value} : ∀ (l : List (Nat × Nat)) (a : Act), (j, d) ∈ l → (l.map (·.1)).Nodup → (l.map (·.2)).Nodup → (fills a l u).put (some d) v = fills a l (upd u j v)
  | [], _, h, _, _ => absurd h (by simp)
  | (i, e) :: l, a, h, h1, h2 => by
    obtain ⟨g1, h1⟩ := List.nodup_cons.1 h1
    obtain ⟨g2, h2⟩ := List.nodup_cons.1 h2
    show (fills (a.put (some e) (u i)) l u).put (some d) v = fills (a.put (some e) (upd u j v i)) l (upd u j v)
    rcases List.mem_cons.1 h with h | h
    · cases h
      rw [fills_comm u d v l _ g2, put_put, fills_congr (u := u) (u' := upd u j v) l _ (fun k hk => by
        have : k ≠ j := fun hh => g1 (hh ▸ hk)
        simp [upd, this])]
      simp [upd]
    · have hij : i ≠ j := fun hh => g1 (by subst hh; exact List.mem_map.2 ⟨_, h, rfl⟩)
      rw [fills_put l _ h h1 h2]
      simp [upd, hij]

theorem wpN_gathersP (GD : List (Nat × Nat)) (n : Nat) (Φ : Nat → Value → Nat → Nat → World → Prop) (Ψ : Nat → (Nat → Value) → Prop) {n0 : Nat} {listed : Array Bool} {a : Act} {w0 : World}
    (hn : n0 = n + (GD.map (·.1)).length) (hA : a = fills a GD (fun _ => undef)) (hg : gathers md ops listed (GD.map (·.1)) = true) (hst : ∀ j v x y w w', Φ j v x y w → Below w.heap.size w w' → Φ j v x y w')
    (hst' : ∀ j ∈ GD.map (·.1), ∀ u u', (∀ k, k = j ∨ dep md ops j k = true → u' k = u k) → Ψ j u → Ψ j u') (hS : S w0)
    (hop : ∀ x ∈ GD, ∀ u w, (∀ k ∈ GD.map (·.1), dep md ops x.1 k = true → Ψ k u ∧ ∃ x y, Φ k (u k) x y w) → Below w0.heap.size w0 w → S w → wpOp P ops Q x.1 (fun a' w' => ∃ v, a' = fills a GD (upd u x.1 v) ∧ Φ x.1 v w.heap.size w'.heap.size w' ∧ Ψ x.1 (upd u x.1 v) ∧ Below w.heap.size w w' ∧ S w') (fills a GD u) w)
    (hend : ∀ u lo hi w, Parts (GD.map (·.1)) (fun _ => true) Φ w0.heap.size u lo hi w → (∀ j ∈ GD.map (·.1), Ψ j u) → Below w0.heap.size w0 w → S w → wpN P md ops Q S n (mark listed fun k => (GD.map (·.1)).contains k) (fills a GD u) w) :
    wpN P md ops Q S n0 listed a w0 :=
  wpN_gather (GD.map (·.1)) (fills a GD) (fun _ => undef) Φ Ψ hn hA hg hst hst' hS
    (fun j hj u w hd hB hSw => by
      obtain ⟨x, hx, rfl⟩ := List.mem_map.1 hj
      exact hop x hx u w hd hB hSw)
    hend

theorem wpN_gathersQ (GD : List (Nat × Nat)) (Pu : List Nat) (n : Nat) (Φ : Nat → Value → Nat → Nat → World → Prop) {n0 : Nat} {listed : Array Bool} {a : Act} {w0 : World}
    (hn : n0 = n + (GD.map (·.1)).length) (hA : a = fills a GD (fun _ => undef)) (hg : gathersQ md ops listed (GD.map (·.1)) Pu = true) (hst : ∀ j v x y w w', Φ j v x y w → Below w.heap.size w w' → Φ j v x y w')
    (hS : S w0)
    (hop : ∀ x ∈ GD, ∀ u w, (∀ k ∈ GD.map (·.1), dep md ops x.1 k = true → ∃ x y, Φ k (u k) x y w) → Below w0.heap.size w0 w → S w → wpOp P ops Q x.1 (fun a' w' => ∃ v, a' = fills a GD (upd u x.1 v) ∧ Φ x.1 v w.heap.size w'.heap.size w' ∧ Below w.heap.size w w' ∧ S w') (fills a GD u) w)
    (hsel : Region.noSelect ops = true) (hQ : ∀ c a b w, Q (.panic c) b w → Q (.panic c) a w)
    (hpu : ∀ j ∈ Pu, ∀ u w, (∀ k ∈ GD.map (·.1), dep md ops j k = true → ∃ x y, Φ k (u k) x y w) → ∃ oj v, ops[j]? = some oj ∧ YieldsIf P ops (fun _ => True) oj v (fills a GD u) ∧ (fills a GD u).put oj.dst v = fills a GD (upd u j v) ∧ Φ j v w.heap.size w.heap.size w)
    (hend : ∀ u lo hi w, Parts (GD.map (·.1)) (fun _ => true) Φ w0.heap.size u lo hi w → Below w0.heap.size w0 w → S w → wpN P md ops Q S n (mark listed fun k => (GD.map (·.1)).contains k) (fills a GD u) w) :
    wpN P md ops Q S n0 listed a w0 :=
  wpN_gatherQ (GD.map (·.1)) Pu (fills a GD) (fun _ => undef) Φ (fun _ _ => True) hn hA hg hst (fun _ _ _ _ _ _ => trivial) hS
    (fun j hj u w hd hB hSw => by
      obtain ⟨x, hx, rfl⟩ := List.mem_map.1 hj
      exact wpOp_mono (fun _ _ ⟨v, h1, h2, h3, h4⟩ => ⟨v, h1, h2, trivial, h3, h4⟩) (hop x hx u w (fun k hk hdep => (hd k hk hdep).2) hB hSw))
    hsel hQ (fun j hj u w hd => by
      obtain ⟨oj, v, h1, h2, h3, h4⟩ := hpu j hj u w hd
      exact ⟨oj, v, h1, h2, h3, h4, trivial⟩)
    (fun u lo hi w hp _ => hend u lo hi w hp)

theorem wpN_gathersR (GD : List (Nat × Nat)) (Pu : List Nat) (n : Nat) (Φ : Nat → Value → Nat → Nat → World → Prop) (Ψ : Nat → (Nat → Value) → Prop) {n0 : Nat} {listed : Array Bool} {a : Act} {w0 : World}
    (hn : n0 = n + (GD.map (·.1)).length) (hA : a = fills a GD (fun _ => undef)) (hg : gathersQ md ops listed (GD.map (·.1)) Pu = true) (hst : ∀ j v x y w w', Φ j v x y w → Below w.heap.size w w' → Φ j v x y w')
    (hst' : ∀ j ∈ GD.map (·.1), ∀ u u', (∀ k, k = j ∨ dep md ops j k = true → u' k = u k) → Ψ j u → Ψ j u') (hS : S w0)
    (hop : ∀ x ∈ GD, ∀ u w, (∀ k ∈ GD.map (·.1), dep md ops x.1 k = true → Ψ k u ∧ ∃ x y, Φ k (u k) x y w) → Below w0.heap.size w0 w → S w → wpOp P ops Q x.1 (fun a' w' => ∃ v, a' = fills a GD (upd u x.1 v) ∧ Φ x.1 v w.heap.size w'.heap.size w' ∧ Ψ x.1 (upd u x.1 v) ∧ Below w.heap.size w w' ∧ S w') (fills a GD u) w)
    (hsel : Region.noSelect ops = true) (hQ : ∀ c a b w, Q (.panic c) b w → Q (.panic c) a w)
    (hpu : ∀ j ∈ Pu, ∀ u w, (∀ k ∈ GD.map (·.1), dep md ops j k = true → ∃ x y, Φ k (u k) x y w) → ∃ oj v, ops[j]? = some oj ∧ YieldsIf P ops (fun _ => True) oj v (fills a GD u) ∧ (fills a GD u).put oj.dst v = fills a GD (upd u j v) ∧ Φ j v w.heap.size w.heap.size w ∧ Ψ j (upd u j v))
    (hend : ∀ u lo hi w, Parts (GD.map (·.1)) (fun _ => true) Φ w0.heap.size u lo hi w → (∀ j ∈ GD.map (·.1), Ψ j u) → Below w0.heap.size w0 w → S w → wpN P md ops Q S n (mark listed fun k => (GD.map (·.1)).contains k) (fills a GD u) w) :
    wpN P md ops Q S n0 listed a w0 :=
  wpN_gatherQ (GD.map (·.1)) Pu (fills a GD) (fun _ => undef) Φ Ψ hn hA hg hst hst' hS
    (fun j hj u w hd hB hSw => by
      obtain ⟨x, hx, rfl⟩ := List.mem_map.1 hj
      exact hop x hx u w hd hB hSw)
    hsel hQ hpu hend

theorem wpN_gathers (GD : List (Nat × Nat)) (n : Nat) (Φ : Nat → Value → Nat → Nat → World → Prop) {n0 : Nat} {listed : Array Bool} {a : Act} {w0 : World}
    (hn : n0 = n + (GD.map (·.1)).length) (hA : a = fills a GD (fun _ => undef)) (hg : gathers md ops listed (GD.map (·.1)) = true) (hst : ∀ j v x y w w', Φ j v x y w → Below w.heap.size w w' → Φ j v x y w') (hS : S w0)
    (hop : ∀ x ∈ GD, ∀ u w, Below w0.heap.size w0 w → S w → wpOp P ops Q x.1 (fun a' w' => ∃ v, a' = fills a GD (upd u x.1 v) ∧ Φ x.1 v w.heap.size w'.heap.size w' ∧ Below w.heap.size w w' ∧ S w') (fills a GD u) w)
    (hend : ∀ u lo hi w, Parts (GD.map (·.1)) (fun _ => true) Φ w0.heap.size u lo hi w → Below w0.heap.size w0 w → S w → wpN P md ops Q S n (mark listed fun k => (GD.map (·.1)).contains k) (fills a GD u) w) :
    wpN P md ops Q S n0 listed a w0 :=
  wpN_gathersP GD n Φ (fun _ _ => True) hn hA hg hst (fun _ _ _ _ _ _ => trivial) hS
    (fun x hx u w _ hB hSw => wpOp_mono (fun _ _ ⟨v, h1, h2, h3, h4⟩ => ⟨v, h1, h2, trivial, h3, h4⟩) (hop x hx u w hB hSw))
    (fun u lo hi w hp _ => hend u lo hi w hp)
end
end Go.Proofs.Ytejpgifofkiofaa

