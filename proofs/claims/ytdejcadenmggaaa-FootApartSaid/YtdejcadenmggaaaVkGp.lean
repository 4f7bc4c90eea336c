/- And-inverter graphs, plain: no program in sight. -/
import Derived.Test.YtdejcadenmggaaaVkGr
namespace Go.V

theorem snocInd {α : Type} {P : List α → Prop} (h0 : P []) (h1 : ∀ l a, P l → P (l ++ [a])) : ∀ l, P l := by
  intro l
  have : ∀ r : List α, P r.reverse := by
    intro r
    induction r with
    | nil => exact h0
    | cons a r ih => rw [List.reverse_cons]; exact h1 _ _ ih
  have h := this l.reverse
  rwa [List.reverse_reverse] at h

def insFrom : Nat → List (Nat × Nat) → List Nat
  | _, [] => []
  | k, p :: r => if p = (0, 0) ∧ 0 < k then k :: insFrom (k + 1) r else insFrom (k + 1) r
theorem insFrom_append : ∀ (k : Nat) (l m : List (Nat × Nat)), insFrom k (l ++ m) = insFrom k l ++ insFrom (k + l.length) m
  | k, [], m => by simp [insFrom]
  | k, p :: r, m => by
    simp only [List.cons_append, insFrom, insFrom_append (k + 1) r m, List.length_cons]
    rw [show k + 1 + r.length = k + (r.length + 1) by omega]
    split <;> simp

structure Gr.WF (G : Gr) : Prop where
  pos : G.nodes[0]? = some (0, 0)
  nodes : ∀ (n : Nat) (p : Nat × Nat), G.nodes[n]? = some p → p = (0, 0) ∨ (2 ≤ p.1 ∧ p.1 < p.2 ∧ p.2 < 2 * n)
  ins : G.ins = insFrom 0 G.nodes
  known : ∀ (p : Nat × Nat) (n : Nat), find p G.known = some n ↔ p ≠ (0, 0) ∧ G.nodes[n]? = some p

theorem Gr.WF.len {G : Gr} (h : G.WF) : 0 < G.nodes.length := by
  have := h.pos
  rcases Nat.eq_zero_or_pos G.nodes.length with h0 | h0
  · rw [List.getElem?_eq_none (by omega)] at this; cases this
  · exact h0
theorem Gr.WF.lt {G : Gr} (h : G.WF) : ∀ p n, find p G.known = some n → n < G.nodes.length := by
  intro p n hf
  have := (h.known p n).1 hf
  rcases Nat.lt_or_ge n G.nodes.length with h1 | h1
  · exact h1
  · rw [List.getElem?_eq_none h1] at this; cases this.2

/-! What edges are. -/
def evL (vs : List Bool) (e : Nat) : Bool := vs.getD (e / 2) false != (e % 2 == 1)
def stepV (m : List Bool) (st : List Bool × Nat) (p : Nat × Nat) : List Bool × Nat :=
  if p = (0, 0) then (if st.1.length = 0 then (st.1 ++ [false], st.2) else (st.1 ++ [m.getD st.2 false], st.2 + 1))
  else (st.1 ++ [evL st.1 p.1 && evL st.1 p.2], st.2)
def valsS (m : List Bool) (nodes : List (Nat × Nat)) : List Bool × Nat := nodes.foldl (stepV m) ([], 0)
def vals (m : List Bool) (nodes : List (Nat × Nat)) : List Bool := (valsS m nodes).1
def Gr.ev (G : Gr) (m : List Bool) (e : Nat) : Bool := evL (vals m G.nodes) e

theorem valsS_snoc (m : List Bool) (l : List (Nat × Nat)) (p : Nat × Nat) : valsS m (l ++ [p]) = stepV m (valsS m l) p := by simp [valsS, List.foldl_append]
theorem vals_snoc (m : List Bool) (l : List (Nat × Nat)) (p : Nat × Nat) : ∃ v, vals m (l ++ [p]) = vals m l ++ [v] := by
  simp only [vals, valsS_snoc, stepV]
  split
  · split <;> exact ⟨_, rfl⟩
  · exact ⟨_, rfl⟩
theorem vals_append (m : List Bool) (l k : List (Nat × Nat)) : ∃ t, vals m (l ++ k) = vals m l ++ t := by
  induction k using snocInd with
  | h0 => exact ⟨[], by simp⟩
  | h1 k p ih =>
    obtain ⟨t, ht⟩ := ih
    obtain ⟨v, hv⟩ := vals_snoc m (l ++ k) p
    exact ⟨t ++ [v], by rw [← List.append_assoc, hv, ht, List.append_assoc]⟩
theorem vals_length (m : List Bool) (l : List (Nat × Nat)) : (vals m l).length = l.length := by
  induction l using snocInd with
  | h0 => rfl
  | h1 l p ih =>
    obtain ⟨v, hv⟩ := vals_snoc m l p
    rw [hv]; simp [ih]
theorem evL_append {l t : List Bool} {e : Nat} (h : e / 2 < l.length) : evL (l ++ t) e = evL l e := by
  simp only [evL]
  congr 1
  simp [List.getD, List.getElem?_append_left h]
theorem valsS_count (m : List Bool) (l : List (Nat × Nat)) : (valsS m l).2 = (insFrom 0 l).length := by
  induction l using snocInd with
  | h0 => rfl
  | h1 l p ih =>
    have hl : (valsS m l).1.length = l.length := vals_length m l
    rw [valsS_snoc, insFrom_append, List.length_append, ← ih, stepV, hl]
    simp only [insFrom, Nat.zero_add]
    by_cases hp : p = (0, 0)
    · by_cases hz : l.length = 0
      · simp [hp, hz]
      · simp [hp, hz, Nat.pos_of_ne_zero hz]
    · simp [hp]

theorem notN_div (e : Nat) : notN e / 2 = e / 2 := by unfold notN; split <;> omega
theorem notN_mod (e : Nat) : (notN e % 2 == 1) = !(e % 2 == 1) := by
  unfold notN
  rw [Bool.eq_iff_iff]
  simp only [beq_iff_eq, Bool.not_eq_true', beq_eq_false_iff_ne, ne_eq]
  split <;> omega
theorem notN_notN (e : Nat) : notN (notN e) = e := by
  unfold notN
  by_cases h : e % 2 = 0
  · rw [if_pos h, if_neg (by omega)]; omega
  · rw [if_neg h, if_pos (by omega)]; omega
theorem notN_lt {e n : Nat} (h : e < 2 * n) : notN e < 2 * n := by unfold notN; split <;> omega
theorem evL_not (l : List Bool) (e : Nat) : evL l (notN e) = !evL l e := by
  simp only [evL, notN_div, notN_mod]
  cases (l.getD (e / 2) false) <;> cases (e % 2 == 1) <;> rfl
theorem Gr.ev_not (G : Gr) (m : List Bool) (e : Nat) : G.ev m (notN e) = !G.ev m e := evL_not _ _

/-- What was laid stays what it was. -/
def Gr.Ext (G G' : Gr) : Prop := ∃ l, G'.nodes = G.nodes ++ l
theorem Gr.Ext.refl (G : Gr) : Gr.Ext G G := ⟨[], by simp⟩
theorem Gr.Ext.trans {A B C : Gr} (h : Gr.Ext A B) (k : Gr.Ext B C) : Gr.Ext A C := by
  obtain ⟨l, hl⟩ := h
  obtain ⟨r, hr⟩ := k
  exact ⟨l ++ r, by rw [hr, hl, List.append_assoc]⟩
theorem Gr.Ext.le {G G' : Gr} (h : Gr.Ext G G') : G.nodes.length ≤ G'.nodes.length := by
  obtain ⟨l, hl⟩ := h
  rw [hl]; simp
theorem Gr.Ext.ev {G G' : Gr} (h : Gr.Ext G G') {m : List Bool} {e : Nat} (he : e < 2 * G.nodes.length) : G'.ev m e = G.ev m e := by
  obtain ⟨l, hl⟩ := h
  obtain ⟨t, ht⟩ := vals_append m G.nodes l
  simp only [Gr.ev, hl, ht]
  exact evL_append (by rw [vals_length]; omega)
theorem Gr.Ext.get {G G' : Gr} (h : Gr.Ext G G') {n : Nat} {p : Nat × Nat} (hp : G.nodes[n]? = some p) : G'.nodes[n]? = some p := by
  obtain ⟨l, hl⟩ := h
  rw [hl, List.getElem?_append_left, hp]
  rcases Nat.lt_or_ge n G.nodes.length with h1 | h1
  · exact h1
  · rw [List.getElem?_eq_none h1] at hp; cases hp

theorem getD_get {l : List Bool} {n : Nat} {v : Bool} (h : l[n]? = some v) : l.getD n false = v := by simp [List.getD, h]
/-- A node's value, by its kind. -/
theorem vals_and {m : List Bool} {l : List (Nat × Nat)} (hw : ∀ (n : Nat) (p : Nat × Nat), l[n]? = some p → p = (0, 0) ∨ (2 ≤ p.1 ∧ p.1 < p.2 ∧ p.2 < 2 * n)) :
    ∀ {n : Nat} {p : Nat × Nat}, l[n]? = some p → p ≠ (0, 0) → (vals m l)[n]? = some (evL (vals m l) p.1 && evL (vals m l) p.2) := by
  induction l using snocInd with
  | h0 => intro n p h; simp at h
  | h1 l q ih =>
    intro n p h hp
    obtain ⟨v, hv⟩ := vals_snoc m l q
    have hl := vals_length m l
    have hlt : n < (l ++ [q]).length := by
      rcases Nat.lt_or_ge n (l ++ [q]).length with h1 | h1
      · exact h1
      · rw [List.getElem?_eq_none h1] at h; cases h
    have hb := hw n p h
    rcases hb with hb | ⟨b1, b2, b3⟩
    · exact absurd hb hp
    simp only [List.length_append, List.length_singleton] at hlt
    have e1 : p.1 / 2 < (vals m l).length := by omega
    have e2 : p.2 / 2 < (vals m l).length := by omega
    rw [hv, evL_append e1, evL_append e2]
    by_cases hn : n < l.length
    · rw [List.getElem?_append_left (by omega)]
      refine ih (fun n p h => hw n p (by rw [List.getElem?_append_left, h]; rcases Nat.lt_or_ge n l.length with h1 | h1; exact h1; rw [List.getElem?_eq_none h1] at h; cases h)) ?_ hp
      rwa [List.getElem?_append_left hn] at h
    · have hn' : n = l.length := by omega
      subst hn'
      rw [List.getElem?_append_right (Nat.le_refl _)] at h
      simp at h
      subst h
      rw [List.getElem?_append_right (by omega)]
      have : vals m (l ++ [q]) = vals m l ++ [evL (vals m l) q.1 && evL (vals m l) q.2] := by
        simp only [vals, valsS_snoc, stepV, hp, if_false]
      rw [hv] at this
      have := List.append_cancel_left this
      rw [this, hl]
      simp
theorem Gr.WF.ev_node {G : Gr} (h : G.WF) {m : List Bool} {n : Nat} {p : Nat × Nat} (hn : G.nodes[n]? = some p) (hp : p ≠ (0, 0)) : G.ev m (2 * n) = (G.ev m p.1 && G.ev m p.2) := by
  have := vals_and (m := m) h.nodes hn hp
  have e : G.ev m (2 * n) = (vals m G.nodes).getD n false := by
    simp only [Gr.ev, evL]
    rw [show 2 * n / 2 = n by omega, show 2 * n % 2 = 0 by omega]
    cases (vals m G.nodes).getD n false <;> rfl
  rw [e, getD_get this]
  rfl
theorem vals_zero {m : List Bool} {l : List (Nat × Nat)} (h : l[0]? = some (0, 0)) : (vals m l)[0]? = some false := by
  cases l with
  | nil => simp at h
  | cons p r =>
    simp at h
    subst h
    obtain ⟨t, ht⟩ := vals_append m [(0, 0)] r
    rw [show (0, 0) :: r = [(0, 0)] ++ r from rfl, ht]
    rfl
theorem Gr.WF.ev_zero {G : Gr} (h : G.WF) (m : List Bool) : G.ev m 0 = false := by
  simp only [Gr.ev, evL]
  rw [show 0 / 2 = 0 from rfl, getD_get (vals_zero h.pos)]
  rfl
theorem Gr.WF.ev_one {G : Gr} (h : G.WF) (m : List Bool) : G.ev m 1 = true := by
  simp only [Gr.ev, evL]
  rw [show 1 / 2 = 0 from rfl, getD_get (vals_zero h.pos)]
  rfl

/-- A step that lays at most k nodes, and none if there is but node 0. -/
structure Gr.Ok (G G' : Gr) (k : Nat) : Prop where
  wf : G'.WF
  ext : Gr.Ext G G'
  len : G'.nodes.length ≤ G.nodes.length + k
  one : G.nodes.length = 1 → G'.nodes.length = 1
  ins : G'.ins = G.ins
theorem Gr.Ok.refl {G : Gr} (h : G.WF) : Gr.Ok G G 0 := ⟨h, Gr.Ext.refl G, by omega, fun h => h, rfl⟩
theorem Gr.Ok.trans {A B C : Gr} {j k : Nat} (h : Gr.Ok A B j) (l : Gr.Ok B C k) : Gr.Ok A C (j + k) := ⟨l.wf, h.ext.trans l.ext, by have := h.len; have := l.len; omega, fun e => l.one (h.one e), l.ins.trans h.ins⟩
theorem Gr.Ok.weaken {A B : Gr} {j k : Nat} (h : Gr.Ok A B j) (l : j ≤ k) : Gr.Ok A B k := ⟨h.wf, h.ext, by have := h.len; omega, h.one, h.ins⟩

theorem find_append (p q : Nat × Nat) (n : Nat) : ∀ (l : List ((Nat × Nat) × Nat)), find p (l ++ [(q, n)]) = (find p l).or (if p = q then some n else none)
  | [] => by simp [find]
  | (r, k) :: l => by
    simp only [List.cons_append, find]
    split
    · simp
    · exact find_append p q n l

theorem Gr.and_ok {G : Gr} (h : G.WF) {a b : Nat} (ha : a < 2 * G.nodes.length) (hb : b < 2 * G.nodes.length) :
    Gr.Ok G (G.and a b).2 1 ∧ (G.and a b).1 < 2 * (G.and a b).2.nodes.length ∧ ∀ m, (G.and a b).2.ev m (G.and a b).1 = (G.ev m a && G.ev m b) := by
  have hmm : ∀ m, (G.ev m a && G.ev m b) = (G.ev m (min a b) && G.ev m (max a b)) := by
    intro m
    rcases Nat.le_total a b with h1 | h1
    · rw [Nat.min_eq_left h1, Nat.max_eq_right h1]
    · rw [Nat.min_eq_right h1, Nat.max_eq_left h1, Bool.and_comm]
  have hx : min a b < 2 * G.nodes.length := by omega
  have hy : max a b < 2 * G.nodes.length := by omega
  have hxy : min a b ≤ max a b := by omega
  simp only [hmm]
  unfold Gr.and
  clear hmm ha hb
  generalize min a b = x at *
  generalize max a b = y at *
  have hlen := h.len
  split
  · rename_i hc
    refine ⟨(Gr.Ok.refl h).weaken (by omega), by show 0 < 2 * G.nodes.length; omega, fun m => ?_⟩
    show G.ev m 0 = _
    rw [h.ev_zero]
    rcases hc with rfl | rfl
    · simp [h.ev_zero]
    · rw [Gr.ev_not]; simp
  · split
    · rename_i hc
      refine ⟨(Gr.Ok.refl h).weaken (by omega), hy, fun m => ?_⟩
      show G.ev m y = _
      rcases hc with rfl | rfl
      · simp [h.ev_one]
      · simp
    · rename_i h1 h2
      split
      · rename_i n hf
        have hk := (h.known _ _).1 hf
        have hn := h.lt _ _ hf
        refine ⟨(Gr.Ok.refl h).weaken (by omega), by show 2 * n < 2 * G.nodes.length; omega, fun m => ?_⟩
        show G.ev m (2 * n) = _
        rw [h.ev_node hk.2 hk.1]
      · rename_i hf
        have hp : (x, y) ≠ (0, 0) := by
          intro he
          simp at he
          exact h1 (.inl he.1)
        have hx2 : 2 ≤ x := by
          rcases Nat.lt_or_ge x 2 with h3 | h3
          · exfalso
            rcases Nat.lt_or_ge x 1 with h4 | h4
            · exact h1 (.inl (by omega))
            · exact h2 (.inl (by omega))
          · exact h3
        have hlt : x < y := by
          rcases Nat.lt_or_eq_of_le hxy with h3 | h3
          · exact h3
          · exact absurd (.inr h3) h2
        have hL : 1 < G.nodes.length := by omega
        have hw : Gr.WF { nodes := G.nodes ++ [(x, y)], ins := G.ins, known := G.known ++ [((x, y), G.nodes.length)] } := by
          refine ⟨?_, ?_, ?_, ?_⟩
          · show (G.nodes ++ [(x, y)])[0]? = _
            rw [List.getElem?_append_left hlen]; exact h.pos
          · intro n p hn
            change (G.nodes ++ [(x, y)])[n]? = some p at hn
            rcases Nat.lt_or_ge n G.nodes.length with h3 | h3
            · rw [List.getElem?_append_left h3] at hn
              exact h.nodes n p hn
            · rw [List.getElem?_append_right h3] at hn
              have : n - G.nodes.length = 0 := by
                rcases Nat.eq_zero_or_pos (n - G.nodes.length) with h4 | h4
                · exact h4
                · rw [List.getElem?_eq_none (by simp; omega)] at hn; cases hn
              rw [this] at hn
              simp at hn
              subst hn
              exact .inr ⟨hx2, hlt, by show y < 2 * n; omega⟩
          · show G.ins = insFrom 0 (G.nodes ++ [(x, y)])
            rw [insFrom_append, h.ins]
            simp only [insFrom]
            rw [if_neg (fun hc => hp hc.1)]
            simp
          · intro p n
            show find p (G.known ++ [((x, y), G.nodes.length)]) = some n ↔ p ≠ (0, 0) ∧ (G.nodes ++ [(x, y)])[n]? = some p
            rw [find_append]
            cases hfp : find p G.known with
            | some k =>
              have hk := (h.known _ _).1 hfp
              have hkl := h.lt _ _ hfp
              simp only [Option.some_or]
              constructor
              · intro e
                cases e
                exact ⟨hk.1, by rw [List.getElem?_append_left hkl]; exact hk.2⟩
              · rintro ⟨e1, e2⟩
                rcases Nat.lt_or_ge n G.nodes.length with h3 | h3
                · rw [List.getElem?_append_left h3] at e2
                  rw [← hfp]
                  exact (h.known _ _).2 ⟨e1, e2⟩
                · rw [List.getElem?_append_right h3] at e2
                  have : n - G.nodes.length = 0 := by
                    rcases Nat.eq_zero_or_pos (n - G.nodes.length) with h4 | h4
                    · exact h4
                    · rw [List.getElem?_eq_none (by simp; omega)] at e2; cases e2
                  rw [this] at e2
                  simp at e2
                  rw [e2] at hf
                  rw [hf] at hfp
                  cases hfp
            | none =>
              simp only [Option.none_or]
              constructor
              · intro e
                split at e
                · rename_i hpx
                  cases e
                  subst hpx
                  exact ⟨hp, by rw [List.getElem?_append_right (Nat.le_refl _)]; simp⟩
                · cases e
              · rintro ⟨e1, e2⟩
                rcases Nat.lt_or_ge n G.nodes.length with h3 | h3
                · rw [List.getElem?_append_left h3] at e2
                  have := (h.known _ _).2 ⟨e1, e2⟩
                  rw [this] at hfp; cases hfp
                · rw [List.getElem?_append_right h3] at e2
                  have : n - G.nodes.length = 0 := by
                    rcases Nat.eq_zero_or_pos (n - G.nodes.length) with h4 | h4
                    · exact h4
                    · rw [List.getElem?_eq_none (by simp; omega)] at e2; cases e2
                  rw [this] at e2
                  simp at e2
                  rw [if_pos e2.symm]
                  congr 1; omega
        have hext : Gr.Ext G { nodes := G.nodes ++ [(x, y)], ins := G.ins, known := G.known ++ [((x, y), G.nodes.length)] } := ⟨[(x, y)], rfl⟩
        refine ⟨⟨hw, hext, by simp, fun e => by omega, rfl⟩, by simp, fun m => ?_⟩
        rw [hw.ev_node (n := G.nodes.length) (p := (x, y)) (by simp) hp, hext.ev hx, hext.ev hy]

/-- Laid again, in whatever order, no node comes. -/
theorem Gr.and_again {G G' : Gr} (h : G.WF) {a b : Nat} (hx : Gr.Ext (G.and a b).2 G') (hw : G'.WF) : G'.and b a = ((G.and a b).1, G') := by
  unfold Gr.and at *
  rw [Nat.min_comm b a, Nat.max_comm b a]
  by_cases h1 : min a b = 0 ∨ min a b = notN (max a b)
  · simp only [if_pos h1]
  · by_cases h2 : min a b = 1 ∨ min a b = max a b
    · simp only [if_neg h1, if_pos h2]
    · have hp : (min a b, max a b) ≠ (0, 0) := by
        intro he
        simp only [Prod.mk.injEq] at he
        exact h1 (.inl he.1)
      simp only [if_neg h1, if_neg h2] at hx ⊢
      cases hf : find (min a b, max a b) G.known with
      | some n =>
        simp only [hf] at hx ⊢
        have hk := (h.known _ _).1 hf
        rw [(hw.known _ _).2 ⟨hp, hx.get hk.2⟩]
      | none =>
        simp only [hf] at hx ⊢
        rw [(hw.known (min a b, max a b) G.nodes.length).2 ⟨hp, hx.get (by simp)⟩]

theorem getElem?_snoc {α : Type} {l : List α} {a x : α} {n : Nat} (h : (l ++ [a])[n]? = some x) : (n < l.length ∧ l[n]? = some x) ∨ (n = l.length ∧ a = x) := by
  rcases Nat.lt_or_ge n l.length with h3 | h3
  · rw [List.getElem?_append_left h3] at h
    exact .inl ⟨h3, h⟩
  · rw [List.getElem?_append_right h3] at h
    have : n - l.length = 0 := by
      rcases Nat.eq_zero_or_pos (n - l.length) with h4 | h4
      · exact h4
      · rw [List.getElem?_eq_none (by simp; omega)] at h; cases h
    rw [this] at h
    simp at h
    exact .inr ⟨by omega, h⟩
theorem Gr.input_ok {G : Gr} (h : G.WF) : G.input.WF ∧ Gr.Ext G G.input ∧ G.input.nodes.length = G.nodes.length + 1 ∧ G.input.ins = G.ins ++ [G.nodes.length] ∧ ∀ m, G.input.ev m (2 * G.nodes.length) = m.getD G.ins.length false := by
  have hlen := h.len
  refine ⟨⟨?_, ?_, ?_, ?_⟩, ⟨[(0, 0)], rfl⟩, by simp [Gr.input], rfl, fun m => ?_⟩
  · show (G.nodes ++ [(0, 0)])[0]? = _
    rw [List.getElem?_append_left hlen]; exact h.pos
  · intro n p hn
    rcases getElem?_snoc hn with ⟨_, h1⟩ | ⟨_, h1⟩
    · exact h.nodes n p h1
    · exact .inl h1.symm
  · show G.ins ++ [G.nodes.length] = insFrom 0 (G.nodes ++ [(0, 0)])
    rw [insFrom_append, h.ins]
    simp [insFrom, hlen]
  · intro p n
    show find p G.known = some n ↔ p ≠ (0, 0) ∧ (G.nodes ++ [(0, 0)])[n]? = some p
    rw [h.known]
    constructor
    · rintro ⟨h1, h2⟩
      refine ⟨h1, ?_⟩
      rw [List.getElem?_append_left, h2]
      rcases Nat.lt_or_ge n G.nodes.length with h3 | h3
      · exact h3
      · rw [List.getElem?_eq_none h3] at h2; cases h2
    · rintro ⟨h1, h2⟩
      rcases getElem?_snoc h2 with ⟨_, h3⟩ | ⟨_, h3⟩
      · exact ⟨h1, h3⟩
      · exact absurd h3.symm h1
  · have hl := vals_length m G.nodes
    have hc := valsS_count m G.nodes
    have : vals m G.input.nodes = vals m G.nodes ++ [m.getD G.ins.length false] := by
      show vals m (G.nodes ++ [(0, 0)]) = _
      have hne : ¬ (valsS m G.nodes).1.length = 0 := by
        have : (valsS m G.nodes).1.length = G.nodes.length := hl
        omega
      simp only [vals, valsS_snoc, stepV, if_true, if_neg hne, hc, h.ins]
    simp only [Gr.ev, evL, this]
    rw [show 2 * G.nodes.length / 2 = G.nodes.length by omega, show 2 * G.nodes.length % 2 = 0 by omega]
    rw [getD_get (v := m.getD G.ins.length false) (by rw [List.getElem?_append_right (by omega), hl]; simp)]
    cases m.getD G.ins.length false <;> rfl
def Gr.new : Gr := ⟨[(0, 0)], [], []⟩
theorem Gr.new_wf : Gr.new.WF := by
  refine ⟨rfl, ?_, rfl, ?_⟩
  · intro n p h
    cases n with
    | zero => simp [Gr.new] at h; exact .inl h.symm
    | succ n => simp [Gr.new] at h
  · intro p n
    simp only [Gr.new, find]
    constructor
    · intro h; cases h
    · rintro ⟨h1, h2⟩
      cases n with
      | zero => simp at h2; exact absurd h2.symm h1
      | succ n => simp at h2
/-- An and of two edges was laid: laid again, whatever came between, it is the same one. -/
def Gr.Laid (G : Gr) (a b e : Nat) : Prop := ∀ G', Gr.Ext G G' → G'.WF → G'.and b a = (e, G')
theorem Gr.laid {G : Gr} (h : G.WF) (a b : Nat) : Gr.Laid (G.and a b).2 a b (G.and a b).1 := fun _ hx hw => Gr.and_again h hx hw
theorem Gr.Laid.mono {G G' : Gr} {a b e : Nat} (h : Gr.Laid G a b e) (hx : Gr.Ext G G') : Gr.Laid G' a b e := fun G'' hx' hw => h G'' (hx.trans hx') hw
/-- One of the edges, turned if odd. -/
def pickE (es : List Nat) (n : Nat) : Nat := if n % 2 = 1 then notN (es.getD (n / 2 % es.length) 0) else es.getD (n / 2 % es.length) 0
theorem pickE_lt {es : List Nat} {n k : Nat} (h : ∀ e ∈ es, e < 2 * k) (hk : 0 < k) : pickE es n < 2 * k := by
  have : es.getD (n / 2 % es.length) 0 < 2 * k := by
    simp only [List.getD]
    cases he : es[n / 2 % es.length]? with
    | none => simp; omega
    | some e => simp; exact h e (List.mem_of_getElem? he)
  unfold pickE
  split
  · exact notN_lt this
  · exact this

/-! The inputs. -/
theorem insFrom_snoc (l : List (Nat × Nat)) (p : Nat × Nat) : insFrom 0 (l ++ [p]) = insFrom 0 l ++ if p = (0, 0) ∧ 0 < l.length then [l.length] else [] := by
  rw [insFrom_append]
  simp only [insFrom, Nat.zero_add]
theorem ins_mem (l : List (Nat × Nat)) : ∀ n, n ∈ insFrom 0 l ↔ 0 < n ∧ l[n]? = some (0, 0) := by
  induction l using snocInd with
  | h0 => intro n; simp [insFrom]
  | h1 l p ih =>
    intro n
    rw [insFrom_snoc, List.mem_append, ih]
    constructor
    · rintro (⟨h1, h2⟩ | h)
      · refine ⟨h1, ?_⟩
        rw [List.getElem?_append_left, h2]
        rcases Nat.lt_or_ge n l.length with h3 | h3
        · exact h3
        · rw [List.getElem?_eq_none h3] at h2; cases h2
      · split at h
        · rename_i hc
          simp at h
          subst h
          exact ⟨hc.2, by rw [List.getElem?_append_right (Nat.le_refl _), hc.1]; simp⟩
        · simp at h
    · rintro ⟨h1, h2⟩
      rcases getElem?_snoc h2 with ⟨_, h3⟩ | ⟨h3, h4⟩
      · exact .inl ⟨h1, h3⟩
      · right
        subst h3
        rw [if_pos ⟨h4, h1⟩]
        simp
theorem ins_lt (l : List (Nat × Nat)) : ∀ n ∈ insFrom 0 l, n < l.length := by
  intro n hn
  have := ((ins_mem l n).1 hn).2
  rcases Nat.lt_or_ge n l.length with h3 | h3
  · exact h3
  · rw [List.getElem?_eq_none h3] at this; cases this
theorem ins_sorted (l : List (Nat × Nat)) : (insFrom 0 l).Pairwise (· < ·) := by
  induction l using snocInd with
  | h0 => simp [insFrom]
  | h1 l p ih =>
    rw [insFrom_snoc, List.pairwise_append]
    refine ⟨ih, by split <;> simp, fun a ha b hb => ?_⟩
    have := ins_lt l a ha
    split at hb
    · simp at hb; omega
    · simp at hb
theorem vals_in {m : List Bool} (l : List (Nat × Nat)) : ∀ {j n : Nat}, (insFrom 0 l)[j]? = some n → (vals m l)[n]? = some (m.getD j false) := by
  induction l using snocInd with
  | h0 => intro j n h; simp [insFrom] at h
  | h1 l p ih =>
    intro j n h
    obtain ⟨v, hv⟩ := vals_snoc m l p
    have hl := vals_length m l
    have hc := valsS_count m l
    rw [insFrom_snoc] at h
    rcases Nat.lt_or_ge j (insFrom 0 l).length with hj | hj
    · rw [List.getElem?_append_left hj] at h
      have := ih h
      rw [hv, List.getElem?_append_left, this]
      rcases Nat.lt_or_ge n (vals m l).length with h3 | h3
      · exact h3
      · rw [List.getElem?_eq_none h3] at this; cases this
    · rw [List.getElem?_append_right hj] at h
      split at h
      · rename_i hp
        have hj' : j = (insFrom 0 l).length := by
          rcases Nat.eq_zero_or_pos (j - (insFrom 0 l).length) with h4 | h4
          · omega
          · rw [List.getElem?_eq_none (by simp; omega)] at h; cases h
        subst hj'
        simp at h
        subst h
        have hne : ¬ (valsS m l).1.length = 0 := by
          have : (valsS m l).1.length = l.length := hl
          omega
        have : vals m (l ++ [p]) = vals m l ++ [m.getD (insFrom 0 l).length false] := by
          simp only [vals, valsS_snoc, stepV, hp.1, if_true, if_neg hne, hc]
        rw [this, List.getElem?_append_right (by omega), hl]
        simp
      · simp at h

/-- What a call that lays an edge answers. -/
def GE (s : Store) (g : Nat) (ids : List Nat) (G : Gr) (k : Nat) (v : List Bool → Bool) (d : D) (s' : Store) : Prop :=
  ∃ (e : Nat) (G' : Gr) (ids' : List Nat), d = .int .i64 (e : Int) ∧ GrStep s g ids s' G' ids' ∧ Gr.Ok G G' k ∧ e < 2 * G'.nodes.length ∧ ∀ m, G'.ev m e = v m
/-- A slice that is read beside a graph. -/
def RdF (s : Store) (ids : List Nat) (d : D) (l : List D) : Prop := Rd s d l ∧ ∀ id off n, d = .arr id off n 1 → id ∉ ids
theorem RdF.fr {s s' : Store} {ids ids' : List Nat} {d : D} {l : List D} (h : RdF s ids d l) (hf : Fr ids s s') (hm : ∀ i ∈ ids', i ∈ ids ∨ s.next ≤ i) : RdF s' ids' d l := by
  obtain ⟨h1, h2⟩ := h
  have lt : ∀ id off n, d = .arr id off n 1 → id < s.next := by
    rintro id off n rfl
    rcases h1 with ⟨h, _⟩ | h | ⟨id', off', cs, h, hg, _⟩
    · cases h
    · cases h
    · cases h; exact get_lts hg
  refine ⟨h1.stay fun id off n hd => hf.2 id (lt id off n hd) (h2 id off n hd), fun id off n hd hc => ?_⟩
  rcases hm id hc with h | h
  · exact h2 id off n hd h
  · have := lt id off n hd; omega
theorem RdF.step {s s' : Store} {g : Nat} {ids ids' : List Nat} {G' : Gr} {d : D} {l : List D} (h : RdF s ids d l) (hs : GrStep s g ids s' G' ids') : RdF s' ids' d l := h.fr hs.2.1 hs.2.2
theorem RdF.newer {s s' : Store} {ids : List Nat} {d : D} {l : List D} (h : RdF s ids d l) (hf : Fr [] s s') : RdF s' ids d l := h.fr (hf.weaken (by simp)) fun _ h => .inl h
theorem Sl.rdF {s : Store} {d : D} {l : List D} {ids ids' : List Nat} (h : Sl s d l ids) (hd : ∀ i ∈ ids, i ∉ ids') : RdF s ids' d l := by
  refine ⟨h.rd, fun id off n he => ?_⟩
  rcases h with ⟨rfl, _⟩ | ⟨id', rfl, _, rfl⟩
  · cases he
  · cases he; exact hd _ (by simp)
theorem RdF.of {s : Store} {d : D} {l : List D} {ids : List Nat} (h : ∀ s, Rd s d l) : RdF s ids d l := by
  refine ⟨h s, fun id off n he => ?_⟩
  subst he
  rcases h Store.empty with ⟨h, _⟩ | h | ⟨id', off', cs, h, hg, _⟩
  · cases h
  · cases h
  · simp at hg
end Go.V
