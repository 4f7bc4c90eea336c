/- Walking a tree, plain. -/
import Derived.Test.YtdejcadenmggaaaVkMp
namespace Go.V

def kidsF (w : Nat → Nat × Bool) (len : Nat) : List Int → Nat → Nat × Bool
  | [], next => (next, true)
  | k :: ks, next => if k ≠ (next : Int) ∨ len ≤ next then (next, false) else if (w next).2 then kidsF w len ks (w next).1 else ((w next).1, false)
def walkF (t : List Nd) : Nat → Nat → Nat × Bool
  | 0, i => (i, false)
  | f + 1, i => kidsF (walkF t f) t.length (nd t i).kids (i + 1)
/-- The nodes from i on up to n are one node and all below it. -/
structure Sub (t : List Nd) (i n : Nat) : Prop where
  lt : i < n
  le : n ≤ t.length
  down : ∀ j, i ≤ j → j < n → ∀ k ∈ (nd t j).kids, (j : Int) < k ∧ k < (n : Int)
  up : ∀ j, i < j → j < n → ∃ p, i ≤ p ∧ p < n ∧ (j : Int) ∈ (nd t p).kids
/-- Subtrees one behind the other. -/
def Subs (t : List Nd) : List Int → Nat → Nat → Prop
  | [], a, n => a = n
  | k :: ks, a, n => k = (a : Int) ∧ ∃ b, Sub t a b ∧ Subs t ks b n
theorem Subs.le {t : List Nd} : ∀ {ks : List Int} {a n : Nat}, Subs t ks a n → a ≤ n
  | [], a, n, h => Nat.le_of_eq h
  | k :: ks, a, n, h => by
    obtain ⟨_, b, h1, h2⟩ := h
    have := h1.lt
    have := h2.le
    omega
theorem Subs.down {t : List Nd} : ∀ {ks : List Int} {a n : Nat}, Subs t ks a n → ∀ j, a ≤ j → j < n → ∀ k ∈ (nd t j).kids, (j : Int) < k ∧ k < (n : Int)
  | [], a, n, h, j, h1, h2 => by simp only [Subs] at h; omega
  | k :: ks, a, n, h, j, h1, h2 => by
    obtain ⟨_, b, h3, h4⟩ := h
    have := h4.le
    by_cases hj : j < b
    · intro x hx
      have := h3.down j h1 hj x hx
      omega
    · exact h4.down j (by omega) h2
theorem Subs.up {t : List Nd} : ∀ {ks : List Int} {a n : Nat}, Subs t ks a n → ∀ j, a ≤ j → j < n → (j : Int) ∈ ks ∨ ∃ p, a ≤ p ∧ p < n ∧ (j : Int) ∈ (nd t p).kids
  | [], a, n, h, j, h1, h2 => by simp only [Subs] at h; omega
  | k :: ks, a, n, h, j, h1, h2 => by
    obtain ⟨rfl, b, h3, h4⟩ := h
    have := h4.le
    have := h3.lt
    by_cases hj : j < b
    · by_cases ha : j = a
      · subst ha; exact .inl (by simp)
      · obtain ⟨p, p1, p2, p3⟩ := h3.up j (by omega) hj
        exact .inr ⟨p, p1, by omega, p3⟩
    · rcases h4.up j (by omega) h2 with h | ⟨p, p1, p2, p3⟩
      · exact .inl (by simp [h])
      · exact .inr ⟨p, by omega, p2, p3⟩
theorem Subs.mem {t : List Nd} : ∀ {ks : List Int} {a n : Nat}, Subs t ks a n → ∀ k ∈ ks, (a : Int) ≤ k ∧ k < (n : Int)
  | [], a, n, h => by simp
  | k :: ks, a, n, h => by
    obtain ⟨rfl, b, h3, h4⟩ := h
    have := h4.le
    have := h3.lt
    intro x hx
    rcases List.mem_cons.1 hx with rfl | hx
    · omega
    · have := h4.mem x hx
      omega
theorem sub_of {t : List Nd} {i n : Nat} (h : Subs t (nd t i).kids (i + 1) n) (hn : n ≤ t.length) : Sub t i n := by
  have hl := h.le
  refine ⟨by omega, hn, fun j h1 h2 => ?_, fun j h1 h2 => ?_⟩
  · by_cases hj : j = i
    · subst hj
      intro k hk
      have := h.mem k hk
      omega
    · exact h.down j (by omega) h2
  · rcases h.up j (by omega) h2 with h | ⟨p, p1, p2, p3⟩
    · exact ⟨i, by omega, by omega, h⟩
    · exact ⟨p, by omega, p2, p3⟩
theorem kids_ok {t : List Nd} {w : Nat → Nat × Bool} (hw : ∀ i n, i < t.length → w i = (n, true) → Sub t i n) : ∀ {ks : List Int} {next n : Nat}, next ≤ t.length → kidsF w t.length ks next = (n, true) → Subs t ks next n ∧ n ≤ t.length
  | [], next, n, hl, h => by
    simp only [kidsF, Prod.mk.injEq, and_true] at h
    subst h
    exact ⟨rfl, hl⟩
  | k :: ks, next, n, hl, h => by
    unfold kidsF at h
    split at h
    · simp at h
    · rename_i hc
      split at h
      · rename_i ht
        have hk : k = (next : Int) ∧ next < t.length := by omega
        have a := hw next (w next).1 hk.2 (by rw [← ht])
        obtain ⟨b1, b2⟩ := kids_ok hw a.le h
        exact ⟨⟨hk.1, _, a, b1⟩, b2⟩
      · simp at h
theorem walk_ok {t : List Nd} : ∀ (f : Nat) {i n : Nat}, i < t.length → walkF t f i = (n, true) → Sub t i n ∧ Subs t (nd t i).kids (i + 1) n
  | 0, i, n, _, h => by simp [walkF] at h
  | f + 1, i, n, hi, h => by
    obtain ⟨a1, a2⟩ := kids_ok (fun i n hi h => (walk_ok f hi h).1) (by omega) h
    exact ⟨sub_of a1 a2, a1⟩
theorem kids_le {t : List Nd} {w : Nat → Nat × Bool} (hw : ∀ i, i < t.length → (w i).1 ≤ t.length) : ∀ {ks : List Int} {next : Nat}, next ≤ t.length → (kidsF w t.length ks next).1 ≤ t.length
  | [], next, h => h
  | k :: ks, next, h => by
    unfold kidsF
    split
    · exact h
    · rename_i hc
      split
      · exact kids_le hw (hw next (by omega))
      · exact hw next (by omega)
theorem walk_le {t : List Nd} : ∀ (f : Nat) {i : Nat}, i < t.length → (walkF t f i).1 ≤ t.length
  | 0, i, h => Nat.le_of_lt h
  | f + 1, i, h => kids_le (fun i hi => walk_le f hi) (by omega)
end Go.V
