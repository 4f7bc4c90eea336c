/- Items, names in sight, plain. -/
import Derived.Test.YtdejcadenmggaaaVkRt
namespace Go.V

structure RightT (t : List Nd) : Prop where
  ok : TreeOk t
  subs : Subs t (nd t 0).kids 1 t.length
/-- The item in which a node stands. -/
def itemF : List Int → Nat → Nat → Nat
  | [], _, out => out
  | k :: ks, i, out => itemF ks i (if k ≤ (i : Int) then k.toNat else out)
def item (t : List Nd) (i : Nat) : Nat := itemF (nd t 0).kids i 0
theorem itemF_late {ks : List Int} {i out : Nat} (h : ∀ k ∈ ks, (i : Int) < k) : itemF ks i out = out := by
  induction ks generalizing out with
  | nil => rfl
  | cons k ks ih =>
    have := h k (by simp)
    unfold itemF
    rw [if_neg (by omega)]
    exact ih fun x hx => h x (by simp [hx])
theorem itemF_in {t : List Nd} : ∀ {ks : List Int} {a n i out : Nat}, Subs t ks a n → a ≤ i → i < n → ∃ b, (itemF ks i out : Int) ∈ ks ∧ Sub t (itemF ks i out) b ∧ itemF ks i out ≤ i ∧ i < b
  | [], a, n, i, out, h, h1, h2 => by simp only [Subs] at h; omega
  | k :: ks, a, n, i, out, h, h1, h2 => by
    obtain ⟨rfl, b, h3, h4⟩ := h
    unfold itemF
    rw [if_pos (by omega)]
    by_cases hb : i < b
    · rw [itemF_late fun x hx => by have := h4.mem x hx; omega]
      exact ⟨b, by simp, by simpa using h3, by simpa using h1, hb⟩
    · obtain ⟨c, c1, c2, c3, c4⟩ := itemF_in (out := (a : Int).toNat) h4 (by omega) h2
      exact ⟨c, List.mem_cons_of_mem _ c1, c2, c3, c4⟩
theorem item_in {t : List Nd} (h : RightT t) {i : Nat} (h1 : 1 ≤ i) (h2 : i < t.length) : ∃ b, (item t i : Int) ∈ (nd t 0).kids ∧ Sub t (item t i) b ∧ item t i ≤ i ∧ i < b := itemF_in h.subs h1 h2
/-- Two of the subtrees one behind the other are the same, or apart. -/
theorem Subs.apart {t : List Nd} : ∀ {ks : List Int} {a n : Nat}, Subs t ks a n → ∀ {x y : Nat} {b c : Nat}, (x : Int) ∈ ks → (y : Int) ∈ ks → Sub t x b → Sub t y c → x < y → (∀ b', Sub t x b' → b' = b) → b ≤ y
  | [], a, n, h, x, y, b, c, hx, _, _, _, _, _ => by simp at hx
  | k :: ks, a, n, h, x, y, b, c, hx, hy, sx, sy, hl, hu => by
    obtain ⟨rfl, d, h3, h4⟩ := h
    rcases List.mem_cons.1 hx with hx | hx
    · obtain rfl : x = a := by omega
      obtain rfl := hu d h3
      rcases List.mem_cons.1 hy with hy | hy
      · omega
      · have := h4.mem _ hy
        omega
    · rcases List.mem_cons.1 hy with hy | hy
      · have := h4.mem _ hx
        have := h3.lt
        omega
      · exact h4.apart hx hy sx sy hl hu
theorem item_self {t : List Nd} (h : RightT t) {x : Nat} (hx : (x : Int) ∈ (nd t 0).kids) : item t x = x := by
  have hm := h.subs.mem _ hx
  have key : ∀ {ks : List Int} {a n out : Nat}, Subs t ks a n → (x : Int) ∈ ks → itemF ks x out = x := by
    intro ks
    induction ks with
    | nil => intro a n out _ hx; simp at hx
    | cons k ks ih =>
      intro a n out hs hx
      obtain ⟨rfl, b, h3, h4⟩ := hs
      unfold itemF
      rcases List.mem_cons.1 hx with hx | hx
      · rw [if_pos (by omega), itemF_late fun y hy => by have := h4.mem y hy; have := h3.lt; omega]
        omega
      · exact ih h4 hx
  exact key h.subs hx
/-- Each node below an item is in it. -/
theorem item_below {t : List Nd} (h : RightT t) {x i : Nat} (hx : (x : Int) ∈ (nd t 0).kids) : ∃ b, Sub t x b ∧ b ≤ t.length ∧ ∀ i, x ≤ i → i < b → item t i = x := by
  have key : ∀ {ks : List Int} {a n : Nat}, Subs t ks a n → (x : Int) ∈ ks → ∃ b, Sub t x b ∧ b ≤ n ∧ ∀ i out, x ≤ i → i < b → itemF ks i out = x := by
    intro ks
    induction ks with
    | nil => intro a n _ hx; simp at hx
    | cons k ks ih =>
      intro a n hs hx
      obtain ⟨rfl, b, h3, h4⟩ := hs
      have hl := h4.le
      rcases List.mem_cons.1 hx with hx | hx
      · obtain rfl : x = a := by omega
        refine ⟨b, h3, hl, fun i out h1 h2 => ?_⟩
        unfold itemF
        rw [if_pos (by omega), itemF_late fun y hy => by have := h4.mem y hy; omega]
        omega
      · obtain ⟨c, c1, c2, c3⟩ := ih h4 hx
        exact ⟨c, c1, c2, fun i out h1 h2 => c3 i _ h1 h2⟩
  obtain ⟨b, b1, b2, b3⟩ := key h.subs hx
  exact ⟨b, b1, b2, fun i h1 h2 => b3 i 0 h1 h2⟩

/-- Names of a kind that are in sight at a node. -/
def Seen (t : List Nd) (kind : Int) (at' : Nat) (s : ByteArray) : Prop := ∃ i, i < at' ∧ (nd t i).kind = kind ∧ (item t i = i ∨ item t i = item t at') ∧ (nd t i).word 0 = s
def namesF (t : List Nd) (at' : Nat) (kind : Int) : Nat → List ByteArray
  | 0 => []
  | i + 1 => if (nd t i).kind = kind ∧ (item t i = i ∨ item t i = item t at') ∧ inB (namesF t at' kind i) ((nd t i).word 0) = false then namesF t at' kind i ++ [(nd t i).word 0] else namesF t at' kind i
theorem mem_names {t : List Nd} {at' : Nat} {kind : Int} {s : ByteArray} : ∀ {n : Nat}, s ∈ namesF t at' kind n ↔ ∃ i, i < n ∧ (nd t i).kind = kind ∧ (item t i = i ∨ item t i = item t at') ∧ (nd t i).word 0 = s
  | 0 => by simp [namesF]
  | n + 1 => by
    have ih := mem_names (t := t) (at' := at') (kind := kind) (s := s) (n := n)
    rw [namesF]
    split
    · rename_i hc
      rw [List.mem_append, ih]
      constructor
      · rintro (⟨i, h1, h2⟩ | h)
        · exact ⟨i, by omega, h2⟩
        · simp at h
          exact ⟨n, by omega, hc.1, hc.2.1, h.symm⟩
      · rintro ⟨i, h1, h2, h3, h4⟩
        by_cases hi : i = n
        · subst hi; right; simp [h4]
        · exact .inl ⟨i, by omega, h2, h3, h4⟩
    · rename_i hc
      rw [ih]
      constructor
      · rintro ⟨i, h1, h2⟩
        exact ⟨i, by omega, h2⟩
      · rintro ⟨i, h1, h2, h3, h4⟩
        by_cases hi : i = n
        · subst hi
          have : (nd t i).word 0 ∈ namesF t at' kind i := by
            rw [← inB_iff]
            cases h : inB (namesF t at' kind i) ((nd t i).word 0)
            · exact (hc ⟨h2, h3, h⟩).elim
            · rfl
          rw [h4] at this
          obtain ⟨j, j1, j2⟩ := ih.1 this
          exact ⟨j, j1, j2⟩
        · exact ⟨i, by omega, h2, h3, h4⟩
/-- Nothing is wrong with names. -/
structure Scoped (t : List Nd) : Prop where
  use : ∀ i, i < t.length → (nd t i).kind = 6 ∨ (nd t i).kind = 18 → Seen t 2 i ((nd t i).word 0)
  chan : ∀ i, i < t.length → (nd t i).kind = 7 ∨ (nd t i).kind = 19 ∨ (nd t i).kind = 8 → Seen t 1 i ((nd t i).word 0)
  recv : ∀ i, i < t.length → (nd t i).kind = 8 → Seen t 2 i ((nd t i).word 1)
  once : ∀ i, i < t.length → (nd t i).kind = 1 ∨ (nd t i).kind = 2 ∨ (nd t i).kind = 3 → ¬ Seen t 1 i ((nd t i).word 0) ∧ ¬ Seen t 2 i ((nd t i).word 0) ∧ ¬ Seen t 3 i ((nd t i).word 0)
end Go.V
