/- The reference's graph, in the store. -/
import Derived.Test.YtedoacfoglbfeaaVkApp
namespace Go.V

def cellsR : List (Nat × Nat) → List D
  | [] => []
  | p :: r => .bool (decide (p = (0, 0))) :: .int .i64 (p.1 : Int) :: .int .i64 (p.2 : Int) :: cellsR r
@[simp] theorem cellsR_length : ∀ (l : List (Nat × Nat)), (cellsR l).length = l.length * 3
  | [] => rfl
  | p :: r => by simp only [cellsR, List.length_cons, cellsR_length r]; omega
theorem cellsR_append : ∀ (l m : List (Nat × Nat)), cellsR (l ++ m) = cellsR l ++ cellsR m
  | [], m => rfl
  | p :: r, m => by simp [cellsR, cellsR_append r m]
theorem cellsR_get : ∀ {l : List (Nat × Nat)} {i : Nat} (h : i < l.length), (cellsR l)[i * 3]? = some (.bool (decide (l[i] = (0, 0)))) ∧ (cellsR l)[i * 3 + 1]? = some (.int .i64 (l[i].1 : Int)) ∧ (cellsR l)[i * 3 + 2]? = some (.int .i64 (l[i].2 : Int))
  | p :: r, 0, h => by simp [cellsR]
  | p :: r, i + 1, h => by
    have ih := cellsR_get (l := r) (i := i) (by simpa using h)
    rw [show (i + 1) * 3 = i * 3 + 1 + 1 + 1 by omega]
    simpa [cellsR, Nat.add_right_comm] using ih

structure RefAt (s : Store) (r : Nat) (N : List (Nat × Nat)) (dl : D) (ids : List Nat) : Prop where
  obj : s.get r = some (.cells [dl])
  row : (dl = .nils ∧ N = [] ∧ ids = [r]) ∨ ∃ id, dl = .arr id 0 N.length 3 ∧ s.get id = some (.cells (cellsR N)) ∧ id ≠ r ∧ ids = [r, id]
def RefG (s : Store) (r : Nat) (N : List (Nat × Nat)) (ids : List Nat) : Prop := ∃ dl, RefAt s r N dl ids
theorem RefAt.one {s : Store} {r : Nat} {N : List (Nat × Nat)} {dl : D} {ids : List Nat} (h : RefAt s r N dl ids) : oneCell dl = true := by
  rcases h.row with ⟨rfl, _⟩ | ⟨id, rfl, _⟩ <;> rfl
theorem RefAt.len {s : Store} {r : Nat} {N : List (Nat × Nat)} {dl : D} {ids : List Nat} (h : RefAt s r N dl ids) : lenV false dl = some (.int .i64 (N.length : Int)) := by
  rcases h.row with ⟨rfl, rfl, _⟩ | ⟨id, rfl, _⟩ <;> rfl
theorem RefAt.idx {s : Store} {r : Nat} {N : List (Nat × Nat)} {dl : D} {ids : List Nat} (h : RefAt s r N dl ids) {i : Nat} (hi : i < N.length) :
    ∃ id, idxAV 3 dl (.int .i64 (i : Int)) = some (.ptr id (i * 3)) ∧ ldV s.get none (.ptr id (i * 3)) = some (.bool (decide (N[i] = (0, 0)))) ∧ ldV s.get none (.ptr id (i * 3 + 1)) = some (.int .i64 (N[i].1 : Int)) ∧ ldV s.get none (.ptr id (i * 3 + 2)) = some (.int .i64 (N[i].2 : Int)) ∧
      ldV s.get (some 3) (.ptr id (i * 3)) = some (.agg [.bool (decide (N[i] = (0, 0))), .int .i64 (N[i].1 : Int), .int .i64 (N[i].2 : Int)]) := by
  rcases h.row with ⟨_, rfl, _⟩ | ⟨id, rfl, hg, _, _⟩
  · simp at hi
  · obtain ⟨h1, h2, h3⟩ := cellsR_get hi
    refine ⟨id, ?_, ?_, ?_, ?_, ?_⟩
    · rw [idx_arr rfl (by omega) (by omega)]; simp
    · simp only [ldV, hg, pull, h1]; rfl
    · simp only [ldV, hg, pull, h2]; rfl
    · simp only [ldV, hg, pull, h3]; rfl
    · simp only [ldV, hg, pull, cellsR_length]
      rw [if_pos (by omega)]
      congr 2
      have hl : i * 3 + 3 ≤ (cellsR N).length := by rw [cellsR_length]; omega
      have e1 := List.getElem?_eq_some_iff.1 h1
      have e2 := List.getElem?_eq_some_iff.1 h2
      have e3 := List.getElem?_eq_some_iff.1 h3
      obtain ⟨q1, e1⟩ := e1
      obtain ⟨q2, e2⟩ := e2
      obtain ⟨q3, e3⟩ := e3
      rw [List.drop_eq_getElem_cons q1, List.drop_eq_getElem_cons q2, List.drop_eq_getElem_cons q3, e1, e2, e3]
      rfl
theorem RefAt.lt {s : Store} {r : Nat} {N : List (Nat × Nat)} {dl : D} {ids : List Nat} (h : RefAt s r N dl ids) : ∀ i ∈ ids, i < s.next := by
  rcases h.row with ⟨_, _, rfl⟩ | ⟨id, _, hg, _, rfl⟩
  · intro i hi; simp at hi; subst hi; exact get_lts h.obj
  · intro i hi; simp at hi
    rcases hi with rfl | rfl
    · exact get_lts h.obj
    · exact get_lts hg
theorem RefAt.stay {s s' : Store} {r : Nat} {N : List (Nat × Nat)} {dl : D} {ids ids2 : List Nat} (h : RefAt s r N dl ids) (hf : Fr ids2 s s') (hd : ∀ i ∈ ids, i ∉ ids2) : RefAt s' r N dl ids := by
  have hl := h.lt
  rcases h.row with ⟨rfl, rfl, rfl⟩ | ⟨id, rfl, hg, hne, rfl⟩
  · exact ⟨by rw [hf.2 r (hl r (by simp)) (hd r (by simp)), h.obj], .inl ⟨rfl, rfl, rfl⟩⟩
  · exact ⟨by rw [hf.2 r (hl r (by simp)) (hd r (by simp)), h.obj], .inr ⟨id, rfl, by rw [hf.2 id (hl id (by simp)) (hd id (by simp)), hg], hne, rfl⟩⟩
/-- A node is put behind. -/
theorem RefAt.app {s : Store} {r : Nat} {N : List (Nat × Nat)} {dl : D} {ids : List Nat} (h : RefAt s r N dl ids) (p : Nat × Nat) (hN : N.length < 1000000) :
    ∃ s' id', appendV 3 24 dl (.arr s.next 0 1 3) (s.push (.cells [.bool (decide (p = (0, 0))), .int .i64 (p.1 : Int), .int .i64 (p.2 : Int)])) = some (.arr id' 0 (N.length + 1) 3, s') ∧ s'.get id' = some (.cells (cellsR (N ++ [p]))) ∧ s.next ≤ id' ∧ Fr ids s s' ∧ s'.get r = some (.cells [dl]) ∧ r < s'.next := by
  have hr := get_lts h.obj
  have hg2 : (s.push (.cells [.bool (decide (p = (0, 0))), .int .i64 (p.1 : Int), .int .i64 (p.2 : Int)])).get s.next = some (.cells [.bool (decide (p = (0, 0))), .int .i64 (p.1 : Int), .int .i64 (p.2 : Int)]) := get_push_new rfl
  have b1 : ∀ n, n ≤ 1000000 → n * 24 ≤ 2 ^ 45 ∧ n ≤ 2 ^ 45 := fun n hn => ⟨Nat.le_trans (Nat.mul_le_mul_right _ hn) (by decide), Nat.le_trans hn (by decide)⟩
  rcases h.row with ⟨rfl, rfl, rfl⟩ | ⟨id, rfl, hg, hne, rfl⟩
  · refine ⟨(s.push (.cells [.bool (decide (p = (0, 0))), .int .i64 (p.1 : Int), .int .i64 (p.2 : Int)])).push (.cells (cellsR [p])), s.next + 1, ?_, get_push_new (by simp), by omega, (Fr.push _).thenPush _, ?_, by simp; omega⟩
    · unfold appendV
      simp only [rowOf, hg2, srcLen, srcSz, beq_self_eq_true]
      simp [cellsR]
    · rw [get_push_old (by simp; omega), get_push_old hr]; exact h.obj
  · have hl := get_lts hg
    refine ⟨((s.push (.cells [.bool (decide (p = (0, 0))), .int .i64 (p.1 : Int), .int .i64 (p.2 : Int)])).set id none).push (.cells (cellsR (N ++ [p]))), s.next + 1, ?_, get_push_new (by simp), by omega, ((Fr.push _).thenSet _ (.inl (by simp))).thenPush _, ?_, by simp; omega⟩
    · have hg' : (s.push (.cells [.bool (decide (p = (0, 0))), .int .i64 (p.1 : Int), .int .i64 (p.2 : Int)])).get id = some (.cells (cellsR N)) := by rw [get_push_old hl]; exact hg
      have hb := b1 (N.length + 1) (by omega)
      unfold appendV
      simp only [rowOf, hg2, srcLen, srcSz, beq_self_eq_true, hg', cellsR_length, Nat.zero_add]
      simp [cellsR_append, cellsR, hb.1, hb.2]
    · rw [get_push_old (by simp; omega), get_set_ne (fun e => hne e.symm), get_push_old hr]; exact h.obj
end Go.V
