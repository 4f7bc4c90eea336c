/- Slices that are frozen: what they read as. -/
import Derived.Test.YtdejcadenmggaaaVkGr
import Derived.Laws.Strings
namespace Go.V
def FL (sz : Nat) (d : D) (rows : List (List D)) : Prop := (d = .nils ∧ rows = []) ∨ d = .lst sz rows
theorem FL.len {sz : Nat} {d : D} {rows : List (List D)} (h : FL sz d rows) : lenV false d = some (.int .i64 (rows.length : Int)) := by
  rcases h with ⟨rfl, rfl⟩ | rfl <;> rfl
theorem FL.one {sz : Nat} {d : D} {rows : List (List D)} (h : FL sz d rows) : oneCell d = true := by
  rcases h with ⟨rfl, rfl⟩ | rfl <;> rfl
theorem FL.pure {sz : Nat} {d : D} {rows : List (List D)} (h : FL sz d rows) : pureD d = true := by
  rcases h with ⟨rfl, rfl⟩ | rfl <;> rfl
theorem FL.ice {sz : Nat} {d : D} {rows : List (List D)} (h : FL sz d rows) {g : Look} {n : Nat} : ice g (n + 1) d = some d := by
  rcases h with ⟨rfl, rfl⟩ | rfl <;> rfl
theorem FL.idx {sz : Nat} {d : D} {rows : List (List D)} (h : FL sz d rows) {i : Nat} (hi : i < rows.length) {k : IntKind} : idxAV sz d (.int k (i : Int)) = some (.fp rows[i] 0) := by
  rcases h with ⟨rfl, rfl⟩ | rfl
  · simp at hi
  · simp [idxAV, hi]
theorem FL.cells {sz : Nat} {d : D} {rows : List (List D)} (h : FL sz d rows) : cellsOf d = [d] := by
  rcases h with ⟨rfl, rfl⟩ | rfl <;> rfl
/-- Strings, integers, truths. -/
def FS (d : D) (l : List ByteArray) : Prop := FL 1 d (l.map fun x => [.str x])
def FI (d : D) (l : List Int) : Prop := FL 1 d (l.map fun n => [.int .i64 n])
def FB (d : D) (l : List Bool) : Prop := FL 1 d (l.map fun b => [.bool b])
theorem FS.len {d : D} {l : List ByteArray} (h : FS d l) : lenV false d = some (.int .i64 (l.length : Int)) := by rw [FL.len h, List.length_map]
theorem FI.len {d : D} {l : List Int} (h : FI d l) : lenV false d = some (.int .i64 (l.length : Int)) := by rw [FL.len h, List.length_map]
theorem FB.len {d : D} {l : List Bool} (h : FB d l) : lenV false d = some (.int .i64 (l.length : Int)) := by rw [FL.len h, List.length_map]
theorem FS.idx {d : D} {l : List ByteArray} (h : FS d l) {i : Nat} (hi : i < l.length) {k : IntKind} : idxAV 1 d (.int k (i : Int)) = some (.fp [.str l[i]] 0) := by
  rw [FL.idx h (by simpa using hi)]; simp
theorem FI.idx {d : D} {l : List Int} (h : FI d l) {i : Nat} (hi : i < l.length) {k : IntKind} : idxAV 1 d (.int k (i : Int)) = some (.fp [.int .i64 l[i]] 0) := by
  rw [FL.idx h (by simpa using hi)]; simp
theorem FB.idx {d : D} {l : List Bool} (h : FB d l) {i : Nat} (hi : i < l.length) {k : IntKind} : idxAV 1 d (.int k (i : Int)) = some (.fp [.bool l[i]] 0) := by
  rw [FL.idx h (by simpa using hi)]; simp
/-- A slice of a frozen one. -/
theorem FL.drop {sz : Nat} {d : D} {rows : List (List D)} (h : FL sz d rows) {n : Nat} (hn : n ≤ rows.length) {k : IntKind} : ∃ d', sliceV (some sz) d (some (.int k (n : Int))) none = some d' ∧ FL sz d' (rows.drop n) := by
  rcases h with ⟨rfl, rfl⟩ | rfl
  · obtain rfl : n = 0 := by simpa using hn
    exact ⟨.nils, by simp [sliceV, boundOf], .inl ⟨rfl, rfl⟩⟩
  · exact ⟨_, by simp [sliceV, boundOf, hn], .inr rfl⟩
theorem FL.take {sz : Nat} {d : D} {rows : List (List D)} (h : FL sz d rows) {n : Nat} (hn : n ≤ rows.length) {k : IntKind} : ∃ d', sliceV (some sz) d none (some (.int k (n : Int))) = some d' ∧ FL sz d' (rows.take n) := by
  rcases h with ⟨rfl, rfl⟩ | rfl
  · obtain rfl : n = 0 := by simpa using hn
    exact ⟨.nils, by simp [sliceV, boundOf], .inl ⟨rfl, rfl⟩⟩
  · exact ⟨_, by simp [sliceV, boundOf, hn], .inr rfl⟩

/-- Texts' sameness. -/
theorem str_eq {a b : ByteArray} : (a.toList == b.toList) = decide (a = b) := by
  rw [Bool.eq_iff_iff, beq_iff_eq, decide_eq_true_eq]
  constructor
  · intro h
    rw [ByteArray.toList_eq, ByteArray.toList_eq] at h
    cases a; cases b
    simp at h
    rw [h]
  · rintro rfl; rfl
theorem bst_eql {a b : ByteArray} : binStr .eql a b = some (.bool (decide (a = b))) := by rw [← str_eq]; rfl
theorem bst_neq {a b : ByteArray} : binStr .neq a b = some (.bool (!decide (a = b))) := by rw [← str_eq]; rfl
attribute [go_sem] bst_eql bst_neq
end Go.V
