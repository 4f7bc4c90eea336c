/- Trees of nodes, frozen. -/
import Derived.Test.YtdejcadenmggaaaVkFz
import Derived.Test.YtdejcadenmggaaaVkArg
namespace Go.V

/-- A node: its cells, and what they read as. -/
structure Nd where
  kind : Int
  dw : D
  dn : D
  dk : D
  pos : Int
  words : List ByteArray
  nums : List Int
  kids : List Int
  deriving Inhabited
def Nd.row (x : Nd) : List D := [.int .i64 x.kind, x.dw, x.dn, x.dk, .int .i64 x.pos]
structure Nd.Ok (x : Nd) : Prop where
  w : FS x.dw x.words
  n : FI x.dn x.nums
  k : FI x.dk x.kids
  ki : in64 x.kind
  wl : x.words.length ≤ maxLen
  nl : x.nums.length ≤ maxLen
  kl : x.kids.length ≤ maxLen
  ni : ∀ n ∈ x.nums, in64 n
  ii : ∀ n ∈ x.kids, in64 n
structure TreeAt (d : D) (t : List Nd) : Prop where
  fl : FL 5 d (t.map Nd.row)
  ok : ∀ x ∈ t, x.Ok
  le : t.length ≤ maxLen
theorem TreeAt.len {d : D} {t : List Nd} (h : TreeAt d t) : lenV false d = some (.int .i64 (t.length : Int)) := by rw [h.fl.len, List.length_map]
theorem TreeAt.idx {d : D} {t : List Nd} (h : TreeAt d t) {i : Nat} (hi : i < t.length) {k : IntKind} : idxAV 5 d (.int k (i : Int)) = some (.fp [.int .i64 t[i].kind, t[i].dw, t[i].dn, t[i].dk, .int .i64 t[i].pos] 0) := by
  rw [h.fl.idx (by simpa using hi)]; simp [Nd.row]
theorem TreeAt.get {d : D} {t : List Nd} (h : TreeAt d t) {i : Nat} (hi : i < t.length) : t[i].Ok := h.ok _ (List.getElem_mem hi)

def Ty.node : Ty := .struct [.int .i64, .slice 1 .str, .slice 1 (.int .i64), .slice 1 (.int .i64), .int .i64]
def Ty.tree : Ty := .slice 5 Ty.node
theorem strs_of {a : List D} (h : HasT (.slice 1 .str) a) : ∃ d l, a = [d] ∧ FS d l ∧ l.length ≤ maxLen := by
  simp only [HasT] at h
  rcases h with rfl | ⟨xs, rfl, hl, hx⟩
  · exact ⟨.nils, [], rfl, .inl ⟨rfl, rfl⟩, by simp⟩
  · obtain ⟨l, rfl, _⟩ := map_of (f := fun (b : ByteArray) => [D.str b]) (P := fun _ => True) (xs := xs) (fun x hm => by
      obtain ⟨b, hb, _⟩ := hx x hm
      exact ⟨b, hb, trivial⟩)
    exact ⟨_, l, rfl, .inr rfl, by simpa using hl⟩
theorem ints_of {a : List D} (h : HasT (.slice 1 (.int .i64)) a) : ∃ d l, a = [d] ∧ FI d l ∧ l.length ≤ maxLen ∧ ∀ n ∈ l, in64 n := by
  simp only [HasT] at h
  rcases h with rfl | ⟨xs, rfl, hl, hx⟩
  · exact ⟨.nils, [], rfl, .inl ⟨rfl, rfl⟩, by simp, by simp⟩
  · obtain ⟨l, rfl, hi⟩ := map_of (f := fun (n : Int) => [D.int .i64 n]) (P := fun n => in64 n) (xs := xs) (fun x hm => by
      obtain ⟨n, hn, w⟩ := hx x hm
      exact ⟨n, hn, in64_of w⟩)
    exact ⟨_, l, rfl, .inr rfl, by simpa using hl, hi⟩
theorem node_of {a : List D} (h : HasT Ty.node a) : ∃ x : Nd, a = x.row ∧ x.Ok := by
  simp only [Ty.node, HasT, HasTs] at h
  obtain ⟨a1, b1, rfl, ⟨n1, rfl, w1⟩, a2, b2, rfl, h2, a3, b3, rfl, h3, a4, b4, rfl, h4, a5, b5, rfl, ⟨n5, rfl, w5⟩, rfl⟩ := h
  obtain ⟨dw, lw, rfl, fw, lwl⟩ := strs_of (by simpa only [HasT] using h2)
  obtain ⟨dn, ln, rfl, fn, lnl, lni⟩ := ints_of (by simpa only [HasT] using h3)
  obtain ⟨dk, lk, rfl, fk, lkl, lki⟩ := ints_of (by simpa only [HasT] using h4)
  exact ⟨⟨n1, dw, dn, dk, n5, lw, ln, lk⟩, rfl, fw, fn, fk, in64_of w1, lwl, lnl, lkl, lni, lki⟩
theorem tree_of {d : D} (h : ArgT Ty.tree d) : ∃ t, TreeAt d t := by
  have h : HasT Ty.tree [d] := h
  rw [Ty.tree, HasT] at h
  rcases h with h | ⟨xs, h, hl, hx⟩
  · simp at h
    subst h
    exact ⟨[], .inl ⟨rfl, rfl⟩, by simp, by simp⟩
  · simp at h
    subst h
    obtain ⟨t, rfl, hi⟩ := map_of (f := Nd.row) (P := Nd.Ok) (xs := xs) fun x hm => node_of (hx x hm)
    exact ⟨t, .inr rfl, hi, by simpa using hl⟩
theorem intsA_of {d : D} (h : ArgT (.slice 1 (.int .i64)) d) : ∃ l, FI d l ∧ l.length ≤ maxLen ∧ ∀ n ∈ l, in64 n := by
  obtain ⟨d', l, e, h⟩ := ints_of (a := [d]) h
  simp at e
  subst e
  exact ⟨l, h⟩
end Go.V
