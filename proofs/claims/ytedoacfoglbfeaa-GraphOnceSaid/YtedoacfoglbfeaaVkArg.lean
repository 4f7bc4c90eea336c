/- What arguments read as. -/
import Derived.Test.YtedoacfoglbfeaaVkGp
namespace Go.V

theorem map_of {α β : Type} {f : α → β} {P : α → Prop} : ∀ {xs : List β}, (∀ x ∈ xs, ∃ a, x = f a ∧ P a) → ∃ as : List α, xs = as.map f ∧ ∀ a ∈ as, P a
  | [], _ => ⟨[], rfl, by simp⟩
  | x :: r, h => by
    obtain ⟨a, rfl, ha⟩ := h x (by simp)
    obtain ⟨as, rfl, has⟩ := map_of (xs := r) fun x hx => h x (by simp [hx])
    exact ⟨a :: as, rfl, by simpa using ⟨ha, has⟩⟩

def in64 (n : Int) : Prop := -9223372036854775808 ≤ n ∧ n < 9223372036854775808
theorem in64_of {n : Int} (h : (Lit.int .i64 n).wf = true) : in64 n := by
  simp only [Lit.wf, Bool.and_eq_true, decide_eq_true_eq] at h
  have h1 : IntKind.i64.min = -9223372036854775808 := rfl
  have h2 : IntKind.i64.max = 9223372036854775807 := rfl
  rw [h1, h2] at h
  exact ⟨h.1, by omega⟩
theorem inU8_of {n : Int} (h : (Lit.int .u8 n).wf = true) : 0 ≤ n ∧ n < 256 := by
  simp only [Lit.wf, Bool.and_eq_true, decide_eq_true_eq] at h
  have h1 : IntKind.u8.min = 0 := rfl
  have h2 : IntKind.u8.max = 255 := rfl
  rw [h1, h2] at h
  omega

/-- Structs of four integers, handed in. -/
structure RdA (d : D) (as : List (Int × Int × Int × Int)) : Prop where
  len : lenV false d = some (.int .i64 (as.length : Int))
  idx : ∀ i (h : i < as.length), idxAV 4 d (.int .i64 (i : Int)) = some (.fp [.int .i64 as[i].1, .int .i64 as[i].2.1, .int .i64 as[i].2.2.1, .int .i64 as[i].2.2.2] 0)
  rng : ∀ a ∈ as, in64 a.1 ∧ in64 a.2.1 ∧ in64 a.2.2.1 ∧ in64 a.2.2.2
def Ty.act : Ty := .slice 4 (.struct [.int .i64, .int .i64, .int .i64, .int .i64])
theorem acts_of {d : D} (h : ArgT Ty.act d) : ∃ as, RdA d as := by
  have h : HasT Ty.act [d] := h
  simp only [Ty.act, HasT] at h
  rcases h with h | ⟨xs, h, _, hx⟩
  · simp at h
    subst h
    exact ⟨[], rfl, by intro i h; simp at h, by simp⟩
  · simp at h
    subst h
    obtain ⟨as, rfl, has⟩ := map_of (f := fun (a : Int × Int × Int × Int) => [D.int .i64 a.1, .int .i64 a.2.1, .int .i64 a.2.2.1, .int .i64 a.2.2.2]) (P := fun a => in64 a.1 ∧ in64 a.2.1 ∧ in64 a.2.2.1 ∧ in64 a.2.2.2) (xs := xs) (by
      intro x hm
      have := hx x hm
      simp only [HasTs, HasT] at this
      obtain ⟨a1, b1, rfl, ⟨n1, rfl, w1⟩, a2, b2, rfl, ⟨n2, rfl, w2⟩, a3, b3, rfl, ⟨n3, rfl, w3⟩, a4, b4, rfl, ⟨n4, rfl, w4⟩, rfl⟩ := this
      exact ⟨(n1, n2, n3, n4), rfl, in64_of w1, in64_of w2, in64_of w3, in64_of w4⟩)
    refine ⟨as, by simp [lenV], fun i hi => ?_, has⟩
    simp [idxAV, hi]
theorem bools_of {d : D} (h : ArgT (.slice 1 .bool) d) : ∃ bs : List Bool, ∀ s, Rd s d (cellsB bs) := by
  have h : HasT (.slice 1 .bool) [d] := h
  simp only [HasT] at h
  rcases h with h | ⟨xs, h, _, hx⟩
  · simp at h
    subst h
    exact ⟨[], fun s => .inl ⟨rfl, rfl⟩⟩
  · simp at h
    subst h
    obtain ⟨bs, rfl, _⟩ := map_of (f := fun (b : Bool) => [D.bool b]) (P := fun _ => True) (xs := xs) (fun x hm => by
      obtain ⟨b, hb⟩ := hx x hm
      exact ⟨b, hb, trivial⟩)
    exact ⟨bs, fun s => .inr (.inl (by simp [cellsB]))⟩
def cellsU (l : List Nat) : List D := l.map fun (n : Nat) => .int .u8 (n : Int)
@[simp] theorem cellsU_length (l : List Nat) : (cellsU l).length = l.length := by simp [cellsU]
theorem all_cellsU (l : List Nat) : (cellsU l).all oneCell = true := by simp [cellsU, oneCell]
theorem Rd.lenU {s : Store} {d : D} {l : List Nat} (h : Rd s d (cellsU l)) : lenV false d = some (.int .i64 (l.length : Int)) := by rw [h.len, cellsU_length]
theorem Rd.idxU {s : Store} {d : D} {l : List Nat} (h : Rd s d (cellsU l)) {i : Nat} (hi : i < l.length) : ∃ p, idxAV 1 d (.int .i64 (i : Int)) = some p ∧ ldV s.get none p = some (.int .u8 (l[i] : Int)) := by
  obtain ⟨p, h1, h2⟩ := h.idx (all_cellsU l) (i := i) (by simpa using hi) (k := .i64) rfl
  exact ⟨p, h1, by rw [h2]; simp [cellsU]⟩
theorem bytes_of {d : D} (h : ArgT (.slice 1 (.int .u8)) d) : ∃ bs : List Nat, (∀ s, Rd s d (cellsU bs)) ∧ ∀ b ∈ bs, b < 256 := by
  have h : HasT (.slice 1 (.int .u8)) [d] := h
  simp only [HasT] at h
  rcases h with h | ⟨xs, h, _, hx⟩
  · simp at h
    subst h
    exact ⟨[], fun s => .inl ⟨rfl, rfl⟩, by simp⟩
  · simp at h
    subst h
    obtain ⟨bs, rfl, hb⟩ := map_of (f := fun (b : Nat) => [D.int .u8 (b : Int)]) (P := fun b => b < 256) (xs := xs) (fun x hm => by
      obtain ⟨n, hn, hw⟩ := hx x hm
      have := inU8_of hw
      refine ⟨n.toNat, ?_, by omega⟩
      rw [hn, Int.toNat_of_nonneg this.1])
    exact ⟨bs, fun s => .inr (.inl (by simp [cellsU])), hb⟩

/-- One thing is put behind a slice. -/
theorem Sl.push1 {s : Store} {d : D} {l : List D} {ids : List Nat} (h : Sl s d l ids) (x : D) {bytes : Nat} (hb : bytes ≤ 16) (hl : l.length < 2 ^ 40) :
    ∃ s' d', appendV 1 bytes d (.arr s.next 0 1 1) (s.push (.cells [x])) = some (d', s') ∧ Sl s' d' (l ++ [x]) [s.next + 1] ∧ s'.next = s.next + 2 ∧ Fr ids s s' := by
  have h' : Sl (s.push (.cells [x])) d l ids := h.stay (ids2 := []) (Fr.push _) (by simp)
  obtain ⟨s', d', e1, e2, e3, e4⟩ := h'.push (new := [x]) (id2 := s.next) (bytes := bytes) (get_push_new rfl) (by simp) hb (by simp; omega)
  refine ⟨s', d', e1, e2, e3, by rw [e3, Store.next_push]; omega, fun i hi hn => ?_⟩
  rw [e4 i hn (by simp only [Store.next_push]; omega), get_push_old hi]
end Go.V
