/- What arguments read as. -/
import Derived.Test.YtdejcadenmggaaaVkGp
namespace Go.V

theorem map_of {α β : Type} {f : α → β} {P : α → Prop} : ∀ {xs : List β}, (∀ x ∈ xs, ∃ a, x = f a ∧ P a) → ∃ as : List α, xs = as.map f ∧ ∀ a ∈ as, P a
  | [], _ => ⟨[], rfl, by simp⟩
  | x :: r, h => by
    obtain ⟨a, rfl, ha⟩ := h x (by simp)
    obtain ⟨as, rfl, has⟩ := map_of (xs := r) fun x hx => h x (by simp [hx])
    exact ⟨a :: as, rfl, by simpa using ⟨ha, has⟩⟩

def in64 (n : Int) : Prop := -9223372036854775808 ≤ n ∧ n < 9223372036854775808
theorem in64_of {n : Int} (h : (Lit.int .i64 n).wf = true) : in64 n := by
  simp only [Lit.wf, Bool.and_eq_true, decide_eq_true_eq] at h
  have h1 : IntKind.i64.min = -9223372036854775808 := rfl
  have h2 : IntKind.i64.max = 9223372036854775807 := rfl
  rw [h1, h2] at h
  exact ⟨h.1, by omega⟩
theorem inU8_of {n : Int} (h : (Lit.int .u8 n).wf = true) : 0 ≤ n ∧ n < 256 := by
  simp only [Lit.wf, Bool.and_eq_true, decide_eq_true_eq] at h
  have h1 : IntKind.u8.min = 0 := rfl
  have h2 : IntKind.u8.max = 255 := rfl
  rw [h1, h2] at h
  omega

/-- Structs of four integers, handed in. -/
structure RdA (d : D) (as : List (Int × Int × Int × Int)) : Prop where
  len : lenV false d = some (.int .i64 (as.length : Int))
  idx : ∀ i (h : i < as.length), idxAV 4 d (.int .i64 (i : Int)) = some (.fp [.int .i64 as[i].1, .int .i64 as[i].2.1, .int .i64 as[i].2.2.1, .int .i64 as[i].2.2.2] 0)
  rng : ∀ a ∈ as, in64 a.1 ∧ in64 a.2.1 ∧ in64 a.2.2.1 ∧ in64 a.2.2.2
def Ty.act : Ty := .slice 4 (.struct [.int .i64, .int .i64, .int .i64, .int .i64])
theorem acts_of {d : D} (h : ArgT Ty.act d) : ∃ as, RdA d as := by
  have h : HasT Ty.act [d] := h
  simp only [Ty.act, HasT] at h
  rcases h with h | ⟨xs, h, _, hx⟩
  · simp at h
    subst h
    exact ⟨[], rfl, by intro i h; simp at h, by simp⟩
  · simp at h
    subst h
    obtain ⟨as, rfl, has⟩ := map_of (f := fun (a : Int × Int × Int × Int) => [D.int .i64 a.1, .int .i64 a.2.1, .int .i64 a.2.2.1, .int .i64 a.2.2.2]) (P := fun a => in64 a.1 ∧ in64 a.2.1 ∧ in64 a.2.2.1 ∧ in64 a.2.2.2) (xs := xs) (by
      intro x hm
      have := hx x hm
      simp only [HasTs, HasT] at this
      obtain ⟨a1, b1, rfl, ⟨n1, rfl, w1⟩, a2, b2, rfl, ⟨n2, rfl, w2⟩, a3, b3, rfl, ⟨n3, rfl, w3⟩, a4, b4, rfl, ⟨n4, rfl, w4⟩, rfl⟩ := this
      exact ⟨(n1, n2, n3, n4), rfl, in64_of w1, in64_of w2, in64_of w3, in64_of w4⟩)
    refine ⟨as, by simp [lenV], fun i hi => ?_, has⟩
    simp [idxAV, hi]
theorem bools_of {d : D} (h : ArgT (.slice 1 .bool) d) : ∃ bs : List Bool, ∀ s, Rd s d (cellsB bs) := by
  have h : HasT (.slice 1 .bool) [d] := h
  simp only [HasT] at h
  rcases h with h | ⟨xs, h, _, hx⟩
  · simp at h
    subst h
    exact ⟨[], fun s => .inl ⟨rfl, rfl⟩⟩
  · simp at h
    subst h
    obtain ⟨bs, rfl, _⟩ := map_of (f := fun (b : Bool) => [D.bool b]) (P := fun _ => True) (xs := xs) (fun x hm => by
      obtain ⟨b, hb⟩ := hx x hm
      exact ⟨b, hb, trivial⟩)
    exact ⟨bs, fun s => .inr (.inl (by simp [cellsB]))⟩
def cellsU (l : List Nat) : List D := l.map fun (n : Nat) => .int .u8 (n : Int)
@[simp] theorem cellsU_length (l : List Nat) : (cellsU l).length = l.length := by simp [cellsU]
theorem all_cellsU (l : List Nat) : (cellsU l).all oneCell = true := by simp [cellsU, oneCell]
theorem Rd.lenU {s : Store} {d : D} {l : List Nat} (h : Rd s d (cellsU l)) : lenV false d = some (.int .i64 (l.length : Int)) := by rw [h.len, cellsU_length]
theorem Rd.idxU {s : Store} {d : D} {l : List Nat} (h : Rd s d (cellsU l)) {i : Nat} (hi : i < l.length) : ∃ p, idxAV 1 d (.int .i64 (i : Int)) = some p ∧ ldV s.get none p = some (.int .u8 (l[i] : Int)) := by
  obtain ⟨p, h1, h2⟩ := h.idx (all_cellsU l) (i := i) (by simpa using hi) (k := .i64) rfl
  exact ⟨p, h1, by rw [h2]; simp [cellsU]⟩
theorem bytes_of {d : D} (h : ArgT (.slice 1 (.int .u8)) d) : ∃ bs : List Nat, (∀ s, Rd s d (cellsU bs)) ∧ ∀ b ∈ bs, b < 256 := by
  have h : HasT (.slice 1 (.int .u8)) [d] := h
  simp only [HasT] at h
  rcases h with h | ⟨xs, h, _, hx⟩
  · simp at h
    subst h
    exact ⟨[], fun s => .inl ⟨rfl, rfl⟩, by simp⟩
  · simp at h
    subst h
    obtain ⟨bs, rfl, hb⟩ := map_of (f := fun (b : Nat) => [D.int .u8 (b : Int)]) (P := fun b => b < 256) (xs := xs) (fun x hm => by
      obtain ⟨n, hn, hw⟩ := hx x hm
      have := inU8_of hw
      refine ⟨n.toNat, ?_, by omega⟩
      rw [hn, Int.toNat_of_nonneg this.1])
    exact ⟨bs, fun s => .inr (.inl (by simp [cellsU])), hb⟩

/-- One thing is put behind a slice. -/
theorem Sl.push1 {s : Store} {d : D} {l : List D} {ids : List Nat} (h : Sl s d l ids) (x : D) {bytes : Nat} (hb : bytes ≤ 16) (hl : l.length < 2 ^ 40) :
    ∃ s' d', appendV 1 bytes d (.arr s.next 0 1 1) (s.push (.cells [x])) = some (d', s') ∧ Sl s' d' (l ++ [x]) [s.next + 1] ∧ s'.next = s.next + 2 ∧ Fr ids s s' := by
  have h' : Sl (s.push (.cells [x])) d l ids := h.stay (ids2 := []) (Fr.push _) (by simp)
  obtain ⟨s', d', e1, e2, e3, e4⟩ := h'.push (new := [x]) (id2 := s.next) (bytes := bytes) (get_push_new rfl) (by simp) hb (by simp; omega)
  refine ⟨s', d', e1, e2, e3, by rw [e3, Store.next_push]; omega, fun i hi hn => ?_⟩
  rw [e4 i hn (by simp only [Store.next_push]; omega), get_push_old hi]

/-! Loads and writes by what is known of the slice. -/
section
variable {fs : FuncId → Option VFunc}
theorem vq_ld {pairs i t n x rest s Q} {env : Env} {p d : D} (hx : env.ev x = p) (hl : ldV s.get n p = some d) (h : WQ fs pairs rest ((t, d) :: env) s Q) : WQ fs pairs ((i, ⟨some t, .r (.load n x), none⟩) :: rest) env s Q :=
  vq_r (by rw [evR_load, hx]; exact hl) h
theorem splice_set {l : List D} {n : Nat} {x : D} (h : n < l.length) : splice l n [x] = l.set n x := by
  simp only [splice, List.length_singleton]
  rw [List.set_eq_take_append_cons_drop, if_pos h]
  simp
theorem vq_w1 {i a v rest s Q} {env : Env} {id n : Nat} {l : List D} {x : D} (hg : s.get id = some (.cells l)) (hn : n < l.length) (ho : oneCell x = true) (ha : env.ev a = .ptr id n) (hv : env.ev v = x)
    (h : WQ fs [] rest env (s.set id (some (.cells (l.set n x)))) Q) : WQ fs [] ((i, ⟨none, .w 1 a v, none⟩) :: rest) env s Q := by
  refine vq_w (id := id) (ob := .cells (l.set n x)) ?_ h
  simp only [evW, ha, hg, hv, cellsOf_one ho, List.length_singleton, List.all_cons, List.all_nil, ho]
  rw [if_pos ⟨trivial, by omega, rfl, by omega⟩, splice_set hn]
theorem cellsB_set (l : List Bool) (n : Nat) (b : Bool) : (cellsB l).set n (.bool b) = cellsB (l.set n b) := by simp [cellsB, List.map_set]
theorem cellsI_set (l : List Nat) (n k : Nat) : (cellsI l).set n (.int .i64 (k : Int)) = cellsI (l.set n k) := by simp [cellsI, List.map_set]
theorem vq_wB {i a v rest s Q} {env : Env} {id n : Nat} {l : List Bool} {b : Bool} (hg : s.get id = some (.cells (cellsB l))) (hn : n < l.length) (ha : env.ev a = .ptr id n) (hv : env.ev v = .bool b)
    (h : WQ fs [] rest env (s.set id (some (.cells (cellsB (l.set n b))))) Q) : WQ fs [] ((i, ⟨none, .w 1 a v, none⟩) :: rest) env s Q :=
  vq_w1 hg (by simpa using hn) rfl ha hv (by rw [cellsB_set]; exact h)
theorem vq_wI {i a v rest s Q} {env : Env} {id n k : Nat} {l : List Nat} (hg : s.get id = some (.cells (cellsI l))) (hn : n < l.length) (ha : env.ev a = .ptr id n) (hv : env.ev v = .int .i64 (k : Int))
    (h : WQ fs [] rest env (s.set id (some (.cells (cellsI (l.set n k))))) Q) : WQ fs [] ((i, ⟨none, .w 1 a v, none⟩) :: rest) env s Q :=
  vq_w1 hg (by simpa using hn) rfl ha hv (by rw [cellsI_set]; exact h)
end
theorem zerosB : ∀ n, zeros [.bool false] n = cellsB (List.replicate n false)
  | 0 => rfl
  | n + 1 => by simp only [zeros, zerosB n, List.replicate_succ, cellsB, List.map_cons, List.cons_append, List.nil_append]
theorem zerosI : ∀ n, zeros [.int .i64 0] n = cellsI (List.replicate n 0)
  | 0 => rfl
  | n + 1 => by simp only [zeros, zerosI n, List.replicate_succ, cellsI, List.map_cons, List.cons_append, List.nil_append]; rfl
theorem rdB_arr {s : Store} {id : Nat} {l : List Bool} (h : s.get id = some (.cells (cellsB l))) : Rd s (.arr id 0 l.length 1) (cellsB l) := by
  have := Rd.arr h
  rwa [cellsB_length] at this
theorem rdI_arr {s : Store} {id : Nat} {l : List Nat} (h : s.get id = some (.cells (cellsI l))) : Rd s (.arr id 0 l.length 1) (cellsI l) := by
  have := Rd.arr h
  rwa [cellsI_length] at this

/-! Values that are filled in, one by one. -/
theorem mix_set {V W : List Bool} {n : Nat} (h1 : n < W.length) (h2 : n < V.length) : (V.take n ++ W.drop n).set n V[n] = V.take (n + 1) ++ W.drop (n + 1) := by
  have hl : (V.take n).length = n := by simp; omega
  rw [List.set_append_right _ _ (by omega), hl, Nat.sub_self, List.drop_eq_getElem_cons h1, List.set_cons_zero, List.take_succ_eq_append_getElem h2, List.append_assoc, List.singleton_append]
theorem mix_same {V W : List Bool} {n : Nat} (h1 : n < W.length) (h2 : n < V.length) (h : W[n] = V[n]) : V.take n ++ W.drop n = V.take (n + 1) ++ W.drop (n + 1) := by
  rw [List.drop_eq_getElem_cons h1, List.take_succ_eq_append_getElem h2, h, List.append_assoc, List.singleton_append]
theorem mix_ev {V W : List Bool} {n e : Nat} (h : e / 2 < n) (h2 : n ≤ V.length) : evL (V.take n ++ W.drop n) e = evL V e := by
  simp only [evL, List.getD]
  rw [List.getElem?_append_left (by simp; omega), List.getElem?_take_of_lt h]
theorem take_ev {V : List Bool} {n e : Nat} (h : e / 2 < n) : evL (V.take n) e = evL V e := by
  simp only [evL, List.getD]
  rw [List.getElem?_take_of_lt h]
/-- Inputs' values are filled in, in their order. -/
structure InW (V : List Bool) (ins : List Nat) (top i : Nat) (W : List Bool) : Prop where
  len : W.length = top + 1
  yes : ∀ n j, n ≤ top → j < i → ins[j]? = some n → W[n]? = V[n]?
  no : ∀ n, n ≤ top → (∀ j, j < i → ins[j]? ≠ some n) → W[n]? = some false
theorem InW.zero {V : List Bool} {ins : List Nat} {top : Nat} : InW V ins top 0 (List.replicate (top + 1) false) :=
  ⟨by simp, fun n j _ h => by omega, fun n h _ => by rw [List.getElem?_replicate, if_pos (by omega)]⟩
theorem InW.set {V W : List Bool} {ins : List Nat} {top i n : Nat} {b : Bool} (h : InW V ins top i W) (hn : ins[i]? = some n) (ht : n ≤ top) (hv : V[n]? = some b) : InW V ins top (i + 1) (W.set n b) := by
  refine ⟨by simp [h.len], fun k j hk hj he => ?_, fun k hk hj => ?_⟩
  · by_cases e : n = k
    · subst e
      rw [List.getElem?_set_self (by have := h.len; omega), hv]
    · rw [List.getElem?_set_ne e]
      by_cases e2 : j = i
      · subst e2; rw [hn] at he; cases he; exact absurd rfl e
      · exact h.yes k j hk (by omega) he
  · have e : n ≠ k := fun e => hj i (by omega) (by rw [hn, e])
    rw [List.getElem?_set_ne e]
    exact h.no k hk fun j hj' => hj j (by omega)
theorem InW.big {V W : List Bool} {ins : List Nat} {top i n : Nat} (h : InW V ins top i W) (hn : ins[i]? = some n) (ht : ¬ n ≤ top) : InW V ins top (i + 1) W := by
  refine ⟨h.len, fun k j hk hj he => ?_, fun k hk hj => h.no k hk fun j hj' => hj j (by omega)⟩
  by_cases e2 : j = i
  · subst e2; rw [hn] at he; cases he; exact absurd hk ht
  · exact h.yes k j hk (by omega) he
theorem InW.same {V W : List Bool} {ins : List Nat} {top i n : Nat} (h : InW V ins top i W) (hn : ins[i]? = some n) (ht : n ≤ top) (hv : V[n]? = some false) (hnew : ∀ j, j < i → ins[j]? ≠ some n) : InW V ins top (i + 1) W := by
  refine ⟨h.len, fun k j hk hj he => ?_, fun k hk hj => h.no k hk fun j hj' => hj j (by omega)⟩
  by_cases e2 : j = i
  · subst e2; rw [hn] at he; cases he
    rw [hv]; exact h.no _ ht hnew
  · exact h.yes k j hk (by omega) he
theorem InW.all {V W : List Bool} {ins : List Nat} {top : Nat} (h : InW V ins top ins.length W) {n : Nat} (hn : n ∈ ins) (ht : n ≤ top) : W[n]? = V[n]? := by
  obtain ⟨j, hj, rfl⟩ := List.getElem_of_mem hn
  exact h.yes _ j ht hj (List.getElem?_eq_getElem hj)
theorem sorted_ne {l : List Nat} (h : l.Pairwise (· < ·)) {i j n : Nat} (hn : l[i]? = some n) (hj : j < i) : l[j]? ≠ some n := by
  intro he
  obtain ⟨hi, rfl⟩ := List.getElem?_eq_some_iff.1 hn
  obtain ⟨hj', hv⟩ := List.getElem?_eq_some_iff.1 he
  have := List.pairwise_iff_getElem.1 h j i hj' hi hj
  omega
theorem sorted_len {l : List Nat} {n : Nat} (h : l.Pairwise (· < ·)) (hl : ∀ x ∈ l, x < n) : l.length ≤ n := by
  have : ∀ (i : Nat) (hi : i < l.length), i ≤ l[i] := by
    intro i
    induction i with
    | zero => intro _; omega
    | succ i ih =>
      intro hi
      have h1 := ih (by omega)
      have h2 := List.pairwise_iff_getElem.1 h i (i + 1) (by omega) hi (by omega)
      omega
  rcases Nat.eq_zero_or_pos l.length with h0 | h0
  · omega
  · have h1 := this (l.length - 1) (by omega)
    have h2 := hl _ (List.getElem_mem (show l.length - 1 < l.length by omega))
    omega
end Go.V
