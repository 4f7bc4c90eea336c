/- Vectors and edges with what they are, beside a graph that grows. -/
import Derived.Test.YtedoacfoglbfeaaB16
namespace Go.Proofs.Ytedoacfoglbfeaa
open Go.V
set_option maxRecDepth 100000
set_option maxHeartbeats 4000000
set_option linter.unusedSimpArgs false
set_option linter.unusedVariables false

theorem u8x2_of {d : D} (h : ArgT (.arr 2 (.int .u8)) d) : ∃ x y : Nat, d = .agg [.int .u8 (x : Int), .int .u8 (y : Int)] ∧ x < 256 ∧ y < 256 := by
  obtain ⟨ds, rfl, h⟩ := h
  simp only [HasT] at h
  obtain ⟨gs, hl, rfl, hg⟩ := h
  match gs, hl, hg with
  | [a, b], _, hg =>
    obtain ⟨n, e1, w1⟩ := hg a (by simp)
    obtain ⟨m, e2, w2⟩ := hg b (by simp)
    have := inU8_of w1
    have := inU8_of w2
    subst e1 e2
    refine ⟨n.toNat, m.toNat, ?_, by omega, by omega⟩
    simp
    omega
theorem appB {s : Store} {L1 L2 : List Bool} {id1 id2 n1 n2 : Nat} (h1 : s.get id1 = some (.cells (cellsB L1))) (h2 : s.get id2 = some (.cells (cellsB L2))) (e1 : L1.length = n1) (e2 : L2.length = n2) (b1 : n1 ≤ 1000) (b2 : n2 ≤ 1000) :
    ∃ s' id', appendV 1 1 (.arr id1 0 n1 1) (.arr id2 0 n2 1) s = some (.arr id' 0 (n1 + n2) 1, s') ∧ s'.get id' = some (.cells (cellsB (L1 ++ L2))) ∧ Fr [id1] s s' ∧ (id' = id1 ∨ s.next ≤ id') := by
  obtain ⟨s', id', a1, a2, a3, a4⟩ := append_rd (bytes := 1) h1 (rdB_arr h2) (by decide) (by simp only [cellsB_length]; omega)
  refine ⟨s', id', ?_, by rw [a2, ← cellsB_append], a3, a4⟩
  rw [← cellsB_append, cellsB_length, cellsB_length, List.length_append, e1, e2] at a1
  exact a1

/-- A vector beside a graph, and its number for a model. -/
structure VX (s : Store) (ids : List Nat) (G : Gr) (m : List Bool) (d : D) (es : List Nat) (k : Nat) (z : Int) : Prop where
  vi : VI s ids G d es
  len : es.length = k
  val : valE G m es = z
theorem VX.step {s s' : Store} {g : Nat} {ids ids' : List Nat} {G G' : Gr} {m : List Bool} {d : D} {es : List Nat} {k : Nat} {z : Int} (h : VX s ids G m d es k z) (hw : G.WF) (hs : GrStep s g ids s' G' ids') (hx : Gr.Ext G G') : VX s' ids' G' m d es k z :=
  ⟨h.vi.step hs hx, h.len, by rw [valE_ext hx h.vi.lt hw.len, h.val]⟩
theorem VX.newer {s s' : Store} {ids : List Nat} {G : Gr} {m : List Bool} {d : D} {es : List Nat} {k : Nat} {z : Int} (h : VX s ids G m d es k z) (hf : Fr [] s s') : VX s' ids G m d es k z := ⟨h.vi.newer hf, h.len, h.val⟩
structure EX (G : Gr) (m : List Bool) (e : Nat) (b : Bool) : Prop where
  lt : e < 2 * G.nodes.length
  val : G.ev m e = b
theorem EX.step {G G' : Gr} {m : List Bool} {e : Nat} {b : Bool} (h : EX G m e b) (hx : Gr.Ext G G') : EX G' m e b :=
  ⟨by have := h.lt; have := hx.le; omega, by rw [hx.ev h.lt, h.val]⟩
theorem VX.cast {s : Store} {ids : List Nat} {G : Gr} {m : List Bool} {d : D} {es : List Nat} {k : Nat} {z z' : Int} (h : VX s ids G m d es k z) (e : z = z') : VX s ids G m d es k z' := e ▸ h
theorem EX.cast {G : Gr} {m : List Bool} {e : Nat} {b b' : Bool} (h : EX G m e b) (hb : b = b') : EX G m e b' := hb ▸ h
theorem GZ.vx {s : Store} {g : Nat} {ids : List Nat} {G : Gr} {k w : Nat} {v : List Bool → Int} {d : D} {s' : Store} (h : GZ s g ids G k w v d s') (m : List Bool) :
    ∃ es G' ids' id, d = .arr id 0 w 1 ∧ GrStep s g ids s' G' ids' ∧ Gr.Ok G G' k ∧ VX s' ids' G' m (.arr id 0 w 1) es w (v m) := by
  obtain ⟨es, G', ids', id, rfl, k1, l1, n1, g1, j1, o1, v1, z1⟩ := h
  exact ⟨es, G', ids', id, rfl, j1, o1, v1, l1, z1 m⟩
theorem GE.ex {s : Store} {g : Nat} {ids : List Nat} {G : Gr} {k : Nat} {v : List Bool → Bool} {d : D} {s' : Store} (h : GE s g ids G k v d s') (m : List Bool) :
    ∃ (e : Nat) (G' : Gr) (ids' : List Nat), d = .int .i64 (e : Int) ∧ GrStep s g ids s' G' ids' ∧ Gr.Ok G G' k ∧ EX G' m e (v m) := by
  obtain ⟨e, G', ids', rfl, j1, o1, l1, v1⟩ := h
  exact ⟨e, G', ids', rfl, j1, o1, l1, v1 m⟩
theorem wid2_k {A B : List Nat} {k : Nat} (hA : A.length = k) (hB : B.length = k) (h1 : 1 ≤ k) (h2 : k ≤ 16) : wid2 A B = k := by rw [wid2_id hA hB h1 h2 h1 h2, Nat.max_self]
theorem bitL_atB {n : Int} {k : Nat} (h1 : 1 ≤ k) : valZ (atB (bitL n k)) k = trimZ n k := by
  rw [← bit_val h1]
  exact valZ_cong h1 fun i hi => bitL_getD hi
/-- Inputs, with a model at hand. -/
theorem inVX {s : Store} {g : Nat} {G G' : Gr} {ids ids' : List Nat} {id : Nat} {es : List Nat} {w : Nat} {m : List Bool} {a : Int} (hl : es.length = w) (hv : VI s ids' G' (.arr id 0 w 1) es) (h1 : 1 ≤ w) (h2 : w ≤ 16)
    (hb : ∀ m i, i < w → bitsOf G' m es i = m.getD (G.ins.length + i) false) (hm : ∀ i, i < w → m.getD (G.ins.length + i) false = bitZ a i) : VX s ids' G' m (.arr id 0 w 1) es w (trimZ a w) :=
  ⟨hv, hl, inputs_val hl h1 h2 (hb m) hm⟩
theorem wideC {n : Int} {a b : Nat} {G : Gr} (hw : G.WF) (m : List Bool) (ha1 : 1 ≤ a) (ha2 : a ≤ 16) (hb1 : 1 ≤ b) (hb2 : b ≤ 16) : valE G m (wideL (constL n a) b) = trimZ (trimZ n a) b := by
  rw [valE_id (wideL_len _ _) hb1 hb2]
  have := wide_valE (G := G) (m := m) (A := constL n a) hb1
  rw [fixL_id (by rw [constL_len]; exact ha1) (by rw [constL_len]; exact ha2), constL_val hw ha1 ha2] at this
  exact this
theorem trim_up {n : Int} {a b : Nat} (ha : 1 ≤ a) (h : a ≤ b) : trimZ (trimZ n a) b = trimZ n a := by
  have h1 := trimZ_lo (n := n) ha
  have h2 := pow_le' (v := b - 1) (w := a - 1) (by omega)
  exact trimZ_id (by omega) (by omega) (by omega)
theorem trim_down {n : Int} {a b : Nat} (h : b ≤ a) : trimZ (trimZ n a) b = trimZ n b := by
  refine trimZ_mod ?_
  have hd := pow_dvd' h
  rw [← Int.emod_emod_of_dvd (trimZ n a) hd, trimZ_emod, Int.emod_emod_of_dvd n hd]
theorem trim_in {n : Int} {k : Nat} (h1 : 1 ≤ k) (h2 : k ≤ 16) : in64 (trimZ n k) := by
  have := trim16 (n := n) h1 h2
  exact ⟨by omega, by omega⟩
theorem clamp (n : Int) : ∃ k : Nat, (k : Int) = min (max n 1) 16 ∧ 1 ≤ k ∧ k ≤ 16 := ⟨(min (max n 1) 16).toNat, by omega, by omega, by omega⟩
end Go.Proofs.Ytedoacfoglbfeaa
