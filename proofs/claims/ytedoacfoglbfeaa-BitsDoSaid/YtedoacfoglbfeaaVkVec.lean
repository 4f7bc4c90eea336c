/- Vectors of edges, in the store. -/
import Derived.Test.YtedoacfoglbfeaaVkPair
import Derived.Test.YtedoacfoglbfeaaVkBit
namespace Go.V

def bitsOf (G : Gr) (m : List Bool) (es : List Nat) (i : Nat) : Bool := G.ev m (es.getD i 0)
theorem getD_lt {es : List Nat} {k : Nat} (h : ∀ e ∈ es, e < 2 * k) (hk : 0 < k) (i : Nat) : es.getD i 0 < 2 * k := by
  simp only [List.getD]
  cases he : es[i]? with
  | none => simp; omega
  | some e => simp; exact h e (List.mem_of_getElem? he)
theorem bits_ext {G G' : Gr} (hx : Gr.Ext G G') {es : List Nat} (h : ∀ e ∈ es, e < 2 * G.nodes.length) (hk : 0 < G.nodes.length) (m : List Bool) (i : Nat) : bitsOf G' m es i = bitsOf G m es i := hx.ev (getD_lt h hk i)

/-- A vector that is read beside a graph. -/
structure VI (s : Store) (ids : List Nat) (G : Gr) (d : D) (es : List Nat) : Prop where
  rd : RdF s ids d (cellsI es)
  lt : ∀ e ∈ es, e < 2 * G.nodes.length
theorem VI.step {s s' : Store} {g : Nat} {ids ids' : List Nat} {G G' : Gr} {d : D} {es : List Nat} (h : VI s ids G d es) (hs : GrStep s g ids s' G' ids') (hx : Gr.Ext G G') : VI s' ids' G' d es :=
  ⟨h.rd.step hs, fun e he => by have := h.lt e he; have := hx.le; omega⟩
theorem VI.newer {s s' : Store} {ids : List Nat} {G : Gr} {d : D} {es : List Nat} (h : VI s ids G d es) (hf : Fr [] s s') : VI s' ids G d es := ⟨h.rd.newer hf, h.lt⟩

/-- What a call that makes a vector answers. -/
def GV (s : Store) (g : Nat) (ids : List Nat) (G : Gr) (k w : Nat) (v : List Bool → Nat → Bool) (d : D) (s' : Store) : Prop :=
  ∃ (es : List Nat) (G' : Gr) (ids' : List Nat) (id : Nat), d = .arr id 0 w 1 ∧ s'.get id = some (.cells (cellsI es)) ∧ es.length = w ∧ id ∉ ids' ∧ s.next ≤ id ∧ GrStep s g ids s' G' ids' ∧ Gr.Ok G G' k ∧ (∀ e ∈ es, e < 2 * G'.nodes.length) ∧
    ∀ m i, i < w → bitsOf G' m es i = v m i
theorem VI.of {s : Store} {ids : List Nat} {G : Gr} {id : Nat} {es : List Nat} {w : Nat} (h : s.get id = some (.cells (cellsI es))) (hw : es.length = w) (hid : id ∉ ids) (hl : ∀ e ∈ es, e < 2 * G.nodes.length) : VI s ids G (.arr id 0 w 1) es := by
  subst hw
  refine ⟨⟨rdI_arr h, fun id' off n he => ?_⟩, hl⟩
  cases he; exact hid

/-! A vector that is filled in, from the front. -/
def fillL (l : List Nat) (w : Nat) : List Nat := l ++ List.replicate (w - l.length) 0
theorem fillL_nil (w : Nat) : fillL [] w = List.replicate w 0 := by simp [fillL]
theorem fillL_len {l : List Nat} {w : Nat} (h : l.length ≤ w) : (fillL l w).length = w := by simp [fillL]; omega
theorem fillL_set {l : List Nat} {w e : Nat} (h : l.length < w) : (fillL l w).set l.length e = fillL (l ++ [e]) w := by
  unfold fillL
  rw [List.set_append_right _ _ (Nat.le_refl _), Nat.sub_self]
  obtain ⟨n, hn⟩ : ∃ n, w - l.length = n + 1 := ⟨w - l.length - 1, by omega⟩
  rw [hn, List.replicate_succ, List.set_cons_zero, List.append_assoc]
  congr 1
  simp
  omega
theorem fillL_all {l : List Nat} {w : Nat} (h : l.length = w) : fillL l w = l := by simp [fillL, h]
theorem getD_snoc {l : List Nat} {e i : Nat} : (l ++ [e]).getD i 0 = if i < l.length then l.getD i 0 else if i = l.length then e else 0 := by
  simp only [List.getD]
  rcases Nat.lt_or_ge i l.length with h | h
  · rw [if_pos h, List.getElem?_append_left h]
  · rw [if_neg (by omega), List.getElem?_append_right h]
    by_cases he : i = l.length
    · simp [he]
    · rw [if_neg he, List.getElem?_eq_none (by simp; omega)]; rfl
theorem GrStep.wr {s s' : Store} {g : Nat} {ids ids' : List Nat} {G' : Gr} (h : GrStep s g ids s' G' ids') {id : Nat} (o : Option VObj) (hid : id ∉ ids') (hl : s.next ≤ id) : GrStep s g ids (s'.set id o) G' ids' :=
  ⟨h.1.stay (ids2 := [id]) (Fr.set _ (by simp)) (by intro i hi hc; simp at hc; subst hc; exact hid hi), h.2.1.thenSet _ (.inr hl), h.2.2⟩
theorem GrStep.nw {s s' s'' : Store} {g : Nat} {ids ids' : List Nat} {G' : Gr} (h : GrStep s g ids s' G' ids') (hf : Fr [] s' s'') : GrStep s g ids s'' G' ids' :=
  ⟨(h.1.newer hf).1, h.2.1.trans hf (by simp), h.2.2⟩
theorem Gr.Ok.get {G G' : Gr} {k : Nat} (h : Gr.Ok G G' k) {m : List Bool} {e : Nat} (he : e < 2 * G.nodes.length) : G'.ev m e = G.ev m e := h.ext.ev he
theorem idx_ptr {sz : Nat} {d : D} {k : IntKind} {z : Int} {id off : Nat} (h : idxAV sz d (.int k z) = some (.ptr id off)) : ∃ o l, d = .arr id o l sz := by
  cases d <;> simp only [idxAV] at h
  case lst => split at h <;> simp at h
  case arr i o l q =>
    split at h
    · rename_i hc
      simp at h
      exact ⟨o, l, by rw [h.1, hc.1]⟩
    · cases h
  all_goals cases h
theorem vqb_ldv {fs : FuncId → Option VFunc} {pairs T i t n x rest s Q} {env : Env} {p d : D} (hl : ldV s.get n p = some d) (hT : ∀ id off, p = .ptr id off → ∀ t ∈ T, t.pre.get id = t.post.get id) (hx : env.ev x = p)
    (h : WQB fs pairs T rest ((t, d) :: env) s Q) : WQB fs pairs T ((i, ⟨some t, .r (.load n x), none⟩) :: rest) env s Q :=
  fun tr ht => vo_op rfl 0 (d := d) (s' := s) (by simp only [runOp, evR_load, hx, hl, Option.map_some]) (pairsOk_but rfl (fun u hu => by
    simp only [rdOf, rdR, hx]
    cases p <;> first | rfl | skip
    rename_i id off
    simp only [stable]
    rw [hT id off rfl u hu]; exact beqO_self _) ht) (h _ (but_cons ht (.inl rfl)))
end Go.V
