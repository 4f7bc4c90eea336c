/- Regions in which a call that only makes new memory is paired with an earlier load. -/
import Derived.Test.YtedoacfoglbfeaaVkRef
namespace Go.V
section
variable {fs : FuncId → Option VFunc}
def WQR (fs : FuncId → Option VFunc) (pairs : List (Nat × Nat)) (ops : List (Nat × VOper)) (env : Env) (s : Store) (Q : Env → Store → Prop) : Prop :=
  ∀ tr, (∀ t ∈ tr, t.pre = t.post ∧ ∀ id, t.rd = some id → id < s.next) → WO fs pairs ops tr env s Q
theorem vw_rgr {vars ops pairs dr env s Q} (h : WQR fs pairs ops env s fun env' s' => Q .normal (env'.keep vars) s') : WP fs vars (.region ⟨ops, pairs, dr⟩) env s Q := vw_region (h [] (by simp))
theorem wr_cons {pairs : List (Nat × Nat)} {tr : List Tr} {t : Tr} {s : Store} (h : ∀ x ∈ tr, x.pre = x.post ∧ ∀ id, x.rd = some id → id < s.next) (ht : t.pre = t.post ∧ ∀ id, t.rd = some id → id < s.next) : ∀ x ∈ (if pairs.isEmpty then tr else t :: tr), x.pre = x.post ∧ ∀ id, x.rd = some id → id < s.next := by
  split
  · exact h
  · intro x hx
    rcases List.mem_cons.1 hx with rfl | hx
    · exact ht
    · exact h x hx
theorem wr_p {pairs i t o rest s Q} {env : Env} {d : D} (hr : evP env o = some d) (h : WQR fs pairs rest ((t, d) :: env) s Q) : WQR fs pairs ((i, ⟨some t, .p o, none⟩) :: rest) env s Q :=
  fun tr ht => vo_op rfl 0 (d := d) (s' := s) (by simp only [runOp, hr, Option.map_some]) (pairsOk_quiet rfl fun t hm => (ht t hm).1) (h _ (wr_cons ht ⟨rfl, fun id h => by simp [rdOf] at h⟩))
theorem wr_ld {pairs i t n x rest s Q} {env : Env} {p d : D} (hx : env.ev x = p) (hl : ldV s.get n p = some d) (h : WQR fs pairs rest ((t, d) :: env) s Q) : WQR fs pairs ((i, ⟨some t, .r (.load n x), none⟩) :: rest) env s Q :=
  fun tr ht => vo_op rfl 0 (d := d) (s' := s) (by simp only [runOp, evR_load, hx, hl, Option.map_some]) (pairsOk_quiet rfl fun t hm => (ht t hm).1) (h _ (wr_cons ht ⟨rfl, fun id h => by
    simp only [rdOf, rdR, hx] at h
    cases p <;> simp at h
    subst h
    simp only [ldV] at hl
    split at hl
    · rename_i hg; exact get_lts hg
    · cases hl⟩))
theorem wr_evpf {pairs i t f args rest s Q} {env : Env} {l : List D} {P : D → Store → Prop} (hr : EvP fs f l s P) (hP : ∀ d s', P d s' → Fr [] s s') (hp : (rest.all fun o => pairs.all fun p => p.2 != o.1) = true) (ha : env.evL args = l)
    (h : ∀ d s', P d s' → WQ fs [] rest ((t, d) :: env) s' Q) : WQR fs pairs ((i, ⟨some t, .m (.call .raw (.cst (.fn f [])) args), none⟩) :: rest) env s Q := by
  intro tr ht
  obtain ⟨d, s', ⟨n, hn⟩, h2⟩ := hr
  subst ha
  have hf := hP d s' h2
  obtain ⟨n', env', s2, h3, h4⟩ := h d s' h2 [] quiet_nil
  have hok : pairsOk pairs ⟨i, none, s, s'⟩ tr = true := by
    clear h3 h4
    induction tr with
    | nil => rfl
    | cons a tr ih =>
      have ha := ht a (by simp)
      have s1 : stable s s' a.rd = true := by
        cases hrd : a.rd with
        | none => rfl
        | some id =>
          simp only [stable]
          rw [hf.2 id (ha.2 id hrd) (by simp)]
          exact beqO_self _
      have s2 : stable a.pre a.post none = true := rfl
      simp only [pairsOk, s1, s2, Bool.and_self, ite_self, Bool.true_and]
      exact ih fun t hm => ht t (by simp [hm])
  exact vo_op rfl n (d := d) (s' := s') (by simp only [runOp, evM, callV, Env.ev, List.append_nil]; exact hn) hok ⟨n', env', s2, runOps_free hp h3, h4⟩
end
end Go.V
