/- More on slices. -/
import Derived.Test.YtedoacfoglbfeaaVkArg
namespace Go.V
/-- A slice behind one that covers its object. -/
theorem append_rd {s : Store} {id bytes : Nat} {l new : List D} {x : D} (h : s.get id = some (.cells l)) (hx : Rd s x new) (hb : bytes ≤ 16) (hl : l.length + new.length ≤ 2 ^ 40) :
    ∃ s' id', appendV 1 bytes (.arr id 0 l.length 1) x s = some (.arr id' 0 (l ++ new).length 1, s') ∧ s'.get id' = some (.cells (l ++ new)) ∧ Fr [id] s s' ∧ (id' = id ∨ s.next ≤ id') := by
  have b1 : (l.length + new.length) * bytes ≤ 2 ^ 45 := Nat.le_trans (Nat.mul_le_mul hl hb) (by decide)
  have b2 : l.length + new.length ≤ 2 ^ 45 := Nat.le_trans hl (by decide)
  have b3 : bytes ≤ 2 ^ 20 := Nat.le_trans hb (by decide)
  obtain ⟨r1, r2, r3⟩ := hx.row
  by_cases hn : new = []
  · subst hn
    refine ⟨s, id, ?_, by rw [h]; simp, Fr.refl _ _, .inl rfl⟩
    unfold appendV
    simp only [r1, r2, r3, b3, decide_true, Bool.and_self, if_true, h, Nat.zero_add, Nat.mul_one, and_self, List.length_nil, List.append_nil]
  · have hn' : new.length ≠ 0 := by simpa using hn
    refine ⟨(s.set id none).push (.cells (l ++ new)), s.next, ?_, get_push_new (by simp), (Fr.set _ (by simp)).thenPush _, .inr (Nat.le_refl _)⟩
    unfold appendV
    simp only [r1, r2, r3, b3, decide_true, Bool.and_self, if_true, h, Nat.zero_add, Nat.mul_one, and_self, hn', if_false, b1, b2, List.drop_zero, List.length_append]
theorem Sl.newer {s s' : Store} {d : D} {l : List D} {ids : List Nat} (h : Sl s d l ids) (hf : Fr [] s s') : Sl s' d l ids := h.stay hf (by simp)

/-! Regions in which something turns the store ahead of a load that is paired with it. -/
section
variable {fs : FuncId → Option VFunc}
def WQB (fs : FuncId → Option VFunc) (pairs : List (Nat × Nat)) (T : List Tr) (ops : List (Nat × VOper)) (env : Env) (s : Store) (Q : Env → Store → Prop) : Prop := ∀ tr, (∀ t ∈ tr, t.pre = t.post ∨ t ∈ T) → WO fs pairs ops tr env s Q
theorem vqb_in {pairs ops env s Q} (h : WQB fs pairs [] ops env s Q) : WQ fs pairs ops env s Q := fun tr ht => h tr fun t hm => .inl (ht t hm)
theorem pairsOk_but {pairs : List (Nat × Nat)} {T : List Tr} {j : Tr} (hj : j.pre = j.post) (hT : ∀ t ∈ T, stable t.pre t.post j.rd = true) : ∀ {tr : List Tr}, (∀ t ∈ tr, t.pre = t.post ∨ t ∈ T) → pairsOk pairs j tr = true
  | [], _ => rfl
  | i :: r, h => by
    have hs : stable i.pre i.post j.rd = true := by
      rcases h i (by simp) with hi | hi
      · rw [hi]; exact stable_refl _ _
      · exact hT i hi
    simp only [pairsOk, hj, hs, stable_refl, Bool.and_true, ite_self, Bool.true_and]
    exact pairsOk_but hj hT fun t ht => h t (by simp [ht])
theorem but_cons {pairs : List (Nat × Nat)} {T : List Tr} {tr : List Tr} {t : Tr} (h : ∀ x ∈ tr, x.pre = x.post ∨ x ∈ T) (ht : t.pre = t.post ∨ t ∈ T) : ∀ x ∈ (if pairs.isEmpty then tr else t :: tr), x.pre = x.post ∨ x ∈ T := by
  split
  · exact h
  · intro x hx
    rcases List.mem_cons.1 hx with rfl | hx
    · exact ht
    · exact h x hx
theorem vqb_p {pairs T i t o rest s Q} {env : Env} {d : D} (hr : evP env o = some d) (h : WQB fs pairs T rest ((t, d) :: env) s Q) : WQB fs pairs T ((i, ⟨some t, .p o, none⟩) :: rest) env s Q :=
  fun tr ht => vo_op rfl 0 (d := d) (s' := s) (by simp only [runOp, hr, Option.map_some]) (pairsOk_but rfl (fun _ _ => rfl) ht) (h _ (but_cons ht (.inl rfl)))
theorem vqb_ld {pairs T i t n x rest s Q} {env : Env} {id off : Nat} {cs : List D} {d : D} (hg : s.get id = some (.cells cs)) (hT : ∀ t ∈ T, t.pre.get id = t.post.get id) (hx : env.ev x = .ptr id off) (hp : pull n off cs = some d)
    (h : WQB fs pairs T rest ((t, d) :: env) s Q) : WQB fs pairs T ((i, ⟨some t, .r (.load n x), none⟩) :: rest) env s Q :=
  fun tr ht => vo_op rfl 0 (d := d) (s' := s) (by simp only [runOp, evR, hx, hg, hp, Option.map_some]) (pairsOk_but rfl (fun u hu => by
    simp only [rdOf, rdR, hx, stable]; rw [hT u hu]; exact beqO_self _) ht) (h _ (but_cons ht (.inl rfl)))
theorem vqb_a {pairs T i t o rest s Q} {env : Env} {ob : VObj} {m : Made} (hp : (pairs.all fun p => p.2 != i) = true) (hr : evA env o = some (ob, m)) (h : WQB fs pairs (⟨i, none, s, s.push ob⟩ :: T) rest ((t, m.at s.next) :: env) (s.push ob) Q) : WQB fs pairs T ((i, ⟨some t, .a o, none⟩) :: rest) env s Q :=
  fun tr ht => vo_op rfl 0 (d := m.at s.next) (s' := s.push ob) (by simp only [runOp, hr]) (pairsOk_free hp) (h _ (but_cons (fun x hx => (ht x hx).imp id (List.mem_cons_of_mem _)) (.inr (by simp [rdOf]))))
theorem vqb_evpf {pairs T i t f args rest s Q} {env : Env} {l : List D} {P : D → Store → Prop} (hr : EvP fs f l s P) (hp : (pairs.all fun p => p.2 != i) = true) (ha : env.evL args = l)
    (h : ∀ d s', P d s' → WQB fs pairs (⟨i, none, s, s'⟩ :: T) rest ((t, d) :: env) s' Q) : WQB fs pairs T ((i, ⟨some t, .m (.call .raw (.cst (.fn f [])) args), none⟩) :: rest) env s Q := by
  intro tr ht
  obtain ⟨d, s', ⟨n, hn⟩, h2⟩ := hr
  subst ha
  refine vo_op rfl n (d := d) (s' := s') (by simp only [runOp, evM, callV, Env.ev, List.append_nil]; exact hn) (pairsOk_free hp) (h d s' h2 _ (but_cons (fun x hx => (ht x hx).imp id (List.mem_cons_of_mem _)) (.inr (by simp [rdOf]))))
theorem vqb_free {pairs T ops env s Q} (hp : (ops.all fun o => pairs.all fun p => p.2 != o.1) = true) (h : WQ fs [] ops env s Q) : WQB fs pairs T ops env s Q := by
  intro tr _
  obtain ⟨n, env', s', h1, h2⟩ := h [] quiet_nil
  exact ⟨n, env', s', runOps_free hp h1, h2⟩
end
end Go.V
