/- Vectors of edges: under, walked. -/
import Derived.Test.YtedoacfoglbfeaaB2
namespace Go.Proofs.Ytedoacfoglbfeaa
open Go.V
set_option maxRecDepth 100000
set_option maxHeartbeats 4000000
set_option linter.unusedSimpArgs false
set_option linter.unusedVariables false

theorem underV {s : Store} {g : Nat} {G : Gr} {ids : List Nat} {da db : D} {A B : List Nat} {w : Nat} (hG : GA s g G ids) (hw : G.WF) (hA : VI s ids G da A) (hB : VI s ids G db B) (hAl : A.length = w) (hBl : B.length = w) (hwl : w ≤ 16) (hL : G.nodes.length + 200 < 200000) :
    EvP vfs 64 [.ptr g 0, da, db] s (GE s g ids G 96 fun m => underAt (bitsOf G m A) (bitsOf G m B) w) := by
  have hla := hA.rd.1.lenI
  rw [hAl] at hla
  have hGl := hw.len
  refine evp_of (vf := vf64) rfl ?_
  simp only [vf64, List.map, List.getD, List.getElem?_cons_zero, List.getElem?_cons_succ, List.getElem?_nil, Option.getD]
  repeat first
    | with_reducible (first | refine vw_seq ?_ | refine vw_block ?_ | refine vw_rg ?_)
    | ((with_reducible apply vq_free'); (focus rfl))
    | ((with_reducible (first | refine vq_nil ?_ | refine vw_skip ?_ | refine vw_exit ?_ | refine vw_ret ?_)); simp only [Env.keep, Env.get, Env.ev, List.map, Nat.reduceEqDiff, ↓reduceIte, Then, Out'])
    | ((with_reducible (first | apply vq_p | apply vq_r | apply vq_a | apply vq_w | apply vq_g | apply vw_condm)); (focus (simp (disch := (first | with_reducible assumption | omega | ((repeat (first | rw [Store.next_push] | rw [Store.next_set])) <;> omega) | fail)) only [go_sem, Nat.reduceEqDiff, Nat.reduceAdd, Nat.reduceMul, Nat.reduceLeDiff, ↓reduceIte, reduceCtorEq, Int.reduceEq, Int.reduceLT, Int.reduceLE, Int.reduceAdd, Int.reduceSub, Int.reduceMul, Int.reduceNeg, Int.reduceToNat, hla] <;> rfl)); (first | (with_reducible (first | refine way_tt ?_ | refine way_ff ?_ | refine wayc_t ?_ | refine wayc_f ?_ | refine way_tf ?_ | refine way_ft ?_ | refine way_t ?_); try simp only [Env.put]) | with_reducible refine (?_ : WQ _ _ _ _ _ _)))
    | fail
  refine vw_loop_inv (fun k env s1 => ∃ (i r : Nat) (G1 : Gr) (ids1 : List Nat), i ≤ w ∧ k = w - i ∧ GrStep s g ids s1 G1 ids1 ∧ Gr.Ok G G1 (6 * i) ∧ r < 2 * G1.nodes.length ∧ (∀ m, G1.ev m r = underAt (bitsOf G m A) (bitsOf G m B) i) ∧
    (env.get 0 = .ptr g 0 ∧ env.get 1 = da ∧ env.get 2 = db ∧ env.get 7 = .int .i64 (r : Int) ∧ env.get 10 = .int .i64 (w : Int) ∧ env.get 11 = .int .i64 (i : Int))) ?_ w _ _
    ⟨0, 0, G, ids, Nat.zero_le _, by omega, GrStep.refl hG, Gr.Ok.refl hw, by omega, fun m => hw.ev_zero m, by simp [Env.get, Made.at]⟩
  rintro k env s1 ⟨i, r, G1, ids1, hi, rfl, hst, hok, hr, hrv, hE⟩
  have hle := hok.ext.le
  have hlen := hok.len
  by_cases hci : i < w
  · have hci' : (i : Int) < (w : Int) := by omega
    have hs := i64_succ (i := i) (by omega)
    obtain ⟨pa, pa1, pa2⟩ := (hA.step hst hok.ext).rd.1.idxI (i := i) (by omega)
    have hB1 := hB.step hst hok.ext
    obtain ⟨pb, pb1, pb2⟩ := hB1.rd.1.idxI (i := i) (by omega)
    have hai := hA.lt _ (List.getElem_mem (show i < A.length by omega))
    have hbi := hB.lt _ (List.getElem_mem (show i < B.length by omega))
    have eA : ∀ m, bitsOf G m A i = G.ev m A[i] := fun m => by unfold bitsOf; rw [getD_el]
    have eB : ∀ m, bitsOf G m B i = G.ev m B[i] := fun m => by unfold bitsOf; rw [getD_el]
    generalize hxa : A[i] = x at *
    generalize hxb : B[i] = y at *
    repeat first
      | (apply vq_ld; (focus (simp only [Env.ev, Env.get, Nat.reduceEqDiff, ↓reduceIte]; rfl)); (focus (first | exact pa2 | exact pb2)))
      | with_reducible (first | refine vw_seq ?_ | refine vw_block ?_ | refine vw_rg ?_)
      | ((with_reducible apply vq_free'); (focus rfl))
      | ((with_reducible (first | refine vq_nil ?_ | refine vw_skip ?_ | refine vw_exit ?_ | refine vw_ret ?_)); simp only [Env.keep, Env.get, Env.ev, List.map, Nat.reduceEqDiff, ↓reduceIte, Then, Out'])
      | ((with_reducible (first | apply vq_p | apply vq_r | apply vq_a | apply vq_w | apply vq_g | apply vw_condm)); (focus (simp (disch := (first | with_reducible assumption | omega | ((repeat (first | rw [Store.next_push] | rw [Store.next_set])) <;> omega) | fail)) only [go_sem, Nat.reduceEqDiff, Nat.reduceAdd, Nat.reduceMul, Nat.reduceLeDiff, ↓reduceIte, reduceCtorEq, Int.reduceEq, Int.reduceLT, Int.reduceLE, Int.reduceAdd, Int.reduceSub, Int.reduceMul, Int.reduceNeg, Int.reduceToNat, hE, hci', pa1, pb1] <;> rfl)); (first | (with_reducible (first | refine way_tt ?_ | refine way_ff ?_ | refine wayc_t ?_ | refine wayc_f ?_ | refine way_tf ?_ | refine way_ft ?_ | refine way_t ?_); try simp only [Env.put]) | with_reducible refine (?_ : WQ _ _ _ _ _ _)))
      | fail
    refine vqb_in ?_
    apply vqb_evpf (xorS hst.1 hok.wf (a := x) (b := y) (by omega) (by omega) (by omega))
    · rfl
    · simp only [Env.evL, Env.ev, Env.get, Nat.reduceEqDiff, ↓reduceIte, hE]
    rintro q s2 ⟨e1, G2, ids2, rfl, j2, o2, l2, v2⟩
    have n2 := o2.ext.le
    have m2 := o2.len
    have hst2 := hst.trans j2
    obtain ⟨qb, qb1, qb2⟩ := (hB1.step j2 o2.ext).rd.1.idxI (i := i) (by omega)
    rw [hxb] at qb2
    have hT : ∀ id off, qb = .ptr id off → ∀ t ∈ [(⟨10, none, s1, s2⟩ : Tr)], t.pre.get id = t.post.get id := by
      intro id off he t ht
      simp at ht
      subst ht
      rw [he] at qb1
      obtain ⟨o, l, hdb⟩ := idx_ptr qb1
      have hni := hB1.rd.2 id o l hdb
      show s1.get id = s2.get id
      rcases hB1.rd.1 with ⟨h, _⟩ | h | ⟨id', off', cs, h, hgg, _⟩
      · rw [h] at hdb; cases hdb
      · rw [h] at hdb; cases hdb
      · rw [h] at hdb; cases hdb; exact (j2.2.1.2 _ (get_lts hgg) hni).symm
    repeat first
      | (apply vqb_ldv qb2 hT; (focus rfl))
      | (refine vqb_free (by rfl) ?_)
      | ((with_reducible apply vqb_p); (focus (simp (disch := (first | with_reducible assumption | omega | ((repeat (first | rw [Store.next_push] | rw [Store.next_set])) <;> omega) | fail)) only [go_sem, Nat.reduceEqDiff, Nat.reduceAdd, Nat.reduceMul, Nat.reduceLeDiff, ↓reduceIte, reduceCtorEq, Int.reduceEq, Int.reduceLT, Int.reduceLE, Int.reduceAdd, Int.reduceSub, Int.reduceMul, Int.reduceNeg, Int.reduceToNat, hE, qb1] <;> rfl)))
      | ((with_reducible apply vqb_a); (focus rfl); (focus (simp (disch := (first | with_reducible assumption | omega | ((repeat (first | rw [Store.next_push] | rw [Store.next_set])) <;> omega) | fail)) only [go_sem, Nat.reduceEqDiff, Nat.reduceAdd, Nat.reduceMul, Nat.reduceLeDiff, ↓reduceIte, reduceCtorEq, Int.reduceEq, Int.reduceLT, Int.reduceLE, Int.reduceAdd, Int.reduceSub, Int.reduceMul, Int.reduceNeg, Int.reduceToNat, hE, qb1] <;> rfl)))
      | fail
    repeat first
      | with_reducible (first | refine vw_seq ?_ | refine vw_block ?_ | refine vw_rg ?_)
      | ((with_reducible apply vq_free'); (focus rfl))
      | ((with_reducible (first | refine vq_nil ?_ | refine vw_skip ?_ | refine vw_exit ?_ | refine vw_ret ?_)); simp only [Env.keep, Env.get, Env.ev, List.map, Nat.reduceEqDiff, ↓reduceIte, Then, Out'])
      | ((with_reducible (first | apply vq_p | apply vq_r | apply vq_a | apply vq_w | apply vq_g | apply vw_condm)); (focus (simp (disch := (first | with_reducible assumption | omega | ((repeat (first | rw [Store.next_push] | rw [Store.next_set])) <;> omega) | fail)) only [go_sem, Nat.reduceEqDiff, Nat.reduceAdd, Nat.reduceMul, Nat.reduceLeDiff, ↓reduceIte, reduceCtorEq, Int.reduceEq, Int.reduceLT, Int.reduceLE, Int.reduceAdd, Int.reduceSub, Int.reduceMul, Int.reduceNeg, Int.reduceToNat, hE] <;> rfl)); (first | (with_reducible (first | refine way_tt ?_ | refine way_ff ?_ | refine wayc_t ?_ | refine wayc_f ?_ | refine way_tf ?_ | refine way_ft ?_ | refine way_t ?_); try simp only [Env.put]) | with_reducible refine (?_ : WQ _ _ _ _ _ _)))
      | fail
    apply vq_evpf (muxS j2.1 o2.wf (c := e1) (a := y) (b := r) l2 (by omega) (by omega) (by omega))
    · simp only [Env.evL, Env.ev, Env.get, Nat.reduceEqDiff, ↓reduceIte, hE]
    rintro q s3 ⟨e2, G3, ids3, rfl, j3, o3, l3, v3⟩
    repeat first
      | with_reducible (first | refine vw_seq ?_ | refine vw_block ?_ | refine vw_rg ?_)
      | ((with_reducible apply vq_free'); (focus rfl))
      | ((with_reducible (first | refine vq_nil ?_ | refine vw_skip ?_ | refine vw_exit ?_ | refine vw_ret ?_)); simp only [Env.keep, Env.get, Env.ev, List.map, Nat.reduceEqDiff, ↓reduceIte, Then, Out'])
      | ((with_reducible (first | apply vq_p | apply vq_r | apply vq_a | apply vq_w | apply vq_g | apply vw_condm)); (focus (simp (disch := (first | with_reducible assumption | omega | ((repeat (first | rw [Store.next_push] | rw [Store.next_set])) <;> omega) | fail)) only [go_sem, Nat.reduceEqDiff, Nat.reduceAdd, Nat.reduceMul, Nat.reduceLeDiff, ↓reduceIte, reduceCtorEq, Int.reduceEq, Int.reduceLT, Int.reduceLE, Int.reduceAdd, Int.reduceSub, Int.reduceMul, Int.reduceNeg, Int.reduceToNat, hE, hs] <;> rfl)); (first | (with_reducible (first | refine way_tt ?_ | refine way_ff ?_ | refine wayc_t ?_ | refine wayc_f ?_ | refine way_tf ?_ | refine way_ft ?_ | refine way_t ?_); try simp only [Env.put]) | with_reducible refine (?_ : WQ _ _ _ _ _ _)))
      | fail
    refine ⟨w - (i + 1), by omega, i + 1, e2, G3, ids3, by omega, rfl, hst2.trans j3, ((hok.trans o2).trans o3).weaken (by omega), l3, fun m => ?_, (by simp only [Env.get, Nat.reduceEqDiff, ↓reduceIte, hE, and_self])⟩
    have x1 := hok.get (m := m) (e := x) (by omega)
    have y1 := hok.get (m := m) (e := y) (by omega)
    have y2 := (hok.trans o2).get (m := m) (e := y) (by omega)
    simp only [v3, v2, y2, o2.ext.ev hr, hrv, x1, y1, underAt, eA, eB]
  · have hci' : ¬ (i : Int) < (w : Int) := by omega
    obtain rfl : i = w := by omega
    repeat first
      | with_reducible (first | refine vw_seq ?_ | refine vw_block ?_ | refine vw_rg ?_)
      | ((with_reducible apply vq_free'); (focus rfl))
      | ((with_reducible (first | refine vq_nil ?_ | refine vw_skip ?_ | refine vw_exit ?_ | refine vw_ret ?_)); simp only [Env.keep, Env.get, Env.ev, List.map, Nat.reduceEqDiff, ↓reduceIte, Then, Out'])
      | ((with_reducible (first | apply vq_p | apply vq_r | apply vq_a | apply vq_w | apply vq_g | apply vw_condm)); (focus (simp (disch := (first | with_reducible assumption | omega | ((repeat (first | rw [Store.next_push] | rw [Store.next_set])) <;> omega) | fail)) only [go_sem, Nat.reduceEqDiff, Nat.reduceAdd, Nat.reduceMul, Nat.reduceLeDiff, ↓reduceIte, reduceCtorEq, Int.reduceEq, Int.reduceLT, Int.reduceLE, Int.reduceAdd, Int.reduceSub, Int.reduceMul, Int.reduceNeg, Int.reduceToNat, hE, hci'] <;> rfl)); (first | (with_reducible (first | refine way_tt ?_ | refine way_ff ?_ | refine wayc_t ?_ | refine wayc_f ?_ | refine way_tf ?_ | refine way_ft ?_ | refine way_t ?_); try simp only [Env.put]) | with_reducible refine (?_ : WQ _ _ _ _ _ _)))
      | fail
    exact ⟨.inr trivial, _, (by simp only [resOf, resAll, resOne, Env.get, Nat.reduceEqDiff, ↓reduceIte] <;> rfl), r, G1, ids1, rfl, hst, hok.weaken (by omega), hr, hrv⟩
end Go.Proofs.Ytedoacfoglbfeaa
