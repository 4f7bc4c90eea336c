/- Vectors of edges: the same, and less. -/
import Derived.Test.YtedoacfoglbfeaaB8
namespace Go.Proofs.Ytedoacfoglbfeaa
open Go.V
set_option maxRecDepth 100000
set_option maxHeartbeats 4000000
set_option linter.unusedSimpArgs false
set_option linter.unusedVariables false

theorem sameZ {s : Store} {g : Nat} {G : Gr} {ids : List Nat} {da db : D} {A0 B0 : List Nat} (hG : GA s g G ids) (hw : G.WF) (hA0 : VI s ids G da A0) (hB0 : VI s ids G db B0) (hL : G.nodes.length + 200 < 200000) :
    EvP vfs 49 [.ptr g 0, da, db] s (GE s g ids G 64 fun m => decide (valE G m A0 = valE G m B0)) := by
  have hw2 := wid2_le A0 B0
  have hGl := hw.len
  refine evp_of (vf := vf49) rfl ?_
  simp only [vf49, List.map, List.getD, List.getElem?_cons_zero, List.getElem?_cons_succ, List.getElem?_nil, Option.getD]
  repeat first
    | with_reducible (first | refine vw_seq ?_ | refine vw_block ?_ | refine vw_rg ?_)
    | ((with_reducible apply vq_free'); (focus rfl))
    | ((with_reducible (first | refine vq_nil ?_ | refine vw_skip ?_ | refine vw_exit ?_ | refine vw_ret ?_)); simp only [Env.keep, Env.get, Env.ev, List.map, Nat.reduceEqDiff, ↓reduceIte, Then, Out'])
    | ((with_reducible (first | apply vq_p | apply vq_r | apply vq_a | apply vq_w | apply vq_g | apply vw_condm)); (focus (simp (disch := (first | with_reducible assumption | omega | ((repeat (first | rw [Store.next_push] | rw [Store.next_set])) <;> omega) | fail)) only [go_sem, Nat.reduceEqDiff, Nat.reduceAdd, Nat.reduceMul, Nat.reduceLeDiff, ↓reduceIte, reduceCtorEq, Int.reduceEq, Int.reduceLT, Int.reduceLE, Int.reduceAdd, Int.reduceSub, Int.reduceMul, Int.reduceNeg, Int.reduceToNat] <;> rfl)); (first | (with_reducible (first | refine way_tt ?_ | refine way_ff ?_ | refine wayc_t ?_ | refine wayc_f ?_ | refine way_tf ?_ | refine way_ft ?_ | refine way_t ?_); try simp only [Env.put]) | with_reducible refine (?_ : WQ _ _ _ _ _ _)))
    | fail
  apply vq_evpf (bothV hG hw hA0 hB0 hL)
  · rfl
  rintro q s0 ⟨id1, id2, ids0, rfl, k1, k2, n1, n2, ne, l1, l2, j0, hA, hB⟩
  have hval : ∀ m, sameAt (bitsOf G m (wideL (fixL A0) (wid2 A0 B0))) (bitsOf G m (wideL (fixL B0) (wid2 A0 B0))) (wid2 A0 B0) = decide (valE G m A0 = valE G m B0) := fun m => by rw [same_val hw2.1, wide_l, wide_r]
  have hAl := wideL_len (fixL A0) (wid2 A0 B0)
  have hBl := wideL_len (fixL B0) (wid2 A0 B0)
  generalize wideL (fixL A0) (wid2 A0 B0) = A at *
  generalize wideL (fixL B0) (wid2 A0 B0) = B at *
  generalize wid2 A0 B0 = w at *
  repeat first
    | with_reducible (first | refine vw_seq ?_ | refine vw_block ?_ | refine vw_rg ?_)
    | ((with_reducible apply vq_free'); (focus rfl))
    | ((with_reducible (first | refine vq_nil ?_ | refine vw_skip ?_ | refine vw_exit ?_ | refine vw_ret ?_)); simp only [Env.keep, Env.get, Env.ev, List.map, Nat.reduceEqDiff, ↓reduceIte, Then, Out'])
    | ((with_reducible (first | apply vq_p | apply vq_r | apply vq_a | apply vq_w | apply vq_g | apply vw_condm)); (focus (simp (disch := (first | with_reducible assumption | omega | ((repeat (first | rw [Store.next_push] | rw [Store.next_set])) <;> omega) | fail)) only [go_sem, Nat.reduceEqDiff, Nat.reduceAdd, Nat.reduceMul, Nat.reduceLeDiff, ↓reduceIte, reduceCtorEq, Int.reduceEq, Int.reduceLT, Int.reduceLE, Int.reduceAdd, Int.reduceSub, Int.reduceMul, Int.reduceNeg, Int.reduceToNat] <;> rfl)); (first | (with_reducible (first | refine way_tt ?_ | refine way_ff ?_ | refine wayc_t ?_ | refine wayc_f ?_ | refine way_tf ?_ | refine way_ft ?_ | refine way_t ?_); try simp only [Env.put]) | with_reducible refine (?_ : WQ _ _ _ _ _ _)))
    | fail
  refine vw_loop_inv (fun k env s1 => ∃ (i r : Nat) (G1 : Gr) (ids1 : List Nat), i ≤ w ∧ k = w - i ∧ GrStep s0 g ids0 s1 G1 ids1 ∧ Gr.Ok G G1 (4 * i) ∧ r < 2 * G1.nodes.length ∧ (∀ m, G1.ev m r = sameAt (bitsOf G m A) (bitsOf G m B) i) ∧
    (env.get 0 = .ptr g 0 ∧ env.get 1 = .arr id1 0 w 1 ∧ env.get 2 = .arr id2 0 w 1 ∧ env.get 7 = .int .i64 (r : Int) ∧ env.get 17 = .int .i64 (w : Int) ∧ env.get 18 = .int .i64 (i : Int))) ?_ w _ _
    ⟨0, 1, G, ids0, Nat.zero_le _, by omega, GrStep.refl j0.1, Gr.Ok.refl hw, by omega, fun m => hw.ev_one m, by simp [Env.get, Made.at]⟩
  rintro k env s1 ⟨i, r, G1, ids1, hi, rfl, hst, hok, hr, hrv, hE⟩
  have hle := hok.ext.le
  have hlen := hok.len
  by_cases hci : i < w
  · have hci' : (i : Int) < (w : Int) := by omega
    have hs := i64_succ (i := i) (by omega)
    obtain ⟨pa, pa1, pa2⟩ := (hA.step hst hok.ext).rd.1.idxI (i := i) (by omega)
    have hB1 := hB.step hst hok.ext
    obtain ⟨pb, pb1, pb2⟩ := hB1.rd.1.idxI (i := i) (by omega)
    have hai := hA.lt _ (List.getElem_mem (show i < A.length by omega))
    have hbi := hB.lt _ (List.getElem_mem (show i < B.length by omega))
    have eA : ∀ m, bitsOf G m A i = G.ev m A[i] := fun m => by unfold bitsOf; rw [getD_el]
    have eB : ∀ m, bitsOf G m B i = G.ev m B[i] := fun m => by unfold bitsOf; rw [getD_el]
    generalize hxa : A[i] = x at *
    generalize hxb : B[i] = y at *
    repeat first
      | (apply vq_p; (focus (simp only [evP, Env.ev, Env.get, Nat.reduceEqDiff, ↓reduceIte, hE]; first | exact pa1 | exact pb1)))
      | (apply vq_ld; (focus (simp only [Env.ev, Env.get, Nat.reduceEqDiff, ↓reduceIte]; rfl)); (focus (first | exact pa2 | exact pb2)))
      | with_reducible (first | refine vw_seq ?_ | refine vw_block ?_ | refine vw_rg ?_)
      | ((with_reducible apply vq_free'); (focus rfl))
      | ((with_reducible (first | refine vq_nil ?_ | refine vw_skip ?_ | refine vw_exit ?_ | refine vw_ret ?_)); simp only [Env.keep, Env.get, Env.ev, List.map, Nat.reduceEqDiff, ↓reduceIte, Then, Out'])
      | ((with_reducible (first | apply vq_p | apply vq_r | apply vq_a | apply vq_w | apply vq_g | apply vw_condm)); (focus (simp (disch := (first | with_reducible assumption | omega | ((repeat (first | rw [Store.next_push] | rw [Store.next_set])) <;> omega) | fail)) only [go_sem, Nat.reduceEqDiff, Nat.reduceAdd, Nat.reduceMul, Nat.reduceLeDiff, ↓reduceIte, reduceCtorEq, Int.reduceEq, Int.reduceLT, Int.reduceLE, Int.reduceAdd, Int.reduceSub, Int.reduceMul, Int.reduceNeg, Int.reduceToNat, hE, hci'] <;> rfl)); (first | (with_reducible (first | refine way_tt ?_ | refine way_ff ?_ | refine wayc_t ?_ | refine wayc_f ?_ | refine way_tf ?_ | refine way_ft ?_ | refine way_t ?_); try simp only [Env.put]) | with_reducible refine (?_ : WQ _ _ _ _ _ _)))
      | fail
    apply vq_evpf (xorS hst.1 hok.wf (a := x) (b := y) (by omega) (by omega) (by omega))
    · simp only [Env.evL, Env.ev, Env.get, Nat.reduceEqDiff, ↓reduceIte, hE]
    rintro q s2 ⟨e1, G2, ids2, rfl, j2, o2, l2, v2⟩
    have n2 := o2.ext.le
    have m2 := o2.len
    have hnot := notE (s := s2) (G := G2) (a := e1) l2 (by omega)
    repeat first
      | (apply vq_call'; (focus (simp only [Env.evL, Env.ev, Env.get, Nat.reduceEqDiff, ↓reduceIte, Made.at]; rfl)); (focus (exact hnot)))
      | with_reducible (first | refine vw_seq ?_ | refine vw_block ?_ | refine vw_rg ?_)
      | ((with_reducible apply vq_free'); (focus rfl))
      | ((with_reducible (first | refine vq_nil ?_ | refine vw_skip ?_ | refine vw_exit ?_ | refine vw_ret ?_)); simp only [Env.keep, Env.get, Env.ev, List.map, Nat.reduceEqDiff, ↓reduceIte, Then, Out'])
      | ((with_reducible (first | apply vq_p | apply vq_r | apply vq_a | apply vq_w | apply vq_g | apply vw_condm)); (focus (simp (disch := (first | with_reducible assumption | omega | ((repeat (first | rw [Store.next_push] | rw [Store.next_set])) <;> omega) | fail)) only [go_sem, Nat.reduceEqDiff, Nat.reduceAdd, Nat.reduceMul, Nat.reduceLeDiff, ↓reduceIte, reduceCtorEq, Int.reduceEq, Int.reduceLT, Int.reduceLE, Int.reduceAdd, Int.reduceSub, Int.reduceMul, Int.reduceNeg, Int.reduceToNat, hE] <;> rfl)); (first | (with_reducible (first | refine way_tt ?_ | refine way_ff ?_ | refine wayc_t ?_ | refine wayc_f ?_ | refine way_tf ?_ | refine way_ft ?_ | refine way_t ?_); try simp only [Env.put]) | with_reducible refine (?_ : WQ _ _ _ _ _ _)))
      | fail
    apply vq_evpf (andS j2.1 o2.wf (a := r) (b := notN e1) (by omega) (notN_lt l2) (by omega))
    · simp only [Env.evL, Env.ev, Env.get, Nat.reduceEqDiff, ↓reduceIte, hE]
    rintro q s3 ⟨e3, G3, ids3, rfl, j3, o3, l3, v3⟩
    repeat first
      | with_reducible (first | refine vw_seq ?_ | refine vw_block ?_ | refine vw_rg ?_)
      | ((with_reducible apply vq_free'); (focus rfl))
      | ((with_reducible (first | refine vq_nil ?_ | refine vw_skip ?_ | refine vw_exit ?_ | refine vw_ret ?_)); simp only [Env.keep, Env.get, Env.ev, List.map, Nat.reduceEqDiff, ↓reduceIte, Then, Out'])
      | ((with_reducible (first | apply vq_p | apply vq_r | apply vq_a | apply vq_w | apply vq_g | apply vw_condm)); (focus (simp (disch := (first | with_reducible assumption | omega | ((repeat (first | rw [Store.next_push] | rw [Store.next_set])) <;> omega) | fail)) only [go_sem, Nat.reduceEqDiff, Nat.reduceAdd, Nat.reduceMul, Nat.reduceLeDiff, ↓reduceIte, reduceCtorEq, Int.reduceEq, Int.reduceLT, Int.reduceLE, Int.reduceAdd, Int.reduceSub, Int.reduceMul, Int.reduceNeg, Int.reduceToNat, hE, hs] <;> rfl)); (first | (with_reducible (first | refine way_tt ?_ | refine way_ff ?_ | refine wayc_t ?_ | refine wayc_f ?_ | refine way_tf ?_ | refine way_ft ?_ | refine way_t ?_); try simp only [Env.put]) | with_reducible refine (?_ : WQ _ _ _ _ _ _)))
      | fail
    refine ⟨w - (i + 1), by omega, i + 1, e3, G3, ids3, by omega, rfl, (hst.trans j2).trans j3, ((hok.trans o2).trans o3).weaken (by omega), l3, fun m => ?_, (by simp only [Env.get, Nat.reduceEqDiff, ↓reduceIte, hE, and_self])⟩
    have x1 := hok.get (m := m) (e := x) (by omega)
    have y1 := hok.get (m := m) (e := y) (by omega)
    simp only [v3, Gr.ev_not, v2, o2.get hr, hrv, x1, y1, sameAt, eA, eB]
  · have hci' : ¬ (i : Int) < (w : Int) := by omega
    obtain rfl : i = w := by omega
    repeat first
      | with_reducible (first | refine vw_seq ?_ | refine vw_block ?_ | refine vw_rg ?_)
      | ((with_reducible apply vq_free'); (focus rfl))
      | ((with_reducible (first | refine vq_nil ?_ | refine vw_skip ?_ | refine vw_exit ?_ | refine vw_ret ?_)); simp only [Env.keep, Env.get, Env.ev, List.map, Nat.reduceEqDiff, ↓reduceIte, Then, Out'])
      | ((with_reducible (first | apply vq_p | apply vq_r | apply vq_a | apply vq_w | apply vq_g | apply vw_condm)); (focus (simp (disch := (first | with_reducible assumption | omega | ((repeat (first | rw [Store.next_push] | rw [Store.next_set])) <;> omega) | fail)) only [go_sem, Nat.reduceEqDiff, Nat.reduceAdd, Nat.reduceMul, Nat.reduceLeDiff, ↓reduceIte, reduceCtorEq, Int.reduceEq, Int.reduceLT, Int.reduceLE, Int.reduceAdd, Int.reduceSub, Int.reduceMul, Int.reduceNeg, Int.reduceToNat, hE, hci'] <;> rfl)); (first | (with_reducible (first | refine way_tt ?_ | refine way_ff ?_ | refine wayc_t ?_ | refine wayc_f ?_ | refine way_tf ?_ | refine way_ft ?_ | refine way_t ?_); try simp only [Env.put]) | with_reducible refine (?_ : WQ _ _ _ _ _ _)))
      | fail
    exact ⟨.inr trivial, _, (by simp only [resOf, resAll, resOne, Env.get, Nat.reduceEqDiff, ↓reduceIte] <;> rfl), r, G1, ids1, rfl, j0.trans hst, hok.weaken (by omega), hr, fun m => by rw [hrv, hval]⟩

theorem lessZ {s : Store} {g : Nat} {G : Gr} {ids : List Nat} {da db : D} {A0 B0 : List Nat} (hG : GA s g G ids) (hw : G.WF) (hA0 : VI s ids G da A0) (hB0 : VI s ids G db B0) (hL : G.nodes.length + 200 < 200000) :
    EvP vfs 48 [.ptr g 0, da, db] s (GE s g ids G 96 fun m => decide (valE G m A0 < valE G m B0)) := by
  have hw2 := wid2_le A0 B0
  have hGl := hw.len
  refine evp_of (vf := vf48) rfl ?_
  simp only [vf48, List.map, List.getD, List.getElem?_cons_zero, List.getElem?_cons_succ, List.getElem?_nil, Option.getD]
  repeat first
    | with_reducible (first | refine vw_seq ?_ | refine vw_block ?_ | refine vw_rg ?_)
    | ((with_reducible apply vq_free'); (focus rfl))
    | ((with_reducible (first | refine vq_nil ?_ | refine vw_skip ?_ | refine vw_exit ?_ | refine vw_ret ?_)); simp only [Env.keep, Env.get, Env.ev, List.map, Nat.reduceEqDiff, ↓reduceIte, Then, Out'])
    | ((with_reducible (first | apply vq_p | apply vq_r | apply vq_a | apply vq_w | apply vq_g | apply vw_condm)); (focus (simp (disch := (first | with_reducible assumption | omega | ((repeat (first | rw [Store.next_push] | rw [Store.next_set])) <;> omega) | fail)) only [go_sem, Nat.reduceEqDiff, Nat.reduceAdd, Nat.reduceMul, Nat.reduceLeDiff, ↓reduceIte, reduceCtorEq, Int.reduceEq, Int.reduceLT, Int.reduceLE, Int.reduceAdd, Int.reduceSub, Int.reduceMul, Int.reduceNeg, Int.reduceToNat] <;> rfl)); (first | (with_reducible (first | refine way_tt ?_ | refine way_ff ?_ | refine wayc_t ?_ | refine wayc_f ?_ | refine way_tf ?_ | refine way_ft ?_ | refine way_t ?_); try simp only [Env.put]) | with_reducible refine (?_ : WQ _ _ _ _ _ _)))
    | fail
  apply vq_evpf (bothV hG hw hA0 hB0 hL)
  · rfl
  rintro q s0 ⟨id1, id2, ids0, rfl, k1, k2, n1, n2, ne, l1, l2, j0, hA, hB⟩
  have hval : ∀ m, decide (valZ (bitsOf G m (wideL (fixL A0) (wid2 A0 B0))) (wid2 A0 B0) < valZ (bitsOf G m (wideL (fixL B0) (wid2 A0 B0))) (wid2 A0 B0)) = decide (valE G m A0 < valE G m B0) := fun m => by rw [wide_l, wide_r]
  have hAl := wideL_len (fixL A0) (wid2 A0 B0)
  have hBl := wideL_len (fixL B0) (wid2 A0 B0)
  generalize wideL (fixL A0) (wid2 A0 B0) = A at *
  generalize wideL (fixL B0) (wid2 A0 B0) = B at *
  generalize wid2 A0 B0 = w at *
  have ht : IntKind.i64.wrap ((w : Int) - 1) = ((w - 1 : Nat) : Int) := by rw [i64_id (by omega) (by omega)]; omega
  have ia : w - 1 < A.length := by omega
  have ib : w - 1 < B.length := by omega
  obtain ⟨pa, pa1, pa2⟩ := hA.rd.1.idxI ia
  obtain ⟨pb, pb1, pb2⟩ := hB.rd.1.idxI ib
  have hai := hA.lt _ (List.getElem_mem ia)
  have hbi := hB.lt _ (List.getElem_mem ib)
  have eA := getD_el ia
  have eB := getD_el ib
  generalize A[w - 1] = x at *
  generalize B[w - 1] = y at *
  have hn1 := notE (s := s0) (G := G) (a := x) hai (by omega)
  have hn2 := notE (s := s0) (G := G) (a := y) hbi (by omega)
  have k2' : (s0.set id1 (some (.cells (cellsI (A.set (w - 1) (notN x)))))).get id2 = some (.cells (cellsI B)) := by rw [get_set_ne (Ne.symm ne), k2]
  repeat first
    | (apply vq_p; (focus (simp only [evP, Env.ev, Env.get, Nat.reduceEqDiff, ↓reduceIte]; first | exact pa1 | exact pb1)))
    | (apply vq_ld; (focus (simp only [Env.ev, Env.get, Nat.reduceEqDiff, ↓reduceIte]; rfl)); (focus (first | exact pa2 | exact pb2)))
    | (apply vq_call'; (focus (simp only [Env.evL, Env.ev, Env.get, Nat.reduceEqDiff, ↓reduceIte, Made.at]; rfl)); (focus (exact hn1)))
    | (apply vq_call'; (focus (simp only [Env.evL, Env.ev, Env.get, Nat.reduceEqDiff, ↓reduceIte, Made.at]; rfl)); (focus (exact hn2)))
    | with_reducible (first | refine vw_seq ?_ | refine vw_block ?_ | refine vw_rg ?_)
    | ((with_reducible apply vq_free'); (focus rfl))
    | ((with_reducible (first | refine vq_nil ?_ | refine vw_skip ?_ | refine vw_exit ?_ | refine vw_ret ?_)); simp only [Env.keep, Env.get, Env.ev, List.map, Nat.reduceEqDiff, ↓reduceIte, Then, Out'])
    | ((with_reducible (first | apply vq_p | apply vq_r | apply vq_a | apply vq_w | apply vq_g | apply vw_condm)); (focus (simp (disch := (first | with_reducible assumption | omega | ((repeat (first | rw [Store.next_push] | rw [Store.next_set])) <;> omega) | fail)) only [go_sem, Nat.reduceEqDiff, Nat.reduceAdd, Nat.reduceMul, Nat.reduceLeDiff, ↓reduceIte, reduceCtorEq, Int.reduceEq, Int.reduceLT, Int.reduceLE, Int.reduceAdd, Int.reduceSub, Int.reduceMul, Int.reduceNeg, Int.reduceToNat, ht] <;> rfl)); (first | (with_reducible (first | refine way_tt ?_ | refine way_ff ?_ | refine wayc_t ?_ | refine wayc_f ?_ | refine way_tf ?_ | refine way_ft ?_ | refine way_t ?_); try simp only [Env.put]) | with_reducible refine (?_ : WQ _ _ _ _ _ _)))
    | fail
  have ep : ∀ {id : Nat} {p : D}, idxAV 1 (.arr id 0 w 1) (.int .i64 ((w - 1 : Nat) : Int)) = some p → p = .ptr id (w - 1) := fun {id p} h => by
    rw [idx_arr rfl (by omega) (by omega)] at h
    cases h
    simp
  obtain rfl := ep pa1
  obtain rfl := ep pb1
  repeat first
    | (apply vq_wI k1 ia; (focus (simp only [Env.ev, Env.get, Nat.reduceEqDiff, ↓reduceIte])); (focus rfl))
    | (apply vq_wI k2' ib; (focus (simp only [Env.ev, Env.get, Nat.reduceEqDiff, ↓reduceIte])); (focus rfl))
    | (apply vq_p; (focus (simp only [evP, Env.ev, Env.get, Nat.reduceEqDiff, ↓reduceIte]; first | exact pa1 | exact pb1)))
    | with_reducible (first | refine vw_seq ?_ | refine vw_block ?_ | refine vw_rg ?_)
    | ((with_reducible apply vq_free'); (focus rfl))
    | ((with_reducible (first | refine vq_nil ?_ | refine vw_skip ?_ | refine vw_exit ?_ | refine vw_ret ?_)); simp only [Env.keep, Env.get, Env.ev, List.map, Nat.reduceEqDiff, ↓reduceIte, Then, Out'])
    | ((with_reducible (first | apply vq_p | apply vq_r | apply vq_a | apply vq_w | apply vq_g | apply vw_condm)); (focus (simp (disch := (first | with_reducible assumption | omega | ((repeat (first | rw [Store.next_push] | rw [Store.next_set])) <;> omega) | fail)) only [go_sem, Nat.reduceEqDiff, Nat.reduceAdd, Nat.reduceMul, Nat.reduceLeDiff, ↓reduceIte, reduceCtorEq, Int.reduceEq, Int.reduceLT, Int.reduceLE, Int.reduceAdd, Int.reduceSub, Int.reduceMul, Int.reduceNeg, Int.reduceToNat] <;> rfl)); (first | (with_reducible (first | refine way_tt ?_ | refine way_ff ?_ | refine wayc_t ?_ | refine wayc_f ?_ | refine way_tf ?_ | refine way_ft ?_ | refine way_t ?_); try simp only [Env.put]) | with_reducible refine (?_ : WQ _ _ _ _ _ _)))
    | fail
  generalize hs2 : (s0.set id1 (some (.cells (cellsI (A.set (w - 1) (notN x)))))).set id2 (some (.cells (cellsI (B.set (w - 1) (notN y))))) = s2
  have j2 : GrStep s g ids s2 G ids0 := by rw [← hs2]; exact (j0.wr _ n1 l1).wr _ n2 l2
  have c1 : s2.get id1 = some (.cells (cellsI (A.set (w - 1) (notN x)))) := by rw [← hs2, get_set_ne ne, get_set_eq (get_lts k1)]
  have c2 : s2.get id2 = some (.cells (cellsI (B.set (w - 1) (notN y)))) := by rw [← hs2, get_set_eq (get_lts k2')]
  have lt1 : ∀ (l : List Nat) (z : Nat), (∀ e ∈ l, e < 2 * G.nodes.length) → z < 2 * G.nodes.length → ∀ e ∈ l.set (w - 1) z, e < 2 * G.nodes.length := by
    intro l z hl hz e he
    rcases List.mem_or_eq_of_mem_set he with h | h
    · exact hl e h
    · omega
  have v1 : VI s2 ids0 G (.arr id1 0 w 1) (A.set (w - 1) (notN x)) := VI.of c1 (by simp [hAl]) n1 (lt1 _ _ hA.lt (notN_lt hai))
  have v2 : VI s2 ids0 G (.arr id2 0 w 1) (B.set (w - 1) (notN y)) := VI.of c2 (by simp [hBl]) n2 (lt1 _ _ hB.lt (notN_lt hbi))
  apply vq_evpf (underV j2.1 hw v1 v2 (by simp [hAl]) (by simp [hBl]) hw2.2 hL)
  · rfl
  rintro q s3 ⟨e, G', ids', rfl, j3, o3, l3, v3⟩
  have hb : ∀ (m : List Bool) (l : List Nat) (z : Nat), l.length = w → z = l.getD (w - 1) 0 → ∀ i, i < w → bitsOf G m (l.set (w - 1) (notN z)) i = if i = w - 1 then !bitsOf G m l i else bitsOf G m l i := by
    intro m l z hl hz i hi
    unfold bitsOf
    by_cases h : i = w - 1
    · subst h
      rw [if_pos rfl, ← Gr.ev_not, ← hz]
      congr 1
      simp [List.getD, hl, hi]
    · rw [if_neg h]
      congr 1
      simp only [List.getD]
      rw [List.getElem?_set_ne (by omega)]
  repeat first
    | with_reducible (first | refine vw_seq ?_ | refine vw_block ?_ | refine vw_rg ?_)
    | ((with_reducible apply vq_free'); (focus rfl))
    | ((with_reducible (first | refine vq_nil ?_ | refine vw_skip ?_ | refine vw_exit ?_ | refine vw_ret ?_)); simp only [Env.keep, Env.get, Env.ev, List.map, Nat.reduceEqDiff, ↓reduceIte, Then, Out'])
    | ((with_reducible (first | apply vq_p | apply vq_r | apply vq_a | apply vq_w | apply vq_g | apply vw_condm)); (focus (simp (disch := (first | with_reducible assumption | omega | ((repeat (first | rw [Store.next_push] | rw [Store.next_set])) <;> omega) | fail)) only [go_sem, Nat.reduceEqDiff, Nat.reduceAdd, Nat.reduceMul, Nat.reduceLeDiff, ↓reduceIte, reduceCtorEq, Int.reduceEq, Int.reduceLT, Int.reduceLE, Int.reduceAdd, Int.reduceSub, Int.reduceMul, Int.reduceNeg, Int.reduceToNat] <;> rfl)); (first | (with_reducible (first | refine way_tt ?_ | refine way_ff ?_ | refine wayc_t ?_ | refine wayc_f ?_ | refine way_tf ?_ | refine way_ft ?_ | refine way_t ?_); try simp only [Env.put]) | with_reducible refine (?_ : WQ _ _ _ _ _ _)))
    | fail
  refine ⟨.inr trivial, _, (by simp only [resOf, resAll, resOne, Env.get, Nat.reduceEqDiff, ↓reduceIte] <;> rfl), e, G', ids', rfl, j2.trans j3, o3, l3, fun m => ?_⟩
  simp only [v3, ← hval, ← less_val hw2.1]
  exact under_cong (hb m A x hAl eA) (hb m B y hBl eB)
end Go.Proofs.Ytedoacfoglbfeaa
