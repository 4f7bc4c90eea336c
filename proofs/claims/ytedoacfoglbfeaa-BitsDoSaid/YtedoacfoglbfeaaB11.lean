/- Vectors of edges: quotient and rest. -/
import Derived.Test.YtedoacfoglbfeaaB10
namespace Go.Proofs.Ytedoacfoglbfeaa
open Go.V
set_option maxRecDepth 100000
set_option maxHeartbeats 8000000
set_option linter.unusedSimpArgs false
set_option linter.unusedVariables false

theorem minus_cong {c : Bool} {A A' : Nat → Bool} {n : Nat} (h : ∀ i, i < n → A i = A' i) (j : Nat) (hj : j < n) : minusAt c A j = minusAt c A' j := by
  unfold minusAt ifAt
  rw [h j hj, sum_cong (n := n) (fun _ _ => rfl) (fun i hi => by rw [h i hi]) j hj]
theorem shift_cong {r r' : Nat → Bool} {d : Bool} {n : Nat} (h : ∀ i, i < n → r i = r' i) (j : Nat) (hj : j < n) : shiftAt r d j = shiftAt r' d j := by
  unfold shiftAt
  rw [h (j - 1) (by omega)]
theorem getD_shift {x : Nat} {R : List Nat} {w t : Nat} (hR : R.length = w) (ht : t < w) : (x :: R.take (w - 1)).getD t 0 = if t = 0 then x else R.getD (t - 1) 0 := by
  cases t with
  | zero => rfl
  | succ t =>
    simp only [List.getD, List.getElem?_cons_succ, Nat.add_sub_cancel]
    rw [if_neg (by omega), List.getElem?_take_of_lt (by omega)]
theorem set_getD {L : List Nat} {i e t : Nat} (h : i < L.length) : (L.set i e).getD t 0 = if t = i then e else L.getD t 0 := by
  simp only [List.getD]
  by_cases ht : t = i
  · subst ht; simp [h]
  · rw [if_neg ht, List.getElem?_set_ne (by omega)]

theorem rest_cong {X X' Y Y' : Nat → Bool} {w : Nat} (hX : ∀ i, i < w → X i = X' i) (hY : ∀ i, i < w → Y i = Y' i) : ∀ k, k ≤ w → ∀ t, t < w → restAt X Y w k t = restAt X' Y' w k t
  | 0, _, t, _ => rfl
  | k + 1, hk, t, ht => by
    have ih := rest_cong hX hY k (by omega)
    have hs : ∀ t, t < w → shiftAt (restAt X Y w k) (X (w - 1 - k)) t = shiftAt (restAt X' Y' w k) (X' (w - 1 - k)) t := fun t ht => by
      rw [hX _ (by omega)]; exact shift_cong ih t ht
    rw [restAt, restAt]
    simp only [ifAt]
    rw [under_cong hs hY, hs t ht, sum_cong hs (fun i hi => by rw [hY i hi]) t ht]
theorem quo_cong {X X' Y Y' : Nat → Bool} {w : Nat} (hX : ∀ i, i < w → X i = X' i) (hY : ∀ i, i < w → Y i = Y' i) (t : Nat) (ht : t < w) : quoAt X Y w t = quoAt X' Y' w t := by
  unfold quoAt fitsAt
  have hs : ∀ j, j < w → shiftAt (restAt X Y w (w - 1 - t)) (X (w - 1 - (w - 1 - t))) j = shiftAt (restAt X' Y' w (w - 1 - t)) (X' (w - 1 - (w - 1 - t))) j := fun j hj => by
    rw [hX _ (by omega)]; exact shift_cong (rest_cong hX hY _ (by omega)) j hj
  rw [under_cong hs hY]

theorem divideV {s : Store} {g : Nat} {G : Gr} {ids : List Nat} {da db : D} {A0 B0 : List Nat} (hG : GA s g G ids) (hw : G.WF) (hA0 : VI s ids G da A0) (hB0 : VI s ids G db B0) (hL : G.nodes.length + 6000 < 200000) :
    EvP vfs 66 [.ptr g 0, da, db] s fun d s' => ∃ d1 d2, d = .tup [d1, d2] ∧ GZ s g ids G 5500 (wid2 A0 B0) (fun m => if valE G m B0 = 0 then 0 else trimZ ((valE G m A0).tdiv (valE G m B0)) (wid2 A0 B0)) d1 s' ∧
      GZ s g ids G 5500 (wid2 A0 B0) (fun m => if valE G m B0 = 0 then 0 else trimZ ((valE G m A0).tmod (valE G m B0)) (wid2 A0 B0)) d2 s' := by
  have hw2 := wid2_le A0 B0
  have hGl := hw.len
  refine evp_of (vf := vf66) rfl ?_
  simp only [vf66, List.map, List.getD, List.getElem?_cons_zero, List.getElem?_cons_succ, List.getElem?_nil, Option.getD]
  repeat first
    | with_reducible (first | refine vw_seq ?_ | refine vw_block ?_ | refine vw_rg ?_)
    | ((with_reducible apply vq_free'); (focus rfl))
    | ((with_reducible (first | refine vq_nil ?_ | refine vw_skip ?_ | refine vw_exit ?_ | refine vw_ret ?_)); simp only [Env.keep, Env.get, Env.ev, List.map, Nat.reduceEqDiff, ↓reduceIte, Then, Out'])
    | ((with_reducible (first | apply vq_p | apply vq_r | apply vq_a | apply vq_w | apply vq_g | apply vw_condm)); (focus (simp (disch := (first | with_reducible assumption | omega | ((repeat (first | rw [Store.next_push] | rw [Store.next_set])) <;> omega) | fail)) only [go_sem, Nat.reduceEqDiff, Nat.reduceAdd, Nat.reduceMul, Nat.reduceLeDiff, ↓reduceIte, reduceCtorEq, Int.reduceEq, Int.reduceLT, Int.reduceLE, Int.reduceAdd, Int.reduceSub, Int.reduceMul, Int.reduceNeg, Int.reduceToNat] <;> rfl)); (first | (with_reducible (first | refine way_tt ?_ | refine way_ff ?_ | refine wayc_t ?_ | refine wayc_f ?_ | refine way_tf ?_ | refine way_ft ?_ | refine way_t ?_); try simp only [Env.put]) | with_reducible refine (?_ : WQ _ _ _ _ _ _)))
    | fail
  apply vq_evpf (bothV hG hw hA0 hB0 (by omega))
  · rfl
  rintro q s0 ⟨id1, id2, ids0, rfl, k1, k2, n1, n2, ne, l1, l2, j0, hA, hB⟩
  have hvA : ∀ m, valZ (bitsOf G m (wideL (fixL A0) (wid2 A0 B0))) (wid2 A0 B0) = valE G m A0 := fun m => wide_l
  have hvB : ∀ m, valZ (bitsOf G m (wideL (fixL B0) (wid2 A0 B0))) (wid2 A0 B0) = valE G m B0 := fun m => wide_r
  have hAl := wideL_len (fixL A0) (wid2 A0 B0)
  have hBl := wideL_len (fixL B0) (wid2 A0 B0)
  generalize wideL (fixL A0) (wid2 A0 B0) = A at *
  generalize wideL (fixL B0) (wid2 A0 B0) = B at *
  generalize wid2 A0 B0 = w at *
  have a1 : ((0 : Int) ≤ (w : Int)) = True := eq_true (by omega)
  have a2 : ((((8 : Nat) : Int) * (w : Int)) ≤ 2 ^ 47) = True := eq_true (by omega)
  have a3 : ((w : Int) < 2 ^ 62) = True := eq_true (by omega)
  have ht : IntKind.i64.wrap ((w : Int) - 1) = ((w - 1 : Nat) : Int) := by rw [i64_id (by omega) (by omega)]; omega
  have ia : w - 1 < A.length := by omega
  have ib : w - 1 < B.length := by omega
  obtain ⟨pa, pa1, pa2⟩ := hA.rd.1.idxI ia
  obtain ⟨pb, pb1, pb2⟩ := hB.rd.1.idxI ib
  have hai := hA.lt _ (List.getElem_mem ia)
  have hbi := hB.lt _ (List.getElem_mem ib)
  have eA : ∀ m, G.ev m A[w - 1] = bitsOf G m A (w - 1) := fun m => by unfold bitsOf; rw [getD_el]
  have eB : ∀ m, G.ev m B[w - 1] = bitsOf G m B (w - 1) := fun m => by unfold bitsOf; rw [getD_el]
  generalize A[w - 1] = sx at *
  generalize B[w - 1] = sy at *
  repeat first
    | (apply vq_p; (focus (simp only [evP, Env.ev, Env.get, Nat.reduceEqDiff, ↓reduceIte]; first | exact pa1 | exact pb1)))
    | (apply vq_ld; (focus (simp only [Env.ev, Env.get, Nat.reduceEqDiff, ↓reduceIte]; rfl)); (focus (first | exact pa2 | exact pb2)))
    | with_reducible (first | refine vw_seq ?_ | refine vw_block ?_ | refine vw_rg ?_)
    | ((with_reducible apply vq_free'); (focus rfl))
    | ((with_reducible (first | refine vq_nil ?_ | refine vw_skip ?_ | refine vw_exit ?_ | refine vw_ret ?_)); simp only [Env.keep, Env.get, Env.ev, List.map, Nat.reduceEqDiff, ↓reduceIte, Then, Out'])
    | ((with_reducible (first | apply vq_p | apply vq_r | apply vq_a | apply vq_w | apply vq_g | apply vw_condm)); (focus (simp (disch := (first | with_reducible assumption | omega | ((repeat (first | rw [Store.next_push] | rw [Store.next_set])) <;> omega) | fail)) only [go_sem, Nat.reduceEqDiff, Nat.reduceAdd, Nat.reduceMul, Nat.reduceLeDiff, ↓reduceIte, reduceCtorEq, Int.reduceEq, Int.reduceLT, Int.reduceLE, Int.reduceAdd, Int.reduceSub, Int.reduceMul, Int.reduceNeg, Int.reduceToNat, ht] <;> rfl)); (first | (with_reducible (first | refine way_tt ?_ | refine way_ff ?_ | refine wayc_t ?_ | refine wayc_f ?_ | refine way_tf ?_ | refine way_ft ?_ | refine way_t ?_); try simp only [Env.put]) | with_reducible refine (?_ : WQ _ _ _ _ _ _)))
    | fail
  apply vq_evpf (minusV j0.1 hw hA hAl hw2.2 (c := sx) hai (by omega))
  · rfl
  rintro q s1 ⟨X, G1, ids1, idx, rfl, kX, lX, nX, gX, j1, o1, tX, vX⟩
  have e1 := o1.ext.le
  have m1 := o1.len
  repeat first
    | with_reducible (first | refine vw_seq ?_ | refine vw_block ?_ | refine vw_rg ?_)
    | ((with_reducible apply vq_free'); (focus rfl))
    | ((with_reducible (first | refine vq_nil ?_ | refine vw_skip ?_ | refine vw_exit ?_ | refine vw_ret ?_)); simp only [Env.keep, Env.get, Env.ev, List.map, Nat.reduceEqDiff, ↓reduceIte, Then, Out'])
    | ((with_reducible (first | apply vq_p | apply vq_r | apply vq_a | apply vq_w | apply vq_g | apply vw_condm)); (focus (simp (disch := (first | with_reducible assumption | omega | ((repeat (first | rw [Store.next_push] | rw [Store.next_set])) <;> omega) | fail)) only [go_sem, Nat.reduceEqDiff, Nat.reduceAdd, Nat.reduceMul, Nat.reduceLeDiff, ↓reduceIte, reduceCtorEq, Int.reduceEq, Int.reduceLT, Int.reduceLE, Int.reduceAdd, Int.reduceSub, Int.reduceMul, Int.reduceNeg, Int.reduceToNat] <;> rfl)); (first | (with_reducible (first | refine way_tt ?_ | refine way_ff ?_ | refine wayc_t ?_ | refine wayc_f ?_ | refine way_tf ?_ | refine way_ft ?_ | refine way_t ?_); try simp only [Env.put]) | with_reducible refine (?_ : WQ _ _ _ _ _ _)))
    | fail
  apply vq_evpf (minusV j1.1 o1.wf (hB.step j1 o1.ext) hBl hw2.2 (c := sy) (by omega) (by omega))
  · rfl
  rintro q s2 ⟨Y, G2, ids2, idy, rfl, kY, lY, nY, gY, j2, o2, tY, vY⟩
  have e2 := o2.ext.le
  have m2 := o2.len
  obtain ⟨kX2, nX2⟩ := j2.keep kX nX
  have o12 := o1.trans o2
  have j02 := (j0.trans j1).trans j2
  have hX2 : VI s2 ids2 G2 (.arr idx 0 w 1) X := VI.of kX2 lX nX2 (fun e he => by have := tX e he; omega)
  have hY2 : VI s2 ids2 G2 (.arr idy 0 w 1) Y := VI.of kY lY nY tY
  have bX : ∀ m t, t < w → bitsOf G2 m X t = minusAt (bitsOf G m A (w - 1)) (bitsOf G m A) t := fun m t h => by
    rw [bits_ext o2.ext tX (by omega), vX m t h, ← eA]
  have bY : ∀ m t, t < w → bitsOf G2 m Y t = minusAt (bitsOf G m B (w - 1)) (bitsOf G m B) t := fun m t h => by
    rw [vY m t h, ← eB]
    show minusAt (G1.ev m sy) (bitsOf G1 m B) t = _
    rw [o1.get hbi]
    exact minus_cong (n := w) (fun i _ => bits_ext o1.ext hB.lt hGl m i) t h
  have hlt2 := j2.1.lt
  repeat first
    | with_reducible (first | refine vw_seq ?_ | refine vw_block ?_ | refine vw_rg ?_)
    | ((with_reducible apply vq_free'); (focus rfl))
    | ((with_reducible (first | refine vq_nil ?_ | refine vw_skip ?_ | refine vw_exit ?_ | refine vw_ret ?_)); simp only [Env.keep, Env.get, Env.ev, List.map, Nat.reduceEqDiff, ↓reduceIte, Then, Out'])
    | ((with_reducible (first | apply vq_p | apply vq_r | apply vq_a | apply vq_w | apply vq_g | apply vw_condm)); (focus (simp (disch := (first | with_reducible assumption | omega | ((repeat (first | rw [Store.next_push] | rw [Store.next_set])) <;> omega) | fail)) only [go_sem, Nat.reduceEqDiff, Nat.reduceAdd, Nat.reduceMul, Nat.reduceLeDiff, ↓reduceIte, reduceCtorEq, Int.reduceEq, Int.reduceLT, Int.reduceLE, Int.reduceAdd, Int.reduceSub, Int.reduceMul, Int.reduceNeg, Int.reduceToNat, a1, a2, a3, zerosI, Int.le_refl] <;> rfl)); (first | (with_reducible (first | refine way_tt ?_ | refine way_ff ?_ | refine wayc_t ?_ | refine wayc_f ?_ | refine way_tf ?_ | refine way_ft ?_ | refine way_t ?_); try simp only [Env.put]) | with_reducible refine (?_ : WQ _ _ _ _ _ _)))
    | fail
  generalize hs3 : (s2.push (.cells (cellsI (List.replicate w 0)))).push (.cells (cellsI (List.replicate w 0))) = s3
  have f3 : Fr [] s2 s3 := by rw [← hs3]; exact (Fr.push _).thenPush _
  have kq : s3.get s2.next = some (.cells (cellsI (List.replicate w 0))) := by rw [← hs3, get_push_old (by simp), get_push_new rfl]
  have kr : s3.get (s2.next + 1) = some (.cells (cellsI (List.replicate w 0))) := by rw [← hs3, get_push_new (by simp)]
  have j23 := j2.1.newer f3
  have hzl : ∀ e ∈ List.replicate w 0, e < 2 * G2.nodes.length := by intro e he; have := List.eq_of_mem_replicate he; omega
  have hzb : ∀ m t, bitsOf G2 m (List.replicate w 0) t = false := fun m t => by unfold bitsOf; rw [getD_zero, o2.wf.ev_zero]
  have nq : s2.next ∉ ids2 := fun h => by have := hlt2 _ h; omega
  have nr : s2.next + 1 ∉ ids2 := fun h => by have := hlt2 _ h; omega
  refine vw_loop_inv (Q := Out' 0 _) (fun n env s4 => ∃ (k : Nat) (Q R : List Nat) (idr : Nat) (G4 : Gr) (ids4 : List Nat), k ≤ w ∧ n = w - k ∧ GrStep s2 g ids2 s4 G4 ids4 ∧ Gr.Ok G2 G4 (288 * k) ∧
    s4.get s2.next = some (.cells (cellsI Q)) ∧ s2.next ∉ ids4 ∧ Q.length = w ∧ (∀ e ∈ Q, e < 2 * G4.nodes.length) ∧ s4.get idr = some (.cells (cellsI R)) ∧ idr ∉ ids4 ∧ R.length = w ∧ (∀ e ∈ R, e < 2 * G4.nodes.length) ∧ s2.next < idr ∧
    (∀ m t, t < w → bitsOf G4 m R t = restAt (bitsOf G2 m X) (bitsOf G2 m Y) w k t) ∧ (∀ m t, t < w → w - k ≤ t → bitsOf G4 m Q t = quoAt (bitsOf G2 m X) (bitsOf G2 m Y) w t) ∧
    (env.get 0 = .ptr g 0 ∧ env.get 1 = .arr id1 0 w 1 ∧ env.get 2 = .arr id2 0 w 1 ∧ env.get 8 = .int .i64 (w : Int) ∧ env.get 9 = .int .i64 (sx : Int) ∧ env.get 10 = .int .i64 (sy : Int) ∧ env.get 11 = .arr idx 0 w 1 ∧ env.get 12 = .arr idy 0 w 1 ∧ env.get 13 = .arr s2.next 0 w 1 ∧ env.get 14 = .arr idr 0 w 1 ∧ env.get 51 = .int .i64 (w : Int) ∧ env.get 52 = .int .i64 (k : Int))) ?_ w _ _
    ⟨0, List.replicate w 0, List.replicate w 0, s2.next + 1, G2, ids2, Nat.zero_le _, by omega, j23, Gr.Ok.refl o2.wf, kq, nq, by simp, hzl, kr, nr, by simp, hzl, by omega, fun m t h => hzb m t, fun m t h h' => by omega, by simp [Env.get, Made.at]⟩
  rintro n env s4 ⟨k, Q, R, idr, G4, ids4, hk, rfl, j4, o4, kQ, nQ, lQ, tQ, kR, nR, lR, tR, gR, bR, bQ, hE⟩
  have e4 := o4.ext.le
  have m4 := o4.len
  by_cases hck : k < w
  · have hck' : (k : Int) < (w : Int) := by omega
    have hs := i64_succ (i := k) (by omega)
    have hsub : IntKind.i64.wrap (((w - 1 : Nat) : Int) - (k : Int)) = ((w - 1 - k : Nat) : Int) := by rw [i64_id (by omega) (by omega)]; omega
    have hX4 := hX2.step j4 o4.ext
    have hY4 := hY2.step j4 o4.ext
    have ix : w - 1 - k < X.length := by omega
    obtain ⟨px, px1, px2⟩ := hX4.rd.1.idxI ix
    have hxi := hX4.lt _ (List.getElem_mem ix)
    have eX : ∀ m, G4.ev m X[w - 1 - k] = bitsOf G2 m X (w - 1 - k) := fun m => by
      rw [getD_el ix]
      exact bits_ext o4.ext hX2.lt (by omega) m _
    generalize X[w - 1 - k] = x at *
    have hsl : sliceV (some 1) (.arr idr 0 w 1) none (some (.int .i64 ((w - 1 : Nat) : Int))) = some (.arr idr 0 (w - 1) 1) := by
      simp only [sliceV, boundOf]
      rw [if_pos (by omega)]
      simp
      omega
    repeat first
      | (apply vq_p; (focus (simp only [evP, Env.ev, Env.evO, Env.get, Nat.reduceEqDiff, ↓reduceIte, hE]; first | exact px1 | exact hsl)))
      | (apply vq_ld; (focus (simp only [Env.ev, Env.get, Nat.reduceEqDiff, ↓reduceIte]; rfl)); (focus exact px2))
      | with_reducible (first | refine vw_seq ?_ | refine vw_block ?_ | refine vw_rg ?_)
      | ((with_reducible apply vq_free'); (focus rfl))
      | ((with_reducible (first | refine vq_nil ?_ | refine vw_skip ?_ | refine vw_exit ?_ | refine vw_ret ?_)); simp only [Env.keep, Env.get, Env.ev, List.map, Nat.reduceEqDiff, ↓reduceIte, Then, Out'])
      | ((with_reducible (first | apply vq_p | apply vq_r | apply vq_a | apply vq_w | apply vq_g | apply vw_condm)); (focus (simp (disch := (first | with_reducible assumption | omega | ((repeat (first | rw [Store.next_push] | rw [Store.next_set])) <;> omega) | fail)) only [go_sem, Nat.reduceEqDiff, Nat.reduceAdd, Nat.reduceMul, Nat.reduceLeDiff, ↓reduceIte, reduceCtorEq, Int.reduceEq, Int.reduceLT, Int.reduceLE, Int.reduceAdd, Int.reduceSub, Int.reduceMul, Int.reduceNeg, Int.reduceToNat, hE, hck', ht, hsub] <;> rfl)); (first | (with_reducible (first | refine way_tt ?_ | refine way_ff ?_ | refine wayc_t ?_ | refine wayc_f ?_ | refine way_tf ?_ | refine way_ft ?_ | refine way_t ?_); try simp only [Env.put]) | with_reducible refine (?_ : WQ _ _ _ _ _ _)))
      | fail
    generalize hs5 : s4.push (.cells [.int .i64 (x : Int)]) = s5
    have f5 : Fr [] s4 s5 := by rw [← hs5]; exact Fr.push _
    have k5 : s5.get s4.next = some (.cells (cellsI [x])) := by rw [← hs5]; exact get_push_new rfl
    have kR5 := f5.keep kR
    have rR5 : Rd s5 (.arr idr 0 (w - 1) 1) (cellsI (R.take (w - 1))) := by
      refine .inr (.inr ⟨idr, 0, cellsI R, ?_, kR5, ?_, ?_⟩)
      · simp [lR]
      · simp [lR]
      · simp [cellsI, lR, List.map_take]
    obtain ⟨s6, id6, h6, k6, f6, g6⟩ := append_rd (bytes := 8) k5 rR5 (by omega) (by simp [lR]; omega)
    have hlen6 : (cellsI [x] ++ cellsI (R.take (w - 1))).length = w := by simp [lR]; omega
    rw [← cellsI_append] at k6
    rw [hlen6] at h6
    rw [show [x] ++ R.take (w - 1) = x :: R.take (w - 1) from rfl] at k6
    have f46 : Fr [] s4 s6 := f5.trans f6 (by simp)
    have hs4n : s4.next ≤ id6 := by
      rcases g6 with h | h
      · omega
      · have := f5.1; omega
    have j46 := j4.nw f46
    have hlt4 := j4.1.lt
    have n6 : id6 ∉ ids4 := fun h => by have := hlt4 _ h; omega
    have l6 : (x :: R.take (w - 1)).length = w := by simp [lR]; omega
    have v6 : VI s6 ids4 G4 (.arr id6 0 w 1) (x :: R.take (w - 1)) := VI.of k6 l6 n6 (by
      intro e he
      rcases List.mem_cons.1 he with h | h
      · omega
      · exact tR e (List.mem_of_mem_take h))
    have b6 : ∀ m t, t < w → bitsOf G4 m (x :: R.take (w - 1)) t = shiftAt (restAt (bitsOf G2 m X) (bitsOf G2 m Y) w k) (bitsOf G2 m X (w - 1 - k)) t := fun m t h => by
      unfold bitsOf
      rw [getD_shift lR h]
      unfold shiftAt
      by_cases h0 : t = 0
      · rw [if_pos h0, if_pos h0, eX]; rfl
      · rw [if_neg h0, if_neg h0]
        exact bR m (t - 1) (by omega)
    have kQ6 := f46.keep kQ
    have hidQ : s2.next < s4.next := get_lts kQ
    generalize x :: R.take (w - 1) = R1 at *
    apply vq_append' (d := .arr id6 0 w 1) (s' := s6)
    · simp only [Env.ev, Env.get, Nat.reduceEqDiff, ↓reduceIte, Made.at]
      rfl
    · simp only [Env.ev, Env.get, Nat.reduceEqDiff, ↓reduceIte, Made.at]
      rfl
    · exact h6
    repeat first
      | with_reducible (first | refine vw_seq ?_ | refine vw_block ?_ | refine vw_rg ?_)
      | ((with_reducible apply vq_free'); (focus rfl))
      | ((with_reducible (first | refine vq_nil ?_ | refine vw_skip ?_ | refine vw_exit ?_ | refine vw_ret ?_)); simp only [Env.keep, Env.get, Env.ev, List.map, Nat.reduceEqDiff, ↓reduceIte, Then, Out'])
      | ((with_reducible (first | apply vq_p | apply vq_r | apply vq_a | apply vq_w | apply vq_g | apply vw_condm)); (focus (simp (disch := (first | with_reducible assumption | omega | ((repeat (first | rw [Store.next_push] | rw [Store.next_set])) <;> omega) | fail)) only [go_sem, Nat.reduceEqDiff, Nat.reduceAdd, Nat.reduceMul, Nat.reduceLeDiff, ↓reduceIte, reduceCtorEq, Int.reduceEq, Int.reduceLT, Int.reduceLE, Int.reduceAdd, Int.reduceSub, Int.reduceMul, Int.reduceNeg, Int.reduceToNat, hE] <;> rfl)); (first | (with_reducible (first | refine way_tt ?_ | refine way_ff ?_ | refine wayc_t ?_ | refine wayc_f ?_ | refine way_tf ?_ | refine way_ft ?_ | refine way_t ?_); try simp only [Env.put]) | with_reducible refine (?_ : WQ _ _ _ _ _ _)))
      | fail
    apply vq_evpf (underV j46.1 o4.wf v6 (hY4.newer f46) l6 lY hw2.2 (by omega))
    · simp only [Env.evL, Env.ev, Env.get, Nat.reduceEqDiff, ↓reduceIte, hE]
    rintro q s7 ⟨u, G7, ids7, rfl, j7, o7, l7, v7⟩
    have e7 := o7.ext.le
    have m7 := o7.len
    have hnot := notE (s := s7) (G := G7) (a := u) l7 (by omega)
    obtain ⟨kQ7, nQ7⟩ := j7.keep kQ6 nQ
    obtain ⟨k67, n67⟩ := j7.keep k6 n6
    have hidx : idxAV 1 (.arr s2.next 0 w 1) (.int .i64 ((w - 1 - k : Nat) : Int)) = some (.ptr s2.next (w - 1 - k)) := by rw [idx_arr rfl (by omega) (by omega), Int.toNat_natCast, Nat.mul_one, Nat.zero_add]
    repeat first
      | (apply vq_call'; (focus (simp only [Env.evL, Env.ev, Env.get, Nat.reduceEqDiff, ↓reduceIte, Made.at]; rfl)); (focus (exact hnot)))
      | (apply vq_p; (focus (simp only [evP, Env.ev, Env.get, Nat.reduceEqDiff, ↓reduceIte, hE]; exact hidx)))
      | (apply vq_wI kQ7 (by omega : w - 1 - k < Q.length); (focus rfl); (focus rfl))
      | with_reducible (first | refine vw_seq ?_ | refine vw_block ?_ | refine vw_rg ?_)
      | ((with_reducible apply vq_free'); (focus rfl))
      | ((with_reducible (first | refine vq_nil ?_ | refine vw_skip ?_ | refine vw_exit ?_ | refine vw_ret ?_)); simp only [Env.keep, Env.get, Env.ev, List.map, Nat.reduceEqDiff, ↓reduceIte, Then, Out'])
      | ((with_reducible (first | apply vq_p | apply vq_r | apply vq_a | apply vq_w | apply vq_g | apply vw_condm)); (focus (simp (disch := (first | with_reducible assumption | omega | ((repeat (first | rw [Store.next_push] | rw [Store.next_set])) <;> omega) | fail)) only [go_sem, Nat.reduceEqDiff, Nat.reduceAdd, Nat.reduceMul, Nat.reduceLeDiff, ↓reduceIte, reduceCtorEq, Int.reduceEq, Int.reduceLT, Int.reduceLE, Int.reduceAdd, Int.reduceSub, Int.reduceMul, Int.reduceNeg, Int.reduceToNat, hE] <;> rfl)); (first | (with_reducible (first | refine way_tt ?_ | refine way_ff ?_ | refine wayc_t ?_ | refine wayc_f ?_ | refine way_tf ?_ | refine way_ft ?_ | refine way_t ?_); try simp only [Env.put]) | with_reducible refine (?_ : WQ _ _ _ _ _ _)))
      | fail
    generalize hs8 : s7.set s2.next (some (.cells (cellsI (Q.set (w - 1 - k) (notN u))))) = s8
    have j8 : GrStep s2 g ids2 s8 G7 ids7 := by rw [← hs8]; exact (j46.trans j7).wr _ nQ7 (Nat.le_refl _)
    have kQ8 : s8.get s2.next = some (.cells (cellsI (Q.set (w - 1 - k) (notN u)))) := by rw [← hs8]; exact get_set_eq (get_lts kQ7)
    have k68 : s8.get id6 = some (.cells (cellsI R1)) := by rw [← hs8, get_set_ne (by omega), k67]
    have v68 : VI s8 ids7 G7 (.arr id6 0 w 1) R1 := VI.of k68 l6 n67 (fun e he => by have := v6.lt e he; omega)
    have hY8 : VI s8 ids7 G7 (.arr idy 0 w 1) Y := hY2.step j8 (o4.ext.trans o7.ext)
    apply vq_evpf (notV hY8.rd.1 lY hw2.2 (fun e he => by have := hY8.lt e he; omega))
    · simp only [Env.evL, Env.ev, Env.get, Nat.reduceEqDiff, ↓reduceIte, hE]
    rintro q s9 ⟨id9, rfl, k9, f9, g9⟩
    have hlt8 := j8.1.lt
    have j9 := j8.nw f9
    have v9 : VI s9 ids7 G7 (.arr id9 0 w 1) (Y.map notN) := VI.of k9 (by simp [lY]) (fun h => by have := hlt8 _ h; omega) (by
      intro e he
      obtain ⟨a, ha, rfl⟩ := List.mem_map.1 he
      exact notN_lt (hY8.lt a ha))
    repeat first
      | with_reducible (first | refine vw_seq ?_ | refine vw_block ?_ | refine vw_rg ?_)
      | ((with_reducible apply vq_free'); (focus rfl))
      | ((with_reducible (first | refine vq_nil ?_ | refine vw_skip ?_ | refine vw_exit ?_ | refine vw_ret ?_)); simp only [Env.keep, Env.get, Env.ev, List.map, Nat.reduceEqDiff, ↓reduceIte, Then, Out'])
      | ((with_reducible (first | apply vq_p | apply vq_r | apply vq_a | apply vq_w | apply vq_g | apply vw_condm)); (focus (simp (disch := (first | with_reducible assumption | omega | ((repeat (first | rw [Store.next_push] | rw [Store.next_set])) <;> omega) | fail)) only [go_sem, Nat.reduceEqDiff, Nat.reduceAdd, Nat.reduceMul, Nat.reduceLeDiff, ↓reduceIte, reduceCtorEq, Int.reduceEq, Int.reduceLT, Int.reduceLE, Int.reduceAdd, Int.reduceSub, Int.reduceMul, Int.reduceNeg, Int.reduceToNat, hE] <;> rfl)); (first | (with_reducible (first | refine way_tt ?_ | refine way_ff ?_ | refine wayc_t ?_ | refine wayc_f ?_ | refine way_tf ?_ | refine way_ft ?_ | refine way_t ?_); try simp only [Env.put]) | with_reducible refine (?_ : WQ _ _ _ _ _ _)))
      | fail
    apply vq_evpf (sumS j9.1 o7.wf (v68.newer f9) v9 l6 (by simp [lY]) hw2.2 (c := 1) (by omega) (by omega))
    · simp only [Env.evL, Env.ev, Env.get, Nat.reduceEqDiff, ↓reduceIte, hE]
      try rfl
    rintro q s10 ⟨S, G10, ids10, id10, rfl, k10, l10, n10, g10, j10, o10, t10, v10⟩
    have e10 := o10.ext.le
    have m10 := o10.len
    have j10' := j9.trans j10
    have v610 : VI s10 ids10 G10 (.arr id6 0 w 1) R1 := (v68.newer f9).step j10 o10.ext
    repeat first
      | with_reducible (first | refine vw_seq ?_ | refine vw_block ?_ | refine vw_rg ?_)
      | ((with_reducible apply vq_free'); (focus rfl))
      | ((with_reducible (first | refine vq_nil ?_ | refine vw_skip ?_ | refine vw_exit ?_ | refine vw_ret ?_)); simp only [Env.keep, Env.get, Env.ev, List.map, Nat.reduceEqDiff, ↓reduceIte, Then, Out'])
      | ((with_reducible (first | apply vq_p | apply vq_r | apply vq_a | apply vq_w | apply vq_g | apply vw_condm)); (focus (simp (disch := (first | with_reducible assumption | omega | ((repeat (first | rw [Store.next_push] | rw [Store.next_set])) <;> omega) | fail)) only [go_sem, Nat.reduceEqDiff, Nat.reduceAdd, Nat.reduceMul, Nat.reduceLeDiff, ↓reduceIte, reduceCtorEq, Int.reduceEq, Int.reduceLT, Int.reduceLE, Int.reduceAdd, Int.reduceSub, Int.reduceMul, Int.reduceNeg, Int.reduceToNat, hE] <;> rfl)); (first | (with_reducible (first | refine way_tt ?_ | refine way_ff ?_ | refine wayc_t ?_ | refine wayc_f ?_ | refine way_tf ?_ | refine way_ft ?_ | refine way_t ?_); try simp only [Env.put]) | with_reducible refine (?_ : WQ _ _ _ _ _ _)))
      | fail
    apply vq_evpf (muxV j10.1 o10.wf (VI.of k10 l10 n10 t10) v610 l10 l6 hw2.2 (c := notN u) (notN_lt (by omega)) (by omega))
    · simp only [Env.evL, Env.ev, Env.get, Nat.reduceEqDiff, ↓reduceIte, hE]
      try rfl
    rintro q s11 ⟨T, G11, ids11, id11, rfl, k11, l11, n11, g11, j11, o11, t11, v11⟩
    have e11 := o11.ext.le
    have m11 := o11.len
    have kQ9 := f9.keep kQ8
    obtain ⟨kQ10, nQ10⟩ := j10.keep kQ9 nQ7
    obtain ⟨kQ11, nQ11⟩ := j11.keep kQ10 nQ10
    have y1 := j4.2.1.1
    have y2 := f46.1
    have y3 := j7.2.1.1
    have y4 := f9.1
    have y5 := j10.2.1.1
    have y6 : s8.next = s7.next := by rw [← hs8]; rfl
    have hun : ∀ m, G7.ev m u = underAt (shiftAt (restAt (bitsOf G2 m X) (bitsOf G2 m Y) w k) (bitsOf G2 m X (w - 1 - k))) (bitsOf G2 m Y) w := fun m => by
      rw [v7]
      exact under_cong (b6 m) (fun t _ => bits_ext o4.ext hY2.lt (by omega) m t)
    repeat first
      | with_reducible (first | refine vw_seq ?_ | refine vw_block ?_ | refine vw_rg ?_)
      | ((with_reducible apply vq_free'); (focus rfl))
      | ((with_reducible (first | refine vq_nil ?_ | refine vw_skip ?_ | refine vw_exit ?_ | refine vw_ret ?_)); simp only [Env.keep, Env.get, Env.ev, List.map, Nat.reduceEqDiff, ↓reduceIte, Then, Out'])
      | ((with_reducible (first | apply vq_p | apply vq_r | apply vq_a | apply vq_w | apply vq_g | apply vw_condm)); (focus (simp (disch := (first | with_reducible assumption | omega | ((repeat (first | rw [Store.next_push] | rw [Store.next_set])) <;> omega) | fail)) only [go_sem, Nat.reduceEqDiff, Nat.reduceAdd, Nat.reduceMul, Nat.reduceLeDiff, ↓reduceIte, reduceCtorEq, Int.reduceEq, Int.reduceLT, Int.reduceLE, Int.reduceAdd, Int.reduceSub, Int.reduceMul, Int.reduceNeg, Int.reduceToNat, hE, hs] <;> rfl)); (first | (with_reducible (first | refine way_tt ?_ | refine way_ff ?_ | refine wayc_t ?_ | refine wayc_f ?_ | refine way_tf ?_ | refine way_ft ?_ | refine way_t ?_); try simp only [Env.put]) | with_reducible refine (?_ : WQ _ _ _ _ _ _)))
      | fail
    refine ⟨w - (k + 1), by omega, k + 1, Q.set (w - 1 - k) (notN u), T, id11, G11, ids11, by omega, rfl, j10'.trans j11, (((o4.trans o7).trans o10).trans o11).weaken (by omega), kQ11, nQ11, by simp [lQ], ?_, k11, n11, l11, t11, by omega, ?_, ?_, (by simp only [Env.get, Nat.reduceEqDiff, ↓reduceIte, hE, and_self])⟩
    · intro e he
      rcases List.mem_or_eq_of_mem_set he with h | h
      · have := tQ e h; omega
      · have := notN_lt l7; omega
    · intro m t h
      rw [v11 m t h, restAt]
      simp only [ifAt]
      rw [Gr.ev_not, o10.ext.ev l7, hun, v10 m t h, bits_ext o10.ext v68.lt (by omega), bits_ext o7.ext v6.lt (by omega), b6 m t h]
      simp only [o7.wf.ev_one]
      have hsum : sumAt (bitsOf G7 m R1) (bitsOf G7 m (Y.map notN)) true t = sumAt (shiftAt (restAt (bitsOf G2 m X) (bitsOf G2 m Y) w k) (bitsOf G2 m X (w - 1 - k))) (fun j => !bitsOf G2 m Y j) true t := by
        refine sum_cong (n := w) (fun j hj => ?_) (fun j hj => ?_) t h
        · rw [bits_ext o7.ext v6.lt (by omega), b6 m j hj]
        · unfold bitsOf
          rw [getD_not (by omega), Gr.ev_not]
          congr 1
          exact bits_ext (o4.ext.trans o7.ext) hY2.lt (by omega) m j
      rw [hsum]
    · intro m t h h'
      unfold bitsOf
      rw [set_getD (by omega)]
      by_cases hti : t = w - 1 - k
      · rw [if_pos hti, (o10.ext.trans o11.ext).ev (notN_lt l7), Gr.ev_not, hun, quoAt, fitsAt, show w - 1 - t = k by omega]
        rfl
      · rw [if_neg hti]
        have := bQ m t h (by omega)
        unfold bitsOf at this
        rw [← this]
        exact ((o7.ext.trans o10.ext).trans o11.ext).ev (getD_lt tQ (by omega) t)
  · have hck' : ¬ (k : Int) < (w : Int) := by omega
    obtain rfl : k = w := by omega
    have e02 := o12.ext.le
    have hQ4 : VI s4 ids4 G4 (.arr s2.next 0 k 1) Q := VI.of kQ lQ nQ tQ
    have hR4 : VI s4 ids4 G4 (.arr idr 0 k 1) R := VI.of kR lR nR tR
    repeat first
      | with_reducible (first | refine vw_seq ?_ | refine vw_block ?_ | refine vw_rg ?_)
      | ((with_reducible apply vq_free'); (focus rfl))
      | ((with_reducible (first | refine vq_nil ?_ | refine vw_skip ?_ | refine vw_exit ?_ | refine vw_ret ?_)); simp only [Env.keep, Env.get, Env.ev, List.map, Nat.reduceEqDiff, ↓reduceIte, Then, Out'])
      | ((with_reducible (first | apply vq_p | apply vq_r | apply vq_a | apply vq_w | apply vq_g | apply vw_condm)); (focus (simp (disch := (first | with_reducible assumption | omega | ((repeat (first | rw [Store.next_push] | rw [Store.next_set])) <;> omega) | fail)) only [go_sem, Nat.reduceEqDiff, Nat.reduceAdd, Nat.reduceMul, Nat.reduceLeDiff, ↓reduceIte, reduceCtorEq, Int.reduceEq, Int.reduceLT, Int.reduceLE, Int.reduceAdd, Int.reduceSub, Int.reduceMul, Int.reduceNeg, Int.reduceToNat, hE, hck'] <;> rfl)); (first | (with_reducible (first | refine way_tt ?_ | refine way_ff ?_ | refine wayc_t ?_ | refine wayc_f ?_ | refine way_tf ?_ | refine way_ft ?_ | refine way_t ?_); try simp only [Env.put]) | with_reducible refine (?_ : WQ _ _ _ _ _ _)))
      | fail
    apply vq_evpf (xorS j4.1 o4.wf (a := sx) (b := sy) (by omega) (by omega) (by omega))
    · simp only [Env.evL, Env.ev, Env.get, Nat.reduceEqDiff, ↓reduceIte, hE]
    rintro q s5 ⟨u, G5, ids5, rfl, j5, o5, l5, v5⟩
    have e5 := o5.ext.le
    have m5 := o5.len
    repeat first
      | with_reducible (first | refine vw_seq ?_ | refine vw_block ?_ | refine vw_rg ?_)
      | ((with_reducible apply vq_free'); (focus rfl))
      | ((with_reducible (first | refine vq_nil ?_ | refine vw_skip ?_ | refine vw_exit ?_ | refine vw_ret ?_)); simp only [Env.keep, Env.get, Env.ev, List.map, Nat.reduceEqDiff, ↓reduceIte, Then, Out'])
      | ((with_reducible (first | apply vq_p | apply vq_r | apply vq_a | apply vq_w | apply vq_g | apply vw_condm)); (focus (simp (disch := (first | with_reducible assumption | omega | ((repeat (first | rw [Store.next_push] | rw [Store.next_set])) <;> omega) | fail)) only [go_sem, Nat.reduceEqDiff, Nat.reduceAdd, Nat.reduceMul, Nat.reduceLeDiff, ↓reduceIte, reduceCtorEq, Int.reduceEq, Int.reduceLT, Int.reduceLE, Int.reduceAdd, Int.reduceSub, Int.reduceMul, Int.reduceNeg, Int.reduceToNat, hE] <;> rfl)); (first | (with_reducible (first | refine way_tt ?_ | refine way_ff ?_ | refine wayc_t ?_ | refine wayc_f ?_ | refine way_tf ?_ | refine way_ft ?_ | refine way_t ?_); try simp only [Env.put]) | with_reducible refine (?_ : WQ _ _ _ _ _ _)))
      | fail
    apply vq_evpf (minusV j5.1 o5.wf (hQ4.step j5 o5.ext) lQ hw2.2 (c := u) l5 (by omega))
    · simp only [Env.evL, Env.ev, Env.get, Nat.reduceEqDiff, ↓reduceIte, hE]
    rintro q s6 ⟨Q6, G6, ids6, id6, rfl, k6, l6, n6, g6, j6, o6, t6, v6⟩
    have e6 := o6.ext.le
    have m6 := o6.len
    have j56 := j5.trans j6
    have hR6 := (hR4.step j5 o5.ext).step j6 o6.ext
    repeat first
      | with_reducible (first | refine vw_seq ?_ | refine vw_block ?_ | refine vw_rg ?_)
      | ((with_reducible apply vq_free'); (focus rfl))
      | ((with_reducible (first | refine vq_nil ?_ | refine vw_skip ?_ | refine vw_exit ?_ | refine vw_ret ?_)); simp only [Env.keep, Env.get, Env.ev, List.map, Nat.reduceEqDiff, ↓reduceIte, Then, Out'])
      | ((with_reducible (first | apply vq_p | apply vq_r | apply vq_a | apply vq_w | apply vq_g | apply vw_condm)); (focus (simp (disch := (first | with_reducible assumption | omega | ((repeat (first | rw [Store.next_push] | rw [Store.next_set])) <;> omega) | fail)) only [go_sem, Nat.reduceEqDiff, Nat.reduceAdd, Nat.reduceMul, Nat.reduceLeDiff, ↓reduceIte, reduceCtorEq, Int.reduceEq, Int.reduceLT, Int.reduceLE, Int.reduceAdd, Int.reduceSub, Int.reduceMul, Int.reduceNeg, Int.reduceToNat, hE] <;> rfl)); (first | (with_reducible (first | refine way_tt ?_ | refine way_ff ?_ | refine wayc_t ?_ | refine wayc_f ?_ | refine way_tf ?_ | refine way_ft ?_ | refine way_t ?_); try simp only [Env.put]) | with_reducible refine (?_ : WQ _ _ _ _ _ _)))
      | fail
    apply vq_evpf (minusV j6.1 o6.wf hR6 lR hw2.2 (c := sx) (by omega) (by omega))
    · simp only [Env.evL, Env.ev, Env.get, Nat.reduceEqDiff, ↓reduceIte, hE]
    rintro q s7 ⟨R7, G7, ids7, id7, rfl, k7, l7, n7, g7, j7, o7, t7, v7⟩
    have e7 := o7.ext.le
    have m7 := o7.len
    obtain ⟨k67, n67⟩ := j7.keep k6 n6
    have j27 := (j4.trans j56).trans j7
    have j07 := (j1.trans j2).trans j27
    have o27 := ((o4.trans o5).trans o6).trans o7
    have o07 := o12.trans o27
    have hB7 := hB.step j07 o07.ext
    repeat first
      | with_reducible (first | refine vw_seq ?_ | refine vw_block ?_ | refine vw_rg ?_)
      | ((with_reducible apply vq_free'); (focus rfl))
      | ((with_reducible (first | refine vq_nil ?_ | refine vw_skip ?_ | refine vw_exit ?_ | refine vw_ret ?_)); simp only [Env.keep, Env.get, Env.ev, List.map, Nat.reduceEqDiff, ↓reduceIte, Then, Out'])
      | ((with_reducible (first | apply vq_p | apply vq_r | apply vq_a | apply vq_w | apply vq_g | apply vw_condm)); (focus (simp (disch := (first | with_reducible assumption | omega | ((repeat (first | rw [Store.next_push] | rw [Store.next_set])) <;> omega) | fail)) only [go_sem, Nat.reduceEqDiff, Nat.reduceAdd, Nat.reduceMul, Nat.reduceLeDiff, ↓reduceIte, reduceCtorEq, Int.reduceEq, Int.reduceLT, Int.reduceLE, Int.reduceAdd, Int.reduceSub, Int.reduceMul, Int.reduceNeg, Int.reduceToNat, hE] <;> rfl)); (first | (with_reducible (first | refine way_tt ?_ | refine way_ff ?_ | refine wayc_t ?_ | refine wayc_f ?_ | refine way_tf ?_ | refine way_ft ?_ | refine way_t ?_); try simp only [Env.put]) | with_reducible refine (?_ : WQ _ _ _ _ _ _)))
      | fail
    apply vq_evpf (anyS j7.1 o7.wf hB7.rd hB7.lt (by omega))
    · simp only [Env.evL, Env.ev, Env.get, Nat.reduceEqDiff, ↓reduceIte, hE]
    rintro q s8 ⟨so, G8, ids8, rfl, j8, o8, l8, v8⟩
    have e8 := o8.ext.le
    have m8 := o8.len
    obtain ⟨k68, n68⟩ := j8.keep k67 n67
    obtain ⟨k78, n78⟩ := j8.keep k7 n7
    have hne : id6 ≠ id7 := by
      have := get_lts k6
      omega
    have y4 := j4.2.1.1
    have y5 := j5.2.1.1
    have y6 := j6.2.1.1
    have y7 := j7.2.1.1
    have y8 := j8.2.1.1
    have y1 := j1.2.1.1
    have y2 := j2.2.1.1
    have y0 := j0.2.1.1
    have hso : ∀ m, G8.ev m so = decide (valE G m B0 ≠ 0) := fun m => by
      rw [v8, ← hvB]
      show B.any (G7.ev m) = _
      rw [any_val hBl hw2.1, valZ_cong hw2.1 fun i _ => bits_ext o07.ext hB.lt hGl m i]
    have bQ6 : ∀ m t, t < k → bitsOf G8 m Q6 t = minusAt (bitsOf G m A (k - 1) != bitsOf G m B (k - 1)) (quoAt (minusAt (bitsOf G m A (k - 1)) (bitsOf G m A)) (minusAt (bitsOf G m B (k - 1)) (bitsOf G m B)) k) t := by
      intro m t h
      rw [bits_ext (o7.ext.trans o8.ext) t6 (by omega), v6 m t h]
      show minusAt (G5.ev m u) (bitsOf G5 m Q) t = _
      rw [v5]
      show minusAt (G4.ev m sx != G4.ev m sy) (bitsOf G5 m Q) t = _
      rw [(o12.ext.trans o4.ext).ev hai, (o12.ext.trans o4.ext).ev hbi, eA, eB]
      refine minus_cong (n := k) (fun i hi => ?_) t h
      rw [bits_ext o5.ext tQ (by omega), bQ m i hi (by omega)]
      exact quo_cong (bX m) (bY m) i hi
    have bR7 : ∀ m t, t < k → bitsOf G8 m R7 t = minusAt (bitsOf G m A (k - 1)) (restAt (minusAt (bitsOf G m A (k - 1)) (bitsOf G m A)) (minusAt (bitsOf G m B (k - 1)) (bitsOf G m B)) k k) t := by
      intro m t h
      rw [bits_ext o8.ext t7 (by omega), v7 m t h]
      show minusAt (G6.ev m sx) (bitsOf G6 m R) t = _
      rw [(((o12.ext.trans o4.ext).trans o5.ext).trans o6.ext).ev hai, eA]
      refine minus_cong (n := k) (fun i hi => ?_) t h
      rw [bits_ext (o5.ext.trans o6.ext) tR (by omega), bR m i hi]
      exact rest_cong (bX m) (bY m) k (Nat.le_refl _) i hi
    have t6' : ∀ e ∈ Q6, e < 2 * G8.nodes.length := fun e he => by have := t6 e he; omega
    have t7' : ∀ e ∈ R7, e < 2 * G8.nodes.length := fun e he => by have := t7 e he; omega
    have j08 := j0.trans (j07.trans j8)
    repeat first
      | with_reducible (first | refine vw_seq ?_ | refine vw_block ?_ | refine vw_rg ?_)
      | ((with_reducible apply vq_free'); (focus rfl))
      | ((with_reducible (first | refine vq_nil ?_ | refine vw_skip ?_ | refine vw_exit ?_ | refine vw_ret ?_)); simp only [Env.keep, Env.get, Env.ev, List.map, Nat.reduceEqDiff, ↓reduceIte, Then, Out'])
      | ((with_reducible (first | apply vq_p | apply vq_r | apply vq_a | apply vq_w | apply vq_g | apply vw_condm)); (focus (simp (disch := (first | with_reducible assumption | omega | ((repeat (first | rw [Store.next_push] | rw [Store.next_set])) <;> omega) | fail)) only [go_sem, Nat.reduceEqDiff, Nat.reduceAdd, Nat.reduceMul, Nat.reduceLeDiff, ↓reduceIte, reduceCtorEq, Int.reduceEq, Int.reduceLT, Int.reduceLE, Int.reduceAdd, Int.reduceSub, Int.reduceMul, Int.reduceNeg, Int.reduceToNat, hE] <;> rfl)); (first | (with_reducible (first | refine way_tt ?_ | refine way_ff ?_ | refine wayc_t ?_ | refine wayc_f ?_ | refine way_tf ?_ | refine way_ft ?_ | refine way_t ?_); try simp only [Env.put]) | with_reducible refine (?_ : WQ _ _ _ _ _ _)))
      | fail
    refine vw_loop_inv (Q := Out' 2 _) (fun n env s9 => ∃ (i : Nat) (Q9 R9 : List Nat) (G9 : Gr) (ids9 : List Nat), i ≤ k ∧ n = k - i ∧ GrStep s g ids s9 G9 ids9 ∧ Gr.Ok G8 G9 (2 * i) ∧
      s9.get id6 = some (.cells (cellsI Q9)) ∧ id6 ∉ ids9 ∧ Q9.length = k ∧ (∀ e ∈ Q9, e < 2 * G9.nodes.length) ∧ s9.get id7 = some (.cells (cellsI R9)) ∧ id7 ∉ ids9 ∧ R9.length = k ∧ (∀ e ∈ R9, e < 2 * G9.nodes.length) ∧
      (∀ m t, t < k → bitsOf G9 m Q9 t = if t < i then (G8.ev m so && bitsOf G8 m Q6 t) else bitsOf G8 m Q6 t) ∧ (∀ m t, t < k → bitsOf G9 m R9 t = if t < i then (G8.ev m so && bitsOf G8 m R7 t) else bitsOf G8 m R7 t) ∧
      (env.get 0 = .ptr g 0 ∧ env.get 13 = .arr id6 0 k 1 ∧ env.get 14 = .arr id7 0 k 1 ∧ env.get 18 = .int .i64 (so : Int) ∧ env.get 102 = .int .i64 (k : Int) ∧ env.get 103 = .int .i64 (i : Int))) ?_ k _ _
      ⟨0, Q6, R7, G8, ids8, Nat.zero_le _, by omega, j08, Gr.Ok.refl o8.wf, k68, n68, l6, t6', k78, n78, l7, t7', fun m t h => by simp, fun m t h => by simp, by simp [Env.get, Made.at, hE]⟩
    rintro n env s9 ⟨i, Q9, R9, G9, ids9, hi, rfl, j9, o9, kQ9, nQ9, lQ9, tQ9, kR9, nR9, lR9, tR9, bQ9, bR9, hE⟩
    have e9 := o9.ext.le
    have m9 := o9.len
    by_cases hci : i < k
    · have hci' : (i : Int) < (k : Int) := by omega
      have hs := i64_succ (i := i) (by omega)
      have iq : i < Q9.length := by omega
      have ir : i < R9.length := by omega
      have hq9 : VI s9 ids9 G9 (.arr id6 0 k 1) Q9 := VI.of kQ9 lQ9 nQ9 tQ9
      obtain ⟨pq, pq1, pq2⟩ := hq9.rd.1.idxI iq
      have hqi := tQ9 _ (List.getElem_mem iq)
      have eQ : ∀ m, G9.ev m Q9[i] = bitsOf G9 m Q9 i := fun m => by unfold bitsOf; rw [getD_el]
      have hri := tR9 _ (List.getElem_mem ir)
      have eR : ∀ m, G9.ev m R9[i] = bitsOf G9 m R9 i := fun m => by unfold bitsOf; rw [getD_el]
      generalize Q9[i] = x at *
      repeat first
        | (apply vq_p; (focus (simp only [evP, Env.ev, Env.get, Nat.reduceEqDiff, ↓reduceIte, hE]; exact pq1)))
        | (apply vq_ld; (focus (simp only [Env.ev, Env.get, Nat.reduceEqDiff, ↓reduceIte]; rfl)); (focus exact pq2))
        | with_reducible (first | refine vw_seq ?_ | refine vw_block ?_ | refine vw_rg ?_)
        | ((with_reducible apply vq_free'); (focus rfl))
        | ((with_reducible (first | refine vq_nil ?_ | refine vw_skip ?_ | refine vw_exit ?_ | refine vw_ret ?_)); simp only [Env.keep, Env.get, Env.ev, List.map, Nat.reduceEqDiff, ↓reduceIte, Then, Out'])
        | ((with_reducible (first | apply vq_p | apply vq_r | apply vq_a | apply vq_w | apply vq_g | apply vw_condm)); (focus (simp (disch := (first | with_reducible assumption | omega | ((repeat (first | rw [Store.next_push] | rw [Store.next_set])) <;> omega) | fail)) only [go_sem, Nat.reduceEqDiff, Nat.reduceAdd, Nat.reduceMul, Nat.reduceLeDiff, ↓reduceIte, reduceCtorEq, Int.reduceEq, Int.reduceLT, Int.reduceLE, Int.reduceAdd, Int.reduceSub, Int.reduceMul, Int.reduceNeg, Int.reduceToNat, hE, hci'] <;> rfl)); (first | (with_reducible (first | refine way_tt ?_ | refine way_ff ?_ | refine wayc_t ?_ | refine wayc_f ?_ | refine way_tf ?_ | refine way_ft ?_ | refine way_t ?_); try simp only [Env.put]) | with_reducible refine (?_ : WQ _ _ _ _ _ _)))
        | fail
      apply vq_evpf (andS j9.1 o9.wf (a := so) (b := x) (by omega) hqi (by omega))
      · simp only [Env.evL, Env.ev, Env.get, Nat.reduceEqDiff, ↓reduceIte, hE]
      rintro q s10 ⟨u1, G10, ids10, rfl, j10, o10, l10, v10⟩
      have e10 := o10.ext.le
      have m10 := o10.len
      obtain ⟨kQ10, nQ10⟩ := j10.keep kQ9 nQ9
      obtain ⟨kR10, nR10⟩ := j10.keep kR9 nR9
      repeat first
        | (apply vq_wI kQ10 iq; (focus rfl); (focus rfl))
        | with_reducible (first | refine vw_seq ?_ | refine vw_block ?_ | refine vw_rg ?_)
        | ((with_reducible apply vq_free'); (focus rfl))
        | ((with_reducible (first | refine vq_nil ?_ | refine vw_skip ?_ | refine vw_exit ?_ | refine vw_ret ?_)); simp only [Env.keep, Env.get, Env.ev, List.map, Nat.reduceEqDiff, ↓reduceIte, Then, Out'])
        | ((with_reducible (first | apply vq_p | apply vq_r | apply vq_a | apply vq_w | apply vq_g | apply vw_condm)); (focus (simp (disch := (first | with_reducible assumption | omega | ((repeat (first | rw [Store.next_push] | rw [Store.next_set])) <;> omega) | fail)) only [go_sem, Nat.reduceEqDiff, Nat.reduceAdd, Nat.reduceMul, Nat.reduceLeDiff, ↓reduceIte, reduceCtorEq, Int.reduceEq, Int.reduceLT, Int.reduceLE, Int.reduceAdd, Int.reduceSub, Int.reduceMul, Int.reduceNeg, Int.reduceToNat, hE] <;> rfl)); (first | (with_reducible (first | refine way_tt ?_ | refine way_ff ?_ | refine wayc_t ?_ | refine wayc_f ?_ | refine way_tf ?_ | refine way_ft ?_ | refine way_t ?_); try simp only [Env.put]) | with_reducible refine (?_ : WQ _ _ _ _ _ _)))
        | fail
      generalize hs11 : s10.set id6 (some (.cells (cellsI (Q9.set i u1)))) = s11
      have j11 : GrStep s g ids s11 G10 ids10 := by rw [← hs11]; exact (j9.trans j10).wr _ nQ10 (by omega)
      have kQ11 : s11.get id6 = some (.cells (cellsI (Q9.set i u1))) := by rw [← hs11]; exact get_set_eq (get_lts kQ10)
      have kR11 : s11.get id7 = some (.cells (cellsI R9)) := by rw [← hs11, get_set_ne (Ne.symm hne), kR10]
      have hr11 : VI s11 ids10 G10 (.arr id7 0 k 1) R9 := VI.of kR11 lR9 nR10 (fun e he => by have := tR9 e he; omega)
      obtain ⟨pr, pr1, pr2⟩ := hr11.rd.1.idxI ir
      obtain rfl : pr = .ptr id7 i := by
        rw [idx_arr rfl (by omega) (by omega), Int.toNat_natCast, Nat.mul_one, Nat.zero_add] at pr1
        cases pr1; rfl
      generalize R9[i] = y at *
      repeat first
        | (apply vq_p; (focus (simp only [evP, Env.ev, Env.get, Nat.reduceEqDiff, ↓reduceIte, hE]; exact pr1)))
        | (apply vq_ld; (focus (simp only [Env.ev, Env.get, Nat.reduceEqDiff, ↓reduceIte]; rfl)); (focus exact pr2))
        | with_reducible (first | refine vw_seq ?_ | refine vw_block ?_ | refine vw_rg ?_)
        | ((with_reducible apply vq_free'); (focus rfl))
        | ((with_reducible (first | refine vq_nil ?_ | refine vw_skip ?_ | refine vw_exit ?_ | refine vw_ret ?_)); simp only [Env.keep, Env.get, Env.ev, List.map, Nat.reduceEqDiff, ↓reduceIte, Then, Out'])
        | ((with_reducible (first | apply vq_p | apply vq_r | apply vq_a | apply vq_w | apply vq_g | apply vw_condm)); (focus (simp (disch := (first | with_reducible assumption | omega | ((repeat (first | rw [Store.next_push] | rw [Store.next_set])) <;> omega) | fail)) only [go_sem, Nat.reduceEqDiff, Nat.reduceAdd, Nat.reduceMul, Nat.reduceLeDiff, ↓reduceIte, reduceCtorEq, Int.reduceEq, Int.reduceLT, Int.reduceLE, Int.reduceAdd, Int.reduceSub, Int.reduceMul, Int.reduceNeg, Int.reduceToNat, hE] <;> rfl)); (first | (with_reducible (first | refine way_tt ?_ | refine way_ff ?_ | refine wayc_t ?_ | refine wayc_f ?_ | refine way_tf ?_ | refine way_ft ?_ | refine way_t ?_); try simp only [Env.put]) | with_reducible refine (?_ : WQ _ _ _ _ _ _)))
        | fail
      apply vq_evpf (andS j11.1 o10.wf (a := so) (b := y) (by omega) (by omega) (by omega))
      · simp only [Env.evL, Env.ev, Env.get, Nat.reduceEqDiff, ↓reduceIte, hE]
      rintro q s12 ⟨u2, G12, ids12, rfl, j12, o12', l12, v12⟩
      have e12 := o12'.ext.le
      have m12 := o12'.len
      obtain ⟨kQ12, nQ12⟩ := j12.keep kQ11 nQ10
      obtain ⟨kR12, nR12⟩ := j12.keep kR11 nR10
      repeat first
        | (apply vq_wI kR12 ir; (focus rfl); (focus rfl))
        | with_reducible (first | refine vw_seq ?_ | refine vw_block ?_ | refine vw_rg ?_)
        | ((with_reducible apply vq_free'); (focus rfl))
        | ((with_reducible (first | refine vq_nil ?_ | refine vw_skip ?_ | refine vw_exit ?_ | refine vw_ret ?_)); simp only [Env.keep, Env.get, Env.ev, List.map, Nat.reduceEqDiff, ↓reduceIte, Then, Out'])
        | ((with_reducible (first | apply vq_p | apply vq_r | apply vq_a | apply vq_w | apply vq_g | apply vw_condm)); (focus (simp (disch := (first | with_reducible assumption | omega | ((repeat (first | rw [Store.next_push] | rw [Store.next_set])) <;> omega) | fail)) only [go_sem, Nat.reduceEqDiff, Nat.reduceAdd, Nat.reduceMul, Nat.reduceLeDiff, ↓reduceIte, reduceCtorEq, Int.reduceEq, Int.reduceLT, Int.reduceLE, Int.reduceAdd, Int.reduceSub, Int.reduceMul, Int.reduceNeg, Int.reduceToNat, hE, hs] <;> rfl)); (first | (with_reducible (first | refine way_tt ?_ | refine way_ff ?_ | refine wayc_t ?_ | refine wayc_f ?_ | refine way_tf ?_ | refine way_ft ?_ | refine way_t ?_); try simp only [Env.put]) | with_reducible refine (?_ : WQ _ _ _ _ _ _)))
        | fail
      refine ⟨k - (i + 1), by omega, i + 1, Q9.set i u1, R9.set i u2, G12, ids12, by omega, rfl, (j11.trans j12).wr _ nR12 (by omega), ((o9.trans o10).trans o12').weaken (by omega), by rw [get_set_ne hne, kQ12], nQ12, by simp [lQ9], ?_, get_set_eq (get_lts kR12), nR12, by simp [lR9], ?_, ?_, ?_, (by simp only [Env.get, Nat.reduceEqDiff, ↓reduceIte, hE, and_self])⟩
      · intro e he
        rcases List.mem_or_eq_of_mem_set he with h | h
        · have := tQ9 e h; omega
        · omega
      · intro e he
        rcases List.mem_or_eq_of_mem_set he with h | h
        · have := tR9 e h; omega
        · omega
      · intro m t h
        unfold bitsOf
        rw [set_getD iq]
        by_cases hti : t = i
        · subst hti
          rw [if_pos rfl, if_pos (by omega), o12'.ext.ev l10, v10]
          show (G9.ev m so && G9.ev m x) = _
          rw [eQ, bQ9 m t h, if_neg (by omega), o9.ext.ev l8]
          rfl
        · have h1 := bQ9 m t h
          unfold bitsOf at h1
          rw [if_neg hti, (o10.ext.trans o12'.ext).ev (getD_lt tQ9 (by omega) t), h1]
          by_cases hlt : t < i
          · rw [if_pos hlt, if_pos (by omega)]
          · rw [if_neg hlt, if_neg (by omega)]
      · intro m t h
        unfold bitsOf
        rw [set_getD ir]
        by_cases hti : t = i
        · subst hti
          rw [if_pos rfl, if_pos (by omega), v12]
          show (G10.ev m so && G10.ev m y) = _
          rw [o10.ext.ev hri, eR, bR9 m t h, if_neg (by omega), (o9.ext.trans o10.ext).ev l8]
          rfl
        · have h1 := bR9 m t h
          unfold bitsOf at h1
          rw [if_neg hti, (o10.ext.trans o12'.ext).ev (getD_lt tR9 (by omega) t), h1]
          by_cases hlt : t < i
          · rw [if_pos hlt, if_pos (by omega)]
          · rw [if_neg hlt, if_neg (by omega)]
    · have hci' : ¬ (i : Int) < (k : Int) := by omega
      obtain rfl : i = k := by omega
      have ok9 : Gr.Ok G G9 5500 := ((o07.trans o8).trans o9).weaken (by omega)
      repeat first
        | with_reducible (first | refine vw_seq ?_ | refine vw_block ?_ | refine vw_rg ?_)
        | ((with_reducible apply vq_free'); (focus rfl))
        | ((with_reducible (first | refine vq_nil ?_ | refine vw_skip ?_ | refine vw_exit ?_ | refine vw_ret ?_)); simp only [Env.keep, Env.get, Env.ev, List.map, Nat.reduceEqDiff, ↓reduceIte, Then, Out'])
        | ((with_reducible (first | apply vq_p | apply vq_r | apply vq_a | apply vq_w | apply vq_g | apply vw_condm)); (focus (simp (disch := (first | with_reducible assumption | omega | ((repeat (first | rw [Store.next_push] | rw [Store.next_set])) <;> omega) | fail)) only [go_sem, Nat.reduceEqDiff, Nat.reduceAdd, Nat.reduceMul, Nat.reduceLeDiff, ↓reduceIte, reduceCtorEq, Int.reduceEq, Int.reduceLT, Int.reduceLE, Int.reduceAdd, Int.reduceSub, Int.reduceMul, Int.reduceNeg, Int.reduceToNat, hE, hci'] <;> rfl)); (first | (with_reducible (first | refine way_tt ?_ | refine way_ff ?_ | refine wayc_t ?_ | refine wayc_f ?_ | refine way_tf ?_ | refine way_ft ?_ | refine way_t ?_); try simp only [Env.put]) | with_reducible refine (?_ : WQ _ _ _ _ _ _)))
        | fail
      refine ⟨.inr trivial, _, (by simp only [resOf, resAll, resOne, Env.get, Nat.reduceEqDiff, ↓reduceIte] <;> rfl), _, _, rfl, ⟨Q9, G9, ids9, id6, rfl, kQ9, lQ9, nQ9, by omega, j9, ok9, VI.of kQ9 lQ9 nQ9 tQ9, fun m => ?_⟩, ⟨R9, G9, ids9, id7, rfl, kR9, lR9, nR9, by omega, j9, ok9, VI.of kR9 lR9 nR9 tR9, fun m => ?_⟩⟩
      · rw [valE_id lQ9 hw2.1 hw2.2]
        show _ = if valE G m B0 = 0 then 0 else _
        have hb : ∀ t, t < i → bitsOf G9 m Q9 t = (decide (valE G m B0 ≠ 0) && minusAt (bitsOf G m A (i - 1) != bitsOf G m B (i - 1)) (quoAt (minusAt (bitsOf G m A (i - 1)) (bitsOf G m A)) (minusAt (bitsOf G m B (i - 1)) (bitsOf G m B)) i) t) := fun t h => by
          rw [bQ9 m t h, if_pos h, hso, bQ6 m t h]
        by_cases h0 : valE G m B0 = 0
        · rw [if_pos h0, zero_val hw2.1]
          intro t h
          rw [hb t h, decide_eq_false (by simpa using h0)]; rfl
        · rw [if_neg h0, ← hvA, ← hvB, ← quo_val hw2.1 (by rw [hvB]; exact h0)]
          exact valZ_cong hw2.1 fun t h => by rw [hb t h, decide_eq_true h0, Bool.true_and]
      · rw [valE_id lR9 hw2.1 hw2.2]
        show _ = if valE G m B0 = 0 then 0 else _
        have hb : ∀ t, t < i → bitsOf G9 m R9 t = (decide (valE G m B0 ≠ 0) && minusAt (bitsOf G m A (i - 1)) (restAt (minusAt (bitsOf G m A (i - 1)) (bitsOf G m A)) (minusAt (bitsOf G m B (i - 1)) (bitsOf G m B)) i i) t) := fun t h => by
          rw [bR9 m t h, if_pos h, hso, bR7 m t h]
        by_cases h0 : valE G m B0 = 0
        · rw [if_pos h0, zero_val hw2.1]
          intro t h
          rw [hb t h, decide_eq_false (by simpa using h0)]; rfl
        · rw [if_neg h0, ← hvA, ← hvB, ← rem_val hw2.1 (by rw [hvB]; exact h0)]
          exact valZ_cong hw2.1 fun t h => by rw [hb t h, decide_eq_true h0, Bool.true_and]

theorem divZ {s : Store} {g : Nat} {G : Gr} {ids : List Nat} {da db : D} {A0 B0 : List Nat} (hG : GA s g G ids) (hw : G.WF) (hA0 : VI s ids G da A0) (hB0 : VI s ids G db B0) (hL : G.nodes.length + 6000 < 200000) :
    EvP vfs 52 [.ptr g 0, da, db] s (GZ s g ids G 5500 (wid2 A0 B0) (fun m => if valE G m B0 = 0 then 0 else trimZ ((valE G m A0).tdiv (valE G m B0)) (wid2 A0 B0))) := by
  refine evp_of (vf := vf52) rfl ?_
  simp only [vf52, List.map, List.getD, List.getElem?_cons_zero, List.getElem?_cons_succ, List.getElem?_nil, Option.getD]
  repeat first
    | with_reducible (first | refine vw_seq ?_ | refine vw_block ?_ | refine vw_rg ?_)
    | ((with_reducible apply vq_free'); (focus rfl))
    | ((with_reducible (first | refine vq_nil ?_ | refine vw_skip ?_ | refine vw_exit ?_ | refine vw_ret ?_)); simp only [Env.keep, Env.get, Env.ev, List.map, Nat.reduceEqDiff, ↓reduceIte, Then, Out'])
    | ((with_reducible (first | apply vq_p | apply vq_r | apply vq_a | apply vq_w | apply vq_g | apply vw_condm)); (focus (simp (disch := (first | with_reducible assumption | omega | ((repeat (first | rw [Store.next_push] | rw [Store.next_set])) <;> omega) | fail)) only [go_sem, Nat.reduceEqDiff, Nat.reduceAdd, Nat.reduceMul, Nat.reduceLeDiff, ↓reduceIte, reduceCtorEq, Int.reduceEq, Int.reduceLT, Int.reduceLE, Int.reduceAdd, Int.reduceSub, Int.reduceMul, Int.reduceNeg, Int.reduceToNat] <;> rfl)); (first | (with_reducible (first | refine way_tt ?_ | refine way_ff ?_ | refine wayc_t ?_ | refine wayc_f ?_ | refine way_tf ?_ | refine way_ft ?_ | refine way_t ?_); try simp only [Env.put]) | with_reducible refine (?_ : WQ _ _ _ _ _ _)))
    | fail
  apply vq_evpf (divideV hG hw hA0 hB0 hL)
  · rfl
  rintro q s1 ⟨d1, d2, rfl, h1, h2⟩
  repeat first
    | with_reducible (first | refine vw_seq ?_ | refine vw_block ?_ | refine vw_rg ?_)
    | ((with_reducible apply vq_free'); (focus rfl))
    | ((with_reducible (first | refine vq_nil ?_ | refine vw_skip ?_ | refine vw_exit ?_ | refine vw_ret ?_)); simp only [Env.keep, Env.get, Env.ev, List.map, Nat.reduceEqDiff, ↓reduceIte, Then, Out'])
    | ((with_reducible (first | apply vq_p | apply vq_r | apply vq_a | apply vq_w | apply vq_g | apply vw_condm)); (focus (simp (disch := (first | with_reducible assumption | omega | ((repeat (first | rw [Store.next_push] | rw [Store.next_set])) <;> omega) | fail)) only [go_sem, Nat.reduceEqDiff, Nat.reduceAdd, Nat.reduceMul, Nat.reduceLeDiff, ↓reduceIte, reduceCtorEq, Int.reduceEq, Int.reduceLT, Int.reduceLE, Int.reduceAdd, Int.reduceSub, Int.reduceMul, Int.reduceNeg, Int.reduceToNat] <;> rfl)); (first | (with_reducible (first | refine way_tt ?_ | refine way_ff ?_ | refine wayc_t ?_ | refine wayc_f ?_ | refine way_tf ?_ | refine way_ft ?_ | refine way_t ?_); try simp only [Env.put]) | with_reducible refine (?_ : WQ _ _ _ _ _ _)))
    | fail
  exact ⟨.inr trivial, _, (by simp only [resOf, resAll, resOne, Env.get, Nat.reduceEqDiff, ↓reduceIte] <;> rfl), h1⟩
theorem remZ {s : Store} {g : Nat} {G : Gr} {ids : List Nat} {da db : D} {A0 B0 : List Nat} (hG : GA s g G ids) (hw : G.WF) (hA0 : VI s ids G da A0) (hB0 : VI s ids G db B0) (hL : G.nodes.length + 6000 < 200000) :
    EvP vfs 53 [.ptr g 0, da, db] s (GZ s g ids G 5500 (wid2 A0 B0) (fun m => if valE G m B0 = 0 then 0 else trimZ ((valE G m A0).tmod (valE G m B0)) (wid2 A0 B0))) := by
  refine evp_of (vf := vf53) rfl ?_
  simp only [vf53, List.map, List.getD, List.getElem?_cons_zero, List.getElem?_cons_succ, List.getElem?_nil, Option.getD]
  repeat first
    | with_reducible (first | refine vw_seq ?_ | refine vw_block ?_ | refine vw_rg ?_)
    | ((with_reducible apply vq_free'); (focus rfl))
    | ((with_reducible (first | refine vq_nil ?_ | refine vw_skip ?_ | refine vw_exit ?_ | refine vw_ret ?_)); simp only [Env.keep, Env.get, Env.ev, List.map, Nat.reduceEqDiff, ↓reduceIte, Then, Out'])
    | ((with_reducible (first | apply vq_p | apply vq_r | apply vq_a | apply vq_w | apply vq_g | apply vw_condm)); (focus (simp (disch := (first | with_reducible assumption | omega | ((repeat (first | rw [Store.next_push] | rw [Store.next_set])) <;> omega) | fail)) only [go_sem, Nat.reduceEqDiff, Nat.reduceAdd, Nat.reduceMul, Nat.reduceLeDiff, ↓reduceIte, reduceCtorEq, Int.reduceEq, Int.reduceLT, Int.reduceLE, Int.reduceAdd, Int.reduceSub, Int.reduceMul, Int.reduceNeg, Int.reduceToNat] <;> rfl)); (first | (with_reducible (first | refine way_tt ?_ | refine way_ff ?_ | refine wayc_t ?_ | refine wayc_f ?_ | refine way_tf ?_ | refine way_ft ?_ | refine way_t ?_); try simp only [Env.put]) | with_reducible refine (?_ : WQ _ _ _ _ _ _)))
    | fail
  apply vq_evpf (divideV hG hw hA0 hB0 hL)
  · rfl
  rintro q s1 ⟨d1, d2, rfl, h1, h2⟩
  repeat first
    | with_reducible (first | refine vw_seq ?_ | refine vw_block ?_ | refine vw_rg ?_)
    | ((with_reducible apply vq_free'); (focus rfl))
    | ((with_reducible (first | refine vq_nil ?_ | refine vw_skip ?_ | refine vw_exit ?_ | refine vw_ret ?_)); simp only [Env.keep, Env.get, Env.ev, List.map, Nat.reduceEqDiff, ↓reduceIte, Then, Out'])
    | ((with_reducible (first | apply vq_p | apply vq_r | apply vq_a | apply vq_w | apply vq_g | apply vw_condm)); (focus (simp (disch := (first | with_reducible assumption | omega | ((repeat (first | rw [Store.next_push] | rw [Store.next_set])) <;> omega) | fail)) only [go_sem, Nat.reduceEqDiff, Nat.reduceAdd, Nat.reduceMul, Nat.reduceLeDiff, ↓reduceIte, reduceCtorEq, Int.reduceEq, Int.reduceLT, Int.reduceLE, Int.reduceAdd, Int.reduceSub, Int.reduceMul, Int.reduceNeg, Int.reduceToNat] <;> rfl)); (first | (with_reducible (first | refine way_tt ?_ | refine way_ff ?_ | refine wayc_t ?_ | refine wayc_f ?_ | refine way_tf ?_ | refine way_ft ?_ | refine way_t ?_); try simp only [Env.put]) | with_reducible refine (?_ : WQ _ _ _ _ _ _)))
    | fail
  exact ⟨.inr trivial, _, (by simp only [resOf, resAll, resOne, Env.get, Nat.reduceEqDiff, ↓reduceIte] <;> rfl), h2⟩
end Go.Proofs.Ytedoacfoglbfeaa
