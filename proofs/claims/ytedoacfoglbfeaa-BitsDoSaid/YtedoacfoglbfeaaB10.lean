/- Vectors of edges: the product. -/
import Derived.Test.YtedoacfoglbfeaaB9
namespace Go.Proofs.Ytedoacfoglbfeaa
open Go.V
set_option maxRecDepth 100000
set_option maxHeartbeats 4000000
set_option linter.unusedSimpArgs false
set_option linter.unusedVariables false

theorem mulZ {s : Store} {g : Nat} {G : Gr} {ids : List Nat} {da db : D} {A0 B0 : List Nat} (hG : GA s g G ids) (hw : G.WF) (hA0 : VI s ids G da A0) (hB0 : VI s ids G db B0) (hL : G.nodes.length + 3000 < 200000) :
    EvP vfs 51 [.ptr g 0, da, db] s (GZ s g ids G 2560 (wid2 A0 B0) fun m => trimZ (valE G m A0 * valE G m B0) (wid2 A0 B0)) := by
  have hw2 := wid2_le A0 B0
  have hGl := hw.len
  refine evp_of (vf := vf51) rfl ?_
  simp only [vf51, List.map, List.getD, List.getElem?_cons_zero, List.getElem?_cons_succ, List.getElem?_nil, Option.getD]
  repeat first
    | with_reducible (first | refine vw_seq ?_ | refine vw_block ?_ | refine vw_rg ?_)
    | ((with_reducible apply vq_free'); (focus rfl))
    | ((with_reducible (first | refine vq_nil ?_ | refine vw_skip ?_ | refine vw_exit ?_ | refine vw_ret ?_)); simp only [Env.keep, Env.get, Env.ev, List.map, Nat.reduceEqDiff, ↓reduceIte, Then, Out'])
    | ((with_reducible (first | apply vq_p | apply vq_r | apply vq_a | apply vq_w | apply vq_g | apply vw_condm)); (focus (simp (disch := (first | with_reducible assumption | omega | ((repeat (first | rw [Store.next_push] | rw [Store.next_set])) <;> omega) | fail)) only [go_sem, Nat.reduceEqDiff, Nat.reduceAdd, Nat.reduceMul, Nat.reduceLeDiff, ↓reduceIte, reduceCtorEq, Int.reduceEq, Int.reduceLT, Int.reduceLE, Int.reduceAdd, Int.reduceSub, Int.reduceMul, Int.reduceNeg, Int.reduceToNat] <;> rfl)); (first | (with_reducible (first | refine way_tt ?_ | refine way_ff ?_ | refine wayc_t ?_ | refine wayc_f ?_ | refine way_tf ?_ | refine way_ft ?_ | refine way_t ?_); try simp only [Env.put]) | with_reducible refine (?_ : WQ _ _ _ _ _ _)))
    | fail
  apply vq_evpf (bothV hG hw hA0 hB0 (by omega))
  · rfl
  rintro q s0 ⟨id1, id2, ids0, rfl, k1, k2, n1, n2, ne, l1, l2, j0, hA, hB⟩
  have hval : ∀ m, valZ (mulAt (bitsOf G m (wideL (fixL A0) (wid2 A0 B0))) (bitsOf G m (wideL (fixL B0) (wid2 A0 B0))) (wid2 A0 B0)) (wid2 A0 B0) = trimZ (valE G m A0 * valE G m B0) (wid2 A0 B0) := fun m => by rw [mul_val hw2.1, wide_l, wide_r]
  have hAl := wideL_len (fixL A0) (wid2 A0 B0)
  have hBl := wideL_len (fixL B0) (wid2 A0 B0)
  generalize wideL (fixL A0) (wid2 A0 B0) = A at *
  generalize wideL (fixL B0) (wid2 A0 B0) = B at *
  generalize wid2 A0 B0 = w at *
  have a1 : ((0 : Int) ≤ (w : Int)) = True := eq_true (by omega)
  have a2 : ((((8 : Nat) : Int) * (w : Int)) ≤ 2 ^ 47) = True := eq_true (by omega)
  have a3 : ((w : Int) < 2 ^ 62) = True := eq_true (by omega)
  have hlt0 := j0.1.lt
  repeat first
    | with_reducible (first | refine vw_seq ?_ | refine vw_block ?_ | refine vw_rg ?_)
    | ((with_reducible apply vq_free'); (focus rfl))
    | ((with_reducible (first | refine vq_nil ?_ | refine vw_skip ?_ | refine vw_exit ?_ | refine vw_ret ?_)); simp only [Env.keep, Env.get, Env.ev, List.map, Nat.reduceEqDiff, ↓reduceIte, Then, Out'])
    | ((with_reducible (first | apply vq_p | apply vq_r | apply vq_a | apply vq_w | apply vq_g | apply vw_condm)); (focus (simp (disch := (first | with_reducible assumption | omega | ((repeat (first | rw [Store.next_push] | rw [Store.next_set])) <;> omega) | fail)) only [go_sem, Nat.reduceEqDiff, Nat.reduceAdd, Nat.reduceMul, Nat.reduceLeDiff, ↓reduceIte, reduceCtorEq, Int.reduceEq, Int.reduceLT, Int.reduceLE, Int.reduceAdd, Int.reduceSub, Int.reduceMul, Int.reduceNeg, Int.reduceToNat, a1, a2, a3, zerosI, Int.le_refl] <;> rfl)); (first | (with_reducible (first | refine way_tt ?_ | refine way_ff ?_ | refine wayc_t ?_ | refine wayc_f ?_ | refine way_tf ?_ | refine way_ft ?_ | refine way_t ?_); try simp only [Env.put]) | with_reducible refine (?_ : WQ _ _ _ _ _ _)))
    | fail
  have f00 : Fr [] s0 (s0.push (.cells (cellsI (List.replicate w 0)))) := Fr.push _
  have k00 : (s0.push (.cells (cellsI (List.replicate w 0)))).get s0.next = some (.cells (cellsI (List.replicate w 0))) := get_push_new rfl
  generalize s0.push (.cells (cellsI (List.replicate w 0))) = s00 at *
  have j00 := j0.1.newer f00
  have hz : VI s00 ids0 G (.arr s0.next 0 w 1) (List.replicate w 0) := VI.of k00 (by simp) (fun h => by have := hlt0 _ h; omega) (by intro e he; have := List.eq_of_mem_replicate he; omega)
  refine vw_loop_inv (fun k env s1 => ∃ (i : Nat) (R : List Nat) (idr : Nat) (G1 : Gr) (ids1 : List Nat), i ≤ w ∧ k = w - i ∧ GrStep s0 g ids0 s1 G1 ids1 ∧ Gr.Ok G G1 (160 * i) ∧ VI s1 ids1 G1 (.arr idr 0 w 1) R ∧ R.length = w ∧ s0.next ≤ idr ∧ idr ∉ ids1 ∧ s1.get idr = some (.cells (cellsI R)) ∧
    (∀ m t, t < w → bitsOf G1 m R t = mulAt (bitsOf G m A) (bitsOf G m B) i t) ∧
    (env.get 0 = .ptr g 0 ∧ env.get 1 = .arr id1 0 w 1 ∧ env.get 2 = .arr id2 0 w 1 ∧ env.get 7 = .int .i64 (w : Int) ∧ env.get 8 = .arr idr 0 w 1 ∧ env.get 23 = .int .i64 (w : Int) ∧ env.get 24 = .int .i64 (i : Int))) ?_ w _ _
    ⟨0, List.replicate w 0, s0.next, G, ids0, Nat.zero_le _, by omega, j00, Gr.Ok.refl hw, hz, by simp, Nat.le_refl _, fun h => by have := hlt0 _ h; omega, k00, fun m t ht => by unfold bitsOf; rw [getD_zero, hw.ev_zero]; rfl, by simp [Env.get, Made.at]⟩
  rintro k env s1 ⟨i, R, idr, G1, ids1, hi, rfl, hst, hok, hR, hRl, hidr, hnr, hgr, hRv, hE⟩
  have hle := hok.ext.le
  have hlen := hok.len
  by_cases hci : i < w
  · have hci' : (i : Int) < (w : Int) := by omega
    have hs := i64_succ (i := i) (by omega)
    have hsub : IntKind.i64.wrap ((w : Int) - (i : Int)) = ((w - i : Nat) : Int) := by rw [i64_id (by omega) (by omega)]; omega
    have hlt1 := hst.1.lt
    repeat first
      | with_reducible (first | refine vw_seq ?_ | refine vw_block ?_ | refine vw_rg ?_)
      | ((with_reducible apply vq_free'); (focus rfl))
      | ((with_reducible (first | refine vq_nil ?_ | refine vw_skip ?_ | refine vw_exit ?_ | refine vw_ret ?_)); simp only [Env.keep, Env.get, Env.ev, List.map, Nat.reduceEqDiff, ↓reduceIte, Then, Out'])
      | ((with_reducible (first | apply vq_p | apply vq_r | apply vq_a | apply vq_w | apply vq_g | apply vw_condm)); (focus (simp (disch := (first | with_reducible assumption | omega | ((repeat (first | rw [Store.next_push] | rw [Store.next_set])) <;> omega) | fail)) only [go_sem, Nat.reduceEqDiff, Nat.reduceAdd, Nat.reduceMul, Nat.reduceLeDiff, ↓reduceIte, reduceCtorEq, Int.reduceEq, Int.reduceLT, Int.reduceLE, Int.reduceAdd, Int.reduceSub, Int.reduceMul, Int.reduceNeg, Int.reduceToNat, hE, hci', a1, a2, a3, zerosI, Int.le_refl, hsub] <;> rfl)); (first | (with_reducible (first | refine way_tt ?_ | refine way_ff ?_ | refine wayc_t ?_ | refine wayc_f ?_ | refine way_tf ?_ | refine way_ft ?_ | refine way_t ?_); try simp only [Env.put]) | with_reducible refine (?_ : WQ _ _ _ _ _ _)))
      | fail
    have f1 : Fr [] s1 (s1.push (.cells (cellsI (List.replicate w 0)))) := Fr.push _
    have kp : (s1.push (.cells (cellsI (List.replicate w 0)))).get s1.next = some (.cells (cellsI (List.replicate w 0))) := get_push_new rfl
    generalize s1.push (.cells (cellsI (List.replicate w 0))) = sA at *
    have jA := hst.1.newer f1
    have hnp : s1.next ∉ ids1 := fun h => by have := hlt1 _ h; omega
    have hbi := hB.lt _ (List.getElem_mem (show i < B.length by omega))
    have eB : ∀ m, bitsOf G m B i = G.ev m B[i] := fun m => by unfold bitsOf; rw [getD_el]
    generalize hxb : B[i] = y at *
    refine vw_loop_inv (fun k env s2 => ∃ (j : Nat) (L : List Nat) (G2 : Gr) (ids2 : List Nat), j ≤ w - i ∧ k = w - i - j ∧ GrStep s1 g ids1 s2 G2 ids2 ∧ Gr.Ok G1 G2 j ∧ s2.get s1.next = some (.cells (cellsI L)) ∧ s1.next ∉ ids2 ∧ L.length = w ∧ (∀ e ∈ L, e < 2 * G2.nodes.length) ∧
      (∀ m t, t < w → bitsOf G2 m L t = (decide (i ≤ t ∧ t < i + j) && (bitsOf G m A (t - i) && G.ev m y))) ∧
      (env.get 0 = .ptr g 0 ∧ env.get 1 = .arr id1 0 w 1 ∧ env.get 2 = .arr id2 0 w 1 ∧ env.get 7 = .int .i64 (w : Int) ∧ env.get 8 = .arr idr 0 w 1 ∧ env.get 9 = .int .i64 (i : Int) ∧ env.get 10 = .arr s1.next 0 w 1 ∧ env.get 23 = .int .i64 (w : Int) ∧ env.get 24 = .int .i64 (i : Int) ∧ env.get 31 = .int .i64 ((w - i : Nat) : Int) ∧ env.get 32 = .int .i64 (j : Int))) ?_ (w - i) _ _
      ⟨0, List.replicate w 0, G1, ids1, Nat.zero_le _, by omega, jA, Gr.Ok.refl hok.wf, kp, hnp, by simp, by intro e he; have := List.eq_of_mem_replicate he; omega, fun m t ht => by unfold bitsOf; rw [getD_zero, hok.wf.ev_zero, decide_eq_false (by omega)]; rfl, by simp [Env.get, Made.at, hE]⟩
    rintro k env s2 ⟨j, L, G2, ids2, hj, rfl, hst2, hok2, hg, hn, hLl, hLt, hLv, hE2⟩
    have hle2 := hok2.ext.le
    have hlen2 := hok2.len
    have hsA : GrStep s0 g ids0 s2 G2 ids2 := hst.trans hst2
    have hokA := hok.trans hok2
    by_cases hcj : j < w - i
    · have hcj' : (j : Int) < ((w - i : Nat) : Int) := by omega
      have hsj := i64_succ (i := j) (by omega)
      have hadd : IntKind.i64.wrap ((i : Int) + (j : Int)) = ((i + j : Nat) : Int) := by rw [i64_id (by omega) (by omega)]; omega
      obtain ⟨pa, pa1, pa2⟩ := (hA.step hsA hokA.ext).rd.1.idxI (i := j) (by omega)
      obtain ⟨pb, pb1, pb2⟩ := (hB.step hsA hokA.ext).rd.1.idxI (i := i) (by omega)
      rw [hxb] at pb2
      have hai := hA.lt _ (List.getElem_mem (show j < A.length by omega))
      have eA : ∀ m, bitsOf G m A j = G.ev m A[j] := fun m => by unfold bitsOf; rw [getD_el]
      generalize hxa : A[j] = x at *
      repeat first
        | (apply vq_p; (focus (simp only [evP, Env.ev, Env.get, Nat.reduceEqDiff, ↓reduceIte, hE2]; first | exact pa1 | exact pb1)))
        | (apply vq_ld; (focus (simp only [Env.ev, Env.get, Nat.reduceEqDiff, ↓reduceIte]; rfl)); (focus (first | exact pa2 | exact pb2)))
        | with_reducible (first | refine vw_seq ?_ | refine vw_block ?_ | refine vw_rg ?_)
        | ((with_reducible apply vq_free'); (focus rfl))
        | ((with_reducible (first | refine vq_nil ?_ | refine vw_skip ?_ | refine vw_exit ?_ | refine vw_ret ?_)); simp only [Env.keep, Env.get, Env.ev, List.map, Nat.reduceEqDiff, ↓reduceIte, Then, Out'])
        | ((with_reducible (first | apply vq_p | apply vq_r | apply vq_a | apply vq_w | apply vq_g | apply vw_condm)); (focus (simp (disch := (first | with_reducible assumption | omega | ((repeat (first | rw [Store.next_push] | rw [Store.next_set])) <;> omega) | fail)) only [go_sem, Nat.reduceEqDiff, Nat.reduceAdd, Nat.reduceMul, Nat.reduceLeDiff, ↓reduceIte, reduceCtorEq, Int.reduceEq, Int.reduceLT, Int.reduceLE, Int.reduceAdd, Int.reduceSub, Int.reduceMul, Int.reduceNeg, Int.reduceToNat, hE2, hcj', hadd] <;> rfl)); (first | (with_reducible (first | refine way_tt ?_ | refine way_ff ?_ | refine wayc_t ?_ | refine wayc_f ?_ | refine way_tf ?_ | refine way_ft ?_ | refine way_t ?_); try simp only [Env.put]) | with_reducible refine (?_ : WQ _ _ _ _ _ _)))
        | fail
      apply vq_evpf (andS hst2.1 hok2.wf (a := x) (b := y) (by omega) (by omega) (by omega))
      · simp only [Env.evL, Env.ev, Env.get, Nat.reduceEqDiff, ↓reduceIte, hE2]
      rintro q s3 ⟨e3, G3, ids3, rfl, j3, o3, l3, v3⟩
      have m3 := o3.ext.le
      have hn3 : s1.next ∉ ids3 := fun h => by
        rcases j3.2.2 _ h with h | h
        · exact hn h
        · have := get_lts hg; omega
      have hg3 : s3.get s1.next = some (.cells (cellsI L)) := by rw [j3.2.1.2 _ (get_lts hg) hn, hg]
      have hA1 := f1.1
      have hidx : idxAV 1 (.arr s1.next 0 w 1) (.int .i64 ((i + j : Nat) : Int)) = some (.ptr s1.next (i + j)) := by rw [idx_arr rfl (by omega) (by omega), Int.toNat_natCast, Nat.mul_one, Nat.zero_add]
      repeat first
        | (apply vq_wI hg3 (by omega : i + j < L.length); (focus rfl); (focus rfl))
        | with_reducible (first | refine vw_seq ?_ | refine vw_block ?_ | refine vw_rg ?_)
        | ((with_reducible apply vq_free'); (focus rfl))
        | ((with_reducible (first | refine vq_nil ?_ | refine vw_skip ?_ | refine vw_exit ?_ | refine vw_ret ?_)); simp only [Env.keep, Env.get, Env.ev, List.map, Nat.reduceEqDiff, ↓reduceIte, Then, Out'])
        | ((with_reducible (first | apply vq_p | apply vq_r | apply vq_a | apply vq_w | apply vq_g | apply vw_condm)); (focus (simp (disch := (first | with_reducible assumption | omega | ((repeat (first | rw [Store.next_push] | rw [Store.next_set])) <;> omega) | fail)) only [go_sem, Nat.reduceEqDiff, Nat.reduceAdd, Nat.reduceMul, Nat.reduceLeDiff, ↓reduceIte, reduceCtorEq, Int.reduceEq, Int.reduceLT, Int.reduceLE, Int.reduceAdd, Int.reduceSub, Int.reduceMul, Int.reduceNeg, Int.reduceToNat, hE2, hsj, hadd, hidx] <;> rfl)); (first | (with_reducible (first | refine way_tt ?_ | refine way_ff ?_ | refine wayc_t ?_ | refine wayc_f ?_ | refine way_tf ?_ | refine way_ft ?_ | refine way_t ?_); try simp only [Env.put]) | with_reducible refine (?_ : WQ _ _ _ _ _ _)))
        | fail
      refine ⟨w - i - (j + 1), by omega, j + 1, L.set (i + j) e3, G3, ids3, by omega, rfl, (hst2.trans j3).wr _ hn3 (Nat.le_refl _), (hok2.trans o3).weaken (by omega), get_set_eq (get_lts hg3), hn3, by simp [hLl], ?_, ?_, (by simp only [Env.get, Nat.reduceEqDiff, ↓reduceIte, hE2, and_self])⟩
      · intro e he
        rcases List.mem_or_eq_of_mem_set he with h | h
        · have := hLt e h; omega
        · omega
      · intro m t ht
        unfold bitsOf
        by_cases htj : t = i + j
        · subst htj
          have e1 : (L.set (i + j) e3).getD (i + j) 0 = e3 := by simp [List.getD, hLl, ht]
          have x1 := hokA.get (m := m) (e := x) (by omega)
          have y1 := hokA.get (m := m) (e := y) (by omega)
          rw [e1, decide_eq_true (by omega), Bool.true_and, Nat.add_sub_cancel_left, ← show bitsOf G m A j = G.ev m (A.getD j 0) from rfl, eA]
          simp only [v3, x1, y1]
        · have e1 : (L.set (i + j) e3).getD t 0 = L.getD t 0 := by simp only [List.getD]; rw [List.getElem?_set_ne (by omega)]
          have h1 := hLv m t ht
          unfold bitsOf at h1
          rw [e1, o3.ext.ev (getD_lt hLt (by omega) t), h1]
          have : decide (i ≤ t ∧ t < i + j) = decide (i ≤ t ∧ t < i + (j + 1)) := by rw [decide_eq_decide]; omega
          rw [this]
    · have hcj' : ¬ (j : Int) < ((w - i : Nat) : Int) := by omega
      obtain rfl : j = w - i := by omega
      have hP : VI s2 ids2 G2 (.arr s1.next 0 w 1) L := VI.of hg hLl hn hLt
      have hR2 : VI s2 ids2 G2 (.arr idr 0 w 1) R := hR.step hst2 hok2.ext
      repeat first
        | with_reducible (first | refine vw_seq ?_ | refine vw_block ?_ | refine vw_rg ?_)
        | ((with_reducible apply vq_free'); (focus rfl))
        | ((with_reducible (first | refine vq_nil ?_ | refine vw_skip ?_ | refine vw_exit ?_ | refine vw_ret ?_)); simp only [Env.keep, Env.get, Env.ev, List.map, Nat.reduceEqDiff, ↓reduceIte, Then, Out'])
        | ((with_reducible (first | apply vq_p | apply vq_r | apply vq_a | apply vq_w | apply vq_g | apply vw_condm)); (focus (simp (disch := (first | with_reducible assumption | omega | ((repeat (first | rw [Store.next_push] | rw [Store.next_set])) <;> omega) | fail)) only [go_sem, Nat.reduceEqDiff, Nat.reduceAdd, Nat.reduceMul, Nat.reduceLeDiff, ↓reduceIte, reduceCtorEq, Int.reduceEq, Int.reduceLT, Int.reduceLE, Int.reduceAdd, Int.reduceSub, Int.reduceMul, Int.reduceNeg, Int.reduceToNat, hE2, hcj'] <;> rfl)); (first | (with_reducible (first | refine way_tt ?_ | refine way_ff ?_ | refine wayc_t ?_ | refine wayc_f ?_ | refine way_tf ?_ | refine way_ft ?_ | refine way_t ?_); try simp only [Env.put]) | with_reducible refine (?_ : WQ _ _ _ _ _ _)))
        | fail
      apply vq_evpf (sumS hst2.1 hok2.wf hR2 hP hRl hLl hw2.2 (c := 0) (by omega) (by omega))
      · simp only [Env.evL, Env.ev, Env.get, Nat.reduceEqDiff, ↓reduceIte, hE2]
        try rfl
      rintro q s3 ⟨es, G3, ids3, id3, rfl, k3, e3, n3, l3, j3, o3, lt3, v3⟩
      have x1 := hst.2.1.1
      have x2 := f1.1
      have x3 := hst2.2.1.1
      repeat first
        | with_reducible (first | refine vw_seq ?_ | refine vw_block ?_ | refine vw_rg ?_)
        | ((with_reducible apply vq_free'); (focus rfl))
        | ((with_reducible (first | refine vq_nil ?_ | refine vw_skip ?_ | refine vw_exit ?_ | refine vw_ret ?_)); simp only [Env.keep, Env.get, Env.ev, List.map, Nat.reduceEqDiff, ↓reduceIte, Then, Out'])
        | ((with_reducible (first | apply vq_p | apply vq_r | apply vq_a | apply vq_w | apply vq_g | apply vw_condm)); (focus (simp (disch := (first | with_reducible assumption | omega | ((repeat (first | rw [Store.next_push] | rw [Store.next_set])) <;> omega) | fail)) only [go_sem, Nat.reduceEqDiff, Nat.reduceAdd, Nat.reduceMul, Nat.reduceLeDiff, ↓reduceIte, reduceCtorEq, Int.reduceEq, Int.reduceLT, Int.reduceLE, Int.reduceAdd, Int.reduceSub, Int.reduceMul, Int.reduceNeg, Int.reduceToNat, hE2, hs] <;> rfl)); (first | (with_reducible (first | refine way_tt ?_ | refine way_ff ?_ | refine wayc_t ?_ | refine wayc_f ?_ | refine way_tf ?_ | refine way_ft ?_ | refine way_t ?_); try simp only [Env.put]) | with_reducible refine (?_ : WQ _ _ _ _ _ _)))
        | fail
      refine ⟨w - (i + 1), by omega, i + 1, es, id3, G3, ids3, by omega, rfl, hsA.trans j3, (hokA.trans o3).weaken (by omega), VI.of k3 e3 n3 lt3, e3, by omega, n3, k3, fun m t ht => ?_, (by simp only [Env.get, Nat.reduceEqDiff, ↓reduceIte, hE2, and_self])⟩
      simp only [v3 m t ht, hok2.wf.ev_zero, mulAt]
      refine sum_cong (n := w) (fun t ht => ?_) (fun t ht => ?_) t ht
      · rw [bits_ext hok2.ext hR.lt (by omega), hRv m t ht]
      · rw [hLv m t ht, V.partAt, eB]
        have : decide (i ≤ t ∧ t < i + (w - i)) = decide (i ≤ t) := by rw [decide_eq_decide]; omega
        rw [this]
  · have hci' : ¬ (i : Int) < (w : Int) := by omega
    obtain rfl : i = w := by omega
    have x0 := j0.2.1.1
    repeat first
      | with_reducible (first | refine vw_seq ?_ | refine vw_block ?_ | refine vw_rg ?_)
      | ((with_reducible apply vq_free'); (focus rfl))
      | ((with_reducible (first | refine vq_nil ?_ | refine vw_skip ?_ | refine vw_exit ?_ | refine vw_ret ?_)); simp only [Env.keep, Env.get, Env.ev, List.map, Nat.reduceEqDiff, ↓reduceIte, Then, Out'])
      | ((with_reducible (first | apply vq_p | apply vq_r | apply vq_a | apply vq_w | apply vq_g | apply vw_condm)); (focus (simp (disch := (first | with_reducible assumption | omega | ((repeat (first | rw [Store.next_push] | rw [Store.next_set])) <;> omega) | fail)) only [go_sem, Nat.reduceEqDiff, Nat.reduceAdd, Nat.reduceMul, Nat.reduceLeDiff, ↓reduceIte, reduceCtorEq, Int.reduceEq, Int.reduceLT, Int.reduceLE, Int.reduceAdd, Int.reduceSub, Int.reduceMul, Int.reduceNeg, Int.reduceToNat, hE, hci'] <;> rfl)); (first | (with_reducible (first | refine way_tt ?_ | refine way_ff ?_ | refine wayc_t ?_ | refine wayc_f ?_ | refine way_tf ?_ | refine way_ft ?_ | refine way_t ?_); try simp only [Env.put]) | with_reducible refine (?_ : WQ _ _ _ _ _ _)))
      | fail
    refine ⟨.inr trivial, _, (by simp only [resOf, resAll, resOne, Env.get, Nat.reduceEqDiff, ↓reduceIte] <;> rfl), R, G1, ids1, idr, rfl, hgr, hRl, hnr, by omega, j0.trans hst, hok.weaken (by omega), hR, fun m => ?_⟩
    simp only [valE_id hRl hw2.1 hw2.2, ← hval]
    exact valZ_cong hw2.1 fun t ht => hRv m t ht
end Go.Proofs.Ytedoacfoglbfeaa
