/- Vectors of edges: minus, walked. -/
import Derived.Test.YtedoacfoglbfeaaB3
namespace Go.Proofs.Ytedoacfoglbfeaa
open Go.V
set_option maxRecDepth 100000
set_option maxHeartbeats 4000000
set_option linter.unusedSimpArgs false
set_option linter.unusedVariables false

theorem carry_cong {A A' B B' : Nat → Bool} {c : Bool} {n : Nat} (hA : ∀ i, i < n → A i = A' i) (hB : ∀ i, i < n → B i = B' i) : ∀ j, j ≤ n → carryAt A B c j = carryAt A' B' c j
  | 0, _ => rfl
  | j + 1, h => by simp only [carryAt, hA j (by omega), hB j (by omega), carry_cong hA hB j (by omega)]
theorem sum_cong {A A' B B' : Nat → Bool} {c : Bool} {n : Nat} (hA : ∀ i, i < n → A i = A' i) (hB : ∀ i, i < n → B i = B' i) (j : Nat) (h : j < n) : sumAt A B c j = sumAt A' B' c j := by
  simp only [sumAt, hA j h, hB j h, carry_cong hA hB j (by omega)]
theorem getD_not {A : List Nat} {i : Nat} (h : i < A.length) : (A.map notN).getD i 0 = notN (A.getD i 0) := by simp [List.getD, h]
theorem getD_zero (w i : Nat) : (List.replicate w 0).getD i 0 = 0 := by
  simp only [List.getD, List.getElem?_replicate]
  split <;> rfl

theorem minusV {s : Store} {g : Nat} {G : Gr} {ids : List Nat} {dv : D} {A : List Nat} {c w : Nat} (hG : GA s g G ids) (hw : G.WF) (hA : VI s ids G dv A) (hAl : A.length = w) (hwl : w ≤ 16) (hc : c < 2 * G.nodes.length) (hL : G.nodes.length + 500 < 200000) :
    EvP vfs 67 [.ptr g 0, .int .i64 (c : Int), dv] s (GV s g ids G 192 w fun m i => minusAt (G.ev m c) (bitsOf G m A) i) := by
  have hla := hA.rd.1.lenI
  rw [hAl] at hla
  have hGl := hw.len
  have hlt := hG.lt
  have a1 : ((0 : Int) ≤ (w : Int)) = True := eq_true (by omega)
  have a2 : ((((8 : Nat) : Int) * (w : Int)) ≤ 2 ^ 47) = True := eq_true (by omega)
  have a3 : ((w : Int) < 2 ^ 62) = True := eq_true (by omega)
  refine evp_of (vf := vf67) rfl ?_
  simp only [vf67, List.map, List.getD, List.getElem?_cons_zero, List.getElem?_cons_succ, List.getElem?_nil, Option.getD]
  repeat first
    | with_reducible (first | refine vw_seq ?_ | refine vw_block ?_ | refine vw_rg ?_)
    | ((with_reducible apply vq_free'); (focus rfl))
    | ((with_reducible (first | refine vq_nil ?_ | refine vw_skip ?_ | refine vw_exit ?_ | refine vw_ret ?_)); simp only [Env.keep, Env.get, Env.ev, List.map, Nat.reduceEqDiff, ↓reduceIte, Then, Out'])
    | ((with_reducible (first | apply vq_p | apply vq_r | apply vq_a | apply vq_w | apply vq_g | apply vw_condm)); (focus (simp (disch := (first | with_reducible assumption | omega | ((repeat (first | rw [Store.next_push] | rw [Store.next_set])) <;> omega) | fail)) only [go_sem, Nat.reduceEqDiff, Nat.reduceAdd, Nat.reduceMul, Nat.reduceLeDiff, ↓reduceIte, reduceCtorEq, Int.reduceEq, Int.reduceLT, Int.reduceLE, Int.reduceAdd, Int.reduceSub, Int.reduceMul, Int.reduceNeg, Int.reduceToNat, hla, a1, a2, a3, zerosI, Int.le_refl] <;> rfl)); (first | (with_reducible (first | refine way_tt ?_ | refine way_ff ?_ | refine wayc_t ?_ | refine wayc_f ?_ | refine way_tf ?_ | refine way_ft ?_ | refine way_t ?_); try simp only [Env.put]) | with_reducible refine (?_ : WQ _ _ _ _ _ _)))
    | fail
  have f0 : Fr [] s (s.push (.cells (cellsI (List.replicate w 0)))) := Fr.push _
  have k0 : (s.push (.cells (cellsI (List.replicate w 0)))).get s.next = some (.cells (cellsI (List.replicate w 0))) := get_push_new rfl
  generalize s.push (.cells (cellsI (List.replicate w 0))) = s0 at *
  have hA0 := hA.newer f0
  apply vq_evpf (notV hA0.rd.1 hAl hwl (fun e he => by have := hA.lt e he; omega))
  · rfl
  rintro q s1 ⟨id1, rfl, k1, f1, h1⟩
  have f01 : Fr [] s s1 := f0.trans f1 (by simp)
  have hst1 := hG.newer f01
  have k01 : s1.get s.next = some (.cells (cellsI (List.replicate w 0))) := by rw [f1.2 _ (get_lts k0) (by simp), k0]
  have n0 := f0.1
  have hz : VI s1 ids G (.arr s.next 0 w 1) (List.replicate w 0) := VI.of k01 (by simp) (fun h => by have := hlt _ h; omega) (by intro e he; have := List.eq_of_mem_replicate he; omega)
  have hN : VI s1 ids G (.arr id1 0 w 1) (A.map notN) := VI.of k1 (by simp [hAl]) (fun h => by have := hlt _ h; omega) (by
    intro e he
    obtain ⟨a, ha, rfl⟩ := List.mem_map.1 he
    exact notN_lt (hA.lt a ha))
  repeat first
    | with_reducible (first | refine vw_seq ?_ | refine vw_block ?_ | refine vw_rg ?_)
    | ((with_reducible apply vq_free'); (focus rfl))
    | ((with_reducible (first | refine vq_nil ?_ | refine vw_skip ?_ | refine vw_exit ?_ | refine vw_ret ?_)); simp only [Env.keep, Env.get, Env.ev, List.map, Nat.reduceEqDiff, ↓reduceIte, Then, Out'])
    | ((with_reducible (first | apply vq_p | apply vq_r | apply vq_a | apply vq_w | apply vq_g | apply vw_condm)); (focus (simp (disch := (first | with_reducible assumption | omega | ((repeat (first | rw [Store.next_push] | rw [Store.next_set])) <;> omega) | fail)) only [go_sem, Nat.reduceEqDiff, Nat.reduceAdd, Nat.reduceMul, Nat.reduceLeDiff, ↓reduceIte, reduceCtorEq, Int.reduceEq, Int.reduceLT, Int.reduceLE, Int.reduceAdd, Int.reduceSub, Int.reduceMul, Int.reduceNeg, Int.reduceToNat] <;> rfl)); (first | (with_reducible (first | refine way_tt ?_ | refine way_ff ?_ | refine wayc_t ?_ | refine wayc_f ?_ | refine way_tf ?_ | refine way_ft ?_ | refine way_t ?_); try simp only [Env.put]) | with_reducible refine (?_ : WQ _ _ _ _ _ _)))
    | fail
  apply vq_evpf (sumS hst1.1 hw hz hN (by simp) (by simp [hAl]) hwl (c := 1) (by omega) (by omega))
  · rfl
  rintro q s2 ⟨es2, G2, ids2, id2, rfl, k2, l2, hn2, hs2, j2, o2, lt2, v2⟩
  have n2 := o2.ext.le
  have m2 := o2.len
  have hst2 := hst1.trans j2
  repeat first
    | with_reducible (first | refine vw_seq ?_ | refine vw_block ?_ | refine vw_rg ?_)
    | ((with_reducible apply vq_free'); (focus rfl))
    | ((with_reducible (first | refine vq_nil ?_ | refine vw_skip ?_ | refine vw_exit ?_ | refine vw_ret ?_)); simp only [Env.keep, Env.get, Env.ev, List.map, Nat.reduceEqDiff, ↓reduceIte, Then, Out'])
    | ((with_reducible (first | apply vq_p | apply vq_r | apply vq_a | apply vq_w | apply vq_g | apply vw_condm)); (focus (simp (disch := (first | with_reducible assumption | omega | ((repeat (first | rw [Store.next_push] | rw [Store.next_set])) <;> omega) | fail)) only [go_sem, Nat.reduceEqDiff, Nat.reduceAdd, Nat.reduceMul, Nat.reduceLeDiff, ↓reduceIte, reduceCtorEq, Int.reduceEq, Int.reduceLT, Int.reduceLE, Int.reduceAdd, Int.reduceSub, Int.reduceMul, Int.reduceNeg, Int.reduceToNat] <;> rfl)); (first | (with_reducible (first | refine way_tt ?_ | refine way_ff ?_ | refine wayc_t ?_ | refine wayc_f ?_ | refine way_tf ?_ | refine way_ft ?_ | refine way_t ?_); try simp only [Env.put]) | with_reducible refine (?_ : WQ _ _ _ _ _ _)))
    | fail
  apply vq_evpf (muxV j2.1 o2.wf (VI.of k2 l2 hn2 lt2) ((hA.newer f01).step j2 o2.ext) l2 hAl hwl (c := c) (by omega) (by omega))
  · rfl
  rintro q s3 ⟨es3, G3, ids3, id3, rfl, k3, l3, hn3, hs3, j3, o3, lt3, v3⟩
  repeat first
    | with_reducible (first | refine vw_seq ?_ | refine vw_block ?_ | refine vw_rg ?_)
    | ((with_reducible apply vq_free'); (focus rfl))
    | ((with_reducible (first | refine vq_nil ?_ | refine vw_skip ?_ | refine vw_exit ?_ | refine vw_ret ?_)); simp only [Env.keep, Env.get, Env.ev, List.map, Nat.reduceEqDiff, ↓reduceIte, Then, Out'])
    | ((with_reducible (first | apply vq_p | apply vq_r | apply vq_a | apply vq_w | apply vq_g | apply vw_condm)); (focus (simp (disch := (first | with_reducible assumption | omega | ((repeat (first | rw [Store.next_push] | rw [Store.next_set])) <;> omega) | fail)) only [go_sem, Nat.reduceEqDiff, Nat.reduceAdd, Nat.reduceMul, Nat.reduceLeDiff, ↓reduceIte, reduceCtorEq, Int.reduceEq, Int.reduceLT, Int.reduceLE, Int.reduceAdd, Int.reduceSub, Int.reduceMul, Int.reduceNeg, Int.reduceToNat] <;> rfl)); (first | (with_reducible (first | refine way_tt ?_ | refine way_ff ?_ | refine wayc_t ?_ | refine wayc_f ?_ | refine way_tf ?_ | refine way_ft ?_ | refine way_t ?_); try simp only [Env.put]) | with_reducible refine (?_ : WQ _ _ _ _ _ _)))
    | fail
  have nn := f01.1
  have n12 := j2.2.1.1
  refine ⟨.inr trivial, _, (by simp only [resOf, resAll, resOne, Env.get, Nat.reduceEqDiff, ↓reduceIte] <;> rfl), es3, G3, ids3, id3, rfl, k3, l3, hn3, by omega, hst2.trans j3, (o2.trans o3).weaken (by omega), lt3, fun m i hi => ?_⟩
  rw [v3 m i hi]
  show ifAt _ _ _ i = ifAt (G.ev m c) (sumAt (fun _ => false) (fun j => !bitsOf G m A j) true) (bitsOf G m A) i
  simp only [ifAt]
  rw [o2.get hc, v2 m i hi, bits_ext o2.ext hA.lt hGl]
  simp only [hw.ev_one]
  have e1 : sumAt (bitsOf G m (List.replicate w 0)) (bitsOf G m (A.map notN)) true i = sumAt (fun _ => false) (fun j => !bitsOf G m A j) true i := by
    refine sum_cong (n := w) (fun j hj => ?_) (fun j hj => ?_) i hi
    · unfold bitsOf; rw [getD_zero, hw.ev_zero]
    · unfold bitsOf; rw [getD_not (by omega), Gr.ev_not]
  rw [e1]
end Go.Proofs.Ytedoacfoglbfeaa
