/- BitsOrder, walked. -/
import Derived.Test.YtedoacfoglbfeaaB17
namespace Go.Proofs.Ytedoacfoglbfeaa
open Go.V
set_option maxRecDepth 100000
set_option maxHeartbeats 4000000
set_option linter.unusedSimpArgs false
set_option linter.unusedVariables false

theorem order_n (x y : Int) : (if decide (x = y) then (if decide (y < x) then (if decide (x < y) then 3 else 2) else (if decide (x < y) then 2 else 1)) else (if decide (y < x) then (if decide (x < y) then 2 else 1) else (if decide (x < y) then 1 else 0))) = (1 : Nat) := by
  simp only [decide_eq_true_eq]
  split <;> split <;> split <;> omega
theorem add_cancel {x y z : Int} {k : Nat} (h1 : 1 ≤ k) (hx : -2 ^ (k - 1) ≤ x ∧ x < 2 ^ (k - 1)) (hy : -2 ^ (k - 1) ≤ y ∧ y < 2 ^ (k - 1)) : decide (trimZ (x + z) k = trimZ (y + z) k) = decide (x = y) := by
  rw [decide_eq_decide]
  constructor
  · intro h
    have e1 := trimZ_emod (n := x + z) (w := k)
    rw [h, trimZ_emod] at e1
    have e2 := emod_add2 e1 (rfl : (-z) % 2 ^ k = (-z) % 2 ^ k)
    rw [Int.add_neg_cancel_right, Int.add_neg_cancel_right] at e2
    rw [← trimZ_id h1 hx.1 hx.2, ← trimZ_id h1 hy.1 hy.2]
    exact trimZ_mod e2.symm
  · rintro rfl; rfl
def cnt (l : List Bool) (i : Nat) : Nat := (l.take i).countP (fun b => b)
theorem cnt_succ {l : List Bool} {i : Nat} (h : i < l.length) : cnt l (i + 1) = cnt l i + if l[i] then 1 else 0 := by
  unfold cnt
  rw [List.take_succ_eq_append_getElem h, List.countP_append]
  congr 1
  cases l[i] <;> rfl

theorem bitsOrder_v {d0 d1 d2 : D} (h0 : ArgT (.int .i64) d0) (h1 : ArgT (.int .i64) d1) (h2 : ArgT (.int .i64) d2) :
    EvP vfs 12 [d0, d1, d2] Store.empty fun r _ => r = .bool true := by
  obtain ⟨a, rfl, ha⟩ := int_of h0
  obtain ⟨b, rfl, hb⟩ := int_of h1
  obtain ⟨c, rfl, hc⟩ := int_of h2
  obtain ⟨sa, hawake⟩ := awake6'
  refine evp_of (vf := vf12) rfl ?_
  simp only [vf12, List.map, List.getD, List.getElem?_cons_zero, List.getElem?_cons_succ, List.getElem?_nil, Option.getD]
  repeat first
    | (apply vq_isoL hawake rfl; (focus rfl); (focus rfl))
    | with_reducible (first | refine vw_seq ?_ | refine vw_block ?_ | refine vw_rg ?_)
    | ((with_reducible apply vq_free'); (focus rfl))
    | ((with_reducible (first | refine vq_nil ?_ | refine vw_skip ?_ | refine vw_exit ?_ | refine vw_ret ?_)); simp only [Env.keep, Env.get, Env.ev, List.map, Nat.reduceEqDiff, ↓reduceIte, Then, Out'])
    | ((with_reducible (first | apply vq_p | apply vq_r | apply vq_a | apply vq_w | apply vq_g | apply vw_condm)); (focus (simp (disch := (first | with_reducible assumption | omega | ((repeat (first | rw [Store.next_push] | rw [Store.next_set])) <;> omega) | fail)) only [go_sem, Nat.reduceEqDiff, Nat.reduceAdd, Nat.reduceMul, Nat.reduceLeDiff, ↓reduceIte, reduceCtorEq, Int.reduceEq, Int.reduceLT, Int.reduceLE, Int.reduceAdd, Int.reduceSub, Int.reduceMul, Int.reduceNeg, Int.reduceToNat] <;> rfl)); (first | (with_reducible (first | refine way_tt ?_ | refine way_ff ?_ | refine wayc_t ?_ | refine wayc_f ?_ | refine way_tf ?_ | refine way_ft ?_ | refine way_t ?_); try simp only [Env.put]) | with_reducible refine (?_ : WQ _ _ _ _ _ _)))
    | fail
  apply vq_evpf new_ok
  · rfl
  rintro q s1 ⟨g, ids, rfl, hG, f1, -⟩
  have hw0 := Gr.new_wf
  repeat first
    | with_reducible (first | refine vw_seq ?_ | refine vw_block ?_ | refine vw_rg ?_)
    | ((with_reducible apply vq_free'); (focus rfl))
    | ((with_reducible (first | refine vq_nil ?_ | refine vw_skip ?_ | refine vw_exit ?_ | refine vw_ret ?_)); simp only [Env.keep, Env.get, Env.ev, List.map, Nat.reduceEqDiff, ↓reduceIte, Then, Out'])
    | ((with_reducible (first | apply vq_p | apply vq_r | apply vq_a | apply vq_w | apply vq_g | apply vw_condm)); (focus (simp (disch := (first | with_reducible assumption | omega | ((repeat (first | rw [Store.next_push] | rw [Store.next_set])) <;> omega) | fail)) only [go_sem, Nat.reduceEqDiff, Nat.reduceAdd, Nat.reduceMul, Nat.reduceLeDiff, ↓reduceIte, reduceCtorEq, Int.reduceEq, Int.reduceLT, Int.reduceLE, Int.reduceAdd, Int.reduceSub, Int.reduceMul, Int.reduceNeg, Int.reduceToNat] <;> rfl)); (first | (with_reducible (first | refine way_tt ?_ | refine way_ff ?_ | refine wayc_t ?_ | refine wayc_f ?_ | refine way_tf ?_ | refine way_ft ?_ | refine way_t ?_); try simp only [Env.put]) | with_reducible refine (?_ : WQ _ _ _ _ _ _)))
    | fail
  apply vq_evpf (inputsV (w := 6) (n := 6) hG hw0 (by decide) (by decide) (by decide))
  · rfl
  rintro q s2 ⟨ex, G2, ids2, idx, rfl, kx, lx, nx, gx, j2, w2, x2, nn2, i2, vx, zx⟩
  have hn0 : Gr.new.nodes.length = 1 := rfl
  have hi0 : Gr.new.ins.length = 0 := rfl
  repeat first
    | with_reducible (first | refine vw_seq ?_ | refine vw_block ?_ | refine vw_rg ?_)
    | ((with_reducible apply vq_free'); (focus rfl))
    | ((with_reducible (first | refine vq_nil ?_ | refine vw_skip ?_ | refine vw_exit ?_ | refine vw_ret ?_)); simp only [Env.keep, Env.get, Env.ev, List.map, Nat.reduceEqDiff, ↓reduceIte, Then, Out'])
    | ((with_reducible (first | apply vq_p | apply vq_r | apply vq_a | apply vq_w | apply vq_g | apply vw_condm)); (focus (simp (disch := (first | with_reducible assumption | omega | ((repeat (first | rw [Store.next_push] | rw [Store.next_set])) <;> omega) | fail)) only [go_sem, Nat.reduceEqDiff, Nat.reduceAdd, Nat.reduceMul, Nat.reduceLeDiff, ↓reduceIte, reduceCtorEq, Int.reduceEq, Int.reduceLT, Int.reduceLE, Int.reduceAdd, Int.reduceSub, Int.reduceMul, Int.reduceNeg, Int.reduceToNat] <;> rfl)); (first | (with_reducible (first | refine way_tt ?_ | refine way_ff ?_ | refine wayc_t ?_ | refine wayc_f ?_ | refine way_tf ?_ | refine way_ft ?_ | refine way_t ?_); try simp only [Env.put]) | with_reducible refine (?_ : WQ _ _ _ _ _ _)))
    | fail
  apply vq_evpf (inputsV (w := 6) (n := 6) j2.1 w2 (by omega) (by omega) (by decide))
  · rfl
  rintro q s3 ⟨ey, G3, ids3, idy, rfl, ky, ly, ny, gy, j3, w3, x3, nn3, i3, vy, zy⟩
  repeat first
    | with_reducible (first | refine vw_seq ?_ | refine vw_block ?_ | refine vw_rg ?_)
    | ((with_reducible apply vq_free'); (focus rfl))
    | ((with_reducible (first | refine vq_nil ?_ | refine vw_skip ?_ | refine vw_exit ?_ | refine vw_ret ?_)); simp only [Env.keep, Env.get, Env.ev, List.map, Nat.reduceEqDiff, ↓reduceIte, Then, Out'])
    | ((with_reducible (first | apply vq_p | apply vq_r | apply vq_a | apply vq_w | apply vq_g | apply vw_condm)); (focus (simp (disch := (first | with_reducible assumption | omega | ((repeat (first | rw [Store.next_push] | rw [Store.next_set])) <;> omega) | fail)) only [go_sem, Nat.reduceEqDiff, Nat.reduceAdd, Nat.reduceMul, Nat.reduceLeDiff, ↓reduceIte, reduceCtorEq, Int.reduceEq, Int.reduceLT, Int.reduceLE, Int.reduceAdd, Int.reduceSub, Int.reduceMul, Int.reduceNeg, Int.reduceToNat] <;> rfl)); (first | (with_reducible (first | refine way_tt ?_ | refine way_ff ?_ | refine wayc_t ?_ | refine wayc_f ?_ | refine way_tf ?_ | refine way_ft ?_ | refine way_t ?_); try simp only [Env.put]) | with_reducible refine (?_ : WQ _ _ _ _ _ _)))
    | fail
  apply vq_evpf (inputsV (w := 6) (n := 6) j3.1 w3 (by omega) (by omega) (by decide))
  · rfl
  rintro q s4 ⟨ez, G4, ids4, idz, rfl, kz, lz, nz, gz, j4, w4, x4, nn4, i4, vz, zz⟩
  repeat first
    | with_reducible (first | refine vw_seq ?_ | refine vw_block ?_ | refine vw_rg ?_)
    | ((with_reducible apply vq_free'); (focus rfl))
    | ((with_reducible (first | refine vq_nil ?_ | refine vw_skip ?_ | refine vw_exit ?_ | refine vw_ret ?_)); simp only [Env.keep, Env.get, Env.ev, List.map, Nat.reduceEqDiff, ↓reduceIte, Then, Out'])
    | ((with_reducible (first | apply vq_p | apply vq_r | apply vq_a | apply vq_w | apply vq_g | apply vw_condm)); (focus (simp (disch := (first | with_reducible assumption | omega | ((repeat (first | rw [Store.next_push] | rw [Store.next_set])) <;> omega) | fail)) only [go_sem, Nat.reduceEqDiff, Nat.reduceAdd, Nat.reduceMul, Nat.reduceLeDiff, ↓reduceIte, reduceCtorEq, Int.reduceEq, Int.reduceLT, Int.reduceLE, Int.reduceAdd, Int.reduceSub, Int.reduceMul, Int.reduceNeg, Int.reduceToNat] <;> rfl)); (first | (with_reducible (first | refine way_tt ?_ | refine way_ff ?_ | refine wayc_t ?_ | refine wayc_f ?_ | refine way_tf ?_ | refine way_ft ?_ | refine way_t ?_); try simp only [Env.put]) | with_reducible refine (?_ : WQ _ _ _ _ _ _)))
    | fail
  apply vq_evpf (bitsV (w := 6) (n := 6) (by decide))
  · rfl
  rintro q s5 ⟨id5, rfl, k5, f5, l5⟩
  repeat first
    | with_reducible (first | refine vw_seq ?_ | refine vw_block ?_ | refine vw_rg ?_)
    | ((with_reducible apply vq_free'); (focus rfl))
    | ((with_reducible (first | refine vq_nil ?_ | refine vw_skip ?_ | refine vw_exit ?_ | refine vw_ret ?_)); simp only [Env.keep, Env.get, Env.ev, List.map, Nat.reduceEqDiff, ↓reduceIte, Then, Out'])
    | ((with_reducible (first | apply vq_p | apply vq_r | apply vq_a | apply vq_w | apply vq_g | apply vw_condm)); (focus (simp (disch := (first | with_reducible assumption | omega | ((repeat (first | rw [Store.next_push] | rw [Store.next_set])) <;> omega) | fail)) only [go_sem, Nat.reduceEqDiff, Nat.reduceAdd, Nat.reduceMul, Nat.reduceLeDiff, ↓reduceIte, reduceCtorEq, Int.reduceEq, Int.reduceLT, Int.reduceLE, Int.reduceAdd, Int.reduceSub, Int.reduceMul, Int.reduceNeg, Int.reduceToNat] <;> rfl)); (first | (with_reducible (first | refine way_tt ?_ | refine way_ff ?_ | refine wayc_t ?_ | refine wayc_f ?_ | refine way_tf ?_ | refine way_ft ?_ | refine way_t ?_); try simp only [Env.put]) | with_reducible refine (?_ : WQ _ _ _ _ _ _)))
    | fail
  apply vq_evpf (bitsV (w := 6) (n := 6) (by decide))
  · rfl
  rintro q s6 ⟨id6, rfl, k6, f6, l6⟩
  have k5' := f6.keep k5
  obtain ⟨s7, id7, a7, k7, f7, l7⟩ := appB k5' k6 (bitL_len _ _) (bitL_len _ _) (by decide) (by decide)
  repeat first
    | (apply vq_append'; (focus rfl); (focus rfl); (focus exact a7))
    | with_reducible (first | refine vw_seq ?_ | refine vw_block ?_ | refine vw_rg ?_)
    | ((with_reducible apply vq_free'); (focus rfl))
    | ((with_reducible (first | refine vq_nil ?_ | refine vw_skip ?_ | refine vw_exit ?_ | refine vw_ret ?_)); simp only [Env.keep, Env.get, Env.ev, List.map, Nat.reduceEqDiff, ↓reduceIte, Then, Out'])
    | ((with_reducible (first | apply vq_p | apply vq_r | apply vq_a | apply vq_w | apply vq_g | apply vw_condm)); (focus (simp (disch := (first | with_reducible assumption | omega | ((repeat (first | rw [Store.next_push] | rw [Store.next_set])) <;> omega) | fail)) only [go_sem, Nat.reduceEqDiff, Nat.reduceAdd, Nat.reduceMul, Nat.reduceLeDiff, ↓reduceIte, reduceCtorEq, Int.reduceEq, Int.reduceLT, Int.reduceLE, Int.reduceAdd, Int.reduceSub, Int.reduceMul, Int.reduceNeg, Int.reduceToNat] <;> rfl)); (first | (with_reducible (first | refine way_tt ?_ | refine way_ff ?_ | refine wayc_t ?_ | refine wayc_f ?_ | refine way_tf ?_ | refine way_ft ?_ | refine way_t ?_); try simp only [Env.put]) | with_reducible refine (?_ : WQ _ _ _ _ _ _)))
    | fail
  apply vq_evpf (bitsV (w := 6) (n := 6) (by decide))
  · rfl
  rintro q s8 ⟨id8, rfl, k8, f8, l8⟩
  have k7' := f8.keep k7
  obtain ⟨s9, id9, a9, k9, f9, l9⟩ := appB k7' k8 (by rw [List.length_append, bitL_len, bitL_len]) (bitL_len _ _) (by decide) (by decide)
  repeat first
    | (apply vq_append'; (focus rfl); (focus rfl); (focus exact a9))
    | with_reducible (first | refine vw_seq ?_ | refine vw_block ?_ | refine vw_rg ?_)
    | ((with_reducible apply vq_free'); (focus rfl))
    | ((with_reducible (first | refine vq_nil ?_ | refine vw_skip ?_ | refine vw_exit ?_ | refine vw_ret ?_)); simp only [Env.keep, Env.get, Env.ev, List.map, Nat.reduceEqDiff, ↓reduceIte, Then, Out'])
    | ((with_reducible (first | apply vq_p | apply vq_r | apply vq_a | apply vq_w | apply vq_g | apply vw_condm)); (focus (simp (disch := (first | with_reducible assumption | omega | ((repeat (first | rw [Store.next_push] | rw [Store.next_set])) <;> omega) | fail)) only [go_sem, Nat.reduceEqDiff, Nat.reduceAdd, Nat.reduceMul, Nat.reduceLeDiff, ↓reduceIte, reduceCtorEq, Int.reduceEq, Int.reduceLT, Int.reduceLE, Int.reduceAdd, Int.reduceSub, Int.reduceMul, Int.reduceNeg, Int.reduceToNat] <;> rfl)); (first | (with_reducible (first | refine way_tt ?_ | refine way_ff ?_ | refine wayc_t ?_ | refine wayc_f ?_ | refine way_tf ?_ | refine way_ft ?_ | refine way_t ?_); try simp only [Env.put]) | with_reducible refine (?_ : WQ _ _ _ _ _ _)))
    | fail
  have g56 := f5.1
  have g6 := f6.1
  have g7 := f7.1
  have g8 := f8.1
  have q6 : Fr [] s4 s6 := f5.trans f6 (by simp)
  have q7 : Fr [] s4 s7 := q6.trans f7 (by simp; omega)
  have q8 : Fr [] s4 s8 := q7.trans f8 (by simp)
  have q9 : Fr [] s4 s9 := q8.trans f9 (by simp; omega)
  generalize hm : bitL a 6 ++ bitL b 6 ++ bitL c 6 = m at *
  have hml : m.length = 18 := by rw [← hm]; simp [bitL_len]
  have hG9 := (j4.1.newer q9).1
  have ma : ∀ i, i < 6 → m.getD (0 + i) false = bitZ a i := fun i hi => by
    rw [← hm, List.append_assoc, Nat.zero_add, getD_appL (by rw [bitL_len]; exact hi), bitL_getD hi]
  have mb : ∀ i, i < 6 → m.getD (6 + i) false = bitZ b i := fun i hi => by
    rw [← hm, List.append_assoc, getD_appR (bitL_len _ _), getD_appL (by rw [bitL_len]; exact hi), bitL_getD hi]
  have mc : ∀ i, i < 6 → m.getD (12 + i) false = bitZ c i := fun i hi => by
    rw [← hm, getD_appR (by rw [List.length_append, bitL_len, bitL_len]), bitL_getD hi]
  have X : VX s9 ids4 G4 m (.arr idx 0 6 1) ex 6 (trimZ a 6) := (((inVX (g := g) (ids := ids) lx vx (by decide) (by decide) zx ma).step w2 j3 x3).step w3 j4 x4).newer q9
  have Y : VX s9 ids4 G4 m (.arr idy 0 6 1) ey 6 (trimZ b 6) := ((inVX (g := g) (ids := ids) ly vy (by decide) (by decide) zy (by rw [i2]; exact mb)).step w3 j4 x4).newer q9
  have Z : VX s9 ids4 G4 m (.arr idz 0 6 1) ez 6 (trimZ c 6) := (inVX (g := g) (ids := ids) lz vz (by decide) (by decide) zz (by rw [i3, i2]; exact mc)).newer q9
  have M : RdF s9 ids4 (.arr id9 0 18 1) (cellsB m) := by
    have := rdB_arr k9
    rw [hml] at this
    refine ⟨this, fun id off n e => ?_⟩
    cases e
    have hlt := j4.1.lt
    intro h
    have := hlt _ h
    omega
  have nn : G4.nodes.length = 19 := by omega
  clear zx zy zz vx vy vz kx ky kz k5 k6 k7 k8 k9 k5' k7' a7 a9 ma mb mc
  have tx := trimZ_lo (n := a) (w := 6) (by decide)
  have ty := trimZ_lo (n := b) (w := 6) (by decide)
  generalize trimZ a 6 = x at *
  generalize trimZ b 6 = y at *
  generalize trimZ c 6 = z at *
  apply vq_evpf (lessZ hG9 w4 X.vi Y.vi (by omega))
  · rfl
  intro q s10 hq
  obtain ⟨e1, G5, ids5, rfl, j5, o5, E1⟩ := GE.ex hq m
  have E1 := E1.cast (b' := decide (x < y)) (by simp only [X.val, Y.val])
  have X := X.step w4 j5 o5.ext
  have Y := Y.step w4 j5 o5.ext
  have Z := Z.step w4 j5 o5.ext
  have M := M.step j5
  have := o5.len
  repeat first
    | with_reducible (first | refine vw_seq ?_ | refine vw_block ?_ | refine vw_rg ?_)
    | ((with_reducible apply vq_free'); (focus rfl))
    | ((with_reducible (first | refine vq_nil ?_ | refine vw_skip ?_ | refine vw_exit ?_ | refine vw_ret ?_)); simp only [Env.keep, Env.get, Env.ev, List.map, Nat.reduceEqDiff, ↓reduceIte, Then, Out'])
    | ((with_reducible (first | apply vq_p | apply vq_r | apply vq_a | apply vq_w | apply vq_g | apply vw_condm)); (focus (simp (disch := (first | with_reducible assumption | omega | ((repeat (first | rw [Store.next_push] | rw [Store.next_set])) <;> omega) | fail)) only [go_sem, Nat.reduceEqDiff, Nat.reduceAdd, Nat.reduceMul, Nat.reduceLeDiff, ↓reduceIte, reduceCtorEq, Int.reduceEq, Int.reduceLT, Int.reduceLE, Int.reduceAdd, Int.reduceSub, Int.reduceMul, Int.reduceNeg, Int.reduceToNat] <;> rfl)); (first | (with_reducible (first | refine way_tt ?_ | refine way_ff ?_ | refine wayc_t ?_ | refine wayc_f ?_ | refine way_tf ?_ | refine way_ft ?_ | refine way_t ?_); try simp only [Env.put]) | with_reducible refine (?_ : WQ _ _ _ _ _ _)))
    | fail
  apply vq_evpf (lessZ j5.1 o5.wf Y.vi X.vi (by omega))
  · rfl
  intro q s11 hq
  obtain ⟨e2, G6, ids6, rfl, j6, o6, E2⟩ := GE.ex hq m
  have E2 := E2.cast (b' := decide (y < x)) (by simp only [X.val, Y.val])
  have X := X.step o5.wf j6 o6.ext
  have Y := Y.step o5.wf j6 o6.ext
  have Z := Z.step o5.wf j6 o6.ext
  have M := M.step j6
  have E1 := E1.step o6.ext
  have := o6.len
  repeat first
    | with_reducible (first | refine vw_seq ?_ | refine vw_block ?_ | refine vw_rg ?_)
    | ((with_reducible apply vq_free'); (focus rfl))
    | ((with_reducible (first | refine vq_nil ?_ | refine vw_skip ?_ | refine vw_exit ?_ | refine vw_ret ?_)); simp only [Env.keep, Env.get, Env.ev, List.map, Nat.reduceEqDiff, ↓reduceIte, Then, Out'])
    | ((with_reducible (first | apply vq_p | apply vq_r | apply vq_a | apply vq_w | apply vq_g | apply vw_condm)); (focus (simp (disch := (first | with_reducible assumption | omega | ((repeat (first | rw [Store.next_push] | rw [Store.next_set])) <;> omega) | fail)) only [go_sem, Nat.reduceEqDiff, Nat.reduceAdd, Nat.reduceMul, Nat.reduceLeDiff, ↓reduceIte, reduceCtorEq, Int.reduceEq, Int.reduceLT, Int.reduceLE, Int.reduceAdd, Int.reduceSub, Int.reduceMul, Int.reduceNeg, Int.reduceToNat] <;> rfl)); (first | (with_reducible (first | refine way_tt ?_ | refine way_ff ?_ | refine wayc_t ?_ | refine wayc_f ?_ | refine way_tf ?_ | refine way_ft ?_ | refine way_t ?_); try simp only [Env.put]) | with_reducible refine (?_ : WQ _ _ _ _ _ _)))
    | fail
  apply vq_evpf (sameZ j6.1 o6.wf X.vi Y.vi (by omega))
  · rfl
  intro q s12 hq
  obtain ⟨e3, G7, ids7, rfl, j7, o7, E3⟩ := GE.ex hq m
  have E3 := E3.cast (b' := decide (x = y)) (by simp only [X.val, Y.val])
  have X := X.step o6.wf j7 o7.ext
  have Y := Y.step o6.wf j7 o7.ext
  have Z := Z.step o6.wf j7 o7.ext
  have M := M.step j7
  have E1 := E1.step o7.ext
  have E2 := E2.step o7.ext
  have := o7.len
  repeat first
    | with_reducible (first | refine vw_seq ?_ | refine vw_block ?_ | refine vw_rg ?_)
    | ((with_reducible apply vq_free'); (focus rfl))
    | ((with_reducible (first | refine vq_nil ?_ | refine vw_skip ?_ | refine vw_exit ?_ | refine vw_ret ?_)); simp only [Env.keep, Env.get, Env.ev, List.map, Nat.reduceEqDiff, ↓reduceIte, Then, Out'])
    | ((with_reducible (first | apply vq_p | apply vq_r | apply vq_a | apply vq_w | apply vq_g | apply vw_condm)); (focus (simp (disch := (first | with_reducible assumption | omega | ((repeat (first | rw [Store.next_push] | rw [Store.next_set])) <;> omega) | fail)) only [go_sem, Nat.reduceEqDiff, Nat.reduceAdd, Nat.reduceMul, Nat.reduceLeDiff, ↓reduceIte, reduceCtorEq, Int.reduceEq, Int.reduceLT, Int.reduceLE, Int.reduceAdd, Int.reduceSub, Int.reduceMul, Int.reduceNeg, Int.reduceToNat] <;> rfl)); (first | (with_reducible (first | refine way_tt ?_ | refine way_ff ?_ | refine wayc_t ?_ | refine wayc_f ?_ | refine way_tf ?_ | refine way_ft ?_ | refine way_t ?_); try simp only [Env.put]) | with_reducible refine (?_ : WQ _ _ _ _ _ _)))
    | fail
  apply vq_evpf (addZ j7.1 o7.wf X.vi Z.vi (by omega))
  · rfl
  intro q s13 hq
  rw [wid2_k X.len Z.len (by decide) (by decide)] at hq
  obtain ⟨es8, G8, ids8, id8, rfl, j8, o8, S1⟩ := GZ.vx hq m
  have S1 := S1.cast (z' := trimZ (x + z) 6) (by simp only [X.val, Z.val])
  have X := X.step o7.wf j8 o8.ext
  have Y := Y.step o7.wf j8 o8.ext
  have Z := Z.step o7.wf j8 o8.ext
  have M := M.step j8
  have E1 := E1.step o8.ext
  have E2 := E2.step o8.ext
  have E3 := E3.step o8.ext
  have := o8.len
  repeat first
    | with_reducible (first | refine vw_seq ?_ | refine vw_block ?_ | refine vw_rg ?_)
    | ((with_reducible apply vq_free'); (focus rfl))
    | ((with_reducible (first | refine vq_nil ?_ | refine vw_skip ?_ | refine vw_exit ?_ | refine vw_ret ?_)); simp only [Env.keep, Env.get, Env.ev, List.map, Nat.reduceEqDiff, ↓reduceIte, Then, Out'])
    | ((with_reducible (first | apply vq_p | apply vq_r | apply vq_a | apply vq_w | apply vq_g | apply vw_condm)); (focus (simp (disch := (first | with_reducible assumption | omega | ((repeat (first | rw [Store.next_push] | rw [Store.next_set])) <;> omega) | fail)) only [go_sem, Nat.reduceEqDiff, Nat.reduceAdd, Nat.reduceMul, Nat.reduceLeDiff, ↓reduceIte, reduceCtorEq, Int.reduceEq, Int.reduceLT, Int.reduceLE, Int.reduceAdd, Int.reduceSub, Int.reduceMul, Int.reduceNeg, Int.reduceToNat] <;> rfl)); (first | (with_reducible (first | refine way_tt ?_ | refine way_ff ?_ | refine wayc_t ?_ | refine wayc_f ?_ | refine way_tf ?_ | refine way_ft ?_ | refine way_t ?_); try simp only [Env.put]) | with_reducible refine (?_ : WQ _ _ _ _ _ _)))
    | fail
  apply vq_evpf (addZ j8.1 o8.wf Y.vi Z.vi (by omega))
  · rfl
  intro q s14 hq
  rw [wid2_k Y.len Z.len (by decide) (by decide)] at hq
  obtain ⟨es9, G9, ids9, id9, rfl, j9, o9, S2⟩ := GZ.vx hq m
  have S2 := S2.cast (z' := trimZ (y + z) 6) (by simp only [Y.val, Z.val])
  have X := X.step o8.wf j9 o9.ext
  have Y := Y.step o8.wf j9 o9.ext
  have Z := Z.step o8.wf j9 o9.ext
  have S1 := S1.step o8.wf j9 o9.ext
  have M := M.step j9
  have E1 := E1.step o9.ext
  have E2 := E2.step o9.ext
  have E3 := E3.step o9.ext
  have := o9.len
  repeat first
    | with_reducible (first | refine vw_seq ?_ | refine vw_block ?_ | refine vw_rg ?_)
    | ((with_reducible apply vq_free'); (focus rfl))
    | ((with_reducible (first | refine vq_nil ?_ | refine vw_skip ?_ | refine vw_exit ?_ | refine vw_ret ?_)); simp only [Env.keep, Env.get, Env.ev, List.map, Nat.reduceEqDiff, ↓reduceIte, Then, Out'])
    | ((with_reducible (first | apply vq_p | apply vq_r | apply vq_a | apply vq_w | apply vq_g | apply vw_condm)); (focus (simp (disch := (first | with_reducible assumption | omega | ((repeat (first | rw [Store.next_push] | rw [Store.next_set])) <;> omega) | fail)) only [go_sem, Nat.reduceEqDiff, Nat.reduceAdd, Nat.reduceMul, Nat.reduceLeDiff, ↓reduceIte, reduceCtorEq, Int.reduceEq, Int.reduceLT, Int.reduceLE, Int.reduceAdd, Int.reduceSub, Int.reduceMul, Int.reduceNeg, Int.reduceToNat] <;> rfl)); (first | (with_reducible (first | refine way_tt ?_ | refine way_ff ?_ | refine wayc_t ?_ | refine wayc_f ?_ | refine way_tf ?_ | refine way_ft ?_ | refine way_t ?_); try simp only [Env.put]) | with_reducible refine (?_ : WQ _ _ _ _ _ _)))
    | fail
  apply vq_evpf (sameZ j9.1 o9.wf S1.vi S2.vi (by omega))
  · rfl
  intro q s15 hq
  obtain ⟨e4, G10, ids10, rfl, j10, o10, E4⟩ := GE.ex hq m
  have E4 := E4.cast (b' := decide (x = y)) (by simp only [S1.val, S2.val]; exact add_cancel (by decide) tx ty)
  have M := M.step j10
  have E1 := E1.step o10.ext
  have E2 := E2.step o10.ext
  have E3 := E3.step o10.ext
  have := o10.len
  repeat first
    | with_reducible (first | refine vw_seq ?_ | refine vw_block ?_ | refine vw_rg ?_)
    | ((with_reducible apply vq_free'); (focus rfl))
    | ((with_reducible (first | refine vq_nil ?_ | refine vw_skip ?_ | refine vw_exit ?_ | refine vw_ret ?_)); simp only [Env.keep, Env.get, Env.ev, List.map, Nat.reduceEqDiff, ↓reduceIte, Then, Out'])
    | ((with_reducible (first | apply vq_p | apply vq_r | apply vq_a | apply vq_w | apply vq_g | apply vw_condm)); (focus (simp (disch := (first | with_reducible assumption | omega | ((repeat (first | rw [Store.next_push] | rw [Store.next_set])) <;> omega) | fail)) only [go_sem, Nat.reduceEqDiff, Nat.reduceAdd, Nat.reduceMul, Nat.reduceLeDiff, ↓reduceIte, reduceCtorEq, Int.reduceEq, Int.reduceLT, Int.reduceLE, Int.reduceAdd, Int.reduceSub, Int.reduceMul, Int.reduceNeg, Int.reduceToNat] <;> rfl)); (first | (with_reducible (first | refine way_tt ?_ | refine way_ff ?_ | refine wayc_t ?_ | refine wayc_f ?_ | refine way_tf ?_ | refine way_ft ?_ | refine way_t ?_); try simp only [Env.put]) | with_reducible refine (?_ : WQ _ _ _ _ _ _)))
    | fail
  have hlt := j10.1.lt
  have hG11 : GA (s15.push (.cells (cellsI [e1, e2, e3, e4]))) g G10 ids10 := j10.1.push _
  have k11 : (s15.push (.cells (cellsI [e1, e2, e3, e4]))).get s15.next = some (.cells (cellsI [e1, e2, e3, e4])) := get_push_new rfl
  have M := M.newer (Fr.push (ids := []) (s := s15) (.cells (cellsI [e1, e2, e3, e4])))
  apply vq_evpf (evalS hG11 o10.wf M (es := [e1, e2, e3, e4]) ⟨rdI_arr k11, fun id off n e h => by cases e; have := hlt _ h; omega⟩ (by
    have := E1.lt; have := E2.lt; have := E3.lt; have := E4.lt
    intro e he
    simp at he
    rcases he with rfl | rfl | rfl | rfl <;> assumption) (by omega) (by omega) (by simp))
  · rfl
  rintro q s16 ⟨id16, rfl, k16, f16, l16⟩
  have hvals : [e1, e2, e3, e4].map (G10.ev m) = [decide (x < y), decide (y < x), decide (x = y), decide (x = y)] := by
    simp only [List.map, E1.val, E2.val, E3.val, E4.val]
  rw [hvals] at k16
  simp only [List.length_cons, List.length_nil, Nat.reduceAdd]
  generalize hV : [decide (x < y), decide (y < x), decide (x = y), decide (x = y)] = V at *
  have hVl : V.length = 4 := by rw [← hV]; rfl
  have R := rdB_arr k16
  rw [hVl] at R
  repeat first
    | with_reducible (first | refine vw_seq ?_ | refine vw_block ?_ | refine vw_rg ?_)
    | ((with_reducible apply vq_free'); (focus rfl))
    | ((with_reducible (first | refine vq_nil ?_ | refine vw_skip ?_ | refine vw_exit ?_ | refine vw_ret ?_)); simp only [Env.keep, Env.get, Env.ev, List.map, Nat.reduceEqDiff, ↓reduceIte, Then, Out'])
    | ((with_reducible (first | apply vq_p | apply vq_r | apply vq_a | apply vq_w | apply vq_g | apply vw_condm)); (focus (simp (disch := (first | with_reducible assumption | omega | ((repeat (first | rw [Store.next_push] | rw [Store.next_set])) <;> omega) | fail)) only [go_sem, Nat.reduceEqDiff, Nat.reduceAdd, Nat.reduceMul, Nat.reduceLeDiff, ↓reduceIte, reduceCtorEq, Int.reduceEq, Int.reduceLT, Int.reduceLE, Int.reduceAdd, Int.reduceSub, Int.reduceMul, Int.reduceNeg, Int.reduceToNat] <;> rfl)); (first | (with_reducible (first | refine way_tt ?_ | refine way_ff ?_ | refine wayc_t ?_ | refine wayc_f ?_ | refine way_tf ?_ | refine way_ft ?_ | refine way_t ?_); try simp only [Env.put]) | with_reducible refine (?_ : WQ _ _ _ _ _ _)))
    | fail
  refine vw_loop_inv (Q := Out' 0 _) (fun n env s => ∃ i : Nat, i ≤ 3 ∧ n = 3 - i ∧ s = s16 ∧ (env.get 12 = .arr id16 0 4 1 ∧ env.get 13 = .int .i64 (cnt V i : Int) ∧ env.get 14 = .int .i64 (i : Int))) ?_ 3 _ _ ⟨0, by omega, rfl, rfl, by simp [Env.get, cnt]⟩
  rintro n env s ⟨i, hi, rfl, rfl, hE⟩
  by_cases hc : i < 3
  · have c1 : ((i : Int) < 3) = True := eq_true (by omega)
    have hs := i64_succ (i := i) (by omega)
    obtain ⟨p, p1, p2⟩ := R.idxB (i := i) (by omega)
    have hcn : cnt V i ≤ i := by unfold cnt; exact Nat.le_trans (List.countP_le_length) (by simp; omega)
    have hs2 := i64_succ (i := cnt V i) (by omega)
    have hcs := cnt_succ (l := V) (i := i) (by omega)
    by_cases hb : V[i] = true
    · rw [hb] at p2
      rw [hb] at hcs
      repeat first
        | with_reducible (first | refine vw_seq ?_ | refine vw_block ?_ | refine vw_rg ?_)
        | ((with_reducible apply vq_free'); (focus rfl))
        | ((with_reducible (first | refine vq_nil ?_ | refine vw_skip ?_ | refine vw_exit ?_ | refine vw_ret ?_)); simp only [Env.keep, Env.get, Env.ev, List.map, Nat.reduceEqDiff, ↓reduceIte, Then, Out'])
        | ((with_reducible (first | apply vq_p | apply vq_r | apply vq_a | apply vq_w | apply vq_g | apply vw_condm)); (focus (simp (disch := (first | with_reducible assumption | omega | ((repeat (first | rw [Store.next_push] | rw [Store.next_set])) <;> omega) | fail)) only [go_sem, Nat.reduceEqDiff, Nat.reduceAdd, Nat.reduceMul, Nat.reduceLeDiff, ↓reduceIte, reduceCtorEq, Int.reduceEq, Int.reduceLT, Int.reduceLE, Int.reduceAdd, Int.reduceSub, Int.reduceMul, Int.reduceNeg, Int.reduceToNat, hE, c1, p1, p2, hs, hs2] <;> rfl)); (first | (with_reducible (first | refine way_tt ?_ | refine way_ff ?_ | refine wayc_t ?_ | refine wayc_f ?_ | refine way_tf ?_ | refine way_ft ?_ | refine way_t ?_); try simp only [Env.put]) | with_reducible refine (?_ : WQ _ _ _ _ _ _)))
        | fail
      exact ⟨3 - (i + 1), by omega, i + 1, by omega, rfl, trivial, by simp only [Env.get, Nat.reduceEqDiff, ↓reduceIte, hE, hcs, and_self]⟩
    · have hb : V[i] = false := by simpa using hb
      rw [hb] at p2
      rw [hb] at hcs
      repeat first
        | with_reducible (first | refine vw_seq ?_ | refine vw_block ?_ | refine vw_rg ?_)
        | ((with_reducible apply vq_free'); (focus rfl))
        | ((with_reducible (first | refine vq_nil ?_ | refine vw_skip ?_ | refine vw_exit ?_ | refine vw_ret ?_)); simp only [Env.keep, Env.get, Env.ev, List.map, Nat.reduceEqDiff, ↓reduceIte, Then, Out'])
        | ((with_reducible (first | apply vq_p | apply vq_r | apply vq_a | apply vq_w | apply vq_g | apply vw_condm)); (focus (simp (disch := (first | with_reducible assumption | omega | ((repeat (first | rw [Store.next_push] | rw [Store.next_set])) <;> omega) | fail)) only [go_sem, Nat.reduceEqDiff, Nat.reduceAdd, Nat.reduceMul, Nat.reduceLeDiff, ↓reduceIte, reduceCtorEq, Int.reduceEq, Int.reduceLT, Int.reduceLE, Int.reduceAdd, Int.reduceSub, Int.reduceMul, Int.reduceNeg, Int.reduceToNat, hE, c1, p1, p2, hs, hs2] <;> rfl)); (first | (with_reducible (first | refine way_tt ?_ | refine way_ff ?_ | refine wayc_t ?_ | refine wayc_f ?_ | refine way_tf ?_ | refine way_ft ?_ | refine way_t ?_); try simp only [Env.put]) | with_reducible refine (?_ : WQ _ _ _ _ _ _)))
        | fail
      exact ⟨3 - (i + 1), by omega, i + 1, by omega, rfl, trivial, by simp only [Env.get, Nat.reduceEqDiff, ↓reduceIte, hE, hcs, and_self, Bool.false_eq_true, Nat.add_zero]⟩
  · have c1 : ((i : Int) < 3) = False := eq_false (by omega)
    obtain rfl : i = 3 := by omega
    have hc3 : cnt V 3 = 1 := by
      rw [← hV, ← order_n x y]
      unfold cnt
      cases decide (x < y) <;> cases decide (y < x) <;> cases decide (x = y) <;> rfl
    obtain ⟨p, p1, p2⟩ := R.idxB (i := 2) (by omega)
    obtain ⟨p', p1', p2'⟩ := R.idxB (i := 3) (by omega)
    have v2 : V[2] = decide (x = y) := by simp [← hV]
    have v3 : V[3] = decide (x = y) := by simp [← hV]
    rw [v2] at p2
    rw [v3] at p2'
    have hone : (((cnt V 3 : Nat) : Int) == 1) = true := by rw [hc3]; rfl
    have c2 : ((2 : Nat) : Int) = 2 := rfl
    have c3 : ((3 : Nat) : Int) = 3 := rfl
    rw [c2] at p1
    rw [c3] at p1'
    have eb : (decide (x = y) == decide (x = y)) = true := by simp
    repeat first
      | with_reducible (first | refine vw_seq ?_ | refine vw_block ?_ | refine vw_rg ?_)
      | ((with_reducible apply vq_free'); (focus rfl))
      | ((with_reducible (first | refine vq_nil ?_ | refine vw_skip ?_ | refine vw_exit ?_ | refine vw_ret ?_)); simp only [Env.keep, Env.get, Env.ev, List.map, Nat.reduceEqDiff, ↓reduceIte, Then, Out'])
      | ((with_reducible (first | apply vq_p | apply vq_r | apply vq_a | apply vq_w | apply vq_g | apply vw_condm)); (focus (simp (disch := (first | with_reducible assumption | omega | ((repeat (first | rw [Store.next_push] | rw [Store.next_set])) <;> omega) | fail)) only [go_sem, Nat.reduceEqDiff, Nat.reduceAdd, Nat.reduceMul, Nat.reduceLeDiff, ↓reduceIte, reduceCtorEq, Int.reduceEq, Int.reduceLT, Int.reduceLE, Int.reduceAdd, Int.reduceSub, Int.reduceMul, Int.reduceNeg, Int.reduceToNat, hE, c1, hone, p1, p2, p1', p2', eb] <;> rfl)); (first | (with_reducible (first | refine way_tt ?_ | refine way_ff ?_ | refine wayc_t ?_ | refine wayc_f ?_ | refine way_tf ?_ | refine way_ft ?_ | refine way_t ?_); try simp only [Env.put]) | with_reducible refine (?_ : WQ _ _ _ _ _ _)))
      | fail
    exact ⟨.inr trivial, _, (by simp only [resOf, resAll, resOne, Env.get, Nat.reduceEqDiff, ↓reduceIte] <;> rfl), rfl⟩
end Go.Proofs.Ytedoacfoglbfeaa
