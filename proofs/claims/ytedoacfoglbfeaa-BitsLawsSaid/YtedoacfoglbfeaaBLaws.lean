/- BitsLaws, walked. -/
import Derived.Test.YtedoacfoglbfeaaB17
namespace Go.Proofs.Ytedoacfoglbfeaa
open Go.V
set_option maxRecDepth 100000
set_option maxHeartbeats 4000000
set_option linter.unusedSimpArgs false
set_option linter.unusedVariables false

theorem sub_add {x y : Int} {k : Nat} (h1 : 1 ≤ k) (hx : -2 ^ (k - 1) ≤ x ∧ x < 2 ^ (k - 1)) : trimZ (trimZ (x - y) k + y) k = x := by
  have e := emod_add2 (trimZ_emod (n := x - y) (w := k)) (rfl : y % 2 ^ k = y % 2 ^ k)
  have : trimZ (trimZ (x - y) k + y) k = trimZ x k := trimZ_mod (by rw [e]; congr 1; omega)
  rw [this, trimZ_id h1 hx.1 hx.2]
theorem quo_rem {x y : Int} {k : Nat} (h1 : 1 ≤ k) (hx : -2 ^ (k - 1) ≤ x ∧ x < 2 ^ (k - 1)) : trimZ (trimZ (trimZ (x.tdiv y) k * y) k + trimZ (x.tmod y) k) k = x := by
  have e := emod_add2 (Eq.trans (trimZ_emod (n := trimZ (x.tdiv y) k * y) (w := k)) (emod_mul2 (trimZ_emod (n := x.tdiv y) (w := k)) (rfl : y % 2 ^ k = y % 2 ^ k))) (trimZ_emod (n := x.tmod y) (w := k))
  have h := Int.mul_tdiv_add_tmod x y
  have : trimZ (trimZ (trimZ (x.tdiv y) k * y) k + trimZ (x.tmod y) k) k = trimZ x k := trimZ_mod (by rw [e]; congr 1; rw [Int.mul_comm]; exact h)
  rw [this, trimZ_id h1 hx.1 hx.2]

theorem bitsLaws_v {d0 d1 d2 : D} (h0 : ArgT (.int .i64) d0) (h1 : ArgT (.int .i64) d1) (h2 : ArgT (.int .u8) d2) :
    EvP vfs 14 [d0, d1, d2] Store.empty fun r _ => r = .bool true := by
  obtain ⟨a, rfl, ha⟩ := int_of h0
  obtain ⟨b, rfl, hb⟩ := int_of h1
  obtain ⟨w, rfl, hw⟩ := u8_of h2
  obtain ⟨sa, hawake⟩ := awake6'
  have e1 := u8_wrap hw
  have e2 : (w : Int).tmod 9 = ((w % 9 : Nat) : Int) := rfl
  have hk1 : 1 ≤ 1 + w % 9 := by omega
  have hk3 : 1 + w % 9 ≤ 9 := by omega
  have hk2 : 1 + w % 9 ≤ 16 := by omega
  have e3 : IntKind.i64.wrap (1 + ((w % 9 : Nat) : Int)) = ((1 + w % 9 : Nat) : Int) := by rw [i64_id (by omega) (by omega)]; omega
  refine evp_of (vf := vf14) rfl ?_
  simp only [vf14, List.map, List.getD, List.getElem?_cons_zero, List.getElem?_cons_succ, List.getElem?_nil, Option.getD]
  repeat first
    | (apply vq_isoL hawake rfl; (focus rfl); (focus rfl))
    | with_reducible (first | refine vw_seq ?_ | refine vw_block ?_ | refine vw_rg ?_)
    | ((with_reducible apply vq_free'); (focus rfl))
    | ((with_reducible (first | refine vq_nil ?_ | refine vw_skip ?_ | refine vw_exit ?_ | refine vw_ret ?_)); simp only [Env.keep, Env.get, Env.ev, List.map, Nat.reduceEqDiff, ↓reduceIte, Then, Out'])
    | ((with_reducible (first | apply vq_p | apply vq_r | apply vq_a | apply vq_w | apply vq_g | apply vw_condm)); (focus (simp (disch := (first | with_reducible assumption | omega | ((repeat (first | rw [Store.next_push] | rw [Store.next_set])) <;> omega) | fail)) only [go_sem, Nat.reduceEqDiff, Nat.reduceAdd, Nat.reduceMul, Nat.reduceLeDiff, ↓reduceIte, reduceCtorEq, Int.reduceEq, Int.reduceLT, Int.reduceLE, Int.reduceAdd, Int.reduceSub, Int.reduceMul, Int.reduceNeg, Int.reduceToNat, e1, e2, e3] <;> rfl)); (first | (with_reducible (first | refine way_tt ?_ | refine way_ff ?_ | refine wayc_t ?_ | refine wayc_f ?_ | refine way_tf ?_ | refine way_ft ?_ | refine way_t ?_); try simp only [Env.put]) | with_reducible refine (?_ : WQ _ _ _ _ _ _)))
    | fail
  generalize 1 + w % 9 = k at *
  apply vq_evpf new_ok
  · rfl
  rintro q s1 ⟨g, ids, rfl, hG, f1, -⟩
  have hw0 := Gr.new_wf
  have hn0 : Gr.new.nodes.length = 1 := rfl
  have hi0 : Gr.new.ins.length = 0 := rfl
  repeat first
    | with_reducible (first | refine vw_seq ?_ | refine vw_block ?_ | refine vw_rg ?_)
    | ((with_reducible apply vq_free'); (focus rfl))
    | ((with_reducible (first | refine vq_nil ?_ | refine vw_skip ?_ | refine vw_exit ?_ | refine vw_ret ?_)); simp only [Env.keep, Env.get, Env.ev, List.map, Nat.reduceEqDiff, ↓reduceIte, Then, Out'])
    | ((with_reducible (first | apply vq_p | apply vq_r | apply vq_a | apply vq_w | apply vq_g | apply vw_condm)); (focus (simp (disch := (first | with_reducible assumption | omega | ((repeat (first | rw [Store.next_push] | rw [Store.next_set])) <;> omega) | fail)) only [go_sem, Nat.reduceEqDiff, Nat.reduceAdd, Nat.reduceMul, Nat.reduceLeDiff, ↓reduceIte, reduceCtorEq, Int.reduceEq, Int.reduceLT, Int.reduceLE, Int.reduceAdd, Int.reduceSub, Int.reduceMul, Int.reduceNeg, Int.reduceToNat] <;> rfl)); (first | (with_reducible (first | refine way_tt ?_ | refine way_ff ?_ | refine wayc_t ?_ | refine wayc_f ?_ | refine way_tf ?_ | refine way_ft ?_ | refine way_t ?_); try simp only [Env.put]) | with_reducible refine (?_ : WQ _ _ _ _ _ _)))
    | fail
  apply vq_evpf (inputsV (w := k) (n := (k : Int)) hG hw0 (by decide) (by decide) (nOf hk1 hk2))
  · rfl
  rintro q s2 ⟨ex, G2, ids2, idx, rfl, kx, lx, nx, gx, j2, w2, x2, nn2, i2, vx, zx⟩
  repeat first
    | with_reducible (first | refine vw_seq ?_ | refine vw_block ?_ | refine vw_rg ?_)
    | ((with_reducible apply vq_free'); (focus rfl))
    | ((with_reducible (first | refine vq_nil ?_ | refine vw_skip ?_ | refine vw_exit ?_ | refine vw_ret ?_)); simp only [Env.keep, Env.get, Env.ev, List.map, Nat.reduceEqDiff, ↓reduceIte, Then, Out'])
    | ((with_reducible (first | apply vq_p | apply vq_r | apply vq_a | apply vq_w | apply vq_g | apply vw_condm)); (focus (simp (disch := (first | with_reducible assumption | omega | ((repeat (first | rw [Store.next_push] | rw [Store.next_set])) <;> omega) | fail)) only [go_sem, Nat.reduceEqDiff, Nat.reduceAdd, Nat.reduceMul, Nat.reduceLeDiff, ↓reduceIte, reduceCtorEq, Int.reduceEq, Int.reduceLT, Int.reduceLE, Int.reduceAdd, Int.reduceSub, Int.reduceMul, Int.reduceNeg, Int.reduceToNat] <;> rfl)); (first | (with_reducible (first | refine way_tt ?_ | refine way_ff ?_ | refine wayc_t ?_ | refine wayc_f ?_ | refine way_tf ?_ | refine way_ft ?_ | refine way_t ?_); try simp only [Env.put]) | with_reducible refine (?_ : WQ _ _ _ _ _ _)))
    | fail
  apply vq_evpf (inputsV (w := k) (n := (k : Int)) j2.1 w2 (by omega) (by omega) (nOf hk1 hk2))
  · rfl
  rintro q s3 ⟨ey, G3, ids3, idy, rfl, ky, ly, ny, gy, j3, w3, x3, nn3, i3, vy, zy⟩
  repeat first
    | with_reducible (first | refine vw_seq ?_ | refine vw_block ?_ | refine vw_rg ?_)
    | ((with_reducible apply vq_free'); (focus rfl))
    | ((with_reducible (first | refine vq_nil ?_ | refine vw_skip ?_ | refine vw_exit ?_ | refine vw_ret ?_)); simp only [Env.keep, Env.get, Env.ev, List.map, Nat.reduceEqDiff, ↓reduceIte, Then, Out'])
    | ((with_reducible (first | apply vq_p | apply vq_r | apply vq_a | apply vq_w | apply vq_g | apply vw_condm)); (focus (simp (disch := (first | with_reducible assumption | omega | ((repeat (first | rw [Store.next_push] | rw [Store.next_set])) <;> omega) | fail)) only [go_sem, Nat.reduceEqDiff, Nat.reduceAdd, Nat.reduceMul, Nat.reduceLeDiff, ↓reduceIte, reduceCtorEq, Int.reduceEq, Int.reduceLT, Int.reduceLE, Int.reduceAdd, Int.reduceSub, Int.reduceMul, Int.reduceNeg, Int.reduceToNat] <;> rfl)); (first | (with_reducible (first | refine way_tt ?_ | refine way_ff ?_ | refine wayc_t ?_ | refine wayc_f ?_ | refine way_tf ?_ | refine way_ft ?_ | refine way_t ?_); try simp only [Env.put]) | with_reducible refine (?_ : WQ _ _ _ _ _ _)))
    | fail
  apply vq_evpf (bitsV (w := k) (n := (k : Int)) (nOf hk1 hk2))
  · rfl
  rintro q s5 ⟨id5, rfl, k5, f5, l5⟩
  repeat first
    | with_reducible (first | refine vw_seq ?_ | refine vw_block ?_ | refine vw_rg ?_)
    | ((with_reducible apply vq_free'); (focus rfl))
    | ((with_reducible (first | refine vq_nil ?_ | refine vw_skip ?_ | refine vw_exit ?_ | refine vw_ret ?_)); simp only [Env.keep, Env.get, Env.ev, List.map, Nat.reduceEqDiff, ↓reduceIte, Then, Out'])
    | ((with_reducible (first | apply vq_p | apply vq_r | apply vq_a | apply vq_w | apply vq_g | apply vw_condm)); (focus (simp (disch := (first | with_reducible assumption | omega | ((repeat (first | rw [Store.next_push] | rw [Store.next_set])) <;> omega) | fail)) only [go_sem, Nat.reduceEqDiff, Nat.reduceAdd, Nat.reduceMul, Nat.reduceLeDiff, ↓reduceIte, reduceCtorEq, Int.reduceEq, Int.reduceLT, Int.reduceLE, Int.reduceAdd, Int.reduceSub, Int.reduceMul, Int.reduceNeg, Int.reduceToNat] <;> rfl)); (first | (with_reducible (first | refine way_tt ?_ | refine way_ff ?_ | refine wayc_t ?_ | refine wayc_f ?_ | refine way_tf ?_ | refine way_ft ?_ | refine way_t ?_); try simp only [Env.put]) | with_reducible refine (?_ : WQ _ _ _ _ _ _)))
    | fail
  apply vq_evpf (bitsV (w := k) (n := (k : Int)) (nOf hk1 hk2))
  · rfl
  rintro q s6 ⟨id6, rfl, k6, f6, l6⟩
  have k5' := f6.keep k5
  obtain ⟨s7, id7, a7, k7, f7, l7⟩ := appB k5' k6 (bitL_len _ _) (bitL_len _ _) (by omega) (by omega)
  repeat first
    | (apply vq_append'; (focus rfl); (focus rfl); (focus exact a7))
    | with_reducible (first | refine vw_seq ?_ | refine vw_block ?_ | refine vw_rg ?_)
    | ((with_reducible apply vq_free'); (focus rfl))
    | ((with_reducible (first | refine vq_nil ?_ | refine vw_skip ?_ | refine vw_exit ?_ | refine vw_ret ?_)); simp only [Env.keep, Env.get, Env.ev, List.map, Nat.reduceEqDiff, ↓reduceIte, Then, Out'])
    | ((with_reducible (first | apply vq_p | apply vq_r | apply vq_a | apply vq_w | apply vq_g | apply vw_condm)); (focus (simp (disch := (first | with_reducible assumption | omega | ((repeat (first | rw [Store.next_push] | rw [Store.next_set])) <;> omega) | fail)) only [go_sem, Nat.reduceEqDiff, Nat.reduceAdd, Nat.reduceMul, Nat.reduceLeDiff, ↓reduceIte, reduceCtorEq, Int.reduceEq, Int.reduceLT, Int.reduceLE, Int.reduceAdd, Int.reduceSub, Int.reduceMul, Int.reduceNeg, Int.reduceToNat] <;> rfl)); (first | (with_reducible (first | refine way_tt ?_ | refine way_ff ?_ | refine wayc_t ?_ | refine wayc_f ?_ | refine way_tf ?_ | refine way_ft ?_ | refine way_t ?_); try simp only [Env.put]) | with_reducible refine (?_ : WQ _ _ _ _ _ _)))
    | fail
  have g5 := f5.1
  have g6 := f6.1
  have q6 : Fr [] s3 s6 := f5.trans f6 (by simp)
  have q7 : Fr [] s3 s7 := q6.trans f7 (by simp; omega)
  generalize hm : bitL a k ++ bitL b k = m at *
  have hml : m.length = k + k := by rw [← hm]; simp [bitL_len]
  have ma : ∀ i, i < k → m.getD (0 + i) false = bitZ a i := fun i hi => by
    rw [← hm, Nat.zero_add, getD_appL (by rw [bitL_len]; exact hi), bitL_getD hi]
  have mb : ∀ i, i < k → m.getD (k + i) false = bitZ b i := fun i hi => by
    rw [← hm, getD_appR (bitL_len _ _), bitL_getD hi]
  have X : VX s3 ids3 G3 m (.arr idx 0 k 1) ex k (trimZ a k) := (inVX (g := g) (ids := ids) lx vx hk1 hk2 zx ma).step w2 j3 x3
  have Y : VX s3 ids3 G3 m (.arr idy 0 k 1) ey k (trimZ b k) := inVX (g := g) (ids := ids) ly vy hk1 hk2 zy (by rw [i2, hi0, Nat.zero_add]; exact mb)
  have X := X.newer q7
  have Y := Y.newer q7
  have hG9 := (j3.1.newer q7).1
  have M : RdF s7 ids3 (.arr id7 0 (k + k) 1) (cellsB m) := by
    have := rdB_arr k7
    rw [hml] at this
    refine ⟨this, fun id off n e => ?_⟩
    cases e
    have hlt := j3.1.lt
    intro h
    have := hlt _ h
    omega
  have nn : G3.nodes.length ≤ 21 := by omega
  clear zx zy vx vy kx ky k5 k6 k7 k5' a7 ma mb
  have tx := trimZ_lo (n := a) hk1
  have ty := trimZ_lo (n := b) hk1
  generalize trimZ a k = x at *
  generalize trimZ b k = y at *
  apply vq_evpf (subZ hG9 w3 X.vi Y.vi (by omega))
  · rfl
  intro q s8 hq
  rw [wid2_k X.len Y.len hk1 hk2] at hq
  obtain ⟨es4, G4, ids4, id4, rfl, j4, o4, A⟩ := GZ.vx hq m
  have A := A.cast (z' := trimZ (x - y) k) (by simp only [X.val, Y.val])
  have X := X.step w3 j4 o4.ext
  have Y := Y.step w3 j4 o4.ext
  have M := M.step j4
  have := o4.len
  repeat first
    | with_reducible (first | refine vw_seq ?_ | refine vw_block ?_ | refine vw_rg ?_)
    | ((with_reducible apply vq_free'); (focus rfl))
    | ((with_reducible (first | refine vq_nil ?_ | refine vw_skip ?_ | refine vw_exit ?_ | refine vw_ret ?_)); simp only [Env.keep, Env.get, Env.ev, List.map, Nat.reduceEqDiff, ↓reduceIte, Then, Out'])
    | ((with_reducible (first | apply vq_p | apply vq_r | apply vq_a | apply vq_w | apply vq_g | apply vw_condm)); (focus (simp (disch := (first | with_reducible assumption | omega | ((repeat (first | rw [Store.next_push] | rw [Store.next_set])) <;> omega) | fail)) only [go_sem, Nat.reduceEqDiff, Nat.reduceAdd, Nat.reduceMul, Nat.reduceLeDiff, ↓reduceIte, reduceCtorEq, Int.reduceEq, Int.reduceLT, Int.reduceLE, Int.reduceAdd, Int.reduceSub, Int.reduceMul, Int.reduceNeg, Int.reduceToNat] <;> rfl)); (first | (with_reducible (first | refine way_tt ?_ | refine way_ff ?_ | refine wayc_t ?_ | refine wayc_f ?_ | refine way_tf ?_ | refine way_ft ?_ | refine way_t ?_); try simp only [Env.put]) | with_reducible refine (?_ : WQ _ _ _ _ _ _)))
    | fail
  apply vq_evpf (addZ j4.1 o4.wf A.vi Y.vi (by omega))
  · rfl
  intro q s9 hq
  rw [wid2_k A.len Y.len hk1 hk2] at hq
  obtain ⟨es5, G5, ids5, id5, rfl, j5, o5, P⟩ := GZ.vx hq m
  have P := P.cast (z' := x) (by simp only [A.val, Y.val]; exact sub_add hk1 tx)
  have X := X.step o4.wf j5 o5.ext
  have Y := Y.step o4.wf j5 o5.ext
  have M := M.step j5
  have := o5.len
  repeat first
    | with_reducible (first | refine vw_seq ?_ | refine vw_block ?_ | refine vw_rg ?_)
    | ((with_reducible apply vq_free'); (focus rfl))
    | ((with_reducible (first | refine vq_nil ?_ | refine vw_skip ?_ | refine vw_exit ?_ | refine vw_ret ?_)); simp only [Env.keep, Env.get, Env.ev, List.map, Nat.reduceEqDiff, ↓reduceIte, Then, Out'])
    | ((with_reducible (first | apply vq_p | apply vq_r | apply vq_a | apply vq_w | apply vq_g | apply vw_condm)); (focus (simp (disch := (first | with_reducible assumption | omega | ((repeat (first | rw [Store.next_push] | rw [Store.next_set])) <;> omega) | fail)) only [go_sem, Nat.reduceEqDiff, Nat.reduceAdd, Nat.reduceMul, Nat.reduceLeDiff, ↓reduceIte, reduceCtorEq, Int.reduceEq, Int.reduceLT, Int.reduceLE, Int.reduceAdd, Int.reduceSub, Int.reduceMul, Int.reduceNeg, Int.reduceToNat] <;> rfl)); (first | (with_reducible (first | refine way_tt ?_ | refine way_ff ?_ | refine wayc_t ?_ | refine wayc_f ?_ | refine way_tf ?_ | refine way_ft ?_ | refine way_t ?_); try simp only [Env.put]) | with_reducible refine (?_ : WQ _ _ _ _ _ _)))
    | fail
  apply vq_evpf (divZ j5.1 o5.wf X.vi Y.vi (by omega))
  · rfl
  intro q s10 hq
  rw [wid2_k X.len Y.len hk1 hk2] at hq
  obtain ⟨es6, G6, ids6, id6, rfl, j6, o6, A⟩ := GZ.vx hq m
  have A := A.cast (z' := if y = 0 then 0 else trimZ (x.tdiv y) k) (by simp only [X.val, Y.val])
  have X := X.step o5.wf j6 o6.ext
  have Y := Y.step o5.wf j6 o6.ext
  have P := P.step o5.wf j6 o6.ext
  have M := M.step j6
  have := o6.len
  repeat first
    | with_reducible (first | refine vw_seq ?_ | refine vw_block ?_ | refine vw_rg ?_)
    | ((with_reducible apply vq_free'); (focus rfl))
    | ((with_reducible (first | refine vq_nil ?_ | refine vw_skip ?_ | refine vw_exit ?_ | refine vw_ret ?_)); simp only [Env.keep, Env.get, Env.ev, List.map, Nat.reduceEqDiff, ↓reduceIte, Then, Out'])
    | ((with_reducible (first | apply vq_p | apply vq_r | apply vq_a | apply vq_w | apply vq_g | apply vw_condm)); (focus (simp (disch := (first | with_reducible assumption | omega | ((repeat (first | rw [Store.next_push] | rw [Store.next_set])) <;> omega) | fail)) only [go_sem, Nat.reduceEqDiff, Nat.reduceAdd, Nat.reduceMul, Nat.reduceLeDiff, ↓reduceIte, reduceCtorEq, Int.reduceEq, Int.reduceLT, Int.reduceLE, Int.reduceAdd, Int.reduceSub, Int.reduceMul, Int.reduceNeg, Int.reduceToNat] <;> rfl)); (first | (with_reducible (first | refine way_tt ?_ | refine way_ff ?_ | refine wayc_t ?_ | refine wayc_f ?_ | refine way_tf ?_ | refine way_ft ?_ | refine way_t ?_); try simp only [Env.put]) | with_reducible refine (?_ : WQ _ _ _ _ _ _)))
    | fail
  apply vq_evpf (mulZ j6.1 o6.wf A.vi Y.vi (by omega))
  · rfl
  intro q s11 hq
  rw [wid2_k A.len Y.len hk1 hk2] at hq
  obtain ⟨es7, G7, ids7, id7, rfl, j7, o7, B⟩ := GZ.vx hq m
  have B := B.cast (z' := trimZ ((if y = 0 then 0 else trimZ (x.tdiv y) k) * y) k) (by simp only [A.val, Y.val])
  have X := X.step o6.wf j7 o7.ext
  have Y := Y.step o6.wf j7 o7.ext
  have P := P.step o6.wf j7 o7.ext
  have M := M.step j7
  have := o7.len
  repeat first
    | with_reducible (first | refine vw_seq ?_ | refine vw_block ?_ | refine vw_rg ?_)
    | ((with_reducible apply vq_free'); (focus rfl))
    | ((with_reducible (first | refine vq_nil ?_ | refine vw_skip ?_ | refine vw_exit ?_ | refine vw_ret ?_)); simp only [Env.keep, Env.get, Env.ev, List.map, Nat.reduceEqDiff, ↓reduceIte, Then, Out'])
    | ((with_reducible (first | apply vq_p | apply vq_r | apply vq_a | apply vq_w | apply vq_g | apply vw_condm)); (focus (simp (disch := (first | with_reducible assumption | omega | ((repeat (first | rw [Store.next_push] | rw [Store.next_set])) <;> omega) | fail)) only [go_sem, Nat.reduceEqDiff, Nat.reduceAdd, Nat.reduceMul, Nat.reduceLeDiff, ↓reduceIte, reduceCtorEq, Int.reduceEq, Int.reduceLT, Int.reduceLE, Int.reduceAdd, Int.reduceSub, Int.reduceMul, Int.reduceNeg, Int.reduceToNat] <;> rfl)); (first | (with_reducible (first | refine way_tt ?_ | refine way_ff ?_ | refine wayc_t ?_ | refine wayc_f ?_ | refine way_tf ?_ | refine way_ft ?_ | refine way_t ?_); try simp only [Env.put]) | with_reducible refine (?_ : WQ _ _ _ _ _ _)))
    | fail
  apply vq_evpf (remZ j7.1 o7.wf X.vi Y.vi (by omega))
  · rfl
  intro q s12 hq
  rw [wid2_k X.len Y.len hk1 hk2] at hq
  obtain ⟨es8, G8, ids8, id8, rfl, j8, o8, A⟩ := GZ.vx hq m
  have A := A.cast (z' := if y = 0 then 0 else trimZ (x.tmod y) k) (by simp only [X.val, Y.val])
  have X := X.step o7.wf j8 o8.ext
  have Y := Y.step o7.wf j8 o8.ext
  have P := P.step o7.wf j8 o8.ext
  have B := B.step o7.wf j8 o8.ext
  have M := M.step j8
  have := o8.len
  repeat first
    | with_reducible (first | refine vw_seq ?_ | refine vw_block ?_ | refine vw_rg ?_)
    | ((with_reducible apply vq_free'); (focus rfl))
    | ((with_reducible (first | refine vq_nil ?_ | refine vw_skip ?_ | refine vw_exit ?_ | refine vw_ret ?_)); simp only [Env.keep, Env.get, Env.ev, List.map, Nat.reduceEqDiff, ↓reduceIte, Then, Out'])
    | ((with_reducible (first | apply vq_p | apply vq_r | apply vq_a | apply vq_w | apply vq_g | apply vw_condm)); (focus (simp (disch := (first | with_reducible assumption | omega | ((repeat (first | rw [Store.next_push] | rw [Store.next_set])) <;> omega) | fail)) only [go_sem, Nat.reduceEqDiff, Nat.reduceAdd, Nat.reduceMul, Nat.reduceLeDiff, ↓reduceIte, reduceCtorEq, Int.reduceEq, Int.reduceLT, Int.reduceLE, Int.reduceAdd, Int.reduceSub, Int.reduceMul, Int.reduceNeg, Int.reduceToNat] <;> rfl)); (first | (with_reducible (first | refine way_tt ?_ | refine way_ff ?_ | refine wayc_t ?_ | refine wayc_f ?_ | refine way_tf ?_ | refine way_ft ?_ | refine way_t ?_); try simp only [Env.put]) | with_reducible refine (?_ : WQ _ _ _ _ _ _)))
    | fail
  apply vq_evpf (addZ j8.1 o8.wf B.vi A.vi (by omega))
  · rfl
  intro q s13 hq
  rw [wid2_k B.len A.len hk1 hk2] at hq
  obtain ⟨es9, G9, ids9, id9, rfl, j9, o9, C⟩ := GZ.vx hq m
  have X := X.step o8.wf j9 o9.ext
  have Y := Y.step o8.wf j9 o9.ext
  have P := P.step o8.wf j9 o9.ext
  have M := M.step j9
  have := o9.len
  have hC : y ≠ 0 → VX s13 ids9 G9 m (.arr id9 0 k 1) es9 k x := fun hy => C.cast (by simp only [A.val, B.val, if_neg hy]; exact quo_rem hk1 tx)
  repeat first
    | with_reducible (first | refine vw_seq ?_ | refine vw_block ?_ | refine vw_rg ?_)
    | ((with_reducible apply vq_free'); (focus rfl))
    | ((with_reducible (first | refine vq_nil ?_ | refine vw_skip ?_ | refine vw_exit ?_ | refine vw_ret ?_)); simp only [Env.keep, Env.get, Env.ev, List.map, Nat.reduceEqDiff, ↓reduceIte, Then, Out'])
    | ((with_reducible (first | apply vq_p | apply vq_r | apply vq_a | apply vq_w | apply vq_g | apply vw_condm)); (focus (simp (disch := (first | with_reducible assumption | omega | ((repeat (first | rw [Store.next_push] | rw [Store.next_set])) <;> omega) | fail)) only [go_sem, Nat.reduceEqDiff, Nat.reduceAdd, Nat.reduceMul, Nat.reduceLeDiff, ↓reduceIte, reduceCtorEq, Int.reduceEq, Int.reduceLT, Int.reduceLE, Int.reduceAdd, Int.reduceSub, Int.reduceMul, Int.reduceNeg, Int.reduceToNat] <;> rfl)); (first | (with_reducible (first | refine way_tt ?_ | refine way_ff ?_ | refine wayc_t ?_ | refine wayc_f ?_ | refine way_tf ?_ | refine way_ft ?_ | refine way_t ?_); try simp only [Env.put]) | with_reducible refine (?_ : WQ _ _ _ _ _ _)))
    | fail
  apply vq_evpf (sameZ j9.1 o9.wf P.vi X.vi (by omega))
  · rfl
  intro q s14 hq
  obtain ⟨e1, G10, ids10, rfl, j10, o10, E1⟩ := GE.ex hq m
  have E1 := E1.cast (b' := true) (by simp only [P.val, X.val, decide_true])
  have hC : y ≠ 0 → VX s14 ids10 G10 m (.arr id9 0 k 1) es9 k x := fun hy => (hC hy).step o9.wf j10 o10.ext
  have X := X.step o9.wf j10 o10.ext
  have Y := Y.step o9.wf j10 o10.ext
  have C := C.step o9.wf j10 o10.ext
  have M := M.step j10
  have := o10.len
  repeat first
    | with_reducible (first | refine vw_seq ?_ | refine vw_block ?_ | refine vw_rg ?_)
    | ((with_reducible apply vq_free'); (focus rfl))
    | ((with_reducible (first | refine vq_nil ?_ | refine vw_skip ?_ | refine vw_exit ?_ | refine vw_ret ?_)); simp only [Env.keep, Env.get, Env.ev, List.map, Nat.reduceEqDiff, ↓reduceIte, Then, Out'])
    | ((with_reducible (first | apply vq_p | apply vq_r | apply vq_a | apply vq_w | apply vq_g | apply vw_condm)); (focus (simp (disch := (first | with_reducible assumption | omega | ((repeat (first | rw [Store.next_push] | rw [Store.next_set])) <;> omega) | fail)) only [go_sem, Nat.reduceEqDiff, Nat.reduceAdd, Nat.reduceMul, Nat.reduceLeDiff, ↓reduceIte, reduceCtorEq, Int.reduceEq, Int.reduceLT, Int.reduceLE, Int.reduceAdd, Int.reduceSub, Int.reduceMul, Int.reduceNeg, Int.reduceToNat] <;> rfl)); (first | (with_reducible (first | refine way_tt ?_ | refine way_ff ?_ | refine wayc_t ?_ | refine wayc_f ?_ | refine way_tf ?_ | refine way_ft ?_ | refine way_t ?_); try simp only [Env.put]) | with_reducible refine (?_ : WQ _ _ _ _ _ _)))
    | fail
  apply vq_evpf (sameZ j10.1 o10.wf C.vi X.vi (by omega))
  · rfl
  intro q s15 hq
  obtain ⟨e2, G11, ids11, rfl, j11, o11, E2⟩ := GE.ex hq m
  have E2 : EX G11 m e2 (decide (valE G10 m es9 = valE G10 m ex)) := E2
  have hE2 : y ≠ 0 → decide (valE G10 m es9 = valE G10 m ex) = true := fun hy => by rw [(hC hy).val, X.val]; simp
  generalize decide (valE G10 m es9 = valE G10 m ex) = v1 at *
  have Y := Y.step o10.wf j11 o11.ext
  have E1 := E1.step o11.ext
  have M := M.step j11
  have := o11.len
  repeat first
    | with_reducible (first | refine vw_seq ?_ | refine vw_block ?_ | refine vw_rg ?_)
    | ((with_reducible apply vq_free'); (focus rfl))
    | ((with_reducible (first | refine vq_nil ?_ | refine vw_skip ?_ | refine vw_exit ?_ | refine vw_ret ?_)); simp only [Env.keep, Env.get, Env.ev, List.map, Nat.reduceEqDiff, ↓reduceIte, Then, Out'])
    | ((with_reducible (first | apply vq_p | apply vq_r | apply vq_a | apply vq_w | apply vq_g | apply vw_condm)); (focus (simp (disch := (first | with_reducible assumption | omega | ((repeat (first | rw [Store.next_push] | rw [Store.next_set])) <;> omega) | fail)) only [go_sem, Nat.reduceEqDiff, Nat.reduceAdd, Nat.reduceMul, Nat.reduceLeDiff, ↓reduceIte, reduceCtorEq, Int.reduceEq, Int.reduceLT, Int.reduceLE, Int.reduceAdd, Int.reduceSub, Int.reduceMul, Int.reduceNeg, Int.reduceToNat] <;> rfl)); (first | (with_reducible (first | refine way_tt ?_ | refine way_ff ?_ | refine wayc_t ?_ | refine wayc_f ?_ | refine way_tf ?_ | refine way_ft ?_ | refine way_t ?_); try simp only [Env.put]) | with_reducible refine (?_ : WQ _ _ _ _ _ _)))
    | fail
  apply vq_evpf (someZ j11.1 o11.wf Y.vi (by omega))
  · rfl
  intro q s17 hq
  obtain ⟨e3, G12, ids12, rfl, j12, o12, E3⟩ := GE.ex hq m
  have E3 := E3.cast (b' := decide (y ≠ 0)) (by simp only [Y.val])
  have E1 := E1.step o12.ext
  have E2 := E2.step o12.ext
  have M := M.step j12
  have := o12.len
  repeat first
    | with_reducible (first | refine vw_seq ?_ | refine vw_block ?_ | refine vw_rg ?_)
    | ((with_reducible apply vq_free'); (focus rfl))
    | ((with_reducible (first | refine vq_nil ?_ | refine vw_skip ?_ | refine vw_exit ?_ | refine vw_ret ?_)); simp only [Env.keep, Env.get, Env.ev, List.map, Nat.reduceEqDiff, ↓reduceIte, Then, Out'])
    | ((with_reducible (first | apply vq_p | apply vq_r | apply vq_a | apply vq_w | apply vq_g | apply vw_condm)); (focus (simp (disch := (first | with_reducible assumption | omega | ((repeat (first | rw [Store.next_push] | rw [Store.next_set])) <;> omega) | fail)) only [go_sem, Nat.reduceEqDiff, Nat.reduceAdd, Nat.reduceMul, Nat.reduceLeDiff, ↓reduceIte, reduceCtorEq, Int.reduceEq, Int.reduceLT, Int.reduceLE, Int.reduceAdd, Int.reduceSub, Int.reduceMul, Int.reduceNeg, Int.reduceToNat] <;> rfl)); (first | (with_reducible (first | refine way_tt ?_ | refine way_ff ?_ | refine wayc_t ?_ | refine wayc_f ?_ | refine way_tf ?_ | refine way_ft ?_ | refine way_t ?_); try simp only [Env.put]) | with_reducible refine (?_ : WQ _ _ _ _ _ _)))
    | fail
  have hlt := j12.1.lt
  have hGl : GA (s17.push (.cells (cellsI [e1, e2, e3]))) g G12 ids12 := j12.1.push _
  have kl : (s17.push (.cells (cellsI [e1, e2, e3]))).get s17.next = some (.cells (cellsI [e1, e2, e3])) := get_push_new rfl
  have M := M.newer (Fr.push (ids := []) (s := s17) (.cells (cellsI [e1, e2, e3])))
  apply vq_evpf (evalS hGl o12.wf M (es := [e1, e2, e3]) ⟨rdI_arr kl, fun id off n e h => by cases e; have := hlt _ h; omega⟩ (by
    have := E1.lt; have := E2.lt; have := E3.lt
    intro e he
    simp at he
    rcases he with rfl | rfl | rfl <;> assumption) (by omega) (by omega) (by simp))
  · rfl
  rintro q s16 ⟨id16, rfl, k16, f16, l16⟩
  have hvals : [e1, e2, e3].map (G12.ev m) = [true, v1, decide (y ≠ 0)] := by
    simp only [List.map, E1.val, E2.val, E3.val]
  rw [hvals] at k16
  have R := rdB_arr k16
  obtain ⟨p0, p01, p02⟩ := R.idxB (i := 0) (by simp)
  obtain ⟨p1, p11, p12⟩ := R.idxB (i := 1) (by simp)
  obtain ⟨p2, p21, p22⟩ := R.idxB (i := 2) (by simp)
  have c0 : ((0 : Nat) : Int) = 0 := rfl
  have c1 : ((1 : Nat) : Int) = 1 := rfl
  have c2 : ((2 : Nat) : Int) = 2 := rfl
  simp only [c0, c1, c2, List.getElem_cons_zero, List.getElem_cons_succ, List.length_cons, List.length_nil, Nat.reduceAdd] at p01 p02 p11 p12 p21 p22
  simp only [List.length_cons, List.length_nil, Nat.reduceAdd]
  cases v1 with
  | true =>
    repeat first
      | with_reducible (first | refine vw_seq ?_ | refine vw_block ?_ | refine vw_rg ?_)
      | ((with_reducible apply vq_free'); (focus rfl))
      | ((with_reducible (first | refine vq_nil ?_ | refine vw_skip ?_ | refine vw_exit ?_ | refine vw_ret ?_)); simp only [Env.keep, Env.get, Env.ev, List.map, Nat.reduceEqDiff, ↓reduceIte, Then, Out'])
      | ((with_reducible (first | apply vq_p | apply vq_r | apply vq_a | apply vq_w | apply vq_g | apply vw_condm)); (focus (simp (disch := (first | with_reducible assumption | omega | ((repeat (first | rw [Store.next_push] | rw [Store.next_set])) <;> omega) | fail)) only [go_sem, Nat.reduceEqDiff, Nat.reduceAdd, Nat.reduceMul, Nat.reduceLeDiff, ↓reduceIte, reduceCtorEq, Int.reduceEq, Int.reduceLT, Int.reduceLE, Int.reduceAdd, Int.reduceSub, Int.reduceMul, Int.reduceNeg, Int.reduceToNat, p01, p02, p11, p12, p21, p22] <;> rfl)); (first | (with_reducible (first | refine way_tt ?_ | refine way_ff ?_ | refine wayc_t ?_ | refine wayc_f ?_ | refine way_tf ?_ | refine way_ft ?_ | refine way_t ?_); try simp only [Env.put]) | with_reducible refine (?_ : WQ _ _ _ _ _ _)))
      | fail
    exact ⟨.inr trivial, _, (by simp only [resOf, resAll, resOne, Env.get, Nat.reduceEqDiff, ↓reduceIte] <;> rfl), rfl⟩
  | false =>
    have hy : decide (y ≠ 0) = false := by
      rw [decide_eq_false_iff_not]
      intro h
      have := hE2 h
      cases this
    rw [hy] at p22
    repeat first
      | with_reducible (first | refine vw_seq ?_ | refine vw_block ?_ | refine vw_rg ?_)
      | ((with_reducible apply vq_free'); (focus rfl))
      | ((with_reducible (first | refine vq_nil ?_ | refine vw_skip ?_ | refine vw_exit ?_ | refine vw_ret ?_)); simp only [Env.keep, Env.get, Env.ev, List.map, Nat.reduceEqDiff, ↓reduceIte, Then, Out'])
      | ((with_reducible (first | apply vq_p | apply vq_r | apply vq_a | apply vq_w | apply vq_g | apply vw_condm)); (focus (simp (disch := (first | with_reducible assumption | omega | ((repeat (first | rw [Store.next_push] | rw [Store.next_set])) <;> omega) | fail)) only [go_sem, Nat.reduceEqDiff, Nat.reduceAdd, Nat.reduceMul, Nat.reduceLeDiff, ↓reduceIte, reduceCtorEq, Int.reduceEq, Int.reduceLT, Int.reduceLE, Int.reduceAdd, Int.reduceSub, Int.reduceMul, Int.reduceNeg, Int.reduceToNat, p01, p02, p11, p12, p21, p22] <;> rfl)); (first | (with_reducible (first | refine way_tt ?_ | refine way_ff ?_ | refine wayc_t ?_ | refine wayc_f ?_ | refine way_tf ?_ | refine way_ft ?_ | refine way_t ?_); try simp only [Env.put]) | with_reducible refine (?_ : WQ _ _ _ _ _ _)))
      | fail
    exact ⟨.inr trivial, _, (by simp only [resOf, resAll, resOne, Env.get, Nat.reduceEqDiff, ↓reduceIte] <;> rfl), rfl⟩
end Go.Proofs.Ytedoacfoglbfeaa
