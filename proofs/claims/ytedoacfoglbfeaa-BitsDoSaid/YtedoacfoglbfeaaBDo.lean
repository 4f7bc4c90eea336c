/- BitsDo, walked. -/
import Derived.Test.YtedoacfoglbfeaaB17
namespace Go.Proofs.Ytedoacfoglbfeaa
open Go.V
set_option maxRecDepth 100000
set_option maxHeartbeats 4000000
set_option linter.unusedSimpArgs false
set_option linter.unusedVariables false

theorem bitsDo_v {d0 d1 d2 : D} (h0 : ArgT (.int .i64) d0) (h1 : ArgT (.int .i64) d1) (h2 : ArgT (.arr 2 (.int .u8)) d2) :
    EvP vfs 15 [d0, d1, d2] Store.empty fun r _ => r = .bool true := by
  obtain ⟨a, rfl, ha⟩ := int_of h0
  obtain ⟨b, rfl, hb⟩ := int_of h1
  obtain ⟨n1, n2, rfl, hx, hy⟩ := u8x2_of h2
  obtain ⟨sa, hawake⟩ := awake6'
  have e1 := u8_wrap hx
  have f1 := u8_wrap hy
  have e2 : (n1 : Int).tmod 10 = ((n1 % 10 : Nat) : Int) := rfl
  have f2 : (n2 : Int).tmod 10 = ((n2 % 10 : Nat) : Int) := rfl
  have hv1 : 1 ≤ 1 + n1 % 10 := by omega
  have hv3 : 1 + n1 % 10 ≤ 10 := by omega
  have hw1 : 1 ≤ 1 + n2 % 10 := by omega
  have hw3 : 1 + n2 % 10 ≤ 10 := by omega
  have e3 : IntKind.i64.wrap (1 + ((n1 % 10 : Nat) : Int)) = ((1 + n1 % 10 : Nat) : Int) := by rw [i64_id (by omega) (by omega)]; omega
  have f3 : IntKind.i64.wrap (1 + ((n2 % 10 : Nat) : Int)) = ((1 + n2 % 10 : Nat) : Int) := by rw [i64_id (by omega) (by omega)]; omega
  refine evp_of (vf := vf15) rfl ?_
  simp only [vf15, List.map, List.getD, List.getElem?_cons_zero, List.getElem?_cons_succ, List.getElem?_nil, Option.getD]
  repeat first
    | (apply vq_isoL hawake rfl; (focus rfl); (focus rfl))
    | with_reducible (first | refine vw_seq ?_ | refine vw_block ?_ | refine vw_rg ?_)
    | ((with_reducible apply vq_free'); (focus rfl))
    | ((with_reducible (first | refine vq_nil ?_ | refine vw_skip ?_ | refine vw_exit ?_ | refine vw_ret ?_)); simp only [Env.keep, Env.get, Env.ev, List.map, Nat.reduceEqDiff, ↓reduceIte, Then, Out'])
    | ((with_reducible (first | apply vq_p | apply vq_r | apply vq_a | apply vq_w | apply vq_g | apply vw_condm)); (focus (simp (disch := (first | with_reducible assumption | omega | ((repeat (first | rw [Store.next_push] | rw [Store.next_set])) <;> omega) | fail)) only [go_sem, Nat.reduceEqDiff, Nat.reduceAdd, Nat.reduceMul, Nat.reduceLeDiff, ↓reduceIte, reduceCtorEq, Int.reduceEq, Int.reduceLT, Int.reduceLE, Int.reduceAdd, Int.reduceSub, Int.reduceMul, Int.reduceNeg, Int.reduceToNat, e1, e2, e3, f1, f2, f3] <;> rfl)); (first | (with_reducible (first | refine way_tt ?_ | refine way_ff ?_ | refine wayc_t ?_ | refine wayc_f ?_ | refine way_tf ?_ | refine way_ft ?_ | refine way_t ?_); try simp only [Env.put]) | with_reducible refine (?_ : WQ _ _ _ _ _ _)))
    | fail
  generalize 1 + n1 % 10 = v at *
  generalize 1 + n2 % 10 = w at *
  have hv2 : v ≤ 16 := by omega
  have hw2 : w ≤ 16 := by omega
  apply vq_evpf new_ok
  · rfl
  rintro q s1 ⟨g, ids, rfl, hG, f1, -⟩
  have hw0 := Gr.new_wf
  have hn0 : Gr.new.nodes.length = 1 := rfl
  have hi0 : Gr.new.ins.length = 0 := rfl
  repeat first
    | with_reducible (first | refine vw_seq ?_ | refine vw_block ?_ | refine vw_rg ?_)
    | ((with_reducible apply vq_free'); (focus rfl))
    | ((with_reducible (first | refine vq_nil ?_ | refine vw_skip ?_ | refine vw_exit ?_ | refine vw_ret ?_)); simp only [Env.keep, Env.get, Env.ev, List.map, Nat.reduceEqDiff, ↓reduceIte, Then, Out'])
    | ((with_reducible (first | apply vq_p | apply vq_r | apply vq_a | apply vq_w | apply vq_g | apply vw_condm)); (focus (simp (disch := (first | with_reducible assumption | omega | ((repeat (first | rw [Store.next_push] | rw [Store.next_set])) <;> omega) | fail)) only [go_sem, Nat.reduceEqDiff, Nat.reduceAdd, Nat.reduceMul, Nat.reduceLeDiff, ↓reduceIte, reduceCtorEq, Int.reduceEq, Int.reduceLT, Int.reduceLE, Int.reduceAdd, Int.reduceSub, Int.reduceMul, Int.reduceNeg, Int.reduceToNat] <;> rfl)); (first | (with_reducible (first | refine way_tt ?_ | refine way_ff ?_ | refine wayc_t ?_ | refine wayc_f ?_ | refine way_tf ?_ | refine way_ft ?_ | refine way_t ?_); try simp only [Env.put]) | with_reducible refine (?_ : WQ _ _ _ _ _ _)))
    | fail
  apply vq_evpf (inputsV (w := v) (n := (v : Int)) hG hw0 (by decide) (by decide) (nOf hv1 hv2))
  · rfl
  rintro q s2 ⟨ex, G2, ids2, idx, rfl, kx, lx, nx, gx, j2, w2, x2, nn2, i2, vx, zx⟩
  repeat first
    | with_reducible (first | refine vw_seq ?_ | refine vw_block ?_ | refine vw_rg ?_)
    | ((with_reducible apply vq_free'); (focus rfl))
    | ((with_reducible (first | refine vq_nil ?_ | refine vw_skip ?_ | refine vw_exit ?_ | refine vw_ret ?_)); simp only [Env.keep, Env.get, Env.ev, List.map, Nat.reduceEqDiff, ↓reduceIte, Then, Out'])
    | ((with_reducible (first | apply vq_p | apply vq_r | apply vq_a | apply vq_w | apply vq_g | apply vw_condm)); (focus (simp (disch := (first | with_reducible assumption | omega | ((repeat (first | rw [Store.next_push] | rw [Store.next_set])) <;> omega) | fail)) only [go_sem, Nat.reduceEqDiff, Nat.reduceAdd, Nat.reduceMul, Nat.reduceLeDiff, ↓reduceIte, reduceCtorEq, Int.reduceEq, Int.reduceLT, Int.reduceLE, Int.reduceAdd, Int.reduceSub, Int.reduceMul, Int.reduceNeg, Int.reduceToNat] <;> rfl)); (first | (with_reducible (first | refine way_tt ?_ | refine way_ff ?_ | refine wayc_t ?_ | refine wayc_f ?_ | refine way_tf ?_ | refine way_ft ?_ | refine way_t ?_); try simp only [Env.put]) | with_reducible refine (?_ : WQ _ _ _ _ _ _)))
    | fail
  apply vq_evpf (inputsV (w := w) (n := (w : Int)) j2.1 w2 (by omega) (by omega) (nOf hw1 hw2))
  · rfl
  rintro q s3 ⟨ey, G3, ids3, idy, rfl, ky, ly, ny, gy, j3, w3, x3, nn3, i3, vy, zy⟩
  have hTa := trimI hv1 hv2 ha
  have hTb := trimI hw1 hw2 hb
  repeat first
    | (apply vq_isoL hTa rfl; (focus rfl); (focus rfl))
    | (apply vq_isoL hTb rfl; (focus rfl); (focus rfl))
    | with_reducible (first | refine vw_seq ?_ | refine vw_block ?_ | refine vw_rg ?_)
    | ((with_reducible apply vq_free'); (focus rfl))
    | ((with_reducible (first | refine vq_nil ?_ | refine vw_skip ?_ | refine vw_exit ?_ | refine vw_ret ?_)); simp only [Env.keep, Env.get, Env.ev, List.map, Nat.reduceEqDiff, ↓reduceIte, Then, Out'])
    | ((with_reducible (first | apply vq_p | apply vq_r | apply vq_a | apply vq_w | apply vq_g | apply vw_condm)); (focus (simp (disch := (first | with_reducible assumption | omega | ((repeat (first | rw [Store.next_push] | rw [Store.next_set])) <;> omega) | fail)) only [go_sem, Nat.reduceEqDiff, Nat.reduceAdd, Nat.reduceMul, Nat.reduceLeDiff, ↓reduceIte, reduceCtorEq, Int.reduceEq, Int.reduceLT, Int.reduceLE, Int.reduceAdd, Int.reduceSub, Int.reduceMul, Int.reduceNeg, Int.reduceToNat] <;> rfl)); (first | (with_reducible (first | refine way_tt ?_ | refine way_ff ?_ | refine wayc_t ?_ | refine wayc_f ?_ | refine way_tf ?_ | refine way_ft ?_ | refine way_t ?_); try simp only [Env.put]) | with_reducible refine (?_ : WQ _ _ _ _ _ _)))
    | fail
  have tx := trimZ_lo (n := a) hv1
  have ty := trimZ_lo (n := b) hw1
  have ta := trim16 (n := a) hv1 hv2
  have tb := trim16 (n := b) hw1 hw2
  have hxx : trimZ (trimZ a v) v = trimZ a v := trimZ_trimZ
  have hyy : trimZ (trimZ b w) w = trimZ b w := trimZ_trimZ
  generalize trimZ a v = x at *
  generalize trimZ b w = y at *
  apply vq_evpf (bitsV (w := v) (n := (v : Int)) (nOf hv1 hv2))
  · rfl
  rintro q s5 ⟨id5, rfl, k5, f5, l5⟩
  repeat first
    | with_reducible (first | refine vw_seq ?_ | refine vw_block ?_ | refine vw_rg ?_)
    | ((with_reducible apply vq_free'); (focus rfl))
    | ((with_reducible (first | refine vq_nil ?_ | refine vw_skip ?_ | refine vw_exit ?_ | refine vw_ret ?_)); simp only [Env.keep, Env.get, Env.ev, List.map, Nat.reduceEqDiff, ↓reduceIte, Then, Out'])
    | ((with_reducible (first | apply vq_p | apply vq_r | apply vq_a | apply vq_w | apply vq_g | apply vw_condm)); (focus (simp (disch := (first | with_reducible assumption | omega | ((repeat (first | rw [Store.next_push] | rw [Store.next_set])) <;> omega) | fail)) only [go_sem, Nat.reduceEqDiff, Nat.reduceAdd, Nat.reduceMul, Nat.reduceLeDiff, ↓reduceIte, reduceCtorEq, Int.reduceEq, Int.reduceLT, Int.reduceLE, Int.reduceAdd, Int.reduceSub, Int.reduceMul, Int.reduceNeg, Int.reduceToNat] <;> rfl)); (first | (with_reducible (first | refine way_tt ?_ | refine way_ff ?_ | refine wayc_t ?_ | refine wayc_f ?_ | refine way_tf ?_ | refine way_ft ?_ | refine way_t ?_); try simp only [Env.put]) | with_reducible refine (?_ : WQ _ _ _ _ _ _)))
    | fail
  apply vq_evpf (bitsV (w := w) (n := (w : Int)) (nOf hw1 hw2))
  · rfl
  rintro q s6 ⟨id6, rfl, k6, f6, l6⟩
  have k5' := f6.keep k5
  obtain ⟨s7, id7, a7, k7, f7, l7⟩ := appB k5' k6 (bitL_len _ _) (bitL_len _ _) (by omega) (by omega)
  repeat first
    | (apply vq_append'; (focus rfl); (focus rfl); (focus exact a7))
    | with_reducible (first | refine vw_seq ?_ | refine vw_block ?_ | refine vw_rg ?_)
    | ((with_reducible apply vq_free'); (focus rfl))
    | ((with_reducible (first | refine vq_nil ?_ | refine vw_skip ?_ | refine vw_exit ?_ | refine vw_ret ?_)); simp only [Env.keep, Env.get, Env.ev, List.map, Nat.reduceEqDiff, ↓reduceIte, Then, Out'])
    | ((with_reducible (first | apply vq_p | apply vq_r | apply vq_a | apply vq_w | apply vq_g | apply vw_condm)); (focus (simp (disch := (first | with_reducible assumption | omega | ((repeat (first | rw [Store.next_push] | rw [Store.next_set])) <;> omega) | fail)) only [go_sem, Nat.reduceEqDiff, Nat.reduceAdd, Nat.reduceMul, Nat.reduceLeDiff, ↓reduceIte, reduceCtorEq, Int.reduceEq, Int.reduceLT, Int.reduceLE, Int.reduceAdd, Int.reduceSub, Int.reduceMul, Int.reduceNeg, Int.reduceToNat] <;> rfl)); (first | (with_reducible (first | refine way_tt ?_ | refine way_ff ?_ | refine wayc_t ?_ | refine wayc_f ?_ | refine way_tf ?_ | refine way_ft ?_ | refine way_t ?_); try simp only [Env.put]) | with_reducible refine (?_ : WQ _ _ _ _ _ _)))
    | fail
  have g5 := f5.1
  have g6 := f6.1
  have q6 : Fr [] s3 s6 := f5.trans f6 (by simp)
  have q7 : Fr [] s3 s7 := q6.trans f7 (by simp; omega)
  generalize hm : bitL x v ++ bitL y w = m at *
  have hml : m.length = v + w := by rw [← hm]; simp [bitL_len]
  have ma : ∀ i, i < v → m.getD (0 + i) false = bitZ x i := fun i hi => by
    rw [← hm, Nat.zero_add, getD_appL (by rw [bitL_len]; exact hi), bitL_getD hi]
  have mb : ∀ i, i < w → m.getD (v + i) false = bitZ y i := fun i hi => by
    rw [← hm, getD_appR (bitL_len _ _), bitL_getD hi]
  have X : VX s7 ids3 G3 m (.arr idx 0 v 1) ex v x := (((inVX (g := g) (ids := ids) lx vx hv1 hv2 zx ma).step w2 j3 x3).newer q7).cast hxx
  have Y : VX s7 ids3 G3 m (.arr idy 0 w 1) ey w y := ((inVX (g := g) (ids := ids) ly vy hw1 hw2 zy (by rw [i2, hi0, Nat.zero_add]; exact mb)).newer q7).cast hyy
  have hG9 := (j3.1.newer q7).1
  have M : RdF s7 ids3 (.arr id7 0 (v + w) 1) (cellsB m) := by
    have := rdB_arr k7
    rw [hml] at this
    refine ⟨this, fun id off n e => ?_⟩
    cases e
    have hlt := j3.1.lt
    intro h
    have := hlt _ h
    omega
  have nn : G3.nodes.length ≤ 21 := by omega
  clear zx zy vx vy kx ky k5 k6 k7 k5' a7 ma mb
  have hwid : wid2 ex ey = max v w := wid2_id X.len Y.len hv1 hv2 hw1 hw2
  have hmax : max (v : Int) (w : Int) = ((max v w : Nat) : Int) := maxN
  have hM1 : 1 ≤ max v w := by omega
  have hM2 : max v w ≤ 16 := by omega
  generalize hK : max v w = K at *
  refine vw_loop_inv (Q := Out' 0 _) (fun n env s4 => ∃ (op : Nat) (G4 : Gr) (ids4 : List Nat), op ≤ 5 ∧ n = 5 - op ∧ GA s4 g G4 ids4 ∧ G4.WF ∧ G4.nodes.length ≤ 21 + 5500 * op ∧ VX s4 ids4 G4 m (.arr idx 0 v 1) ex v x ∧ VX s4 ids4 G4 m (.arr idy 0 w 1) ey w y ∧ RdF s4 ids4 (.arr id7 0 (v + w) 1) (cellsB m) ∧
    (env.get 0 = .int .i64 x ∧ env.get 1 = .int .i64 y ∧ env.get 7 = .int .i64 (v : Int) ∧ env.get 8 = .int .i64 (w : Int) ∧ env.get 9 = .ptr g 0 ∧ env.get 10 = .arr idx 0 v 1 ∧ env.get 11 = .arr idy 0 w 1 ∧ env.get 12 = .arr id7 0 (v + w) 1 ∧ env.get 13 = .int .i64 (op : Int))) ?_ 5 _ _
    ⟨0, G3, ids3, by omega, rfl, hG9, w3, by omega, X, Y, M, by simp [Env.get]⟩
  clear X Y M
  rintro n env s4 ⟨op, G4, ids4, hop, rfl, hG4, hw4, hl4, X, Y, M, hE⟩
  by_cases hc : op < 5
  · have c1 : ((op : Int) < 5) = True := eq_true (by omega)
    have hs := i64_succ (i := op) (by omega)
    repeat first
      | with_reducible (first | refine vw_seq ?_ | refine vw_block ?_ | refine vw_rg ?_)
      | ((with_reducible apply vq_free'); (focus rfl))
      | ((with_reducible (first | refine vq_nil ?_ | refine vw_skip ?_ | refine vw_exit ?_ | refine vw_ret ?_)); simp only [Env.keep, Env.get, Env.ev, List.map, Nat.reduceEqDiff, ↓reduceIte, Then, Out'])
      | ((with_reducible (first | apply vq_p | apply vq_r | apply vq_a | apply vq_w | apply vq_g | apply vw_condm)); (focus (simp (disch := (first | with_reducible assumption | omega | ((repeat (first | rw [Store.next_push] | rw [Store.next_set])) <;> omega) | fail)) only [go_sem, Nat.reduceEqDiff, Nat.reduceAdd, Nat.reduceMul, Nat.reduceLeDiff, ↓reduceIte, reduceCtorEq, Int.reduceEq, Int.reduceLT, Int.reduceLE, Int.reduceAdd, Int.reduceSub, Int.reduceMul, Int.reduceNeg, Int.reduceToNat, hE, c1] <;> rfl)); (first | (with_reducible (first | refine way_tt ?_ | refine way_ff ?_ | refine wayc_t ?_ | refine wayc_f ?_ | refine way_tf ?_ | refine way_ft ?_ | refine way_t ?_); try simp only [Env.put]) | with_reducible refine (?_ : WQ _ _ _ _ _ _)))
      | fail
    apply vq_evpf (doV hc hG4 hw4 X.vi Y.vi (by omega))
    · simp only [Env.evL, Env.ev, Env.get, Nat.reduceEqDiff, ↓reduceIte, hE]
    intro q s8 hq
    rw [hwid] at hq
    obtain ⟨es, G5, ids5, id5, rfl, j5, o5, A⟩ := GZ.vx hq m
    have A := A.cast (z' := doZ op x y K) (by simp only [X.val, Y.val])
    have X := X.step hw4 j5 o5.ext
    have Y := Y.step hw4 j5 o5.ext
    have M := M.step j5
    have := o5.len
    have nK : ((K : Int) != (K : Int)) = false := by simp
    repeat first
      | with_reducible (first | refine vw_seq ?_ | refine vw_block ?_ | refine vw_rg ?_)
      | ((with_reducible apply vq_free'); (focus rfl))
      | ((with_reducible (first | refine vq_nil ?_ | refine vw_skip ?_ | refine vw_exit ?_ | refine vw_ret ?_)); simp only [Env.keep, Env.get, Env.ev, List.map, Nat.reduceEqDiff, ↓reduceIte, Then, Out'])
      | ((with_reducible (first | apply vq_p | apply vq_r | apply vq_a | apply vq_w | apply vq_g | apply vw_condm)); (focus (simp (disch := (first | with_reducible assumption | omega | ((repeat (first | rw [Store.next_push] | rw [Store.next_set])) <;> omega) | fail)) only [go_sem, Nat.reduceEqDiff, Nat.reduceAdd, Nat.reduceMul, Nat.reduceLeDiff, ↓reduceIte, reduceCtorEq, Int.reduceEq, Int.reduceLT, Int.reduceLE, Int.reduceAdd, Int.reduceSub, Int.reduceMul, Int.reduceNeg, Int.reduceToNat, hE, hmax, nK] <;> rfl)); (first | (with_reducible (first | refine way_tt ?_ | refine way_ff ?_ | refine wayc_t ?_ | refine wayc_f ?_ | refine way_tf ?_ | refine way_ft ?_ | refine way_t ?_); try simp only [Env.put]) | with_reducible refine (?_ : WQ _ _ _ _ _ _)))
      | fail
    apply vq_evpf (evalS j5.1 o5.wf M A.vi.rd A.vi.lt (by omega) (by omega) (by rw [A.len]; omega))
    · simp only [Env.evL, Env.ev, Env.get, Nat.reduceEqDiff, ↓reduceIte, hE]
    rintro q s9 ⟨id9, rfl, k9, f9, l9⟩
    have hD := doR (s := Store.empty) (op := op) (w := K) (a := x) (b := y) hc hM1 hM2 ta.1 ta.2 tb.1 tb.2
    have hal := A.len
    rw [hal]
    have ev : (valE G5 m es != doZ op x y K) = false := by rw [A.val]; simp
    repeat first
      | (apply vq_value k9 hal hM1 hM2; (focus rfl))
      | (apply vq_isoL hD rfl; (focus (simp only [Env.evL, Env.ev, Env.get, Nat.reduceEqDiff, ↓reduceIte, hE]; rfl)); (focus rfl))
      | with_reducible (first | refine vw_seq ?_ | refine vw_block ?_ | refine vw_rg ?_)
      | ((with_reducible apply vq_free'); (focus rfl))
      | ((with_reducible (first | refine vq_nil ?_ | refine vw_skip ?_ | refine vw_exit ?_ | refine vw_ret ?_)); simp only [Env.keep, Env.get, Env.ev, List.map, Nat.reduceEqDiff, ↓reduceIte, Then, Out'])
      | ((with_reducible (first | apply vq_p | apply vq_r | apply vq_a | apply vq_w | apply vq_g | apply vw_condm)); (focus (simp (disch := (first | with_reducible assumption | omega | ((repeat (first | rw [Store.next_push] | rw [Store.next_set])) <;> omega) | fail)) only [go_sem, Nat.reduceEqDiff, Nat.reduceAdd, Nat.reduceMul, Nat.reduceLeDiff, ↓reduceIte, reduceCtorEq, Int.reduceEq, Int.reduceLT, Int.reduceLE, Int.reduceAdd, Int.reduceSub, Int.reduceMul, Int.reduceNeg, Int.reduceToNat, hE, hmax, ev, hs] <;> rfl)); (first | (with_reducible (first | refine way_tt ?_ | refine way_ff ?_ | refine wayc_t ?_ | refine wayc_f ?_ | refine way_tf ?_ | refine way_ft ?_ | refine way_t ?_); try simp only [Env.put]) | with_reducible refine (?_ : WQ _ _ _ _ _ _)))
      | fail
    exact ⟨5 - (op + 1), by omega, op + 1, G5, ids5, by omega, rfl, (j5.1.newer f9).1, o5.wf, by omega, X.newer f9, Y.newer f9, M.newer f9, (by simp only [Env.get, Nat.reduceEqDiff, ↓reduceIte, hE, and_self])⟩
  · have c1 : ((op : Int) < 5) = False := eq_false (by omega)
    repeat first
      | with_reducible (first | refine vw_seq ?_ | refine vw_block ?_ | refine vw_rg ?_)
      | ((with_reducible apply vq_free'); (focus rfl))
      | ((with_reducible (first | refine vq_nil ?_ | refine vw_skip ?_ | refine vw_exit ?_ | refine vw_ret ?_)); simp only [Env.keep, Env.get, Env.ev, List.map, Nat.reduceEqDiff, ↓reduceIte, Then, Out'])
      | ((with_reducible (first | apply vq_p | apply vq_r | apply vq_a | apply vq_w | apply vq_g | apply vw_condm)); (focus (simp (disch := (first | with_reducible assumption | omega | ((repeat (first | rw [Store.next_push] | rw [Store.next_set])) <;> omega) | fail)) only [go_sem, Nat.reduceEqDiff, Nat.reduceAdd, Nat.reduceMul, Nat.reduceLeDiff, ↓reduceIte, reduceCtorEq, Int.reduceEq, Int.reduceLT, Int.reduceLE, Int.reduceAdd, Int.reduceSub, Int.reduceMul, Int.reduceNeg, Int.reduceToNat, hE, c1] <;> rfl)); (first | (with_reducible (first | refine way_tt ?_ | refine way_ff ?_ | refine wayc_t ?_ | refine wayc_f ?_ | refine way_tf ?_ | refine way_ft ?_ | refine way_t ?_); try simp only [Env.put]) | with_reducible refine (?_ : WQ _ _ _ _ _ _)))
      | fail
    apply vq_evpf (sameZ hG4 hw4 X.vi Y.vi (by omega))
    · simp only [Env.evL, Env.ev, Env.get, Nat.reduceEqDiff, ↓reduceIte, hE]
    intro q s8 hq
    obtain ⟨e1, G5, ids5, rfl, j5, o5, E1⟩ := GE.ex hq m
    have E1 := E1.cast (b' := decide (x = y)) (by simp only [X.val, Y.val])
    have X := X.step hw4 j5 o5.ext
    have Y := Y.step hw4 j5 o5.ext
    have M := M.step j5
    have := o5.len
    repeat first
      | with_reducible (first | refine vw_seq ?_ | refine vw_block ?_ | refine vw_rg ?_)
      | ((with_reducible apply vq_free'); (focus rfl))
      | ((with_reducible (first | refine vq_nil ?_ | refine vw_skip ?_ | refine vw_exit ?_ | refine vw_ret ?_)); simp only [Env.keep, Env.get, Env.ev, List.map, Nat.reduceEqDiff, ↓reduceIte, Then, Out'])
      | ((with_reducible (first | apply vq_p | apply vq_r | apply vq_a | apply vq_w | apply vq_g | apply vw_condm)); (focus (simp (disch := (first | with_reducible assumption | omega | ((repeat (first | rw [Store.next_push] | rw [Store.next_set])) <;> omega) | fail)) only [go_sem, Nat.reduceEqDiff, Nat.reduceAdd, Nat.reduceMul, Nat.reduceLeDiff, ↓reduceIte, reduceCtorEq, Int.reduceEq, Int.reduceLT, Int.reduceLE, Int.reduceAdd, Int.reduceSub, Int.reduceMul, Int.reduceNeg, Int.reduceToNat, hE] <;> rfl)); (first | (with_reducible (first | refine way_tt ?_ | refine way_ff ?_ | refine wayc_t ?_ | refine wayc_f ?_ | refine way_tf ?_ | refine way_ft ?_ | refine way_t ?_); try simp only [Env.put]) | with_reducible refine (?_ : WQ _ _ _ _ _ _)))
      | fail
    apply vq_evpf (lessZ j5.1 o5.wf X.vi Y.vi (by omega))
    · simp only [Env.evL, Env.ev, Env.get, Nat.reduceEqDiff, ↓reduceIte, hE]
    intro q s9 hq
    obtain ⟨e2, G6, ids6, rfl, j6, o6, E2⟩ := GE.ex hq m
    have E2 := E2.cast (b' := decide (x < y)) (by simp only [X.val, Y.val])
    have X := X.step o5.wf j6 o6.ext
    have Y := Y.step o5.wf j6 o6.ext
    have E1 := E1.step o6.ext
    have M := M.step j6
    have := o6.len
    repeat first
      | with_reducible (first | refine vw_seq ?_ | refine vw_block ?_ | refine vw_rg ?_)
      | ((with_reducible apply vq_free'); (focus rfl))
      | ((with_reducible (first | refine vq_nil ?_ | refine vw_skip ?_ | refine vw_exit ?_ | refine vw_ret ?_)); simp only [Env.keep, Env.get, Env.ev, List.map, Nat.reduceEqDiff, ↓reduceIte, Then, Out'])
      | ((with_reducible (first | apply vq_p | apply vq_r | apply vq_a | apply vq_w | apply vq_g | apply vw_condm)); (focus (simp (disch := (first | with_reducible assumption | omega | ((repeat (first | rw [Store.next_push] | rw [Store.next_set])) <;> omega) | fail)) only [go_sem, Nat.reduceEqDiff, Nat.reduceAdd, Nat.reduceMul, Nat.reduceLeDiff, ↓reduceIte, reduceCtorEq, Int.reduceEq, Int.reduceLT, Int.reduceLE, Int.reduceAdd, Int.reduceSub, Int.reduceMul, Int.reduceNeg, Int.reduceToNat, hE] <;> rfl)); (first | (with_reducible (first | refine way_tt ?_ | refine way_ff ?_ | refine wayc_t ?_ | refine wayc_f ?_ | refine way_tf ?_ | refine way_ft ?_ | refine way_t ?_); try simp only [Env.put]) | with_reducible refine (?_ : WQ _ _ _ _ _ _)))
      | fail
    apply vq_evpf (lessZ j6.1 o6.wf Y.vi X.vi (by omega))
    · simp only [Env.evL, Env.ev, Env.get, Nat.reduceEqDiff, ↓reduceIte, hE]
    intro q s10 hq
    obtain ⟨e3, G7, ids7, rfl, j7, o7, E3⟩ := GE.ex hq m
    have E3 := E3.cast (b' := decide (y < x)) (by simp only [X.val, Y.val])
    have X := X.step o6.wf j7 o7.ext
    have Y := Y.step o6.wf j7 o7.ext
    have E1 := E1.step o7.ext
    have E2 := E2.step o7.ext
    have M := M.step j7
    have := o7.len
    repeat first
      | with_reducible (first | refine vw_seq ?_ | refine vw_block ?_ | refine vw_rg ?_)
      | ((with_reducible apply vq_free'); (focus rfl))
      | ((with_reducible (first | refine vq_nil ?_ | refine vw_skip ?_ | refine vw_exit ?_ | refine vw_ret ?_)); simp only [Env.keep, Env.get, Env.ev, List.map, Nat.reduceEqDiff, ↓reduceIte, Then, Out'])
      | ((with_reducible (first | apply vq_p | apply vq_r | apply vq_a | apply vq_w | apply vq_g | apply vw_condm)); (focus (simp (disch := (first | with_reducible assumption | omega | ((repeat (first | rw [Store.next_push] | rw [Store.next_set])) <;> omega) | fail)) only [go_sem, Nat.reduceEqDiff, Nat.reduceAdd, Nat.reduceMul, Nat.reduceLeDiff, ↓reduceIte, reduceCtorEq, Int.reduceEq, Int.reduceLT, Int.reduceLE, Int.reduceAdd, Int.reduceSub, Int.reduceMul, Int.reduceNeg, Int.reduceToNat, hE] <;> rfl)); (first | (with_reducible (first | refine way_tt ?_ | refine way_ff ?_ | refine wayc_t ?_ | refine wayc_f ?_ | refine way_tf ?_ | refine way_ft ?_ | refine way_t ?_); try simp only [Env.put]) | with_reducible refine (?_ : WQ _ _ _ _ _ _)))
      | fail
    apply vq_evpf (someZ j7.1 o7.wf X.vi (by omega))
    · simp only [Env.evL, Env.ev, Env.get, Nat.reduceEqDiff, ↓reduceIte, hE]
    intro q s11 hq
    obtain ⟨e4, G8, ids8, rfl, j8, o8, E4⟩ := GE.ex hq m
    have E4 := E4.cast (b' := decide (x ≠ 0)) (by simp only [X.val])
    have E1 := E1.step o8.ext
    have E2 := E2.step o8.ext
    have E3 := E3.step o8.ext
    have M := M.step j8
    have := o8.len
    have hlt := j8.1.lt
    have hGl : GA (s11.push (.cells (cellsI [e1, e2, e3, e4]))) g G8 ids8 := j8.1.push _
    have kl : (s11.push (.cells (cellsI [e1, e2, e3, e4]))).get s11.next = some (.cells (cellsI [e1, e2, e3, e4])) := get_push_new rfl
    have M := M.newer (Fr.push (ids := []) (s := s11) (.cells (cellsI [e1, e2, e3, e4])))
    repeat first
      | with_reducible (first | refine vw_seq ?_ | refine vw_block ?_ | refine vw_rg ?_)
      | ((with_reducible apply vq_free'); (focus rfl))
      | ((with_reducible (first | refine vq_nil ?_ | refine vw_skip ?_ | refine vw_exit ?_ | refine vw_ret ?_)); simp only [Env.keep, Env.get, Env.ev, List.map, Nat.reduceEqDiff, ↓reduceIte, Then, Out'])
      | ((with_reducible (first | apply vq_p | apply vq_r | apply vq_a | apply vq_w | apply vq_g | apply vw_condm)); (focus (simp (disch := (first | with_reducible assumption | omega | ((repeat (first | rw [Store.next_push] | rw [Store.next_set])) <;> omega) | fail)) only [go_sem, Nat.reduceEqDiff, Nat.reduceAdd, Nat.reduceMul, Nat.reduceLeDiff, ↓reduceIte, reduceCtorEq, Int.reduceEq, Int.reduceLT, Int.reduceLE, Int.reduceAdd, Int.reduceSub, Int.reduceMul, Int.reduceNeg, Int.reduceToNat, hE] <;> rfl)); (first | (with_reducible (first | refine way_tt ?_ | refine way_ff ?_ | refine wayc_t ?_ | refine wayc_f ?_ | refine way_tf ?_ | refine way_ft ?_ | refine way_t ?_); try simp only [Env.put]) | with_reducible refine (?_ : WQ _ _ _ _ _ _)))
      | fail
    apply vq_evpf (evalS hGl o8.wf M (es := [e1, e2, e3, e4]) ⟨rdI_arr kl, fun id off n e h => by cases e; have := hlt _ h; omega⟩ (by
      have := E1.lt; have := E2.lt; have := E3.lt; have := E4.lt
      intro e he
      simp at he
      rcases he with rfl | rfl | rfl | rfl <;> assumption) (by omega) (by omega) (by simp))
    · simp only [Env.evL, Env.ev, Env.get, Nat.reduceEqDiff, ↓reduceIte, hE]; rfl
    rintro q s16 ⟨id16, rfl, k16, f16, l16⟩
    have hvals : [e1, e2, e3, e4].map (G8.ev m) = [decide (x = y), decide (x < y), decide (y < x), decide (x ≠ 0)] := by
      simp only [List.map, E1.val, E2.val, E3.val, E4.val]
    rw [hvals] at k16
    have R := rdB_arr k16
    obtain ⟨p0, p01, p02⟩ := R.idxB (i := 0) (by simp)
    obtain ⟨p1, p11, p12⟩ := R.idxB (i := 1) (by simp)
    obtain ⟨p2, p21, p22⟩ := R.idxB (i := 2) (by simp)
    obtain ⟨p3, p31, p32⟩ := R.idxB (i := 3) (by simp)
    have c0 : ((0 : Nat) : Int) = 0 := rfl
    have c1 : ((1 : Nat) : Int) = 1 := rfl
    have c2 : ((2 : Nat) : Int) = 2 := rfl
    have c3 : ((3 : Nat) : Int) = 3 := rfl
    simp only [c0, c1, c2, c3, List.getElem_cons_zero, List.getElem_cons_succ, List.length_cons, List.length_nil, Nat.reduceAdd] at p01 p02 p11 p12 p21 p22 p31 p32
    simp only [List.length_cons, List.length_nil, Nat.reduceAdd]
    have b1 : (x == y) = decide (x = y) := by rw [Bool.eq_iff_iff]; simp
    have b4 : (x != 0) = decide (x ≠ 0) := by rw [Bool.eq_iff_iff]; simp
    have bs : ∀ b : Bool, (b == b) = true := fun b => by simp
    repeat first
      | with_reducible (first | refine vw_seq ?_ | refine vw_block ?_ | refine vw_rg ?_)
      | ((with_reducible apply vq_free'); (focus rfl))
      | ((with_reducible (first | refine vq_nil ?_ | refine vw_skip ?_ | refine vw_exit ?_ | refine vw_ret ?_)); simp only [Env.keep, Env.get, Env.ev, List.map, Nat.reduceEqDiff, ↓reduceIte, Then, Out'])
      | ((with_reducible (first | apply vq_p | apply vq_r | apply vq_a | apply vq_w | apply vq_g | apply vw_condm)); (focus (simp (disch := (first | with_reducible assumption | omega | ((repeat (first | rw [Store.next_push] | rw [Store.next_set])) <;> omega) | fail)) only [go_sem, Nat.reduceEqDiff, Nat.reduceAdd, Nat.reduceMul, Nat.reduceLeDiff, ↓reduceIte, reduceCtorEq, Int.reduceEq, Int.reduceLT, Int.reduceLE, Int.reduceAdd, Int.reduceSub, Int.reduceMul, Int.reduceNeg, Int.reduceToNat, hE, p01, p02, p11, p12, p21, p22, p31, p32, b1, b4, bs] <;> rfl)); (first | (with_reducible (first | refine way_tt ?_ | refine way_ff ?_ | refine wayc_t ?_ | refine wayc_f ?_ | refine way_tf ?_ | refine way_ft ?_ | refine way_t ?_); try simp only [Env.put]) | with_reducible refine (?_ : WQ _ _ _ _ _ _)))
      | fail
    exact ⟨.inr trivial, _, (by simp only [resOf, resAll, resOne, Env.get, Nat.reduceEqDiff, ↓reduceIte] <;> rfl), rfl⟩
end Go.Proofs.Ytedoacfoglbfeaa
