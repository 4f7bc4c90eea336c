/- BitsParts, walked. -/
import Derived.Test.YtedoacfoglbfeaaB17
namespace Go.Proofs.Ytedoacfoglbfeaa
open Go.V
set_option maxRecDepth 100000
set_option maxHeartbeats 4000000
set_option linter.unusedSimpArgs false
set_option linter.unusedVariables false

theorem bitsParts_v {d0 d1 d2 : D} (h0 : ArgT (.int .i64) d0) (h1 : ArgT (.int .i64) d1) (h2 : ArgT (.int .i64) d2) :
    EvP vfs 11 [d0, d1, d2] Store.empty fun r _ => r = .bool true := by
  obtain ⟨n, rfl, hn⟩ := int_of h0
  obtain ⟨w, rfl, hw⟩ := int_of h1
  obtain ⟨to, rfl, ht⟩ := int_of h2
  obtain ⟨sa, hawake⟩ := awake6'
  obtain ⟨k, hk, hk1, hk2⟩ := clamp w
  obtain ⟨m, hm, hm1, hm2⟩ := clamp to
  have ek := hk.symm
  have em := hm.symm
  have hT := trimR (s := Store.empty) hk hn
  have hT2 := trimV (s := Store.empty) hk hn
  have hT3 := trimR (s := Store.empty) hm (trim_in (n := n) hk1 hk2)
  have ne : (trimZ n k != trimZ n k) = false := by simp
  have nk : ((k : Int) != (k : Int)) = false := by simp
  refine evp_of (vf := vf11) rfl ?_
  simp only [vf11, List.map, List.getD, List.getElem?_cons_zero, List.getElem?_cons_succ, List.getElem?_nil, Option.getD]
  repeat first
    | (apply vq_isoL hawake rfl; (focus rfl); (focus rfl))
    | (apply vq_isoL hT rfl; (focus rfl); (focus rfl))
    | (apply vq_isoL hT2 rfl; (focus rfl); (focus rfl))
    | with_reducible (first | refine vw_seq ?_ | refine vw_block ?_ | refine vw_rg ?_)
    | ((with_reducible apply vq_free'); (focus rfl))
    | ((with_reducible (first | refine vq_nil ?_ | refine vw_skip ?_ | refine vw_exit ?_ | refine vw_ret ?_)); simp only [Env.keep, Env.get, Env.ev, List.map, Nat.reduceEqDiff, ↓reduceIte, Then, Out'])
    | ((with_reducible (first | apply vq_p | apply vq_r | apply vq_a | apply vq_w | apply vq_g | apply vw_condm)); (focus (simp (disch := (first | with_reducible assumption | omega | ((repeat (first | rw [Store.next_push] | rw [Store.next_set])) <;> omega) | fail)) only [go_sem, Nat.reduceEqDiff, Nat.reduceAdd, Nat.reduceMul, Nat.reduceLeDiff, ↓reduceIte, reduceCtorEq, Int.reduceEq, Int.reduceLT, Int.reduceLE, Int.reduceAdd, Int.reduceSub, Int.reduceMul, Int.reduceNeg, Int.reduceToNat, ek, em, ne] <;> rfl)); (first | (with_reducible (first | refine way_tt ?_ | refine way_ff ?_ | refine wayc_t ?_ | refine wayc_f ?_ | refine way_tf ?_ | refine way_ft ?_ | refine way_t ?_); try simp only [Env.put]) | with_reducible refine (?_ : WQ _ _ _ _ _ _)))
    | fail
  apply vq_evpf (bitsV hk)
  · rfl
  rintro q s1 ⟨id1, rfl, k1, f1, l1⟩
  have r1 := rdB_arr k1
  rw [bitL_len] at r1
  have ev := bitL_atB (n := n) hk1
  repeat first
    | (apply vq_valueB r1 (bitL_len _ _) hk1 hk2; (focus rfl))
    | with_reducible (first | refine vw_seq ?_ | refine vw_block ?_ | refine vw_rg ?_)
    | ((with_reducible apply vq_free'); (focus rfl))
    | ((with_reducible (first | refine vq_nil ?_ | refine vw_skip ?_ | refine vw_exit ?_ | refine vw_ret ?_)); simp only [Env.keep, Env.get, Env.ev, List.map, Nat.reduceEqDiff, ↓reduceIte, Then, Out'])
    | ((with_reducible (first | apply vq_p | apply vq_r | apply vq_a | apply vq_w | apply vq_g | apply vw_condm)); (focus (simp (disch := (first | with_reducible assumption | omega | ((repeat (first | rw [Store.next_push] | rw [Store.next_set])) <;> omega) | fail)) only [go_sem, Nat.reduceEqDiff, Nat.reduceAdd, Nat.reduceMul, Nat.reduceLeDiff, ↓reduceIte, reduceCtorEq, Int.reduceEq, Int.reduceLT, Int.reduceLE, Int.reduceAdd, Int.reduceSub, Int.reduceMul, Int.reduceNeg, Int.reduceToNat, ev, ne] <;> rfl)); (first | (with_reducible (first | refine way_tt ?_ | refine way_ff ?_ | refine wayc_t ?_ | refine wayc_f ?_ | refine way_tf ?_ | refine way_ft ?_ | refine way_t ?_); try simp only [Env.put]) | with_reducible refine (?_ : WQ _ _ _ _ _ _)))
    | fail
  apply vq_evpf (bitsV hk)
  · rfl
  rintro q s2 ⟨id2, rfl, k2, f2, l2⟩
  repeat first
    | with_reducible (first | refine vw_seq ?_ | refine vw_block ?_ | refine vw_rg ?_)
    | ((with_reducible apply vq_free'); (focus rfl))
    | ((with_reducible (first | refine vq_nil ?_ | refine vw_skip ?_ | refine vw_exit ?_ | refine vw_ret ?_)); simp only [Env.keep, Env.get, Env.ev, List.map, Nat.reduceEqDiff, ↓reduceIte, Then, Out'])
    | ((with_reducible (first | apply vq_p | apply vq_r | apply vq_a | apply vq_w | apply vq_g | apply vw_condm)); (focus (simp (disch := (first | with_reducible assumption | omega | ((repeat (first | rw [Store.next_push] | rw [Store.next_set])) <;> omega) | fail)) only [go_sem, Nat.reduceEqDiff, Nat.reduceAdd, Nat.reduceMul, Nat.reduceLeDiff, ↓reduceIte, reduceCtorEq, Int.reduceEq, Int.reduceLT, Int.reduceLE, Int.reduceAdd, Int.reduceSub, Int.reduceMul, Int.reduceNeg, Int.reduceToNat, nk] <;> rfl)); (first | (with_reducible (first | refine way_tt ?_ | refine way_ff ?_ | refine wayc_t ?_ | refine wayc_f ?_ | refine way_tf ?_ | refine way_ft ?_ | refine way_t ?_); try simp only [Env.put]) | with_reducible refine (?_ : WQ _ _ _ _ _ _)))
    | fail
  apply vq_evpf new_ok
  · rfl
  rintro q s3 ⟨g, ids, rfl, hG, f3, -⟩
  have hw0 := Gr.new_wf
  repeat first
    | with_reducible (first | refine vw_seq ?_ | refine vw_block ?_ | refine vw_rg ?_)
    | ((with_reducible apply vq_free'); (focus rfl))
    | ((with_reducible (first | refine vq_nil ?_ | refine vw_skip ?_ | refine vw_exit ?_ | refine vw_ret ?_)); simp only [Env.keep, Env.get, Env.ev, List.map, Nat.reduceEqDiff, ↓reduceIte, Then, Out'])
    | ((with_reducible (first | apply vq_p | apply vq_r | apply vq_a | apply vq_w | apply vq_g | apply vw_condm)); (focus (simp (disch := (first | with_reducible assumption | omega | ((repeat (first | rw [Store.next_push] | rw [Store.next_set])) <;> omega) | fail)) only [go_sem, Nat.reduceEqDiff, Nat.reduceAdd, Nat.reduceMul, Nat.reduceLeDiff, ↓reduceIte, reduceCtorEq, Int.reduceEq, Int.reduceLT, Int.reduceLE, Int.reduceAdd, Int.reduceSub, Int.reduceMul, Int.reduceNeg, Int.reduceToNat] <;> rfl)); (first | (with_reducible (first | refine way_tt ?_ | refine way_ff ?_ | refine wayc_t ?_ | refine wayc_f ?_ | refine way_tf ?_ | refine way_ft ?_ | refine way_t ?_); try simp only [Env.put]) | with_reducible refine (?_ : WQ _ _ _ _ _ _)))
    | fail
  apply vq_evpf (constVI (w := k) (n := w) hG hw0 hk)
  · rfl
  rintro dx s4 ⟨f4, hG4, v4⟩
  repeat first
    | with_reducible (first | refine vw_seq ?_ | refine vw_block ?_ | refine vw_rg ?_)
    | ((with_reducible apply vq_free'); (focus rfl))
    | ((with_reducible (first | refine vq_nil ?_ | refine vw_skip ?_ | refine vw_exit ?_ | refine vw_ret ?_)); simp only [Env.keep, Env.get, Env.ev, List.map, Nat.reduceEqDiff, ↓reduceIte, Then, Out'])
    | ((with_reducible (first | apply vq_p | apply vq_r | apply vq_a | apply vq_w | apply vq_g | apply vw_condm)); (focus (simp (disch := (first | with_reducible assumption | omega | ((repeat (first | rw [Store.next_push] | rw [Store.next_set])) <;> omega) | fail)) only [go_sem, Nat.reduceEqDiff, Nat.reduceAdd, Nat.reduceMul, Nat.reduceLeDiff, ↓reduceIte, reduceCtorEq, Int.reduceEq, Int.reduceLT, Int.reduceLE, Int.reduceAdd, Int.reduceSub, Int.reduceMul, Int.reduceNeg, Int.reduceToNat] <;> rfl)); (first | (with_reducible (first | refine way_tt ?_ | refine way_ff ?_ | refine wayc_t ?_ | refine wayc_f ?_ | refine way_tf ?_ | refine way_ft ?_ | refine way_t ?_); try simp only [Env.put]) | with_reducible refine (?_ : WQ _ _ _ _ _ _)))
    | fail
  apply vq_evpf (wideV (w := m) (n := to) v4.rd.1 (by rw [constL_len]; exact hk1) (by rw [constL_len]; exact hk2) hm)
  · rfl
  rintro q s5 ⟨id5, rfl, k5, f5, l5⟩
  have hG5 := (hG4.newer f5).1
  have hlt := hG4.lt
  have v5 : VI s5 ids Gr.new (.arr id5 0 m 1) (wideL (constL n k) m) := VI.of k5 (wideL_len _ _) (fun h => by have := hlt _ h; omega) (wideL_lt (by decide) (constL_lt (by decide)))
  have em2 : ((m : Int) == (m : Int)) = true := by simp
  repeat first
    | (apply vq_isoL hT3 rfl; (focus rfl); (focus rfl))
    | with_reducible (first | refine vw_seq ?_ | refine vw_block ?_ | refine vw_rg ?_)
    | ((with_reducible apply vq_free'); (focus rfl))
    | ((with_reducible (first | refine vq_nil ?_ | refine vw_skip ?_ | refine vw_exit ?_ | refine vw_ret ?_)); simp only [Env.keep, Env.get, Env.ev, List.map, Nat.reduceEqDiff, ↓reduceIte, Then, Out'])
    | ((with_reducible (first | apply vq_p | apply vq_r | apply vq_a | apply vq_w | apply vq_g | apply vw_condm)); (focus (simp (disch := (first | with_reducible assumption | omega | ((repeat (first | rw [Store.next_push] | rw [Store.next_set])) <;> omega) | fail)) only [go_sem, Nat.reduceEqDiff, Nat.reduceAdd, Nat.reduceMul, Nat.reduceLeDiff, ↓reduceIte, reduceCtorEq, Int.reduceEq, Int.reduceLT, Int.reduceLE, Int.reduceAdd, Int.reduceSub, Int.reduceMul, Int.reduceNeg, Int.reduceToNat, em2] <;> rfl)); (first | (with_reducible (first | refine way_tt ?_ | refine way_ff ?_ | refine wayc_t ?_ | refine wayc_f ?_ | refine way_tf ?_ | refine way_ft ?_ | refine way_t ?_); try simp only [Env.put]) | with_reducible refine (?_ : WQ _ _ _ _ _ _)))
    | fail
  apply vq_evpf (evalS hG5 hw0 rdF_nil v5.rd v5.lt (by decide) (by decide) (by rw [wideL_len]; omega))
  · rfl
  rintro q s6 ⟨id6, rfl, k6, f6, l6⟩
  rw [wideL_len]
  have hv := wideC (n := n) hw0 [] hk1 hk2 hm1 hm2
  have ev2 : (valE Gr.new [] (wideL (constL n k) m) == trimZ (trimZ n k) m) = true := by rw [hv]; simp
  repeat first
    | (apply vq_value k6 (wideL_len _ _) hm1 hm2; (focus rfl))
    | with_reducible (first | refine vw_seq ?_ | refine vw_block ?_ | refine vw_rg ?_)
    | ((with_reducible apply vq_free'); (focus rfl))
    | ((with_reducible (first | refine vq_nil ?_ | refine vw_skip ?_ | refine vw_exit ?_ | refine vw_ret ?_)); simp only [Env.keep, Env.get, Env.ev, List.map, Nat.reduceEqDiff, ↓reduceIte, Then, Out'])
    | ((with_reducible (first | apply vq_p | apply vq_r | apply vq_a | apply vq_w | apply vq_g | apply vw_condm)); (focus (simp (disch := (first | with_reducible assumption | omega | ((repeat (first | rw [Store.next_push] | rw [Store.next_set])) <;> omega) | fail)) only [go_sem, Nat.reduceEqDiff, Nat.reduceAdd, Nat.reduceMul, Nat.reduceLeDiff, ↓reduceIte, reduceCtorEq, Int.reduceEq, Int.reduceLT, Int.reduceLE, Int.reduceAdd, Int.reduceSub, Int.reduceMul, Int.reduceNeg, Int.reduceToNat, ev2] <;> rfl)); (first | (with_reducible (first | refine way_tt ?_ | refine way_ff ?_ | refine wayc_t ?_ | refine wayc_f ?_ | refine way_tf ?_ | refine way_ft ?_ | refine way_t ?_); try simp only [Env.put]) | with_reducible refine (?_ : WQ _ _ _ _ _ _)))
    | fail
  apply vq_evpf (inputsV (hG5.newer f6).1 hw0 (by decide) (by decide) hk)
  · rfl
  rintro q s7 ⟨es, G7, ids7, id7, rfl, k7, l7, n7, g7, j7, w7, x7, nn7, i7, v7, z7⟩
  have ek2 : ((k : Int) == (k : Int)) = true := by simp
  repeat first
    | with_reducible (first | refine vw_seq ?_ | refine vw_block ?_ | refine vw_rg ?_)
    | ((with_reducible apply vq_free'); (focus rfl))
    | ((with_reducible (first | refine vq_nil ?_ | refine vw_skip ?_ | refine vw_exit ?_ | refine vw_ret ?_)); simp only [Env.keep, Env.get, Env.ev, List.map, Nat.reduceEqDiff, ↓reduceIte, Then, Out'])
    | ((with_reducible (first | apply vq_p | apply vq_r | apply vq_a | apply vq_w | apply vq_g | apply vw_condm)); (focus (simp (disch := (first | with_reducible assumption | omega | ((repeat (first | rw [Store.next_push] | rw [Store.next_set])) <;> omega) | fail)) only [go_sem, Nat.reduceEqDiff, Nat.reduceAdd, Nat.reduceMul, Nat.reduceLeDiff, ↓reduceIte, reduceCtorEq, Int.reduceEq, Int.reduceLT, Int.reduceLE, Int.reduceAdd, Int.reduceSub, Int.reduceMul, Int.reduceNeg, Int.reduceToNat, ek2] <;> rfl)); (first | (with_reducible (first | refine way_tt ?_ | refine way_ff ?_ | refine wayc_t ?_ | refine wayc_f ?_ | refine way_tf ?_ | refine way_ft ?_ | refine way_t ?_); try simp only [Env.put]) | with_reducible refine (?_ : WQ _ _ _ _ _ _)))
    | fail
  exact ⟨.inr trivial, _, (by simp only [resOf, resAll, resOne, Env.get, Nat.reduceEqDiff, ↓reduceIte] <;> rfl), rfl⟩
end Go.Proofs.Ytedoacfoglbfeaa
