/- Widths; vectors of the graph's own edges. -/
import Derived.Test.YtedoacfoglbfeaaB4
namespace Go.Proofs.Ytedoacfoglbfeaa
open Go.V
set_option maxRecDepth 100000
set_option maxHeartbeats 4000000
set_option linter.unusedSimpArgs false
set_option linter.unusedVariables false

theorem width_ok {s : Store} {n : Int} : Ev vfs 59 [.int .i64 n] s (.int .i64 (min (max n 1) 16)) s := by
  refine ev_of (vf := vf59) rfl ?_
  simp only [vf59, List.map, List.getD, List.getElem?_cons_zero, List.getElem?_cons_succ, List.getElem?_nil, Option.getD]
  repeat first
    | with_reducible (first | refine vw_seq ?_ | refine vw_block ?_ | refine vw_rg ?_)
    | ((with_reducible apply vq_free'); (focus rfl))
    | ((with_reducible (first | refine vq_nil ?_ | refine vw_skip ?_ | refine vw_exit ?_ | refine vw_ret ?_)); simp only [Env.keep, Env.get, Env.ev, List.map, Nat.reduceEqDiff, ↓reduceIte, Then, Out'])
    | ((with_reducible (first | apply vq_p | apply vq_r | apply vq_a | apply vq_w | apply vq_g | apply vw_condm)); (focus (simp (disch := (first | with_reducible assumption | omega | ((repeat (first | rw [Store.next_push] | rw [Store.next_set])) <;> omega) | fail)) only [go_sem, Nat.reduceEqDiff, Nat.reduceAdd, Nat.reduceMul, Nat.reduceLeDiff, ↓reduceIte, reduceCtorEq, Int.reduceEq, Int.reduceLT, Int.reduceLE, Int.reduceAdd, Int.reduceSub, Int.reduceMul, Int.reduceNeg, Int.reduceToNat] <;> rfl)); (first | (with_reducible (first | refine way_tt ?_ | refine way_ff ?_ | refine wayc_t ?_ | refine wayc_f ?_ | refine way_tf ?_ | refine way_ft ?_ | refine way_t ?_); try simp only [Env.put]) | with_reducible refine (?_ : WQ _ _ _ _ _ _)))
    | fail
  exact ⟨.inr trivial, trivial, (by simp only [resOf, resAll, resOne, Env.get, Nat.reduceEqDiff, ↓reduceIte] <;> rfl)⟩
theorem and_one {G : Gr} {e : Nat} : G.and e 1 = (e, G) := by
  unfold Gr.and
  rcases Nat.lt_or_ge e 1 with h | h
  · obtain rfl : e = 0 := by omega
    simp
  · rw [Nat.min_eq_right h, Nat.max_eq_left h]
    have hn : ¬ (1 = 0 ∨ 1 = notN e) := by
      unfold notN
      split <;> omega
    rw [if_neg hn, if_pos (.inl rfl)]
end Go.Proofs.Ytedoacfoglbfeaa
