/- Numbers: what the reference does; the five of the laws; the examples. -/
import Derived.Test.YtedoacfoglbfeaaB11
import Derived.Test.YtedoacfoglbfeaaB13
namespace Go.Proofs.Ytedoacfoglbfeaa
open Go.V
set_option maxRecDepth 100000
set_option maxHeartbeats 4000000
set_option linter.unusedSimpArgs false
set_option linter.unusedVariables false

theorem doR {s : Store} {a b : Int} {op w : Nat} (hop : op < 5) (hw1 : 1 ≤ w) (hw2 : w ≤ 16) (ha : -65536 ≤ a) (ha' : a ≤ 65536) (hb : -65536 ≤ b) (hb' : b ≤ 65536) :
    Ev vfs 44 [.int .i64 (op : Int), .int .i64 a, .int .i64 b, .int .i64 (w : Int)] s (.int .i64 (doZ op a b w)) s := by
  have hwn : (w : Int) = min (max (w : Int) 1) 16 := by omega
  have hT : ∀ x : Int, -9223372036854775808 ≤ x → x < 9223372036854775808 → Ev vfs 39 [.int .i64 x, .int .i64 (w : Int)] Store.empty (.int .i64 (trimZ x w)) Store.empty := fun x h1 h2 => trimR hwn ⟨h1, h2⟩
  refine ev_of (vf := vf44) rfl ?_
  simp only [vf44, List.map, List.getD, List.getElem?_cons_zero, List.getElem?_cons_succ, List.getElem?_nil, Option.getD]
  have h3 : op = 0 ∨ op = 1 ∨ op = 2 ∨ (3 ≤ op) := by omega
  rcases h3 with h3 | h3 | h3 | h3
  · have n0 : ((op : Int) == 0) = true := by rw [h3]; rfl
    have n1 : ((op : Int) == 1) = false := by rw [h3]; rfl
    have n2 : ((op : Int) == 2) = false := by rw [h3]; rfl
    have hd : doZ op a b w = trimZ (a + b) w := by rw [h3]; rfl
    rw [hd]
    have e := i64_id (n := a + b) (by omega) (by omega)
    have hT := hT (a + b) (by omega) (by omega)
    repeat first
      | (apply vq_isoL hT rfl; (focus (simp only [Env.evL, Env.ev, Env.get, Nat.reduceEqDiff, ↓reduceIte]; rfl)); (focus rfl))
      | with_reducible (first | refine vw_seq ?_ | refine vw_block ?_ | refine vw_rg ?_)
      | ((with_reducible apply vq_free'); (focus rfl))
      | ((with_reducible (first | refine vq_nil ?_ | refine vw_skip ?_ | refine vw_exit ?_ | refine vw_ret ?_)); simp only [Env.keep, Env.get, Env.ev, List.map, Nat.reduceEqDiff, ↓reduceIte, Then, Out'])
      | ((with_reducible (first | apply vq_p | apply vq_r | apply vq_a | apply vq_w | apply vq_g | apply vw_condm)); (focus (simp (disch := (first | with_reducible assumption | omega | ((repeat (first | rw [Store.next_push] | rw [Store.next_set])) <;> omega) | fail)) only [go_sem, Nat.reduceEqDiff, Nat.reduceAdd, Nat.reduceMul, Nat.reduceLeDiff, ↓reduceIte, reduceCtorEq, Int.reduceEq, Int.reduceLT, Int.reduceLE, Int.reduceAdd, Int.reduceSub, Int.reduceMul, Int.reduceNeg, Int.reduceToNat, e, n0, n1, n2] <;> rfl)); (first | (with_reducible (first | refine way_tt ?_ | refine way_ff ?_ | refine wayc_t ?_ | refine wayc_f ?_ | refine way_tf ?_ | refine way_ft ?_ | refine way_t ?_); try simp only [Env.put]) | with_reducible refine (?_ : WQ _ _ _ _ _ _)))
      | fail
    exact ⟨.inr trivial, trivial, (by simp only [resOf, resAll, resOne, Env.get, Nat.reduceEqDiff, ↓reduceIte] <;> rfl)⟩
  · have n0 : ((op : Int) == 0) = false := by rw [h3]; rfl
    have n1 : ((op : Int) == 1) = true := by rw [h3]; rfl
    have n2 : ((op : Int) == 2) = false := by rw [h3]; rfl
    have hd : doZ op a b w = trimZ (a - b) w := by rw [h3]; rfl
    rw [hd]
    have e := i64_id (n := a - b) (by omega) (by omega)
    have hT := hT (a - b) (by omega) (by omega)
    repeat first
      | (apply vq_isoL hT rfl; (focus (simp only [Env.evL, Env.ev, Env.get, Nat.reduceEqDiff, ↓reduceIte]; rfl)); (focus rfl))
      | with_reducible (first | refine vw_seq ?_ | refine vw_block ?_ | refine vw_rg ?_)
      | ((with_reducible apply vq_free'); (focus rfl))
      | ((with_reducible (first | refine vq_nil ?_ | refine vw_skip ?_ | refine vw_exit ?_ | refine vw_ret ?_)); simp only [Env.keep, Env.get, Env.ev, List.map, Nat.reduceEqDiff, ↓reduceIte, Then, Out'])
      | ((with_reducible (first | apply vq_p | apply vq_r | apply vq_a | apply vq_w | apply vq_g | apply vw_condm)); (focus (simp (disch := (first | with_reducible assumption | omega | ((repeat (first | rw [Store.next_push] | rw [Store.next_set])) <;> omega) | fail)) only [go_sem, Nat.reduceEqDiff, Nat.reduceAdd, Nat.reduceMul, Nat.reduceLeDiff, ↓reduceIte, reduceCtorEq, Int.reduceEq, Int.reduceLT, Int.reduceLE, Int.reduceAdd, Int.reduceSub, Int.reduceMul, Int.reduceNeg, Int.reduceToNat, e, n0, n1, n2] <;> rfl)); (first | (with_reducible (first | refine way_tt ?_ | refine way_ff ?_ | refine wayc_t ?_ | refine wayc_f ?_ | refine way_tf ?_ | refine way_ft ?_ | refine way_t ?_); try simp only [Env.put]) | with_reducible refine (?_ : WQ _ _ _ _ _ _)))
      | fail
    exact ⟨.inr trivial, trivial, (by simp only [resOf, resAll, resOne, Env.get, Nat.reduceEqDiff, ↓reduceIte] <;> rfl)⟩
  · have n0 : ((op : Int) == 0) = false := by rw [h3]; rfl
    have n1 : ((op : Int) == 1) = false := by rw [h3]; rfl
    have n2 : ((op : Int) == 2) = true := by rw [h3]; rfl
    have hd : doZ op a b w = trimZ (a * b) w := by rw [h3]; rfl
    rw [hd]
    have hm : -4294967296 ≤ a * b ∧ a * b ≤ 4294967296 := by
      have h1 : (a * b).natAbs ≤ 65536 * 65536 := by
        rw [Int.natAbs_mul]
        exact Nat.mul_le_mul (by omega) (by omega)
      omega
    have e := i64_id (n := a * b) (by omega) (by omega)
    have hT := hT (a * b) (by omega) (by omega)
    repeat first
      | (apply vq_isoL hT rfl; (focus (simp only [Env.evL, Env.ev, Env.get, Nat.reduceEqDiff, ↓reduceIte]; rfl)); (focus rfl))
      | with_reducible (first | refine vw_seq ?_ | refine vw_block ?_ | refine vw_rg ?_)
      | ((with_reducible apply vq_free'); (focus rfl))
      | ((with_reducible (first | refine vq_nil ?_ | refine vw_skip ?_ | refine vw_exit ?_ | refine vw_ret ?_)); simp only [Env.keep, Env.get, Env.ev, List.map, Nat.reduceEqDiff, ↓reduceIte, Then, Out'])
      | ((with_reducible (first | apply vq_p | apply vq_r | apply vq_a | apply vq_w | apply vq_g | apply vw_condm)); (focus (simp (disch := (first | with_reducible assumption | omega | ((repeat (first | rw [Store.next_push] | rw [Store.next_set])) <;> omega) | fail)) only [go_sem, Nat.reduceEqDiff, Nat.reduceAdd, Nat.reduceMul, Nat.reduceLeDiff, ↓reduceIte, reduceCtorEq, Int.reduceEq, Int.reduceLT, Int.reduceLE, Int.reduceAdd, Int.reduceSub, Int.reduceMul, Int.reduceNeg, Int.reduceToNat, e, n0, n1, n2] <;> rfl)); (first | (with_reducible (first | refine way_tt ?_ | refine way_ff ?_ | refine wayc_t ?_ | refine wayc_f ?_ | refine way_tf ?_ | refine way_ft ?_ | refine way_t ?_); try simp only [Env.put]) | with_reducible refine (?_ : WQ _ _ _ _ _ _)))
      | fail
    exact ⟨.inr trivial, trivial, (by simp only [resOf, resAll, resOne, Env.get, Nat.reduceEqDiff, ↓reduceIte] <;> rfl)⟩
  · have n0 : ((op : Int) == 0) = false := by simp; omega
    have n1 : ((op : Int) == 1) = false := by simp; omega
    have n2 : ((op : Int) == 2) = false := by simp; omega
    by_cases hb0 : b = 0
    · subst hb0
      have hd : doZ op a 0 w = 0 := by
        match op, h3 with
        | 3, _ => rfl
        | n + 4, _ => rfl
      rw [hd]
      repeat first
        | with_reducible (first | refine vw_seq ?_ | refine vw_block ?_ | refine vw_rg ?_)
        | ((with_reducible apply vq_free'); (focus rfl))
        | ((with_reducible (first | refine vq_nil ?_ | refine vw_skip ?_ | refine vw_exit ?_ | refine vw_ret ?_)); simp only [Env.keep, Env.get, Env.ev, List.map, Nat.reduceEqDiff, ↓reduceIte, Then, Out'])
        | ((with_reducible (first | apply vq_p | apply vq_r | apply vq_a | apply vq_w | apply vq_g | apply vw_condm)); (focus (simp (disch := (first | with_reducible assumption | omega | ((repeat (first | rw [Store.next_push] | rw [Store.next_set])) <;> omega) | fail)) only [go_sem, Nat.reduceEqDiff, Nat.reduceAdd, Nat.reduceMul, Nat.reduceLeDiff, ↓reduceIte, reduceCtorEq, Int.reduceEq, Int.reduceLT, Int.reduceLE, Int.reduceAdd, Int.reduceSub, Int.reduceMul, Int.reduceNeg, Int.reduceToNat, n0, n1, n2] <;> rfl)); (first | (with_reducible (first | refine way_tt ?_ | refine way_ff ?_ | refine wayc_t ?_ | refine wayc_f ?_ | refine way_tf ?_ | refine way_ft ?_ | refine way_t ?_); try simp only [Env.put]) | with_reducible refine (?_ : WQ _ _ _ _ _ _)))
        | fail
      exact ⟨.inr trivial, trivial, (by simp only [resOf, resAll, resOne, Env.get, Nat.reduceEqDiff, ↓reduceIte] <;> rfl)⟩
    · have c0 : (b == 0) = false := by simpa using hb0
      have hpb : 0 < b.natAbs := by omega
      repeat first
        | with_reducible (first | refine vw_seq ?_ | refine vw_block ?_ | refine vw_rg ?_)
        | ((with_reducible apply vq_free'); (focus rfl))
        | ((with_reducible (first | refine vq_nil ?_ | refine vw_skip ?_ | refine vw_exit ?_ | refine vw_ret ?_)); simp only [Env.keep, Env.get, Env.ev, List.map, Nat.reduceEqDiff, ↓reduceIte, Then, Out'])
        | ((with_reducible (first | apply vq_p | apply vq_r | apply vq_a | apply vq_w | apply vq_g | apply vw_condm)); (focus (simp (disch := (first | with_reducible assumption | omega | ((repeat (first | rw [Store.next_push] | rw [Store.next_set])) <;> omega) | fail)) only [go_sem, Nat.reduceEqDiff, Nat.reduceAdd, Nat.reduceMul, Nat.reduceLeDiff, ↓reduceIte, reduceCtorEq, Int.reduceEq, Int.reduceLT, Int.reduceLE, Int.reduceAdd, Int.reduceSub, Int.reduceMul, Int.reduceNeg, Int.reduceToNat, n0, n1, n2, c0] <;> rfl)); (first | (with_reducible (first | refine way_tt ?_ | refine way_ff ?_ | refine wayc_t ?_ | refine wayc_f ?_ | refine way_tf ?_ | refine way_ft ?_ | refine way_t ?_); try simp only [Env.put]) | with_reducible refine (?_ : WQ _ _ _ _ _ _)))
        | fail
      refine WP.mono (Q := fun e env s1 => e = .normal ∧ s1 = s ∧ (env.get 0 = .int .i64 (op : Int) ∧ env.get 1 = .int .i64 a ∧ env.get 2 = .int .i64 b ∧ env.get 3 = .int .i64 (w : Int) ∧ env.get 9 = .int .i64 (a.natAbs : Int) ∧ env.get 10 = .int .i64 b)) ?_ ?_
      · by_cases h : a < 0
        · have b1 : (a < 0) = True := eq_true h
          have e1 : IntKind.i64.wrap (0 - a) = (a.natAbs : Int) := by rw [i64_id (by omega) (by omega)]; omega
          repeat first
            | with_reducible (first | refine vw_seq ?_ | refine vw_block ?_ | refine vw_rg ?_)
            | ((with_reducible apply vq_free'); (focus rfl))
            | ((with_reducible (first | refine vq_nil ?_ | refine vw_skip ?_ | refine vw_exit ?_ | refine vw_ret ?_)); simp only [Env.keep, Env.get, Env.ev, List.map, Nat.reduceEqDiff, ↓reduceIte, Then, Out'])
            | ((with_reducible (first | apply vq_p | apply vq_r | apply vq_a | apply vq_w | apply vq_g | apply vw_condm)); (focus (simp (disch := (first | with_reducible assumption | omega | ((repeat (first | rw [Store.next_push] | rw [Store.next_set])) <;> omega) | fail)) only [go_sem, Nat.reduceEqDiff, Nat.reduceAdd, Nat.reduceMul, Nat.reduceLeDiff, ↓reduceIte, reduceCtorEq, Int.reduceEq, Int.reduceLT, Int.reduceLE, Int.reduceAdd, Int.reduceSub, Int.reduceMul, Int.reduceNeg, Int.reduceToNat, b1, e1] <;> rfl)); (first | (with_reducible (first | refine way_tt ?_ | refine way_ff ?_ | refine wayc_t ?_ | refine wayc_f ?_ | refine way_tf ?_ | refine way_ft ?_ | refine way_t ?_); try simp only [Env.put]) | with_reducible refine (?_ : WQ _ _ _ _ _ _)))
            | fail
          exact ⟨trivial, trivial, by simp [Env.get]⟩
        · have b1 : (a < 0) = False := eq_false h
          have e1 : a = (a.natAbs : Int) := by omega
          repeat first
            | with_reducible (first | refine vw_seq ?_ | refine vw_block ?_ | refine vw_rg ?_)
            | ((with_reducible apply vq_free'); (focus rfl))
            | ((with_reducible (first | refine vq_nil ?_ | refine vw_skip ?_ | refine vw_exit ?_ | refine vw_ret ?_)); simp only [Env.keep, Env.get, Env.ev, List.map, Nat.reduceEqDiff, ↓reduceIte, Then, Out'])
            | ((with_reducible (first | apply vq_p | apply vq_r | apply vq_a | apply vq_w | apply vq_g | apply vw_condm)); (focus (simp (disch := (first | with_reducible assumption | omega | ((repeat (first | rw [Store.next_push] | rw [Store.next_set])) <;> omega) | fail)) only [go_sem, Nat.reduceEqDiff, Nat.reduceAdd, Nat.reduceMul, Nat.reduceLeDiff, ↓reduceIte, reduceCtorEq, Int.reduceEq, Int.reduceLT, Int.reduceLE, Int.reduceAdd, Int.reduceSub, Int.reduceMul, Int.reduceNeg, Int.reduceToNat, b1] <;> rfl)); (first | (with_reducible (first | refine way_tt ?_ | refine way_ff ?_ | refine wayc_t ?_ | refine wayc_f ?_ | refine way_tf ?_ | refine way_ft ?_ | refine way_t ?_); try simp only [Env.put]) | with_reducible refine (?_ : WQ _ _ _ _ _ _)))
            | fail
          exact ⟨trivial, trivial, by simp [Env.get, ← e1]⟩
      rintro e env s1 ⟨rfl, rfl, hE⟩
      simp only [Then]
      repeat first
        | with_reducible (first | refine vw_seq ?_ | refine vw_block ?_ | refine vw_rg ?_)
        | ((with_reducible apply vq_free'); (focus rfl))
        | ((with_reducible (first | refine vq_nil ?_ | refine vw_skip ?_ | refine vw_exit ?_ | refine vw_ret ?_)); simp only [Env.keep, Env.get, Env.ev, List.map, Nat.reduceEqDiff, ↓reduceIte, Then, Out'])
        | ((with_reducible (first | apply vq_p | apply vq_r | apply vq_a | apply vq_w | apply vq_g | apply vw_condm)); (focus (simp (disch := (first | with_reducible assumption | omega | ((repeat (first | rw [Store.next_push] | rw [Store.next_set])) <;> omega) | fail)) only [go_sem, Nat.reduceEqDiff, Nat.reduceAdd, Nat.reduceMul, Nat.reduceLeDiff, ↓reduceIte, reduceCtorEq, Int.reduceEq, Int.reduceLT, Int.reduceLE, Int.reduceAdd, Int.reduceSub, Int.reduceMul, Int.reduceNeg, Int.reduceToNat, hE] <;> rfl)); (first | (with_reducible (first | refine way_tt ?_ | refine way_ff ?_ | refine wayc_t ?_ | refine wayc_f ?_ | refine way_tf ?_ | refine way_ft ?_ | refine way_t ?_); try simp only [Env.put]) | with_reducible refine (?_ : WQ _ _ _ _ _ _)))
        | fail
      refine WP.mono (Q := fun e env s2 => e = .normal ∧ s2 = s1 ∧ (env.get 0 = .int .i64 (op : Int) ∧ env.get 1 = .int .i64 a ∧ env.get 2 = .int .i64 b ∧ env.get 3 = .int .i64 (w : Int) ∧ env.get 9 = .int .i64 (a.natAbs : Int) ∧ env.get 10 = .int .i64 (b.natAbs : Int))) ?_ ?_
      · by_cases h : b < 0
        · have b1 : (b < 0) = True := eq_true h
          have e1 : IntKind.i64.wrap (0 - b) = (b.natAbs : Int) := by rw [i64_id (by omega) (by omega)]; omega
          repeat first
            | with_reducible (first | refine vw_seq ?_ | refine vw_block ?_ | refine vw_rg ?_)
            | ((with_reducible apply vq_free'); (focus rfl))
            | ((with_reducible (first | refine vq_nil ?_ | refine vw_skip ?_ | refine vw_exit ?_ | refine vw_ret ?_)); simp only [Env.keep, Env.get, Env.ev, List.map, Nat.reduceEqDiff, ↓reduceIte, Then, Out'])
            | ((with_reducible (first | apply vq_p | apply vq_r | apply vq_a | apply vq_w | apply vq_g | apply vw_condm)); (focus (simp (disch := (first | with_reducible assumption | omega | ((repeat (first | rw [Store.next_push] | rw [Store.next_set])) <;> omega) | fail)) only [go_sem, Nat.reduceEqDiff, Nat.reduceAdd, Nat.reduceMul, Nat.reduceLeDiff, ↓reduceIte, reduceCtorEq, Int.reduceEq, Int.reduceLT, Int.reduceLE, Int.reduceAdd, Int.reduceSub, Int.reduceMul, Int.reduceNeg, Int.reduceToNat, hE, b1, e1] <;> rfl)); (first | (with_reducible (first | refine way_tt ?_ | refine way_ff ?_ | refine wayc_t ?_ | refine wayc_f ?_ | refine way_tf ?_ | refine way_ft ?_ | refine way_t ?_); try simp only [Env.put]) | with_reducible refine (?_ : WQ _ _ _ _ _ _)))
            | fail
          exact ⟨trivial, trivial, by simp [Env.get, hE]⟩
        · have b1 : (b < 0) = False := eq_false h
          have e1 : b = (b.natAbs : Int) := by omega
          repeat first
            | with_reducible (first | refine vw_seq ?_ | refine vw_block ?_ | refine vw_rg ?_)
            | ((with_reducible apply vq_free'); (focus rfl))
            | ((with_reducible (first | refine vq_nil ?_ | refine vw_skip ?_ | refine vw_exit ?_ | refine vw_ret ?_)); simp only [Env.keep, Env.get, Env.ev, List.map, Nat.reduceEqDiff, ↓reduceIte, Then, Out'])
            | ((with_reducible (first | apply vq_p | apply vq_r | apply vq_a | apply vq_w | apply vq_g | apply vw_condm)); (focus (simp (disch := (first | with_reducible assumption | omega | ((repeat (first | rw [Store.next_push] | rw [Store.next_set])) <;> omega) | fail)) only [go_sem, Nat.reduceEqDiff, Nat.reduceAdd, Nat.reduceMul, Nat.reduceLeDiff, ↓reduceIte, reduceCtorEq, Int.reduceEq, Int.reduceLT, Int.reduceLE, Int.reduceAdd, Int.reduceSub, Int.reduceMul, Int.reduceNeg, Int.reduceToNat, hE, b1] <;> rfl)); (first | (with_reducible (first | refine way_tt ?_ | refine way_ff ?_ | refine wayc_t ?_ | refine wayc_f ?_ | refine way_tf ?_ | refine way_ft ?_ | refine way_t ?_); try simp only [Env.put]) | with_reducible refine (?_ : WQ _ _ _ _ _ _)))
            | fail
          exact ⟨trivial, trivial, by simp [Env.get, hE, ← e1]⟩
      clear hE
      rintro e env s2 ⟨rfl, rfl, hE⟩
      simp only [Then]
      repeat first
        | with_reducible (first | refine vw_seq ?_ | refine vw_block ?_ | refine vw_rg ?_)
        | ((with_reducible apply vq_free'); (focus rfl))
        | ((with_reducible (first | refine vq_nil ?_ | refine vw_skip ?_ | refine vw_exit ?_ | refine vw_ret ?_)); simp only [Env.keep, Env.get, Env.ev, List.map, Nat.reduceEqDiff, ↓reduceIte, Then, Out'])
        | ((with_reducible (first | apply vq_p | apply vq_r | apply vq_a | apply vq_w | apply vq_g | apply vw_condm)); (focus (simp (disch := (first | with_reducible assumption | omega | ((repeat (first | rw [Store.next_push] | rw [Store.next_set])) <;> omega) | fail)) only [go_sem, Nat.reduceEqDiff, Nat.reduceAdd, Nat.reduceMul, Nat.reduceLeDiff, ↓reduceIte, reduceCtorEq, Int.reduceEq, Int.reduceLT, Int.reduceLE, Int.reduceAdd, Int.reduceSub, Int.reduceMul, Int.reduceNeg, Int.reduceToNat, hE] <;> rfl)); (first | (with_reducible (first | refine way_tt ?_ | refine way_ff ?_ | refine wayc_t ?_ | refine wayc_f ?_ | refine way_tf ?_ | refine way_ft ?_ | refine way_t ?_); try simp only [Env.put]) | with_reducible refine (?_ : WQ _ _ _ _ _ _)))
        | fail
      have hab : a.natAbs ≤ 65536 := by omega
      have hbb : b.natAbs ≤ 65536 := by omega
      have ta : a.tdiv b = if (decide (a < 0) != decide (b < 0)) = true then -((a.natAbs / b.natAbs : Nat) : Int) else ((a.natAbs / b.natAbs : Nat) : Int) := by
        have key : ((a.natAbs / b.natAbs : Nat) : Int) = ((a.natAbs : Nat) : Int).tdiv (b.natAbs : Nat) := rfl
        rw [key]
        by_cases h1 : a < 0 <;> by_cases h2 : b < 0
        · rw [decide_eq_true h1, decide_eq_true h2, if_neg (by decide), Int.ofNat_natAbs_of_nonpos (by omega), Int.ofNat_natAbs_of_nonpos (by omega), Int.neg_tdiv, Int.tdiv_neg]; omega
        · rw [decide_eq_true h1, decide_eq_false h2, if_pos (by decide), Int.ofNat_natAbs_of_nonpos (by omega), Int.natAbs_of_nonneg (by omega), Int.neg_tdiv]; omega
        · rw [decide_eq_false h1, decide_eq_true h2, if_pos (by decide), Int.natAbs_of_nonneg (by omega), Int.ofNat_natAbs_of_nonpos (by omega), Int.tdiv_neg]; omega
        · rw [decide_eq_false h1, decide_eq_false h2, if_neg (by decide), Int.natAbs_of_nonneg (by omega), Int.natAbs_of_nonneg (by omega)]
      have tm : a.tmod b = if a < 0 then -((a.natAbs % b.natAbs : Nat) : Int) else ((a.natAbs % b.natAbs : Nat) : Int) := by
        have key : ((a.natAbs % b.natAbs : Nat) : Int) = ((a.natAbs : Nat) : Int).tmod (b.natAbs : Nat) := rfl
        have kb : ∀ x : Int, x.tmod (b.natAbs : Int) = x.tmod b := fun x => by
          rcases Int.natAbs_eq b with hb | hb
          · rw [← hb]
          · have : x.tmod b = x.tmod (-b) := by rw [Int.tmod_neg]
            rw [this]; congr 1; omega
        rw [key, kb]
        by_cases h1 : a < 0
        · rw [if_pos h1, Int.ofNat_natAbs_of_nonpos (by omega), Int.neg_tmod]; omega
        · rw [if_neg h1, Int.natAbs_of_nonneg (by omega)]
      generalize a.natAbs = p at *
      generalize b.natAbs = r at *
      refine vw_loop_inv (fun k env s3 => ∃ (q t : Nat), p = q * r + t ∧ k = t ∧ s3 = s2 ∧ (env.get 0 = .int .i64 (op : Int) ∧ env.get 1 = .int .i64 a ∧ env.get 2 = .int .i64 b ∧ env.get 3 = .int .i64 (w : Int) ∧ env.get 10 = .int .i64 (r : Int) ∧ env.get 11 = .int .i64 (q : Int) ∧ env.get 12 = .int .i64 (t : Int))) ?_ p _ _
        ⟨0, p, by omega, rfl, rfl, by simp [Env.get, hE]⟩
      clear hE
      rintro k env s3 ⟨q, t, hp, rfl, rfl, hE⟩
      have hql : q ≤ p := by
        have : q * 1 ≤ q * r := Nat.mul_le_mul_left q hpb
        omega
      by_cases hc : r ≤ k
      · have c1 : ((r : Int) ≤ (k : Int)) = True := eq_true (by omega)
        have e1 : IntKind.i64.wrap ((k : Int) - (r : Int)) = ((k - r : Nat) : Int) := by rw [i64_id (by omega) (by omega)]; omega
        have e2 := i64_succ (i := q) (by omega)
        repeat first
          | with_reducible (first | refine vw_seq ?_ | refine vw_block ?_ | refine vw_rg ?_)
          | ((with_reducible apply vq_free'); (focus rfl))
          | ((with_reducible (first | refine vq_nil ?_ | refine vw_skip ?_ | refine vw_exit ?_ | refine vw_ret ?_)); simp only [Env.keep, Env.get, Env.ev, List.map, Nat.reduceEqDiff, ↓reduceIte, Then, Out'])
          | ((with_reducible (first | apply vq_p | apply vq_r | apply vq_a | apply vq_w | apply vq_g | apply vw_condm)); (focus (simp (disch := (first | with_reducible assumption | omega | ((repeat (first | rw [Store.next_push] | rw [Store.next_set])) <;> omega) | fail)) only [go_sem, Nat.reduceEqDiff, Nat.reduceAdd, Nat.reduceMul, Nat.reduceLeDiff, ↓reduceIte, reduceCtorEq, Int.reduceEq, Int.reduceLT, Int.reduceLE, Int.reduceAdd, Int.reduceSub, Int.reduceMul, Int.reduceNeg, Int.reduceToNat, hE, c1, e1, e2] <;> rfl)); (first | (with_reducible (first | refine way_tt ?_ | refine way_ff ?_ | refine wayc_t ?_ | refine wayc_f ?_ | refine way_tf ?_ | refine way_ft ?_ | refine way_t ?_); try simp only [Env.put]) | with_reducible refine (?_ : WQ _ _ _ _ _ _)))
          | fail
        exact ⟨k - r, by omega, q + 1, k - r, by rw [Nat.succ_mul]; omega, rfl, trivial, (by simp only [Env.get, Nat.reduceEqDiff, ↓reduceIte, hE, and_self])⟩
      · have c1 : ((r : Int) ≤ (k : Int)) = False := eq_false (by omega)
        have dq : p / r = q := by
          rw [hp, Nat.mul_comm, Nat.mul_add_div hpb, Nat.div_eq_of_lt (by omega), Nat.add_zero]
        have dm : p % r = k := by
          rw [hp, Nat.mul_comm, Nat.mul_add_mod, Nat.mod_eq_of_lt (by omega)]
        rw [dq] at ta
        rw [dm] at tm
        have hop' : op = 3 ∨ op = 4 := by omega
        rcases hop' with rfl | rfl
        · have hd : doZ 3 a b w = trimZ (a.tdiv b) w := by simp only [doZ]; rw [if_neg hb0]
          have n3 : ((3 : Nat) : Int) = 3 := rfl
          rw [hd]
          by_cases hx : (decide (a < 0) != decide (b < 0)) = true
          · rw [if_pos hx] at ta
            rw [ta]
            have e1 : IntKind.i64.wrap (0 - (q : Int)) = -(q : Int) := by rw [i64_id (by omega) (by omega)]; omega
            have hx' : (!(decide (a < 0) == decide (b < 0))) = true := hx
            have hT := hT (-(q : Int)) (by omega) (by omega)
            repeat first
              | (apply vq_isoL hT rfl; (focus (simp only [Env.evL, Env.ev, Env.get, Nat.reduceEqDiff, ↓reduceIte, hE]; rfl)); (focus rfl))
              | with_reducible (first | refine vw_seq ?_ | refine vw_block ?_ | refine vw_rg ?_)
              | ((with_reducible apply vq_free'); (focus rfl))
              | ((with_reducible (first | refine vq_nil ?_ | refine vw_skip ?_ | refine vw_exit ?_ | refine vw_ret ?_)); simp only [Env.keep, Env.get, Env.ev, List.map, Nat.reduceEqDiff, ↓reduceIte, Then, Out'])
              | ((with_reducible (first | apply vq_p | apply vq_r | apply vq_a | apply vq_w | apply vq_g | apply vw_condm)); (focus (simp (disch := (first | with_reducible assumption | omega | ((repeat (first | rw [Store.next_push] | rw [Store.next_set])) <;> omega) | fail)) only [go_sem, Nat.reduceEqDiff, Nat.reduceAdd, Nat.reduceMul, Nat.reduceLeDiff, ↓reduceIte, reduceCtorEq, Int.reduceEq, Int.reduceLT, Int.reduceLE, Int.reduceAdd, Int.reduceSub, Int.reduceMul, Int.reduceNeg, Int.reduceToNat, hE, c1, n3, hx', e1] <;> rfl)); (first | (with_reducible (first | refine way_tt ?_ | refine way_ff ?_ | refine wayc_t ?_ | refine wayc_f ?_ | refine way_tf ?_ | refine way_ft ?_ | refine way_t ?_); try simp only [Env.put]) | with_reducible refine (?_ : WQ _ _ _ _ _ _)))
              | fail
            exact ⟨.inr trivial, trivial, (by simp only [resOf, resAll, resOne, Env.get, Nat.reduceEqDiff, ↓reduceIte] <;> rfl)⟩
          · rw [if_neg hx] at ta
            rw [ta]
            have hx' : (!(decide (a < 0) == decide (b < 0))) = false := by simpa using hx
            have hT := hT (q : Int) (by omega) (by omega)
            repeat first
              | (apply vq_isoL hT rfl; (focus (simp only [Env.evL, Env.ev, Env.get, Nat.reduceEqDiff, ↓reduceIte, hE]; rfl)); (focus rfl))
              | with_reducible (first | refine vw_seq ?_ | refine vw_block ?_ | refine vw_rg ?_)
              | ((with_reducible apply vq_free'); (focus rfl))
              | ((with_reducible (first | refine vq_nil ?_ | refine vw_skip ?_ | refine vw_exit ?_ | refine vw_ret ?_)); simp only [Env.keep, Env.get, Env.ev, List.map, Nat.reduceEqDiff, ↓reduceIte, Then, Out'])
              | ((with_reducible (first | apply vq_p | apply vq_r | apply vq_a | apply vq_w | apply vq_g | apply vw_condm)); (focus (simp (disch := (first | with_reducible assumption | omega | ((repeat (first | rw [Store.next_push] | rw [Store.next_set])) <;> omega) | fail)) only [go_sem, Nat.reduceEqDiff, Nat.reduceAdd, Nat.reduceMul, Nat.reduceLeDiff, ↓reduceIte, reduceCtorEq, Int.reduceEq, Int.reduceLT, Int.reduceLE, Int.reduceAdd, Int.reduceSub, Int.reduceMul, Int.reduceNeg, Int.reduceToNat, hE, c1, n3, hx'] <;> rfl)); (first | (with_reducible (first | refine way_tt ?_ | refine way_ff ?_ | refine wayc_t ?_ | refine wayc_f ?_ | refine way_tf ?_ | refine way_ft ?_ | refine way_t ?_); try simp only [Env.put]) | with_reducible refine (?_ : WQ _ _ _ _ _ _)))
              | fail
            exact ⟨.inr trivial, trivial, (by simp only [resOf, resAll, resOne, Env.get, Nat.reduceEqDiff, ↓reduceIte] <;> rfl)⟩
        · have hd : doZ 4 a b w = trimZ (a.tmod b) w := by simp only [doZ]; rw [if_neg hb0]
          have n3 : (((4 : Nat) : Int) == 3) = false := rfl
          rw [hd]
          by_cases hx : a < 0
          · rw [if_pos hx] at tm
            rw [tm]
            have e1 : IntKind.i64.wrap (0 - (k : Int)) = -(k : Int) := by rw [i64_id (by omega) (by omega)]; omega
            have hx' : (a < 0) = True := eq_true hx
            have hT := hT (-(k : Int)) (by omega) (by omega)
            repeat first
              | (apply vq_isoL hT rfl; (focus (simp only [Env.evL, Env.ev, Env.get, Nat.reduceEqDiff, ↓reduceIte, hE]; rfl)); (focus rfl))
              | with_reducible (first | refine vw_seq ?_ | refine vw_block ?_ | refine vw_rg ?_)
              | ((with_reducible apply vq_free'); (focus rfl))
              | ((with_reducible (first | refine vq_nil ?_ | refine vw_skip ?_ | refine vw_exit ?_ | refine vw_ret ?_)); simp only [Env.keep, Env.get, Env.ev, List.map, Nat.reduceEqDiff, ↓reduceIte, Then, Out'])
              | ((with_reducible (first | apply vq_p | apply vq_r | apply vq_a | apply vq_w | apply vq_g | apply vw_condm)); (focus (simp (disch := (first | with_reducible assumption | omega | ((repeat (first | rw [Store.next_push] | rw [Store.next_set])) <;> omega) | fail)) only [go_sem, Nat.reduceEqDiff, Nat.reduceAdd, Nat.reduceMul, Nat.reduceLeDiff, ↓reduceIte, reduceCtorEq, Int.reduceEq, Int.reduceLT, Int.reduceLE, Int.reduceAdd, Int.reduceSub, Int.reduceMul, Int.reduceNeg, Int.reduceToNat, hE, c1, n3, hx', e1] <;> rfl)); (first | (with_reducible (first | refine way_tt ?_ | refine way_ff ?_ | refine wayc_t ?_ | refine wayc_f ?_ | refine way_tf ?_ | refine way_ft ?_ | refine way_t ?_); try simp only [Env.put]) | with_reducible refine (?_ : WQ _ _ _ _ _ _)))
              | fail
            exact ⟨.inr trivial, trivial, (by simp only [resOf, resAll, resOne, Env.get, Nat.reduceEqDiff, ↓reduceIte] <;> rfl)⟩
          · rw [if_neg hx] at tm
            rw [tm]
            have hx' : (a < 0) = False := eq_false hx
            have hT := hT (k : Int) (by omega) (by omega)
            repeat first
              | (apply vq_isoL hT rfl; (focus (simp only [Env.evL, Env.ev, Env.get, Nat.reduceEqDiff, ↓reduceIte, hE]; rfl)); (focus rfl))
              | with_reducible (first | refine vw_seq ?_ | refine vw_block ?_ | refine vw_rg ?_)
              | ((with_reducible apply vq_free'); (focus rfl))
              | ((with_reducible (first | refine vq_nil ?_ | refine vw_skip ?_ | refine vw_exit ?_ | refine vw_ret ?_)); simp only [Env.keep, Env.get, Env.ev, List.map, Nat.reduceEqDiff, ↓reduceIte, Then, Out'])
              | ((with_reducible (first | apply vq_p | apply vq_r | apply vq_a | apply vq_w | apply vq_g | apply vw_condm)); (focus (simp (disch := (first | with_reducible assumption | omega | ((repeat (first | rw [Store.next_push] | rw [Store.next_set])) <;> omega) | fail)) only [go_sem, Nat.reduceEqDiff, Nat.reduceAdd, Nat.reduceMul, Nat.reduceLeDiff, ↓reduceIte, reduceCtorEq, Int.reduceEq, Int.reduceLT, Int.reduceLE, Int.reduceAdd, Int.reduceSub, Int.reduceMul, Int.reduceNeg, Int.reduceToNat, hE, c1, n3, hx'] <;> rfl)); (first | (with_reducible (first | refine way_tt ?_ | refine way_ff ?_ | refine wayc_t ?_ | refine wayc_f ?_ | refine way_tf ?_ | refine way_ft ?_ | refine way_t ?_); try simp only [Env.put]) | with_reducible refine (?_ : WQ _ _ _ _ _ _)))
              | fail
            exact ⟨.inr trivial, trivial, (by simp only [resOf, resAll, resOne, Env.get, Nat.reduceEqDiff, ↓reduceIte] <;> rfl)⟩

theorem doV {s : Store} {g : Nat} {G : Gr} {ids : List Nat} {da db : D} {A B : List Nat} {op : Nat} (hop : op < 5) (hG : GA s g G ids) (hw : G.WF) (hA : VI s ids G da A) (hB : VI s ids G db B) (hL : G.nodes.length + 6000 < 200000) :
    EvP vfs 43 [.ptr g 0, .int .i64 (op : Int), da, db] s (GZ s g ids G 5500 (wid2 A B) fun m => doZ op (valE G m A) (valE G m B) (wid2 A B)) := by
  refine evp_of (vf := vf43) rfl ?_
  simp only [vf43, List.map, List.getD, List.getElem?_cons_zero, List.getElem?_cons_succ, List.getElem?_nil, Option.getD]
  have h5 : op = 0 ∨ op = 1 ∨ op = 2 ∨ op = 3 ∨ op = 4 := by omega
  rcases h5 with h5 | h5 | h5 | h5 | h5
  · have n0 : ((op : Int) == 0) = true := by rw [h5]; rfl
    have n1 : ((op : Int) == 1) = false := by rw [h5]; rfl
    have n2 : ((op : Int) == 2) = false := by rw [h5]; rfl
    have n3 : ((op : Int) == 3) = false := by rw [h5]; rfl
    repeat first
      | with_reducible (first | refine vw_seq ?_ | refine vw_block ?_ | refine vw_rg ?_)
      | ((with_reducible apply vq_free'); (focus rfl))
      | ((with_reducible (first | refine vq_nil ?_ | refine vw_skip ?_ | refine vw_exit ?_ | refine vw_ret ?_)); simp only [Env.keep, Env.get, Env.ev, List.map, Nat.reduceEqDiff, ↓reduceIte, Then, Out'])
      | ((with_reducible (first | apply vq_p | apply vq_r | apply vq_a | apply vq_w | apply vq_g | apply vw_condm)); (focus (simp (disch := (first | with_reducible assumption | omega | ((repeat (first | rw [Store.next_push] | rw [Store.next_set])) <;> omega) | fail)) only [go_sem, Nat.reduceEqDiff, Nat.reduceAdd, Nat.reduceMul, Nat.reduceLeDiff, ↓reduceIte, reduceCtorEq, Int.reduceEq, Int.reduceLT, Int.reduceLE, Int.reduceAdd, Int.reduceSub, Int.reduceMul, Int.reduceNeg, Int.reduceToNat, n0, n1, n2, n3] <;> rfl)); (first | (with_reducible (first | refine way_tt ?_ | refine way_ff ?_ | refine wayc_t ?_ | refine wayc_f ?_ | refine way_tf ?_ | refine way_ft ?_ | refine way_t ?_); try simp only [Env.put]) | with_reducible refine (?_ : WQ _ _ _ _ _ _)))
      | fail
    apply vq_evpf (addZ hG hw hA hB (by omega))
    · rfl
    intro q s1 hq
    repeat first
      | with_reducible (first | refine vw_seq ?_ | refine vw_block ?_ | refine vw_rg ?_)
      | ((with_reducible apply vq_free'); (focus rfl))
      | ((with_reducible (first | refine vq_nil ?_ | refine vw_skip ?_ | refine vw_exit ?_ | refine vw_ret ?_)); simp only [Env.keep, Env.get, Env.ev, List.map, Nat.reduceEqDiff, ↓reduceIte, Then, Out'])
      | ((with_reducible (first | apply vq_p | apply vq_r | apply vq_a | apply vq_w | apply vq_g | apply vw_condm)); (focus (simp (disch := (first | with_reducible assumption | omega | ((repeat (first | rw [Store.next_push] | rw [Store.next_set])) <;> omega) | fail)) only [go_sem, Nat.reduceEqDiff, Nat.reduceAdd, Nat.reduceMul, Nat.reduceLeDiff, ↓reduceIte, reduceCtorEq, Int.reduceEq, Int.reduceLT, Int.reduceLE, Int.reduceAdd, Int.reduceSub, Int.reduceMul, Int.reduceNeg, Int.reduceToNat] <;> rfl)); (first | (with_reducible (first | refine way_tt ?_ | refine way_ff ?_ | refine wayc_t ?_ | refine wayc_f ?_ | refine way_tf ?_ | refine way_ft ?_ | refine way_t ?_); try simp only [Env.put]) | with_reducible refine (?_ : WQ _ _ _ _ _ _)))
      | fail
    exact ⟨.inr trivial, _, (by simp only [resOf, resAll, resOne, Env.get, Nat.reduceEqDiff, ↓reduceIte] <;> rfl), (hq.weaken (by omega)).cong fun m => by rw [h5]; rfl⟩
  · have n0 : ((op : Int) == 0) = false := by rw [h5]; rfl
    have n1 : ((op : Int) == 1) = true := by rw [h5]; rfl
    have n2 : ((op : Int) == 2) = false := by rw [h5]; rfl
    have n3 : ((op : Int) == 3) = false := by rw [h5]; rfl
    repeat first
      | with_reducible (first | refine vw_seq ?_ | refine vw_block ?_ | refine vw_rg ?_)
      | ((with_reducible apply vq_free'); (focus rfl))
      | ((with_reducible (first | refine vq_nil ?_ | refine vw_skip ?_ | refine vw_exit ?_ | refine vw_ret ?_)); simp only [Env.keep, Env.get, Env.ev, List.map, Nat.reduceEqDiff, ↓reduceIte, Then, Out'])
      | ((with_reducible (first | apply vq_p | apply vq_r | apply vq_a | apply vq_w | apply vq_g | apply vw_condm)); (focus (simp (disch := (first | with_reducible assumption | omega | ((repeat (first | rw [Store.next_push] | rw [Store.next_set])) <;> omega) | fail)) only [go_sem, Nat.reduceEqDiff, Nat.reduceAdd, Nat.reduceMul, Nat.reduceLeDiff, ↓reduceIte, reduceCtorEq, Int.reduceEq, Int.reduceLT, Int.reduceLE, Int.reduceAdd, Int.reduceSub, Int.reduceMul, Int.reduceNeg, Int.reduceToNat, n0, n1, n2, n3] <;> rfl)); (first | (with_reducible (first | refine way_tt ?_ | refine way_ff ?_ | refine wayc_t ?_ | refine wayc_f ?_ | refine way_tf ?_ | refine way_ft ?_ | refine way_t ?_); try simp only [Env.put]) | with_reducible refine (?_ : WQ _ _ _ _ _ _)))
      | fail
    apply vq_evpf (subZ hG hw hA hB (by omega))
    · rfl
    intro q s1 hq
    repeat first
      | with_reducible (first | refine vw_seq ?_ | refine vw_block ?_ | refine vw_rg ?_)
      | ((with_reducible apply vq_free'); (focus rfl))
      | ((with_reducible (first | refine vq_nil ?_ | refine vw_skip ?_ | refine vw_exit ?_ | refine vw_ret ?_)); simp only [Env.keep, Env.get, Env.ev, List.map, Nat.reduceEqDiff, ↓reduceIte, Then, Out'])
      | ((with_reducible (first | apply vq_p | apply vq_r | apply vq_a | apply vq_w | apply vq_g | apply vw_condm)); (focus (simp (disch := (first | with_reducible assumption | omega | ((repeat (first | rw [Store.next_push] | rw [Store.next_set])) <;> omega) | fail)) only [go_sem, Nat.reduceEqDiff, Nat.reduceAdd, Nat.reduceMul, Nat.reduceLeDiff, ↓reduceIte, reduceCtorEq, Int.reduceEq, Int.reduceLT, Int.reduceLE, Int.reduceAdd, Int.reduceSub, Int.reduceMul, Int.reduceNeg, Int.reduceToNat] <;> rfl)); (first | (with_reducible (first | refine way_tt ?_ | refine way_ff ?_ | refine wayc_t ?_ | refine wayc_f ?_ | refine way_tf ?_ | refine way_ft ?_ | refine way_t ?_); try simp only [Env.put]) | with_reducible refine (?_ : WQ _ _ _ _ _ _)))
      | fail
    exact ⟨.inr trivial, _, (by simp only [resOf, resAll, resOne, Env.get, Nat.reduceEqDiff, ↓reduceIte] <;> rfl), (hq.weaken (by omega)).cong fun m => by rw [h5]; rfl⟩
  · have n0 : ((op : Int) == 0) = false := by rw [h5]; rfl
    have n1 : ((op : Int) == 1) = false := by rw [h5]; rfl
    have n2 : ((op : Int) == 2) = true := by rw [h5]; rfl
    have n3 : ((op : Int) == 3) = false := by rw [h5]; rfl
    repeat first
      | with_reducible (first | refine vw_seq ?_ | refine vw_block ?_ | refine vw_rg ?_)
      | ((with_reducible apply vq_free'); (focus rfl))
      | ((with_reducible (first | refine vq_nil ?_ | refine vw_skip ?_ | refine vw_exit ?_ | refine vw_ret ?_)); simp only [Env.keep, Env.get, Env.ev, List.map, Nat.reduceEqDiff, ↓reduceIte, Then, Out'])
      | ((with_reducible (first | apply vq_p | apply vq_r | apply vq_a | apply vq_w | apply vq_g | apply vw_condm)); (focus (simp (disch := (first | with_reducible assumption | omega | ((repeat (first | rw [Store.next_push] | rw [Store.next_set])) <;> omega) | fail)) only [go_sem, Nat.reduceEqDiff, Nat.reduceAdd, Nat.reduceMul, Nat.reduceLeDiff, ↓reduceIte, reduceCtorEq, Int.reduceEq, Int.reduceLT, Int.reduceLE, Int.reduceAdd, Int.reduceSub, Int.reduceMul, Int.reduceNeg, Int.reduceToNat, n0, n1, n2, n3] <;> rfl)); (first | (with_reducible (first | refine way_tt ?_ | refine way_ff ?_ | refine wayc_t ?_ | refine wayc_f ?_ | refine way_tf ?_ | refine way_ft ?_ | refine way_t ?_); try simp only [Env.put]) | with_reducible refine (?_ : WQ _ _ _ _ _ _)))
      | fail
    apply vq_evpf (mulZ hG hw hA hB (by omega))
    · rfl
    intro q s1 hq
    repeat first
      | with_reducible (first | refine vw_seq ?_ | refine vw_block ?_ | refine vw_rg ?_)
      | ((with_reducible apply vq_free'); (focus rfl))
      | ((with_reducible (first | refine vq_nil ?_ | refine vw_skip ?_ | refine vw_exit ?_ | refine vw_ret ?_)); simp only [Env.keep, Env.get, Env.ev, List.map, Nat.reduceEqDiff, ↓reduceIte, Then, Out'])
      | ((with_reducible (first | apply vq_p | apply vq_r | apply vq_a | apply vq_w | apply vq_g | apply vw_condm)); (focus (simp (disch := (first | with_reducible assumption | omega | ((repeat (first | rw [Store.next_push] | rw [Store.next_set])) <;> omega) | fail)) only [go_sem, Nat.reduceEqDiff, Nat.reduceAdd, Nat.reduceMul, Nat.reduceLeDiff, ↓reduceIte, reduceCtorEq, Int.reduceEq, Int.reduceLT, Int.reduceLE, Int.reduceAdd, Int.reduceSub, Int.reduceMul, Int.reduceNeg, Int.reduceToNat] <;> rfl)); (first | (with_reducible (first | refine way_tt ?_ | refine way_ff ?_ | refine wayc_t ?_ | refine wayc_f ?_ | refine way_tf ?_ | refine way_ft ?_ | refine way_t ?_); try simp only [Env.put]) | with_reducible refine (?_ : WQ _ _ _ _ _ _)))
      | fail
    exact ⟨.inr trivial, _, (by simp only [resOf, resAll, resOne, Env.get, Nat.reduceEqDiff, ↓reduceIte] <;> rfl), (hq.weaken (by omega)).cong fun m => by rw [h5]; rfl⟩
  · have n0 : ((op : Int) == 0) = false := by rw [h5]; rfl
    have n1 : ((op : Int) == 1) = false := by rw [h5]; rfl
    have n2 : ((op : Int) == 2) = false := by rw [h5]; rfl
    have n3 : ((op : Int) == 3) = true := by rw [h5]; rfl
    repeat first
      | with_reducible (first | refine vw_seq ?_ | refine vw_block ?_ | refine vw_rg ?_)
      | ((with_reducible apply vq_free'); (focus rfl))
      | ((with_reducible (first | refine vq_nil ?_ | refine vw_skip ?_ | refine vw_exit ?_ | refine vw_ret ?_)); simp only [Env.keep, Env.get, Env.ev, List.map, Nat.reduceEqDiff, ↓reduceIte, Then, Out'])
      | ((with_reducible (first | apply vq_p | apply vq_r | apply vq_a | apply vq_w | apply vq_g | apply vw_condm)); (focus (simp (disch := (first | with_reducible assumption | omega | ((repeat (first | rw [Store.next_push] | rw [Store.next_set])) <;> omega) | fail)) only [go_sem, Nat.reduceEqDiff, Nat.reduceAdd, Nat.reduceMul, Nat.reduceLeDiff, ↓reduceIte, reduceCtorEq, Int.reduceEq, Int.reduceLT, Int.reduceLE, Int.reduceAdd, Int.reduceSub, Int.reduceMul, Int.reduceNeg, Int.reduceToNat, n0, n1, n2, n3] <;> rfl)); (first | (with_reducible (first | refine way_tt ?_ | refine way_ff ?_ | refine wayc_t ?_ | refine wayc_f ?_ | refine way_tf ?_ | refine way_ft ?_ | refine way_t ?_); try simp only [Env.put]) | with_reducible refine (?_ : WQ _ _ _ _ _ _)))
      | fail
    apply vq_evpf (divZ hG hw hA hB (by omega))
    · rfl
    intro q s1 hq
    repeat first
      | with_reducible (first | refine vw_seq ?_ | refine vw_block ?_ | refine vw_rg ?_)
      | ((with_reducible apply vq_free'); (focus rfl))
      | ((with_reducible (first | refine vq_nil ?_ | refine vw_skip ?_ | refine vw_exit ?_ | refine vw_ret ?_)); simp only [Env.keep, Env.get, Env.ev, List.map, Nat.reduceEqDiff, ↓reduceIte, Then, Out'])
      | ((with_reducible (first | apply vq_p | apply vq_r | apply vq_a | apply vq_w | apply vq_g | apply vw_condm)); (focus (simp (disch := (first | with_reducible assumption | omega | ((repeat (first | rw [Store.next_push] | rw [Store.next_set])) <;> omega) | fail)) only [go_sem, Nat.reduceEqDiff, Nat.reduceAdd, Nat.reduceMul, Nat.reduceLeDiff, ↓reduceIte, reduceCtorEq, Int.reduceEq, Int.reduceLT, Int.reduceLE, Int.reduceAdd, Int.reduceSub, Int.reduceMul, Int.reduceNeg, Int.reduceToNat] <;> rfl)); (first | (with_reducible (first | refine way_tt ?_ | refine way_ff ?_ | refine wayc_t ?_ | refine wayc_f ?_ | refine way_tf ?_ | refine way_ft ?_ | refine way_t ?_); try simp only [Env.put]) | with_reducible refine (?_ : WQ _ _ _ _ _ _)))
      | fail
    exact ⟨.inr trivial, _, (by simp only [resOf, resAll, resOne, Env.get, Nat.reduceEqDiff, ↓reduceIte] <;> rfl), hq.cong fun m => by rw [h5]; rfl⟩
  · have n0 : ((op : Int) == 0) = false := by rw [h5]; rfl
    have n1 : ((op : Int) == 1) = false := by rw [h5]; rfl
    have n2 : ((op : Int) == 2) = false := by rw [h5]; rfl
    have n3 : ((op : Int) == 3) = false := by rw [h5]; rfl
    repeat first
      | with_reducible (first | refine vw_seq ?_ | refine vw_block ?_ | refine vw_rg ?_)
      | ((with_reducible apply vq_free'); (focus rfl))
      | ((with_reducible (first | refine vq_nil ?_ | refine vw_skip ?_ | refine vw_exit ?_ | refine vw_ret ?_)); simp only [Env.keep, Env.get, Env.ev, List.map, Nat.reduceEqDiff, ↓reduceIte, Then, Out'])
      | ((with_reducible (first | apply vq_p | apply vq_r | apply vq_a | apply vq_w | apply vq_g | apply vw_condm)); (focus (simp (disch := (first | with_reducible assumption | omega | ((repeat (first | rw [Store.next_push] | rw [Store.next_set])) <;> omega) | fail)) only [go_sem, Nat.reduceEqDiff, Nat.reduceAdd, Nat.reduceMul, Nat.reduceLeDiff, ↓reduceIte, reduceCtorEq, Int.reduceEq, Int.reduceLT, Int.reduceLE, Int.reduceAdd, Int.reduceSub, Int.reduceMul, Int.reduceNeg, Int.reduceToNat, n0, n1, n2, n3] <;> rfl)); (first | (with_reducible (first | refine way_tt ?_ | refine way_ff ?_ | refine wayc_t ?_ | refine wayc_f ?_ | refine way_tf ?_ | refine way_ft ?_ | refine way_t ?_); try simp only [Env.put]) | with_reducible refine (?_ : WQ _ _ _ _ _ _)))
      | fail
    apply vq_evpf (remZ hG hw hA hB (by omega))
    · rfl
    intro q s1 hq
    repeat first
      | with_reducible (first | refine vw_seq ?_ | refine vw_block ?_ | refine vw_rg ?_)
      | ((with_reducible apply vq_free'); (focus rfl))
      | ((with_reducible (first | refine vq_nil ?_ | refine vw_skip ?_ | refine vw_exit ?_ | refine vw_ret ?_)); simp only [Env.keep, Env.get, Env.ev, List.map, Nat.reduceEqDiff, ↓reduceIte, Then, Out'])
      | ((with_reducible (first | apply vq_p | apply vq_r | apply vq_a | apply vq_w | apply vq_g | apply vw_condm)); (focus (simp (disch := (first | with_reducible assumption | omega | ((repeat (first | rw [Store.next_push] | rw [Store.next_set])) <;> omega) | fail)) only [go_sem, Nat.reduceEqDiff, Nat.reduceAdd, Nat.reduceMul, Nat.reduceLeDiff, ↓reduceIte, reduceCtorEq, Int.reduceEq, Int.reduceLT, Int.reduceLE, Int.reduceAdd, Int.reduceSub, Int.reduceMul, Int.reduceNeg, Int.reduceToNat] <;> rfl)); (first | (with_reducible (first | refine way_tt ?_ | refine way_ff ?_ | refine wayc_t ?_ | refine wayc_f ?_ | refine way_tf ?_ | refine way_ft ?_ | refine way_t ?_); try simp only [Env.put]) | with_reducible refine (?_ : WQ _ _ _ _ _ _)))
      | fail
    exact ⟨.inr trivial, _, (by simp only [resOf, resAll, resOne, Env.get, Nat.reduceEqDiff, ↓reduceIte] <;> rfl), hq.cong fun m => by rw [h5]; rfl⟩
end Go.Proofs.Ytedoacfoglbfeaa
