/- Vectors made wider or less wide. -/
import Derived.Test.YtedoacfoglbfeaaB6
import Derived.Test.YtedoacfoglbfeaaVkBy
namespace Go.Proofs.Ytedoacfoglbfeaa
open Go.V
set_option maxRecDepth 100000
set_option maxHeartbeats 4000000
set_option linter.unusedSimpArgs false
set_option linter.unusedVariables false

theorem wideV {s : Store} {dv : D} {A : List Nat} {w : Nat} {n : Int} (hA : Rd s dv (cellsI A)) (h1 : 1 ≤ A.length) (h2 : A.length ≤ 16) (hn : (w : Int) = min (max n 1) 16) :
    EvP vfs 36 [dv, .int .i64 n] s fun d s' => ∃ id, d = .arr id 0 w 1 ∧ s'.get id = some (.cells (cellsI (wideL A w))) ∧ Fr [] s s' ∧ s.next ≤ id := by
  have hla := hA.lenI
  have hwd := width_ok (s := Store.empty) (n := n)
  rw [← hn] at hwd
  have hwl : w ≤ 16 := by omega
  have a1 : ((0 : Int) ≤ (w : Int)) = True := eq_true (by omega)
  have a2 : ((((8 : Nat) : Int) * (w : Int)) ≤ 2 ^ 47) = True := eq_true (by omega)
  have a3 : ((w : Int) < 2 ^ 62) = True := eq_true (by omega)
  have a4 : ((A.length : Int) < 1) = False := eq_false (by omega)
  have a5 : ((16 : Int) < (A.length : Int)) = False := eq_false (by omega)
  have a6 : IntKind.i64.wrap ((A.length : Int) - 1) = ((A.length - 1 : Nat) : Int) := by rw [i64_id (by omega) (by omega)]; omega
  refine evp_of (vf := vf36) rfl ?_
  simp only [vf36, List.map, List.getD, List.getElem?_cons_zero, List.getElem?_cons_succ, List.getElem?_nil, Option.getD]
  repeat first
    | (apply vq_isoL hwd rfl; (focus rfl); (focus rfl))
    | with_reducible (first | refine vw_seq ?_ | refine vw_block ?_ | refine vw_rg ?_)
    | ((with_reducible apply vq_free'); (focus rfl))
    | ((with_reducible (first | refine vq_nil ?_ | refine vw_skip ?_ | refine vw_exit ?_ | refine vw_ret ?_)); simp only [Env.keep, Env.get, Env.ev, List.map, Nat.reduceEqDiff, ↓reduceIte, Then, Out'])
    | ((with_reducible (first | apply vq_p | apply vq_r | apply vq_a | apply vq_w | apply vq_g | apply vw_condm)); (focus (simp (disch := (first | with_reducible assumption | omega | ((repeat (first | rw [Store.next_push] | rw [Store.next_set])) <;> omega) | fail)) only [go_sem, Nat.reduceEqDiff, Nat.reduceAdd, Nat.reduceMul, Nat.reduceLeDiff, ↓reduceIte, reduceCtorEq, Int.reduceEq, Int.reduceLT, Int.reduceLE, Int.reduceAdd, Int.reduceSub, Int.reduceMul, Int.reduceNeg, Int.reduceToNat, hla, a1, a2, a3, a4, a5, zerosI, Int.le_refl] <;> rfl)); (first | (with_reducible (first | refine way_tt ?_ | refine way_ff ?_ | refine wayc_t ?_ | refine wayc_f ?_ | refine way_tf ?_ | refine way_ft ?_ | refine way_t ?_); try simp only [Env.put]) | with_reducible refine (?_ : WQ _ _ _ _ _ _)))
    | fail
  refine vw_loop_inv (fun k env s1 => ∃ (i : Nat), i ≤ w ∧ k = w - i ∧ Fr [] s s1 ∧ s1.get s.next = some (.cells (cellsI (fillL (wideL A i) w))) ∧
    (env.get 0 = dv ∧ env.get 5 = .arr s.next 0 w 1 ∧ env.get 20 = .int .i64 (w : Int) ∧ env.get 21 = .int .i64 (i : Int))) ?_ w _ _
    ⟨0, Nat.zero_le _, by omega, Fr.push _, by rw [show wideL A 0 = [] from rfl, fillL_nil]; exact get_push_new rfl, by simp [Env.get, Made.at]⟩
  rintro k env s1 ⟨i, hi, rfl, f1, hg, hE⟩
  by_cases hci : i < w
  · have hci' : (i : Int) < (w : Int) := by omega
    have hs := i64_succ (i := i) (by omega)
    have hmi : min i (A.length - 1) < A.length := by omega
    have hmin : min (i : Int) ((A.length - 1 : Nat) : Int) = ((min i (A.length - 1) : Nat) : Int) := by omega
    have hrd1 : Rd s1 dv (cellsI A) := hA.stay fun id off n hd => by
      rcases hA with ⟨h, _⟩ | h | ⟨id', off', cs, h, hgg, _⟩
      · rw [h] at hd; cases hd
      · rw [h] at hd; cases hd
      · rw [h] at hd; cases hd; exact f1.2 _ (get_lts hgg) (by simp)
    obtain ⟨p, p1, p2⟩ := hrd1.idxI hmi
    rw [getD_el hmi] at p2
    have hsu := wideL_succ A i
    have hll := wideL_len A i
    generalize A.getD (min i (A.length - 1)) 0 = x at *
    have hfl := fillL_len (l := wideL A i) (w := w) (by omega)
    have hfs : (fillL (wideL A i) w).set i x = fillL (wideL A (i + 1)) w := by
      rw [hsu]
      have := fillL_set (l := wideL A i) (w := w) (e := x) (by omega)
      rwa [hll] at this
    repeat first
      | (apply vq_p; (focus (simp only [evP, Env.ev, Env.get, Nat.reduceEqDiff, ↓reduceIte, hE]; exact p1)))
      | (apply vq_ld; (focus (simp only [Env.ev, Env.get, Nat.reduceEqDiff, ↓reduceIte]; rfl)); (focus exact p2))
      | (apply vq_wI hg (by omega : i < (fillL (wideL A i) w).length); (focus rfl); (focus rfl))
      | with_reducible (first | refine vw_seq ?_ | refine vw_block ?_ | refine vw_rg ?_)
      | ((with_reducible apply vq_free'); (focus rfl))
      | ((with_reducible (first | refine vq_nil ?_ | refine vw_skip ?_ | refine vw_exit ?_ | refine vw_ret ?_)); simp only [Env.keep, Env.get, Env.ev, List.map, Nat.reduceEqDiff, ↓reduceIte, Then, Out'])
      | ((with_reducible (first | apply vq_p | apply vq_r | apply vq_a | apply vq_w | apply vq_g | apply vw_condm)); (focus (simp (disch := (first | with_reducible assumption | omega | ((repeat (first | rw [Store.next_push] | rw [Store.next_set])) <;> omega) | fail)) only [go_sem, Nat.reduceEqDiff, Nat.reduceAdd, Nat.reduceMul, Nat.reduceLeDiff, ↓reduceIte, reduceCtorEq, Int.reduceEq, Int.reduceLT, Int.reduceLE, Int.reduceAdd, Int.reduceSub, Int.reduceMul, Int.reduceNeg, Int.reduceToNat, hE, hla, hci', a6, hmin, hs] <;> rfl)); (first | (with_reducible (first | refine way_tt ?_ | refine way_ff ?_ | refine wayc_t ?_ | refine wayc_f ?_ | refine way_tf ?_ | refine way_ft ?_ | refine way_t ?_); try simp only [Env.put]) | with_reducible refine (?_ : WQ _ _ _ _ _ _)))
      | fail
    refine ⟨w - (i + 1), by omega, i + 1, by omega, rfl, f1.thenSet _ (.inr (Nat.le_refl _)), ?_, (by simp only [Env.get, Nat.reduceEqDiff, ↓reduceIte, hE, and_self])⟩
    rw [get_set_eq (get_lts hg), hfs]
  · have hci' : ¬ (i : Int) < (w : Int) := by omega
    obtain rfl : i = w := by omega
    rw [fillL_all (wideL_len A i)] at hg
    repeat first
      | with_reducible (first | refine vw_seq ?_ | refine vw_block ?_ | refine vw_rg ?_)
      | ((with_reducible apply vq_free'); (focus rfl))
      | ((with_reducible (first | refine vq_nil ?_ | refine vw_skip ?_ | refine vw_exit ?_ | refine vw_ret ?_)); simp only [Env.keep, Env.get, Env.ev, List.map, Nat.reduceEqDiff, ↓reduceIte, Then, Out'])
      | ((with_reducible (first | apply vq_p | apply vq_r | apply vq_a | apply vq_w | apply vq_g | apply vw_condm)); (focus (simp (disch := (first | with_reducible assumption | omega | ((repeat (first | rw [Store.next_push] | rw [Store.next_set])) <;> omega) | fail)) only [go_sem, Nat.reduceEqDiff, Nat.reduceAdd, Nat.reduceMul, Nat.reduceLeDiff, ↓reduceIte, reduceCtorEq, Int.reduceEq, Int.reduceLT, Int.reduceLE, Int.reduceAdd, Int.reduceSub, Int.reduceMul, Int.reduceNeg, Int.reduceToNat, hE, hci'] <;> rfl)); (first | (with_reducible (first | refine way_tt ?_ | refine way_ff ?_ | refine wayc_t ?_ | refine wayc_f ?_ | refine way_tf ?_ | refine way_ft ?_ | refine way_t ?_); try simp only [Env.put]) | with_reducible refine (?_ : WQ _ _ _ _ _ _)))
      | fail
    exact ⟨.inr trivial, _, (by simp only [resOf, resAll, resOne, Env.get, Nat.reduceEqDiff, ↓reduceIte] <;> rfl), s.next, rfl, hg, f1, Nat.le_refl _⟩
end Go.Proofs.Ytedoacfoglbfeaa
