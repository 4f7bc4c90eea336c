/- The graph's New; edges that were picked; the examples. -/
import Derived.Test.YtedoacfoglbfeaaG2
import Derived.KernelRfl
namespace Go.Proofs.Ytedoacfoglbfeaa
open Go.V
set_option maxRecDepth 100000
set_option linter.unusedSimpArgs false
set_option linter.unusedVariables false

theorem own_nat {G : Gr} {a : Nat} (h : a < 2 * G.nodes.length) : G.own (a : Int) = a := by
  unfold Gr.own
  rw [if_neg]
  · simp
  · have := tdiv2 (e := (a : Int)) (by omega)
    omega

theorem andE {s : Store} {g : Nat} {G : Gr} {ids : List Nat} {a b : Nat} (hG : GA s g G ids) (hw : G.WF) (ha : a < 2 * G.nodes.length) (hb : b < 2 * G.nodes.length) (hL : G.nodes.length < 200000) :
    EvP vfs 19 [.ptr g 0, .int .i64 (a : Int), .int .i64 (b : Int)] s fun d s' => d = .int .i64 ((G.and a b).1 : Nat) ∧ ∃ ids', GrStep s g ids s' (G.and a b).2 ids' := by
  have := and_ok (a := (a : Int)) (b := (b : Int)) hG (by omega) (by omega) (by omega) (by omega) hw.len hL hw.lt
  rwa [own_nat ha, own_nat hb] at this

theorem new_ok {s : Store} : EvP vfs 17 [] s fun d s' => ∃ g ids, d = .ptr g 0 ∧ GA s' g Gr.new ids ∧ Fr [] s s' ∧ ∀ i ∈ ids, s.next ≤ i := by
  refine evp_of (vf := vf17) rfl ?_
  simp only [vf17, List.map, List.getD, List.getElem?_cons_zero, List.getElem?_cons_succ, List.getElem?_nil, Option.getD]
  repeat first
    | with_reducible (first | refine vw_seq ?_ | refine vw_block ?_ | refine vw_rg ?_)
    | ((with_reducible apply vq_free'); (focus rfl))
    | ((with_reducible (first | refine vq_nil ?_ | refine vw_skip ?_ | refine vw_exit ?_ | refine vw_ret ?_)); simp only [Env.keep, Env.get, Env.ev, List.map, Nat.reduceEqDiff, ↓reduceIte, Then, Out'])
    | ((with_reducible (first | apply vq_p | apply vq_r | apply vq_a | apply vq_w | apply vq_g | apply vw_condm)); (focus (simp (disch := (first | with_reducible assumption | omega | ((repeat (first | rw [Store.next_push] | rw [Store.next_set])) <;> omega) | fail)) only [go_sem, Nat.reduceEqDiff, Nat.reduceAdd, Nat.reduceMul, Nat.reduceLeDiff, ↓reduceIte, reduceCtorEq, Int.reduceEq, Int.reduceLT, Int.reduceLE, Int.reduceAdd, Int.reduceSub, Int.reduceMul, Int.reduceNeg, Int.reduceToNat, show (16 * (1 : Int) ≤ 2 ^ 47) = True by decide, show ((1 : Int) < 2 ^ 62) = True by decide] <;> rfl)); (first | (with_reducible (first | refine way_tt ?_ | refine way_ff ?_ | refine wayc_t ?_ | refine wayc_f ?_ | refine way_tf ?_ | refine way_ft ?_ | refine way_t ?_); try simp only [Env.put]) | with_reducible refine (?_ : WQ _ _ _ _ _ _)))
    | fail
  refine ⟨.inr trivial, _, (by simp only [resOf, resAll, resOne, Env.get, Nat.reduceEqDiff, ↓reduceIte] <;> rfl), s.next + 1 + 1, [s.next + 1 + 1, s.next, s.next + 1], rfl, ⟨s.next, s.next + 1, .nils, [], ⟨?_, ?_, .inl ⟨rfl, rfl, rfl⟩, ?_, ?_⟩, rfl⟩, ((Fr.push _).thenPush _).thenPush _, ?_⟩
  · exact get_push_new (by simp)
  · rw [get_push_old (by simp only [Store.next_push]; omega), get_push_old (by simp only [Store.next_push]; omega)]; exact get_push_new rfl
  · rw [get_push_old (by simp only [Store.next_push]; omega)]; exact get_push_new (by simp)
  · simp only [List.nodup_cons, List.mem_cons, List.mem_nil_iff, not_or, List.nodup_nil, not_false_eq_true, and_true, or_false]; omega
  · intro i hi
    simp at hi
    omega

theorem edge_ok {s : Store} {d : D} {es : List Nat} {n : Int} (hr : Rd s d (cellsI es)) (hp : 0 < es.length) (hl : es.length < 1000000) (hn : 0 ≤ n) (hn' : n < 9223372036854775808) (he : ∀ e ∈ es, e < 1000000) :
    Ev vfs 20 [d, .int .i64 n] s (.int .i64 (pickE es n.toNat : Nat)) s := by
  have hneg : ¬ n < 0 := by omega
  have hq := tdiv2 hn
  have hlen := hr.lenI
  have hpz : ¬ (es.length : Int) = 0 := by omega
  have hmod : (n / 2).tmod (es.length : Int) = ((n.toNat / 2 % es.length : Nat) : Int) := by
    rw [Int.tmod_eq_emod_of_nonneg (by omega)]
    obtain ⟨k, rfl⟩ := Int.eq_ofNat_of_zero_le hn
    simp
  have hlt : n.toNat / 2 % es.length < es.length := Nat.mod_lt _ hp
  obtain ⟨p, p1, p2⟩ := hr.idxI hlt
  have hget : es.getD (n.toNat / 2 % es.length) 0 = es[n.toNat / 2 % es.length] := by simp [List.getD, hlt]
  have hbound := he _ (List.getElem_mem hlt)
  generalize es[n.toNat / 2 % es.length] = e at *
  have hm2 : n.tmod 2 = n % 2 := Int.tmod_eq_emod_of_nonneg hn
  have hnot := not_ok (s := s) (e := e) (by omega)
  by_cases ho : n % 2 = 1
  · have hb : (n % 2 == 1) = true := by simp [ho]
    refine ev_of (vf := vf20) rfl ?_
    simp only [vf20, List.map, List.getD, List.getElem?_cons_zero, List.getElem?_cons_succ, List.getElem?_nil, Option.getD]
    repeat first
      | (apply vq_call'; (focus (simp only [Env.evL, Env.ev, Env.get, Nat.reduceEqDiff, ↓reduceIte, Made.at]; rfl)); (focus (exact hnot)))
      | with_reducible (first | refine vw_seq ?_ | refine vw_block ?_ | refine vw_rg ?_)
      | ((with_reducible apply vq_free'); (focus rfl))
      | ((with_reducible (first | refine vq_nil ?_ | refine vw_skip ?_ | refine vw_exit ?_ | refine vw_ret ?_)); simp only [Env.keep, Env.get, Env.ev, List.map, Nat.reduceEqDiff, ↓reduceIte, Then, Out'])
      | ((with_reducible (first | apply vq_p | apply vq_r | apply vq_a | apply vq_w | apply vq_g | apply vw_condm)); (focus (simp (disch := (first | with_reducible assumption | omega | ((repeat (first | rw [Store.next_push] | rw [Store.next_set])) <;> omega) | fail)) only [go_sem, Nat.reduceEqDiff, Nat.reduceAdd, Nat.reduceMul, Nat.reduceLeDiff, ↓reduceIte, reduceCtorEq, Int.reduceEq, Int.reduceLT, Int.reduceLE, Int.reduceAdd, Int.reduceSub, Int.reduceMul, Int.reduceNeg, Int.reduceToNat, hneg, hq, hlen, hpz, hmod, p1, p2, hm2, hb] <;> rfl)); (first | (with_reducible (first | refine way_tt ?_ | refine way_ff ?_ | refine wayc_t ?_ | refine wayc_f ?_ | refine way_tf ?_ | refine way_ft ?_ | refine way_t ?_); try simp only [Env.put]) | with_reducible refine (?_ : WQ _ _ _ _ _ _)))
      | fail
    refine ⟨.inr trivial, trivial, ?_⟩
    simp only [resOf, resAll, resOne, Env.get, Nat.reduceEqDiff, ↓reduceIte, pickE]
    rw [if_pos (by omega), hget]
  · have hb : (n % 2 == 1) = false := by simp [ho]
    refine ev_of (vf := vf20) rfl ?_
    simp only [vf20, List.map, List.getD, List.getElem?_cons_zero, List.getElem?_cons_succ, List.getElem?_nil, Option.getD]
    repeat first
      | (apply vq_call'; (focus (simp only [Env.evL, Env.ev, Env.get, Nat.reduceEqDiff, ↓reduceIte, Made.at]; rfl)); (focus (exact hnot)))
      | with_reducible (first | refine vw_seq ?_ | refine vw_block ?_ | refine vw_rg ?_)
      | ((with_reducible apply vq_free'); (focus rfl))
      | ((with_reducible (first | refine vq_nil ?_ | refine vw_skip ?_ | refine vw_exit ?_ | refine vw_ret ?_)); simp only [Env.keep, Env.get, Env.ev, List.map, Nat.reduceEqDiff, ↓reduceIte, Then, Out'])
      | ((with_reducible (first | apply vq_p | apply vq_r | apply vq_a | apply vq_w | apply vq_g | apply vw_condm)); (focus (simp (disch := (first | with_reducible assumption | omega | ((repeat (first | rw [Store.next_push] | rw [Store.next_set])) <;> omega) | fail)) only [go_sem, Nat.reduceEqDiff, Nat.reduceAdd, Nat.reduceMul, Nat.reduceLeDiff, ↓reduceIte, reduceCtorEq, Int.reduceEq, Int.reduceLT, Int.reduceLE, Int.reduceAdd, Int.reduceSub, Int.reduceMul, Int.reduceNeg, Int.reduceToNat, hneg, hq, hlen, hpz, hmod, p1, p2, hm2, hb] <;> rfl)); (first | (with_reducible (first | refine way_tt ?_ | refine way_ff ?_ | refine wayc_t ?_ | refine wayc_f ?_ | refine way_tf ?_ | refine way_ft ?_ | refine way_t ?_); try simp only [Env.put]) | with_reducible refine (?_ : WQ _ _ _ _ _ _)))
      | fail
    refine ⟨.inr trivial, trivial, ?_⟩
    simp only [resOf, resAll, resOne, Env.get, Nat.reduceEqDiff, ↓reduceIte, pickE]
    rw [if_neg (by omega), hget]

theorem ints_ok {s : Store} {d1 d2 : D} {es : List Nat} (h1 : Rd s d1 (cellsI es)) (h2 : Rd s d2 (cellsI es)) (hl : es.length < 1000000) : Ev vfs 22 [d1, d2] s (.bool true) s := by
  have l1 := h1.lenI
  have l2 := h2.lenI
  have hne : ((es.length : Int) != (es.length : Int)) = false := by simp
  refine ev_of (vf := vf22) rfl ?_
  simp only [vf22, List.map, List.getD, List.getElem?_cons_zero, List.getElem?_cons_succ, List.getElem?_nil, Option.getD]
  repeat first
    | with_reducible (first | refine vw_seq ?_ | refine vw_block ?_ | refine vw_rg ?_)
    | ((with_reducible apply vq_free'); (focus rfl))
    | ((with_reducible (first | refine vq_nil ?_ | refine vw_skip ?_ | refine vw_exit ?_ | refine vw_ret ?_)); simp only [Env.keep, Env.get, Env.ev, List.map, Nat.reduceEqDiff, ↓reduceIte, Then, Out'])
    | ((with_reducible (first | apply vq_p | apply vq_r | apply vq_a | apply vq_w | apply vq_g | apply vw_condm)); (focus (simp (disch := (first | with_reducible assumption | omega | ((repeat (first | rw [Store.next_push] | rw [Store.next_set])) <;> omega) | fail)) only [go_sem, Nat.reduceEqDiff, Nat.reduceAdd, Nat.reduceMul, Nat.reduceLeDiff, ↓reduceIte, reduceCtorEq, Int.reduceEq, Int.reduceLT, Int.reduceLE, Int.reduceAdd, Int.reduceSub, Int.reduceMul, Int.reduceNeg, Int.reduceToNat, l1, l2, hne] <;> rfl)); (first | (with_reducible (first | refine way_tt ?_ | refine way_ff ?_ | refine wayc_t ?_ | refine wayc_f ?_ | refine way_tf ?_ | refine way_ft ?_ | refine way_t ?_); try simp only [Env.put]) | with_reducible refine (?_ : WQ _ _ _ _ _ _)))
    | fail
  refine vw_loop_inv (fun n env s' => s' = s ∧ ∃ (i : Nat) (x y : D), i ≤ es.length ∧ n = es.length - i ∧ env = [(0, d1), (1, d2), (4, .bool false), (5, .int .i64 (i : Int)), (10, .bool false), (14, x), (25, y)]) ?_ es.length _ _ ⟨rfl, 0, _, _, Nat.zero_le _, by omega, rfl⟩
  rintro n env s' ⟨rfl, i, x, y, hi, rfl, rfl⟩
  by_cases hc : i < es.length
  · have hc' : (i : Int) < (es.length : Int) := by omega
    obtain ⟨p1, a1, a2⟩ := h1.idxI hc
    obtain ⟨p2, b1, b2⟩ := h2.idxI hc
    have hw : IntKind.i64.wrap ((i : Int) + 1) = ((i + 1 : Nat) : Int) := by rw [i64_id (by omega) (by omega)]; omega
    have hne2 : ((es[i] : Int) != (es[i] : Int)) = false := by simp
    repeat first
      | with_reducible (first | refine vw_seq ?_ | refine vw_block ?_ | refine vw_rg ?_)
      | ((with_reducible apply vq_free'); (focus rfl))
      | ((with_reducible (first | refine vq_nil ?_ | refine vw_skip ?_ | refine vw_exit ?_ | refine vw_ret ?_)); simp only [Env.keep, Env.get, Env.ev, List.map, Nat.reduceEqDiff, ↓reduceIte, Then, Out'])
      | ((with_reducible (first | apply vq_p | apply vq_r | apply vq_a | apply vq_w | apply vq_g | apply vw_condm)); (focus (simp (disch := (first | with_reducible assumption | omega | ((repeat (first | rw [Store.next_push] | rw [Store.next_set])) <;> omega) | fail)) only [go_sem, Nat.reduceEqDiff, Nat.reduceAdd, Nat.reduceMul, Nat.reduceLeDiff, ↓reduceIte, reduceCtorEq, Int.reduceEq, Int.reduceLT, Int.reduceLE, Int.reduceAdd, Int.reduceSub, Int.reduceMul, Int.reduceNeg, Int.reduceToNat, l1, l2, hc', a1, a2, b1, b2, hw, hne2] <;> rfl)); (first | (with_reducible (first | refine way_tt ?_ | refine way_ff ?_ | refine wayc_t ?_ | refine wayc_f ?_ | refine way_tf ?_ | refine way_ft ?_ | refine way_t ?_); try simp only [Env.put]) | with_reducible refine (?_ : WQ _ _ _ _ _ _)))
      | fail
    exact ⟨es.length - (i + 1), by omega, trivial, i + 1, _, _, by omega, rfl, rfl⟩
  · have hc' : ¬ (i : Int) < (es.length : Int) := by omega
    repeat first
      | with_reducible (first | refine vw_seq ?_ | refine vw_block ?_ | refine vw_rg ?_)
      | ((with_reducible apply vq_free'); (focus rfl))
      | ((with_reducible (first | refine vq_nil ?_ | refine vw_skip ?_ | refine vw_exit ?_ | refine vw_ret ?_)); simp only [Env.keep, Env.get, Env.ev, List.map, Nat.reduceEqDiff, ↓reduceIte, Then, Out'])
      | ((with_reducible (first | apply vq_p | apply vq_r | apply vq_a | apply vq_w | apply vq_g | apply vw_condm)); (focus (simp (disch := (first | with_reducible assumption | omega | ((repeat (first | rw [Store.next_push] | rw [Store.next_set])) <;> omega) | fail)) only [go_sem, Nat.reduceEqDiff, Nat.reduceAdd, Nat.reduceMul, Nat.reduceLeDiff, ↓reduceIte, reduceCtorEq, Int.reduceEq, Int.reduceLT, Int.reduceLE, Int.reduceAdd, Int.reduceSub, Int.reduceMul, Int.reduceNeg, Int.reduceToNat, l1, l2, hc'] <;> rfl)); (first | (with_reducible (first | refine way_tt ?_ | refine way_ff ?_ | refine wayc_t ?_ | refine wayc_f ?_ | refine way_tf ?_ | refine way_ft ?_ | refine way_t ?_); try simp only [Env.put]) | with_reducible refine (?_ : WQ _ _ _ _ _ _)))
      | fail
    exact ⟨.inr trivial, trivial, by simp [resOf, resAll, resOne, Env.get]⟩

theorem awake5 : ∃ s', Ev vfs 16 [] Store.empty (.bool true) s' := ev_of_fst (n := 400) (by kernel_rfl)
end Go.Proofs.Ytedoacfoglbfeaa
