/- The graph's And, Or, Xor, Mux, walked. -/
import Derived.Test.YtedoacfoglbfeaaG1
namespace Go.Proofs.Ytedoacfoglbfeaa
open Go.V
set_option maxRecDepth 100000
set_option linter.unusedSimpArgs false
set_option linter.unusedVariables false

theorem own_lt (G : Gr) (e : Int) (hp : 0 < G.nodes.length) : G.own e < 2 * G.nodes.length := by
  unfold Gr.own
  split
  · omega
  · have := tdiv2 (e := e) (by omega)
    omega

theorem and_ok {s : Store} {g : Nat} {G : Gr} {ids : List Nat} {a b : Int} (hG : GA s g G ids) (ha : -9223372036854775808 ≤ a) (ha' : a < 9223372036854775808) (hb : -9223372036854775808 ≤ b) (hb' : b < 9223372036854775808) (hp : 0 < G.nodes.length) (hL : G.nodes.length < 200000) (hk : ∀ p n, find p G.known = some n → n < G.nodes.length) :
    EvP vfs 19 [.ptr g 0, .int .i64 a, .int .i64 b] s fun d s' => d = .int .i64 ((G.and (G.own a) (G.own b)).1 : Nat) ∧ ∃ ids', GrStep s g ids s' (G.and (G.own a) (G.own b)).2 ids' := by
  have o1 := own_lt G a hp
  have o2 := own_lt G b hp
  generalize hx0 : G.own a = x0 at *
  generalize hy0 : G.own b = y0 at *
  have hmin : min (x0 : Int) (y0 : Int) = ((min x0 y0 : Nat) : Int) := by omega
  have hmax : max (x0 : Int) (y0 : Int) = ((max x0 y0 : Nat) : Int) := by omega
  have own1 := own_ok hG ha ha'
  have own2 := own_ok hG hb hb'
  rw [hx0] at own1
  rw [hy0] at own2
  refine evp_of (vf := vf19) rfl ?_
  simp only [vf19, List.map, List.getD, List.getElem?_cons_zero, List.getElem?_cons_succ, List.getElem?_nil, Option.getD]
  repeat first
    | (apply vq_call'; (focus (simp only [Env.evL, Env.ev, Env.get, Nat.reduceEqDiff, ↓reduceIte, Made.at]; rfl)); (focus (exact own1)))
    | (apply vq_call'; (focus (simp only [Env.evL, Env.ev, Env.get, Nat.reduceEqDiff, ↓reduceIte, Made.at]; rfl)); (focus (exact own2)))
    | with_reducible (first | refine vw_seq ?_ | refine vw_block ?_ | refine vw_rg ?_)
    | ((with_reducible apply vq_free'); (focus rfl))
    | ((with_reducible (first | refine vq_nil ?_ | refine vw_skip ?_ | refine vw_exit ?_ | refine vw_ret ?_)); simp only [Env.keep, Env.get, Env.ev, List.map, Nat.reduceEqDiff, ↓reduceIte, Then, Out'])
    | ((with_reducible (first | apply vq_p | apply vq_r | apply vq_a | apply vq_w | apply vq_g | apply vw_condm)); (focus (simp (disch := (first | with_reducible assumption | omega | ((repeat (first | rw [Store.next_push] | rw [Store.next_set])) <;> omega) | fail)) only [go_sem, Nat.reduceEqDiff, Nat.reduceAdd, Nat.reduceMul, Nat.reduceLeDiff, ↓reduceIte, reduceCtorEq, Int.reduceEq, Int.reduceLT, Int.reduceLE, Int.reduceAdd, Int.reduceSub, Int.reduceMul, Int.reduceNeg, Int.reduceToNat, hmin, hmax] <;> rfl)); (first | (with_reducible (first | refine way_tt ?_ | refine way_ff ?_ | refine wayc_t ?_ | refine wayc_f ?_ | refine way_tf ?_ | refine way_ft ?_ | refine way_t ?_); try simp only [Env.put]) | with_reducible refine (?_ : WQ _ _ _ _ _ _)))
    | fail
  unfold Gr.and
  have hlx : min x0 y0 < 2 * G.nodes.length := by omega
  have hly : max x0 y0 < 2 * G.nodes.length := by omega
  generalize hx : min x0 y0 = x at *
  generalize hy : max x0 y0 = y at *
  generalize hs1 : Store.set _ _ _ = s1
  have f1 : Fr [] s s1 := by rw [← hs1]; exact ((Fr.refl _ _).thenPush _).thenSet _ (.inr (Nat.le_refl _))
  have k1 : s1.get s.next = some (.cells [.int .i64 (x : Int), .int .i64 (y : Int)]) := by rw [← hs1]; exact get_set_eq (by simp)
  have n1 : s.next < s1.next := by rw [← hs1]; simp
  have hG1 := (hG.newer f1).1
  clear hs1
  have hnot := not_ok (s := s1) (e := y) (by omega)
  by_cases c0 : x = 0
  · repeat first
      | with_reducible (first | refine vw_seq ?_ | refine vw_block ?_ | refine vw_rg ?_)
      | ((with_reducible apply vq_free'); (focus rfl))
      | ((with_reducible (first | refine vq_nil ?_ | refine vw_skip ?_ | refine vw_exit ?_ | refine vw_ret ?_)); simp only [Env.keep, Env.get, Env.ev, List.map, Nat.reduceEqDiff, ↓reduceIte, Then, Out'])
      | ((with_reducible (first | apply vq_p | apply vq_r | apply vq_a | apply vq_w | apply vq_g | apply vw_condm)); (focus (simp (disch := (first | with_reducible assumption | omega | ((repeat (first | rw [Store.next_push] | rw [Store.next_set])) <;> omega) | fail)) only [go_sem, Nat.reduceEqDiff, Nat.reduceAdd, Nat.reduceMul, Nat.reduceLeDiff, ↓reduceIte, reduceCtorEq, Int.reduceEq, Int.reduceLT, Int.reduceLE, Int.reduceAdd, Int.reduceSub, Int.reduceMul, Int.reduceNeg, Int.reduceToNat, k1, c0] <;> rfl)); (first | (with_reducible (first | refine way_tt ?_ | refine way_ff ?_ | refine wayc_t ?_ | refine wayc_f ?_ | refine way_tf ?_ | refine way_ft ?_ | refine way_t ?_); try simp only [Env.put]) | with_reducible refine (?_ : WQ _ _ _ _ _ _)))
      | fail
    refine ⟨.inr trivial, _, (by simp only [resOf, resAll, resOne, Env.get, Nat.reduceEqDiff, ↓reduceIte] <;> rfl), by simp [c0], ids, by simp [c0]; exact hG.newer f1⟩
  have d0 : decide (x = 0) = false := decide_eq_false c0
  by_cases c1 : x = notN y
  · have d1 : decide (x = notN y) = true := decide_eq_true c1
    repeat first
      | (apply vq_call'; (focus (simp only [Env.evL, Env.ev, Env.get, Nat.reduceEqDiff, ↓reduceIte, Made.at]; rfl)); (focus (exact hnot)))
      | with_reducible (first | refine vw_seq ?_ | refine vw_block ?_ | refine vw_rg ?_)
      | ((with_reducible apply vq_free'); (focus rfl))
      | ((with_reducible (first | refine vq_nil ?_ | refine vw_skip ?_ | refine vw_exit ?_ | refine vw_ret ?_)); simp only [Env.keep, Env.get, Env.ev, List.map, Nat.reduceEqDiff, ↓reduceIte, Then, Out'])
      | ((with_reducible (first | apply vq_p | apply vq_r | apply vq_a | apply vq_w | apply vq_g | apply vw_condm)); (focus (simp (disch := (first | with_reducible assumption | omega | ((repeat (first | rw [Store.next_push] | rw [Store.next_set])) <;> omega) | fail)) only [go_sem, Nat.reduceEqDiff, Nat.reduceAdd, Nat.reduceMul, Nat.reduceLeDiff, ↓reduceIte, reduceCtorEq, Int.reduceEq, Int.reduceLT, Int.reduceLE, Int.reduceAdd, Int.reduceSub, Int.reduceMul, Int.reduceNeg, Int.reduceToNat, k1, d0, d1] <;> rfl)); (first | (with_reducible (first | refine way_tt ?_ | refine way_ff ?_ | refine wayc_t ?_ | refine wayc_f ?_ | refine way_tf ?_ | refine way_ft ?_ | refine way_t ?_); try simp only [Env.put]) | with_reducible refine (?_ : WQ _ _ _ _ _ _)))
      | fail
    refine ⟨.inr trivial, _, (by simp only [resOf, resAll, resOne, Env.get, Nat.reduceEqDiff, ↓reduceIte] <;> rfl), by simp [c1], ids, by simp [c1]; exact hG.newer f1⟩
  rw [if_neg (by simp [c0, c1])]
  have d1 : decide (x = notN y) = false := decide_eq_false c1
  by_cases c2 : x = 1
  · have d2 : decide (x = 1) = true := decide_eq_true c2
    repeat first
      | (apply vq_call'; (focus (simp only [Env.evL, Env.ev, Env.get, Nat.reduceEqDiff, ↓reduceIte, Made.at]; rfl)); (focus (exact hnot)))
      | with_reducible (first | refine vw_seq ?_ | refine vw_block ?_ | refine vw_rg ?_)
      | ((with_reducible apply vq_free'); (focus rfl))
      | ((with_reducible (first | refine vq_nil ?_ | refine vw_skip ?_ | refine vw_exit ?_ | refine vw_ret ?_)); simp only [Env.keep, Env.get, Env.ev, List.map, Nat.reduceEqDiff, ↓reduceIte, Then, Out'])
      | ((with_reducible (first | apply vq_p | apply vq_r | apply vq_a | apply vq_w | apply vq_g | apply vw_condm)); (focus (simp (disch := (first | with_reducible assumption | omega | ((repeat (first | rw [Store.next_push] | rw [Store.next_set])) <;> omega) | fail)) only [go_sem, Nat.reduceEqDiff, Nat.reduceAdd, Nat.reduceMul, Nat.reduceLeDiff, ↓reduceIte, reduceCtorEq, Int.reduceEq, Int.reduceLT, Int.reduceLE, Int.reduceAdd, Int.reduceSub, Int.reduceMul, Int.reduceNeg, Int.reduceToNat, k1, d0, d1, d2] <;> rfl)); (first | (with_reducible (first | refine way_tt ?_ | refine way_ff ?_ | refine wayc_t ?_ | refine wayc_f ?_ | refine way_tf ?_ | refine way_ft ?_ | refine way_t ?_); try simp only [Env.put]) | with_reducible refine (?_ : WQ _ _ _ _ _ _)))
      | fail
    refine ⟨.inr trivial, _, (by simp only [resOf, resAll, resOne, Env.get, Nat.reduceEqDiff, ↓reduceIte] <;> rfl), by simp [c2], ids, by simp [c2]; exact hG.newer f1⟩
  have d2 : decide (x = 1) = false := decide_eq_false c2
  by_cases c3 : x = y
  · have d3 : decide (x = y) = true := decide_eq_true c3
    repeat first
      | (apply vq_call'; (focus (simp only [Env.evL, Env.ev, Env.get, Nat.reduceEqDiff, ↓reduceIte, Made.at]; rfl)); (focus (exact hnot)))
      | with_reducible (first | refine vw_seq ?_ | refine vw_block ?_ | refine vw_rg ?_)
      | ((with_reducible apply vq_free'); (focus rfl))
      | ((with_reducible (first | refine vq_nil ?_ | refine vw_skip ?_ | refine vw_exit ?_ | refine vw_ret ?_)); simp only [Env.keep, Env.get, Env.ev, List.map, Nat.reduceEqDiff, ↓reduceIte, Then, Out'])
      | ((with_reducible (first | apply vq_p | apply vq_r | apply vq_a | apply vq_w | apply vq_g | apply vw_condm)); (focus (simp (disch := (first | with_reducible assumption | omega | ((repeat (first | rw [Store.next_push] | rw [Store.next_set])) <;> omega) | fail)) only [go_sem, Nat.reduceEqDiff, Nat.reduceAdd, Nat.reduceMul, Nat.reduceLeDiff, ↓reduceIte, reduceCtorEq, Int.reduceEq, Int.reduceLT, Int.reduceLE, Int.reduceAdd, Int.reduceSub, Int.reduceMul, Int.reduceNeg, Int.reduceToNat, k1, d0, d1, d2, d3] <;> rfl)); (first | (with_reducible (first | refine way_tt ?_ | refine way_ff ?_ | refine wayc_t ?_ | refine wayc_f ?_ | refine way_tf ?_ | refine way_ft ?_ | refine way_t ?_); try simp only [Env.put]) | with_reducible refine (?_ : WQ _ _ _ _ _ _)))
      | fail
    refine ⟨.inr trivial, _, (by simp only [resOf, resAll, resOne, Env.get, Nat.reduceEqDiff, ↓reduceIte] <;> rfl), by simp [c3], ids, by simp [c3]; exact hG.newer f1⟩
  rw [if_neg (by simp [c2, c3])]
  have d3 : decide (x = y) = false := decide_eq_false c3
  have hfind := findKV_kvs x y G.known
  obtain ⟨nid, mid, dins, iids, hg, rfl⟩ := hG1
  have hobj := hg.obj
  have hknown := hg.known
  cases hf : find (x, y) G.known with
  | some n =>
    have hn := hk _ _ hf
    have h2n : IntKind.i64.wrap (2 * (n : Int)) = 2 * (n : Int) := i64_id (by omega) (by omega)
    repeat first
      | (apply vq_call'; (focus (simp only [Env.evL, Env.ev, Env.get, Nat.reduceEqDiff, ↓reduceIte, Made.at]; rfl)); (focus (exact hnot)))
      | with_reducible (first | refine vw_seq ?_ | refine vw_block ?_ | refine vw_rg ?_)
      | ((with_reducible apply vq_free'); (focus rfl))
      | ((with_reducible (first | refine vq_nil ?_ | refine vw_skip ?_ | refine vw_exit ?_ | refine vw_ret ?_)); simp only [Env.keep, Env.get, Env.ev, List.map, Nat.reduceEqDiff, ↓reduceIte, Then, Out'])
      | ((with_reducible (first | apply vq_p | apply vq_r | apply vq_a | apply vq_w | apply vq_g | apply vw_condm)); (focus (simp (disch := (first | with_reducible assumption | omega | ((repeat (first | rw [Store.next_push] | rw [Store.next_set])) <;> omega) | fail)) only [go_sem, Nat.reduceEqDiff, Nat.reduceAdd, Nat.reduceMul, Nat.reduceLeDiff, ↓reduceIte, reduceCtorEq, Int.reduceEq, Int.reduceLT, Int.reduceLE, Int.reduceAdd, Int.reduceSub, Int.reduceMul, Int.reduceNeg, Int.reduceToNat, k1, d0, d1, d2, d3, hobj, hknown, hfind, hf, h2n] <;> rfl)); (first | (with_reducible (first | refine way_tt ?_ | refine way_ff ?_ | refine wayc_t ?_ | refine wayc_f ?_ | refine way_tf ?_ | refine way_ft ?_ | refine way_t ?_); try simp only [Env.put]) | with_reducible refine (?_ : WQ _ _ _ _ _ _)))
      | fail
    refine ⟨.inr trivial, _, (by simp only [resOf, resAll, resOne, Env.get, Nat.reduceEqDiff, ↓reduceIte] <;> rfl), by simp, _, hG.newer f1⟩
  | none =>
    repeat first
      | (apply vq_call'; (focus (simp only [Env.evL, Env.ev, Env.get, Nat.reduceEqDiff, ↓reduceIte, Made.at]; rfl)); (focus (exact hnot)))
      | with_reducible (first | refine vw_seq ?_ | refine vw_block ?_ | refine vw_rg ?_)
      | ((with_reducible apply vq_free'); (focus rfl))
      | ((with_reducible (first | refine vq_nil ?_ | refine vw_skip ?_ | refine vw_exit ?_ | refine vw_ret ?_)); simp only [Env.keep, Env.get, Env.ev, List.map, Nat.reduceEqDiff, ↓reduceIte, Then, Out'])
      | ((with_reducible (first | apply vq_p | apply vq_r | apply vq_a | apply vq_w | apply vq_g | apply vw_condm)); (focus (simp (disch := (first | with_reducible assumption | omega | ((repeat (first | rw [Store.next_push] | rw [Store.next_set])) <;> omega) | fail)) only [go_sem, Nat.reduceEqDiff, Nat.reduceAdd, Nat.reduceMul, Nat.reduceLeDiff, ↓reduceIte, reduceCtorEq, Int.reduceEq, Int.reduceLT, Int.reduceLE, Int.reduceAdd, Int.reduceSub, Int.reduceMul, Int.reduceNeg, Int.reduceToNat, k1, d0, d1, d2, d3, hobj, hknown, hfind, hf] <;> rfl)); (first | (with_reducible (first | refine way_tt ?_ | refine way_ff ?_ | refine wayc_t ?_ | refine wayc_f ?_ | refine way_tf ?_ | refine way_ft ?_ | refine way_t ?_); try simp only [Env.put]) | with_reducible refine (?_ : WQ _ _ _ _ _ _)))
      | fail
    have hG1 : GA s1 g G (g :: nid :: mid :: iids) := ⟨nid, mid, dins, iids, hg, rfl⟩
    apply vq_evpf (add_ok (x := x) (y := y) hG1 hL)
    · rfl
    rintro d s2 ⟨rfl, ids2, h2, f2, m2⟩
    have hids := hG.lt
    have k2 : s2.get s.next = some (.cells [.int .i64 (x : Int), .int .i64 (y : Int)]) := by
      rw [f2.2 _ n1 (fun h => by have := hids _ h; omega), k1]
    obtain ⟨nid2, mid2, dins2, iids2, hg2, rfl⟩ := h2
    have hobj2 := hg2.obj
    have hknown2 := hg2.known
    have hgt : (0 : Int) < (G.nodes.length : Int) := by omega
    have hput := putKV_kvs x y G.nodes.length G.known hf
    repeat first
      | with_reducible (first | refine vw_seq ?_ | refine vw_block ?_ | refine vw_rg ?_)
      | ((with_reducible apply vq_free'); (focus rfl))
      | ((with_reducible (first | refine vq_nil ?_ | refine vw_skip ?_ | refine vw_exit ?_ | refine vw_ret ?_)); simp only [Env.keep, Env.get, Env.ev, List.map, Nat.reduceEqDiff, ↓reduceIte, Then, Out'])
      | ((with_reducible (first | apply vq_p | apply vq_r | apply vq_a | apply vq_w | apply vq_g | apply vw_condm)); (focus (simp (disch := (first | with_reducible assumption | omega | ((repeat (first | rw [Store.next_push] | rw [Store.next_set])) <;> omega) | fail)) only [go_sem, Nat.reduceEqDiff, Nat.reduceAdd, Nat.reduceMul, Nat.reduceLeDiff, ↓reduceIte, reduceCtorEq, Int.reduceEq, Int.reduceLT, Int.reduceLE, Int.reduceAdd, Int.reduceSub, Int.reduceMul, Int.reduceNeg, Int.reduceToNat, k2, hobj2, hgt] <;> rfl)); (first | (with_reducible (first | refine way_tt ?_ | refine way_ff ?_ | refine wayc_t ?_ | refine wayc_f ?_ | refine way_tf ?_ | refine way_ft ?_ | refine way_t ?_); try simp only [Env.put]) | with_reducible refine (?_ : WQ _ _ _ _ _ _)))
      | fail
    refine vq_mapset (id := mid2) (l := kvs G.known) (kd := .agg [.int .i64 (x : Int), .int .i64 (y : Int)]) (vd := .int .i64 (G.nodes.length : Int)) (kl := [.int .i64 (x : Int), .int .i64 (y : Int)]) ?_ ?_ ?_ ?_ ?_ ?_ hput ?_
    · rfl
    · rfl
    · rfl
    · exact hknown2
    · rfl
    · rfl
    have h2n : IntKind.i64.wrap (2 * (G.nodes.length : Int)) = 2 * (G.nodes.length : Int) := i64_id (by omega) (by omega)
    repeat first
      | with_reducible (first | refine vw_seq ?_ | refine vw_block ?_ | refine vw_rg ?_)
      | ((with_reducible apply vq_free'); (focus rfl))
      | ((with_reducible (first | refine vq_nil ?_ | refine vw_skip ?_ | refine vw_exit ?_ | refine vw_ret ?_)); simp only [Env.keep, Env.get, Env.ev, List.map, Nat.reduceEqDiff, ↓reduceIte, Then, Out'])
      | ((with_reducible (first | apply vq_p | apply vq_r | apply vq_a | apply vq_w | apply vq_g | apply vw_condm)); (focus (simp (disch := (first | with_reducible assumption | omega | ((repeat (first | rw [Store.next_push] | rw [Store.next_set])) <;> omega) | fail)) only [go_sem, Nat.reduceEqDiff, Nat.reduceAdd, Nat.reduceMul, Nat.reduceLeDiff, ↓reduceIte, reduceCtorEq, Int.reduceEq, Int.reduceLT, Int.reduceLE, Int.reduceAdd, Int.reduceSub, Int.reduceMul, Int.reduceNeg, Int.reduceToNat, h2n] <;> rfl)); (first | (with_reducible (first | refine way_tt ?_ | refine way_ff ?_ | refine wayc_t ?_ | refine wayc_f ?_ | refine way_tf ?_ | refine way_ft ?_ | refine way_t ?_); try simp only [Env.put]) | with_reducible refine (?_ : WQ _ _ _ _ _ _)))
      | fail
    have nd := hg2.nd
    simp only [List.nodup_cons, List.mem_cons, not_or] at nd
    obtain ⟨⟨q1, q2, q3⟩, ⟨q4, q5⟩, q6, q7⟩ := nd
    have l3 := get_lts hknown2
    have hst : GrStep s1 g (g :: nid :: mid :: iids) (s2.set mid2 (some (.map (kvs (G.known ++ [((x, y), G.nodes.length)]))))) { nodes := G.nodes ++ [(x, y)], ins := G.ins, known := G.known ++ [((x, y), G.nodes.length)] } (g :: nid2 :: mid2 :: iids2) := by
      refine ⟨⟨nid2, mid2, dins2, iids2, ⟨?_, ?_, ?_, ?_, hg2.nd⟩, rfl⟩, f2.thenSet _ (m2 _ (by simp)), m2⟩
      · rw [get_set_ne q2]; exact hobj2
      · rw [get_set_ne q4]; exact hg2.nodes
      · exact hg2.ins.stay (ids2 := [mid2]) (Fr.set _ (by simp)) (fun i hi hc => by simp at hc; subst hc; exact q6 hi)
      · rw [get_set_eq l3]
    refine ⟨.inr trivial, _, (by simp only [resOf, resAll, resOne, Env.get, Nat.reduceEqDiff, ↓reduceIte] <;> rfl), by simp, _, (hG.newer f1).trans hst⟩
end Go.Proofs.Ytedoacfoglbfeaa
