/- The graph's functions, walked. -/
import Derived.Test.YtedoacfoglbfeaaVt
import Derived.Test.YtedoacfoglbfeaaVkArg
namespace Go.Proofs.Ytedoacfoglbfeaa
open Go.V
set_option maxRecDepth 100000
set_option linter.unusedSimpArgs false
set_option linter.unusedVariables false

theorem tdiv2 {e : Int} (h : 0 ≤ e) : e.tdiv 2 = e / 2 := by rw [Int.tdiv_eq_ediv_of_nonneg h]

theorem own_ok {s : Store} {g : Nat} {G : Gr} {ids : List Nat} {e : Int} (hG : GA s g G ids) (h1 : -9223372036854775808 ≤ e) (h2 : e < 9223372036854775808) :
    Ev vfs 55 [.ptr g 0, .int .i64 e] s (.int .i64 (G.own e : Nat)) s := by
  obtain ⟨nid, dins, mid, hg⟩ := hG.pos
  refine ev_of (vf := vf55) rfl ?_
  simp only [vf55, List.map, List.getD, List.getElem?_cons_zero, List.getElem?_cons_succ, List.getElem?_nil, Option.getD]
  by_cases hn : e < 0
  · repeat first
      | with_reducible (first | refine vw_seq ?_ | refine vw_block ?_ | refine vw_rg ?_)
      | ((with_reducible apply vq_free'); (focus rfl))
      | ((with_reducible (first | refine vq_nil ?_ | refine vw_skip ?_ | refine vw_exit ?_ | refine vw_ret ?_)); simp only [Env.keep, Env.get, Env.ev, List.map, Nat.reduceEqDiff, ↓reduceIte, Then, Out'])
      | ((with_reducible (first | apply vq_p | apply vq_r | apply vq_a | apply vq_w | apply vq_g | apply vw_condm)); (focus (simp (disch := (first | with_reducible assumption | omega | ((repeat (first | rw [Store.next_push] | rw [Store.next_set])) <;> omega) | fail)) only [go_sem, Nat.reduceEqDiff, Nat.reduceAdd, Nat.reduceMul, Nat.reduceLeDiff, ↓reduceIte, reduceCtorEq, Int.reduceEq, Int.reduceLT, Int.reduceLE, Int.reduceAdd, Int.reduceSub, Int.reduceMul, Int.reduceNeg, Int.reduceToNat, hn] <;> rfl)); try (with_reducible (first | refine way_tt ?_ | refine way_ff ?_ | refine wayc_t ?_ | refine wayc_f ?_ | refine way_tf ?_ | refine way_ft ?_ | refine way_t ?_); try simp only [Env.put]))
      | fail
    exact ⟨.inr trivial, trivial, by simp [resOf, resAll, resOne, Env.get, Gr.own, hn]⟩
  · have hq := tdiv2 (e := e) (by omega)
    by_cases hb : (G.nodes.length : Int) ≤ e / 2
    · repeat first
        | with_reducible (first | refine vw_seq ?_ | refine vw_block ?_ | refine vw_rg ?_)
        | ((with_reducible apply vq_free'); (focus rfl))
        | ((with_reducible (first | refine vq_nil ?_ | refine vw_skip ?_ | refine vw_exit ?_ | refine vw_ret ?_)); simp only [Env.keep, Env.get, Env.ev, List.map, Nat.reduceEqDiff, ↓reduceIte, Then, Out'])
        | ((with_reducible (first | apply vq_p | apply vq_r | apply vq_a | apply vq_w | apply vq_g | apply vw_condm)); (focus (simp (disch := (first | with_reducible assumption | omega | ((repeat (first | rw [Store.next_push] | rw [Store.next_set])) <;> omega) | fail)) only [go_sem, Nat.reduceEqDiff, Nat.reduceAdd, Nat.reduceMul, Nat.reduceLeDiff, ↓reduceIte, reduceCtorEq, Int.reduceEq, Int.reduceLT, Int.reduceLE, Int.reduceAdd, Int.reduceSub, Int.reduceMul, Int.reduceNeg, Int.reduceToNat, hn, hq, hg, hb] <;> rfl)); try (with_reducible (first | refine way_tt ?_ | refine way_ff ?_ | refine wayc_t ?_ | refine wayc_f ?_ | refine way_tf ?_ | refine way_ft ?_ | refine way_t ?_); try simp only [Env.put]))
        | fail
      exact ⟨.inr trivial, trivial, by simp [resOf, resAll, resOne, Env.get, Gr.own, hn, hq, hb]⟩
    · repeat first
        | with_reducible (first | refine vw_seq ?_ | refine vw_block ?_ | refine vw_rg ?_)
        | ((with_reducible apply vq_free'); (focus rfl))
        | ((with_reducible (first | refine vq_nil ?_ | refine vw_skip ?_ | refine vw_exit ?_ | refine vw_ret ?_)); simp only [Env.keep, Env.get, Env.ev, List.map, Nat.reduceEqDiff, ↓reduceIte, Then, Out'])
        | ((with_reducible (first | apply vq_p | apply vq_r | apply vq_a | apply vq_w | apply vq_g | apply vw_condm)); (focus (simp (disch := (first | with_reducible assumption | omega | ((repeat (first | rw [Store.next_push] | rw [Store.next_set])) <;> omega) | fail)) only [go_sem, Nat.reduceEqDiff, Nat.reduceAdd, Nat.reduceMul, Nat.reduceLeDiff, ↓reduceIte, reduceCtorEq, Int.reduceEq, Int.reduceLT, Int.reduceLE, Int.reduceAdd, Int.reduceSub, Int.reduceMul, Int.reduceNeg, Int.reduceToNat, hn, hq, hg, hb] <;> rfl)); try (with_reducible (first | refine way_tt ?_ | refine way_ff ?_ | refine wayc_t ?_ | refine wayc_f ?_ | refine way_tf ?_ | refine way_ft ?_ | refine way_t ?_); try simp only [Env.put]))
        | fail
      refine ⟨.inr trivial, trivial, ?_⟩
      simp [resOf, resAll, resOne, Env.get, Gr.own, hn, hq, hb]
      omega

theorem not_ok {s : Store} {e : Nat} (h2 : e < 4611686018427387904) : Ev vfs 34 [.int .i64 (e : Int)] s (.int .i64 (notN e : Nat)) s := by
  have hx := i64_xor1 (e := (e : Int)) (by omega) (by omega)
  rw [Int.toNat_natCast] at hx
  refine ev_of (vf := vf34) rfl ?_
  simp only [vf34, List.map, List.getD, List.getElem?_cons_zero, List.getElem?_cons_succ, List.getElem?_nil, Option.getD]
  repeat first
    | with_reducible (first | refine vw_seq ?_ | refine vw_block ?_ | refine vw_rg ?_)
    | ((with_reducible apply vq_free'); (focus rfl))
    | ((with_reducible (first | refine vq_nil ?_ | refine vw_skip ?_ | refine vw_exit ?_ | refine vw_ret ?_)); simp only [Env.keep, Env.get, Env.ev, List.map, Nat.reduceEqDiff, ↓reduceIte, Then, Out'])
    | ((with_reducible (first | apply vq_p | apply vq_r | apply vq_a | apply vq_w | apply vq_g | apply vw_condm)); (focus (simp (disch := (first | with_reducible assumption | omega | ((repeat (first | rw [Store.next_push] | rw [Store.next_set])) <;> omega) | fail)) only [go_sem, Nat.reduceEqDiff, Nat.reduceAdd, Nat.reduceMul, Nat.reduceLeDiff, ↓reduceIte, reduceCtorEq, Int.reduceEq, Int.reduceLT, Int.reduceLE, Int.reduceAdd, Int.reduceSub, Int.reduceMul, Int.reduceNeg, Int.reduceToNat, hx] <;> rfl)); try (with_reducible (first | refine way_tt ?_ | refine way_ff ?_ | refine wayc_t ?_ | refine wayc_f ?_ | refine way_tf ?_ | refine way_ft ?_ | refine way_t ?_); try simp only [Env.put]))
    | fail
  exact ⟨.inr trivial, trivial, by simp [resOf, resAll, resOne, Env.get]⟩

theorem nodes_ok {s : Store} {g : Nat} {G : Gr} {ids : List Nat} (hG : GA s g G ids) : Ev vfs 21 [.ptr g 0] s (.int .i64 (G.nodes.length : Int)) s := by
  obtain ⟨nid, dins, mid, hg⟩ := hG.pos
  refine ev_of (vf := vf21) rfl ?_
  simp only [vf21, List.map, List.getD, List.getElem?_cons_zero, List.getElem?_cons_succ, List.getElem?_nil, Option.getD]
  repeat first
    | with_reducible (first | refine vw_seq ?_ | refine vw_block ?_ | refine vw_rg ?_)
    | ((with_reducible apply vq_free'); (focus rfl))
    | ((with_reducible (first | refine vq_nil ?_ | refine vw_skip ?_ | refine vw_exit ?_ | refine vw_ret ?_)); simp only [Env.keep, Env.get, Env.ev, List.map, Nat.reduceEqDiff, ↓reduceIte, Then, Out'])
    | ((with_reducible (first | apply vq_p | apply vq_r | apply vq_a | apply vq_w | apply vq_g | apply vw_condm)); (focus (simp (disch := (first | with_reducible assumption | omega | ((repeat (first | rw [Store.next_push] | rw [Store.next_set])) <;> omega) | fail)) only [go_sem, Nat.reduceEqDiff, Nat.reduceAdd, Nat.reduceMul, Nat.reduceLeDiff, ↓reduceIte, reduceCtorEq, Int.reduceEq, Int.reduceLT, Int.reduceLE, Int.reduceAdd, Int.reduceSub, Int.reduceMul, Int.reduceNeg, Int.reduceToNat, hg] <;> rfl)); try (with_reducible (first | refine way_tt ?_ | refine way_ff ?_ | refine wayc_t ?_ | refine wayc_f ?_ | refine way_tf ?_ | refine way_ft ?_ | refine way_t ?_); try simp only [Env.put]))
    | fail
  exact ⟨.inr trivial, trivial, by simp [resOf, resAll, resOne, Env.get]⟩

theorem add_ok {s : Store} {g : Nat} {G : Gr} {ids : List Nat} {x y : Nat} (hG : GA s g G ids) (hL : G.nodes.length < 200000) :
    EvP vfs 54 [.ptr g 0, .agg [.int .i64 (x : Int), .int .i64 (y : Int)]] s fun d s' => d = .int .i64 (G.nodes.length : Int) ∧ ∃ ids', GrStep s g ids s' (G.add (x, y)) ids' := by
  obtain ⟨nid, mid, dins, iids, hg, rfl⟩ := hG
  have l1 := get_lts hg.obj
  have l2 := get_lts hg.nodes
  have l3 := get_lts hg.known
  have hobj := hg.obj
  have hnodes := hg.nodes
  have hne : ¬ (200000 : Int) ≤ (G.nodes.length : Int) := by omega
  have hd1 := hg.ins.one
  have nd := hg.nd
  simp only [List.nodup_cons, List.mem_cons, not_or] at nd
  obtain ⟨⟨n1, n2, n3⟩, ⟨n4, n5⟩, n6, n7⟩ := nd
  refine evp_of (vf := vf54) rfl ?_
  simp only [vf54, List.map, List.getD, List.getElem?_cons_zero, List.getElem?_cons_succ, List.getElem?_nil, Option.getD]
  repeat first
    | with_reducible (first | refine vw_seq ?_ | refine vw_block ?_ | refine vw_rg ?_)
    | ((with_reducible apply vq_free'); (focus rfl))
    | ((with_reducible (first | refine vq_nil ?_ | refine vw_skip ?_ | refine vw_exit ?_ | refine vw_ret ?_)); simp only [Env.keep, Env.get, Env.ev, List.map, Nat.reduceEqDiff, ↓reduceIte, Then, Out'])
    | ((with_reducible (first | apply vq_p | apply vq_r | apply vq_a | apply vq_w | apply vq_g | apply vw_condm)); (focus (simp (disch := (first | with_reducible assumption | omega | ((repeat (first | rw [Store.next_push] | rw [Store.next_set])) <;> omega) | fail)) only [go_sem, Nat.reduceEqDiff, Nat.reduceAdd, Nat.reduceMul, Nat.reduceLeDiff, ↓reduceIte, reduceCtorEq, Int.reduceEq, Int.reduceLT, Int.reduceLE, Int.reduceAdd, Int.reduceSub, Int.reduceMul, Int.reduceNeg, Int.reduceToNat, hobj, hnodes, hne, hd1] <;> rfl)); try (with_reducible (first | refine way_tt ?_ | refine way_ff ?_ | refine wayc_t ?_ | refine wayc_f ?_ | refine way_tf ?_ | refine way_ft ?_ | refine way_t ?_); try simp only [Env.put]))
    | fail
  apply vq_append'
  · rfl
  · rfl
  · refine append_arr (n := 1) (len := G.nodes.length) (cs := cellsN G.nodes) (new := [.int .i64 (x : Int), .int .i64 (y : Int)]) ?_ ?_ ?_ ?_ ?_ ?_ ?_
    · simp (disch := (first | with_reducible assumption | omega | ((repeat (first | rw [Store.next_push] | rw [Store.next_set])) <;> omega) | fail)) only [go_sem, Nat.reduceEqDiff, Nat.reduceAdd, Nat.reduceMul, Nat.reduceLeDiff, ↓reduceIte, reduceCtorEq, Int.reduceEq, Int.reduceLT, Int.reduceLE, Int.reduceAdd, Int.reduceSub, Int.reduceMul, Int.reduceNeg, Int.reduceToNat, hnodes]
    · simp
    · exact get_push_new (by simp only [Store.next_push])
    · rfl
    · decide
    · decide
    · omega
  repeat first
    | with_reducible (first | refine vw_seq ?_ | refine vw_block ?_ | refine vw_rg ?_)
    | ((with_reducible apply vq_free'); (focus rfl))
    | ((with_reducible (first | refine vq_nil ?_ | refine vw_skip ?_ | refine vw_exit ?_ | refine vw_ret ?_)); simp only [Env.keep, Env.get, Env.ev, List.map, Nat.reduceEqDiff, ↓reduceIte, Then, Out'])
    | ((with_reducible (first | apply vq_p | apply vq_r | apply vq_a | apply vq_w | apply vq_g | apply vw_condm)); (focus (simp (disch := (first | with_reducible assumption | omega | ((repeat (first | rw [Store.next_push] | rw [Store.next_set])) <;> omega) | fail)) only [go_sem, Nat.reduceEqDiff, Nat.reduceAdd, Nat.reduceMul, Nat.reduceLeDiff, ↓reduceIte, reduceCtorEq, Int.reduceEq, Int.reduceLT, Int.reduceLE, Int.reduceAdd, Int.reduceSub, Int.reduceMul, Int.reduceNeg, Int.reduceToNat, hobj, hnodes, hne, hd1] <;> rfl)); try (with_reducible (first | refine way_tt ?_ | refine way_ff ?_ | refine wayc_t ?_ | refine wayc_f ?_ | refine way_tf ?_ | refine way_ft ?_ | refine way_t ?_); try simp only [Env.put]))
    | fail
  refine ⟨.inr trivial, _, (by simp only [resOf, resAll, resOne, Env.get, Nat.reduceEqDiff, ↓reduceIte] <;> rfl), ?_, g :: (s.next + 1 + 1) :: mid :: iids, ⟨s.next + 1 + 1, mid, dins, iids, ⟨?_, ?_, ?_, ?_, ?_⟩, rfl⟩, ?_, ?_⟩
  case refine_7 => exact (((((Fr.refl _ _).thenPush _).thenPush _).thenSet _ (by simp)).thenPush _).thenSet _ (by simp)
  case refine_8 =>
    intro i hi
    simp only [List.mem_cons] at hi ⊢
    rcases hi with h | h | h | h
    · exact .inl (.inl h)
    · exact .inr (by omega)
    · exact .inl (.inr (.inr (.inl h)))
    · exact .inl (.inr (.inr (.inr h)))
  case refine_1 => congr 1; omega
  case refine_2 => rw [get_set_eq (by simp only [Store.next_push, Store.next_set]; omega)]; simp [Gr.add]
  case refine_3 =>
    rw [get_set_ne (by omega), get_push_new (by simp only [Store.next_push, Store.next_set])]
    simp [Gr.add, cellsN_append, cellsN]
  case refine_4 =>
    refine hg.ins.stay (ids2 := [g, nid]) ((((((Fr.refl _ _).thenPush _).thenPush _).thenSet _ (by simp)).thenPush _).thenSet _ (by simp)) ?_
    intro i hi hc
    simp at hc
    rcases hc with rfl | rfl
    · exact n3 hi
    · exact n5 hi
  case refine_5 =>
    rw [get_set_ne (by omega), get_push_old (by simp only [Store.next_push, Store.next_set]; omega), get_set_ne (by omega), get_push_old (by simp only [Store.next_push]; omega), get_push_old l3]
    exact hg.known
  case refine_6 =>
    have hi : ∀ i ∈ iids, i < s.next := hg.ins.lt
    simp only [List.nodup_cons, List.mem_cons, not_or]
    refine ⟨⟨by omega, n2, n3⟩, ⟨by omega, fun h => ?_⟩, n6, n7⟩
    have := hi _ h
    omega

theorem input_ok {s : Store} {g : Nat} {G : Gr} {ids : List Nat} (hG : GA s g G ids) (hp : 0 < G.nodes.length) (hL : G.nodes.length < 200000) (hI : G.ins.length < 200000) :
    EvP vfs 18 [.ptr g 0] s fun d s' => d = .int .i64 ((2 * G.nodes.length : Nat) : Int) ∧ ∃ ids', GrStep s g ids s' G.input ids' := by
  refine evp_of (vf := vf18) rfl ?_
  simp only [vf18, List.map, List.getD, List.getElem?_cons_zero, List.getElem?_cons_succ, List.getElem?_nil, Option.getD]
  repeat first
    | with_reducible (first | refine vw_seq ?_ | refine vw_block ?_ | refine vw_rg ?_)
    | ((with_reducible apply vq_free'); (focus rfl))
    | ((with_reducible (first | refine vq_nil ?_ | refine vw_skip ?_ | refine vw_exit ?_ | refine vw_ret ?_)); simp only [Env.keep, Env.get, Env.ev, List.map, Nat.reduceEqDiff, ↓reduceIte, Then, Out'])
    | ((with_reducible (first | apply vq_p | apply vq_r | apply vq_a | apply vq_w | apply vq_g | apply vw_condm)); (focus (simp (disch := (first | with_reducible assumption | omega | ((repeat (first | rw [Store.next_push] | rw [Store.next_set])) <;> omega) | fail)) only [go_sem, Nat.reduceEqDiff, Nat.reduceAdd, Nat.reduceMul, Nat.reduceLeDiff, ↓reduceIte, reduceCtorEq, Int.reduceEq, Int.reduceLT, Int.reduceLE, Int.reduceAdd, Int.reduceSub, Int.reduceMul, Int.reduceNeg, Int.reduceToNat] <;> rfl)); try (with_reducible (first | refine way_tt ?_ | refine way_ff ?_ | refine wayc_t ?_ | refine wayc_f ?_ | refine way_tf ?_ | refine way_ft ?_ | refine way_t ?_); try simp only [Env.put]))
    | fail
  refine vq_evp (add_ok (x := 0) (y := 0) hG hL) ?_
  rintro d s1 ⟨rfl, ids1, h1, f1, m1⟩
  obtain ⟨nid, mid, dins, iids, hg, rfl⟩ := h1
  have l1 := get_lts hg.obj
  have l2 := get_lts hg.nodes
  have l3 := get_lts hg.known
  have l4 := hg.ins.lt
  have hobj := hg.obj
  have hgt : (0 : Int) < (G.nodes.length : Int) := by omega
  have nd := hg.nd
  simp only [List.nodup_cons, List.mem_cons, not_or] at nd
  obtain ⟨⟨n1, n2, n3⟩, ⟨n4, n5⟩, n6, n7⟩ := nd
  have hd1 := hg.ins.one
  repeat first
    | with_reducible (first | refine vw_seq ?_ | refine vw_block ?_ | refine vw_rg ?_)
    | ((with_reducible apply vq_free'); (focus rfl))
    | ((with_reducible (first | refine vq_nil ?_ | refine vw_skip ?_ | refine vw_exit ?_ | refine vw_ret ?_)); simp only [Env.keep, Env.get, Env.ev, List.map, Nat.reduceEqDiff, ↓reduceIte, Then, Out'])
    | ((with_reducible (first | apply vq_p | apply vq_r | apply vq_a | apply vq_w | apply vq_g | apply vw_condm)); (focus (simp (disch := (first | with_reducible assumption | omega | ((repeat (first | rw [Store.next_push] | rw [Store.next_set])) <;> omega) | fail)) only [go_sem, Nat.reduceEqDiff, Nat.reduceAdd, Nat.reduceMul, Nat.reduceLeDiff, ↓reduceIte, reduceCtorEq, Int.reduceEq, Int.reduceLT, Int.reduceLE, Int.reduceAdd, Int.reduceSub, Int.reduceMul, Int.reduceNeg, Int.reduceToNat, hobj, hgt, hd1] <;> rfl)); try (with_reducible (first | refine way_tt ?_ | refine way_ff ?_ | refine wayc_t ?_ | refine wayc_f ?_ | refine way_tf ?_ | refine way_ft ?_ | refine way_t ?_); try simp only [Env.put]))
    | fail
  have hins : Sl (s1.push (.cells [.int .i64 (G.nodes.length : Int)])) dins (cellsI G.ins) iids := hg.ins.stay (ids2 := []) (Fr.push _) (by simp)
  obtain ⟨s2, d2, e1, e2, e3, e4⟩ := hins.push (new := [.int .i64 (G.nodes.length : Int)]) (id2 := s1.next) (bytes := 8) (get_push_new rfl) (by simp) (by decide) (by simp; omega)
  simp only [Store.next_push] at e2 e3 e4
  have k1 : s2.get g = some (.cells [.arr nid 0 (G.add (0, 0)).nodes.length 2, dins, .map mid]) := by rw [e4 g n3 (by omega), get_push_old l1]; exact hg.obj
  have hd2 := e2.one
  apply vq_append'
  · rfl
  · rfl
  · exact e1
  have l1' : g < s2.next := by omega
  have h2L : IntKind.i64.wrap (2 * (G.nodes.length : Int)) = 2 * (G.nodes.length : Int) := i64_id (by omega) (by omega)
  repeat first
    | with_reducible (first | refine vw_seq ?_ | refine vw_block ?_ | refine vw_rg ?_)
    | ((with_reducible apply vq_free'); (focus rfl))
    | ((with_reducible (first | refine vq_nil ?_ | refine vw_skip ?_ | refine vw_exit ?_ | refine vw_ret ?_)); simp only [Env.keep, Env.get, Env.ev, List.map, Nat.reduceEqDiff, ↓reduceIte, Then, Out'])
    | ((with_reducible (first | apply vq_p | apply vq_r | apply vq_a | apply vq_w | apply vq_g | apply vw_condm)); (focus (simp (disch := (first | with_reducible assumption | omega | ((repeat (first | rw [Store.next_push] | rw [Store.next_set])) <;> omega) | fail)) only [go_sem, Nat.reduceEqDiff, Nat.reduceAdd, Nat.reduceMul, Nat.reduceLeDiff, ↓reduceIte, reduceCtorEq, Int.reduceEq, Int.reduceLT, Int.reduceLE, Int.reduceAdd, Int.reduceSub, Int.reduceMul, Int.reduceNeg, Int.reduceToNat, k1, hd2, h2L] <;> rfl)); try (with_reducible (first | refine way_tt ?_ | refine way_ff ?_ | refine wayc_t ?_ | refine wayc_f ?_ | refine way_tf ?_ | refine way_ft ?_ | refine way_t ?_); try simp only [Env.put]))
    | fail
  refine ⟨.inr trivial, _, (by simp only [resOf, resAll, resOne, Env.get, Nat.reduceEqDiff, ↓reduceIte] <;> rfl), by simp, g :: nid :: mid :: [s1.next + 1], ⟨nid, mid, d2, [s1.next + 1], ⟨?_, ?_, ?_, ?_, ?_⟩, rfl⟩, ?_, ?_⟩
  · rw [get_set_eq l1']; simp [Gr.input, Gr.add]
  · rw [get_set_ne (by omega), e4 nid n5 (by omega), get_push_old l2]; exact hg.nodes
  · have := e2.stay (s' := s2.set g (some (.cells [.arr nid 0 (G.add (0, 0)).nodes.length 2, d2, .map mid]))) (ids2 := [g]) (Fr.set _ (by simp)) (by simp; omega)
    simpa [Gr.input, cellsI, Gr.add] using this
  · rw [get_set_ne (by omega), e4 mid n6 (by omega), get_push_old l3]; exact hg.known
  · simp only [List.nodup_cons, List.mem_cons, not_or, List.mem_nil_iff, not_false_eq_true, List.nodup_nil, and_true]
    refine ⟨⟨n1, n2, by omega⟩, ⟨n4, by omega⟩, by omega⟩
  · refine ⟨by have := f1.1; simp only [Store.next_set]; omega, fun i hl hn => ?_⟩
    have hm : ∀ j ∈ (g :: nid :: mid :: iids), i ≠ j := by
      rintro j hj rfl
      rcases m1 i hj with h | h
      · exact hn h
      · omega
    have := f1.1
    rw [get_set_ne (hm g (by simp)), e4 i (fun h => hm i (by simp [h]) rfl) (by omega), get_push_old (by omega)]
    exact f1.2 i hl hn
  · intro i hi
    have := f1.1
    simp only [List.mem_cons, List.mem_nil_iff, or_false] at hi
    rcases hi with rfl | rfl | rfl | rfl
    · exact m1 _ (by simp)
    · exact m1 _ (by simp)
    · exact m1 _ (by simp)
    · exact .inr (by omega)

end Go.Proofs.Ytedoacfoglbfeaa
