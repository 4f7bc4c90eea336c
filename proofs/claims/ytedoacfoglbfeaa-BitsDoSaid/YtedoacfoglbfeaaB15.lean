/- The examples of law06, and steps that the laws share. -/
import Derived.Test.YtedoacfoglbfeaaB14
namespace Go.Proofs.Ytedoacfoglbfeaa
open Go.V
set_option maxRecDepth 100000
set_option maxHeartbeats 4000000
set_option linter.unusedSimpArgs false
set_option linter.unusedVariables false

theorem vq_valueB {pairs i t x rest s Q} {env : Env} {d : D} {bs : List Bool} {w : Nat} (hg : Rd s d (cellsB bs)) (hl : bs.length = w) (h1 : 1 ≤ w) (h2 : w ≤ 16) (hx : env.evL [x] = [d])
    (h : WQ vfs pairs rest ((t, .int .i64 (valZ (atB bs) w)) :: env) s Q) : WQ vfs pairs ((i, ⟨some t, .m (.call .iso (.cst (.fn 38 [])) [x]), none⟩) :: rest) env s Q := by
  obtain ⟨d', e1, e2⟩ := hg.ice (scal_cellsB bs)
  refine vq_isoL (valueV e2 hl h1 h2) rfl hx ?_ h
  simp only [mapO, e1]
theorem vq_value {pairs i t x rest s Q} {env : Env} {id w : Nat} {G : Gr} {m : List Bool} {es : List Nat} (hg : s.get id = some (.cells (cellsB (es.map (G.ev m))))) (hl : es.length = w) (h1 : 1 ≤ w) (h2 : w ≤ 16) (hx : env.evL [x] = [.arr id 0 w 1])
    (h : WQ vfs pairs rest ((t, .int .i64 (valE G m es)) :: env) s Q) : WQ vfs pairs ((i, ⟨some t, .m (.call .iso (.cst (.fn 38 [])) [x]), none⟩) :: rest) env s Q := by
  have hr := rdB_arr hg
  rw [List.length_map, hl] at hr
  refine vq_valueB hr (by simp [hl]) h1 h2 hx ?_
  have : valZ (atB (es.map (G.ev m))) w = valE G m es := by
    rw [valE_id hl h1 h2]
    refine valZ_cong h1 fun i hi => ?_
    unfold atB bitsOf
    simp [List.getD, hl, hi]
  rw [this]
  exact h
theorem rdF_nil {s : Store} {ids : List Nat} : RdF s ids .nils (cellsB []) := RdF.of fun s => .inl ⟨rfl, rfl⟩

theorem constVI {s : Store} {g : Nat} {G : Gr} {ids : List Nat} {x n : Int} {w : Nat} (hG : GA s g G ids) (hw : G.WF) (hn : (w : Int) = min (max n 1) 16) :
    EvP vfs 37 [.int .i64 x, .int .i64 n] s fun d s' => Fr [] s s' ∧ GA s' g G ids ∧ VI s' ids G d (constL x w) := by
  refine (constV hn).mono ?_
  rintro d s' ⟨id, rfl, hg, hf, hl⟩
  have hlt := hG.lt
  exact ⟨hf, hG.stay hf (by simp), VI.of hg (constL_len _ _) (fun h => by have := hlt _ h; omega) (constL_lt hw.len)⟩

theorem awake6 {s : Store} : EvP vfs 35 [] s fun d s' => d = .bool true := by
  refine evp_of (vf := vf35) rfl ?_
  simp only [vf35, List.map, List.getD, List.getElem?_cons_zero, List.getElem?_cons_succ, List.getElem?_nil, Option.getD]
  repeat first
    | with_reducible (first | refine vw_seq ?_ | refine vw_block ?_ | refine vw_rg ?_)
    | ((with_reducible apply vq_free'); (focus rfl))
    | ((with_reducible (first | refine vq_nil ?_ | refine vw_skip ?_ | refine vw_exit ?_ | refine vw_ret ?_)); simp only [Env.keep, Env.get, Env.ev, List.map, Nat.reduceEqDiff, ↓reduceIte, Then, Out'])
    | ((with_reducible (first | apply vq_p | apply vq_r | apply vq_a | apply vq_w | apply vq_g | apply vw_condm)); (focus (simp (disch := (first | with_reducible assumption | omega | ((repeat (first | rw [Store.next_push] | rw [Store.next_set])) <;> omega) | fail)) only [go_sem, Nat.reduceEqDiff, Nat.reduceAdd, Nat.reduceMul, Nat.reduceLeDiff, ↓reduceIte, reduceCtorEq, Int.reduceEq, Int.reduceLT, Int.reduceLE, Int.reduceAdd, Int.reduceSub, Int.reduceMul, Int.reduceNeg, Int.reduceToNat] <;> rfl)); (first | (with_reducible (first | refine way_tt ?_ | refine way_ff ?_ | refine wayc_t ?_ | refine wayc_f ?_ | refine way_tf ?_ | refine way_ft ?_ | refine way_t ?_); try simp only [Env.put]) | with_reducible refine (?_ : WQ _ _ _ _ _ _)))
    | fail
  apply vq_evpf new_ok
  · rfl
  rintro q s1 ⟨g, ids, rfl, hG, f1, -⟩
  have hw := Gr.new_wf
  have hl : Gr.new.nodes.length = 1 := rfl
  repeat first
    | with_reducible (first | refine vw_seq ?_ | refine vw_block ?_ | refine vw_rg ?_)
    | ((with_reducible apply vq_free'); (focus rfl))
    | ((with_reducible (first | refine vq_nil ?_ | refine vw_skip ?_ | refine vw_exit ?_ | refine vw_ret ?_)); simp only [Env.keep, Env.get, Env.ev, List.map, Nat.reduceEqDiff, ↓reduceIte, Then, Out'])
    | ((with_reducible (first | apply vq_p | apply vq_r | apply vq_a | apply vq_w | apply vq_g | apply vw_condm)); (focus (simp (disch := (first | with_reducible assumption | omega | ((repeat (first | rw [Store.next_push] | rw [Store.next_set])) <;> omega) | fail)) only [go_sem, Nat.reduceEqDiff, Nat.reduceAdd, Nat.reduceMul, Nat.reduceLeDiff, ↓reduceIte, reduceCtorEq, Int.reduceEq, Int.reduceLT, Int.reduceLE, Int.reduceAdd, Int.reduceSub, Int.reduceMul, Int.reduceNeg, Int.reduceToNat] <;> rfl)); (first | (with_reducible (first | refine way_tt ?_ | refine way_ff ?_ | refine wayc_t ?_ | refine wayc_f ?_ | refine way_tf ?_ | refine way_ft ?_ | refine way_t ?_); try simp only [Env.put]) | with_reducible refine (?_ : WQ _ _ _ _ _ _)))
    | fail
  apply vq_evpf (constVI (w := 4) (n := 4) hG hw (by decide))
  · rfl
  rintro d1 s2 ⟨f2, hG2, v2⟩
  repeat first
    | with_reducible (first | refine vw_seq ?_ | refine vw_block ?_ | refine vw_rg ?_)
    | ((with_reducible apply vq_free'); (focus rfl))
    | ((with_reducible (first | refine vq_nil ?_ | refine vw_skip ?_ | refine vw_exit ?_ | refine vw_ret ?_)); simp only [Env.keep, Env.get, Env.ev, List.map, Nat.reduceEqDiff, ↓reduceIte, Then, Out'])
    | ((with_reducible (first | apply vq_p | apply vq_r | apply vq_a | apply vq_w | apply vq_g | apply vw_condm)); (focus (simp (disch := (first | with_reducible assumption | omega | ((repeat (first | rw [Store.next_push] | rw [Store.next_set])) <;> omega) | fail)) only [go_sem, Nat.reduceEqDiff, Nat.reduceAdd, Nat.reduceMul, Nat.reduceLeDiff, ↓reduceIte, reduceCtorEq, Int.reduceEq, Int.reduceLT, Int.reduceLE, Int.reduceAdd, Int.reduceSub, Int.reduceMul, Int.reduceNeg, Int.reduceToNat] <;> rfl)); (first | (with_reducible (first | refine way_tt ?_ | refine way_ff ?_ | refine wayc_t ?_ | refine wayc_f ?_ | refine way_tf ?_ | refine way_ft ?_ | refine way_t ?_); try simp only [Env.put]) | with_reducible refine (?_ : WQ _ _ _ _ _ _)))
    | fail
  apply vq_evpf (constVI (w := 4) (n := 4) hG2 hw (by decide))
  · rfl
  rintro d2 s3 ⟨f3, hG3, v3⟩
  repeat first
    | with_reducible (first | refine vw_seq ?_ | refine vw_block ?_ | refine vw_rg ?_)
    | ((with_reducible apply vq_free'); (focus rfl))
    | ((with_reducible (first | refine vq_nil ?_ | refine vw_skip ?_ | refine vw_exit ?_ | refine vw_ret ?_)); simp only [Env.keep, Env.get, Env.ev, List.map, Nat.reduceEqDiff, ↓reduceIte, Then, Out'])
    | ((with_reducible (first | apply vq_p | apply vq_r | apply vq_a | apply vq_w | apply vq_g | apply vw_condm)); (focus (simp (disch := (first | with_reducible assumption | omega | ((repeat (first | rw [Store.next_push] | rw [Store.next_set])) <;> omega) | fail)) only [go_sem, Nat.reduceEqDiff, Nat.reduceAdd, Nat.reduceMul, Nat.reduceLeDiff, ↓reduceIte, reduceCtorEq, Int.reduceEq, Int.reduceLT, Int.reduceLE, Int.reduceAdd, Int.reduceSub, Int.reduceMul, Int.reduceNeg, Int.reduceToNat] <;> rfl)); (first | (with_reducible (first | refine way_tt ?_ | refine way_ff ?_ | refine wayc_t ?_ | refine wayc_f ?_ | refine way_tf ?_ | refine way_ft ?_ | refine way_t ?_); try simp only [Env.put]) | with_reducible refine (?_ : WQ _ _ _ _ _ _)))
    | fail
  apply vq_evpf (addZ hG3 hw (v2.newer f3) v3 (by omega))
  · rfl
  rintro q s4 ⟨es, G4, ids4, id4, rfl, k4, l4, n4, g4, j4, o4, v4, z4⟩
  have m4 := o4.len
  have w4 : wid2 (constL 7 4) (constL 1 4) = 4 := rfl
  rw [w4] at l4 v4 z4 ⊢
  repeat first
    | with_reducible (first | refine vw_seq ?_ | refine vw_block ?_ | refine vw_rg ?_)
    | ((with_reducible apply vq_free'); (focus rfl))
    | ((with_reducible (first | refine vq_nil ?_ | refine vw_skip ?_ | refine vw_exit ?_ | refine vw_ret ?_)); simp only [Env.keep, Env.get, Env.ev, List.map, Nat.reduceEqDiff, ↓reduceIte, Then, Out'])
    | ((with_reducible (first | apply vq_p | apply vq_r | apply vq_a | apply vq_w | apply vq_g | apply vw_condm)); (focus (simp (disch := (first | with_reducible assumption | omega | ((repeat (first | rw [Store.next_push] | rw [Store.next_set])) <;> omega) | fail)) only [go_sem, Nat.reduceEqDiff, Nat.reduceAdd, Nat.reduceMul, Nat.reduceLeDiff, ↓reduceIte, reduceCtorEq, Int.reduceEq, Int.reduceLT, Int.reduceLE, Int.reduceAdd, Int.reduceSub, Int.reduceMul, Int.reduceNeg, Int.reduceToNat] <;> rfl)); (first | (with_reducible (first | refine way_tt ?_ | refine way_ff ?_ | refine wayc_t ?_ | refine wayc_f ?_ | refine way_tf ?_ | refine way_ft ?_ | refine way_t ?_); try simp only [Env.put]) | with_reducible refine (?_ : WQ _ _ _ _ _ _)))
    | fail
  apply vq_evpf (evalS j4.1 o4.wf rdF_nil v4.rd v4.lt (by omega) (by decide) (by omega))
  · rfl
  rintro q s5 ⟨id5, rfl, k5, f5, g5⟩
  have e5 : (valE G4 [] es == -8) = true := by
    rw [z4]
    show (trimZ (valE Gr.new [] (constL 7 4) + valE Gr.new [] (constL 1 4)) 4 == -8) = true
    rw [constL_val hw (by decide) (by decide), constL_val hw (by decide) (by decide)]
    decide
  rw [l4]
  repeat first
    | (apply vq_value k5 l4 (by decide) (by decide); (focus rfl))
    | with_reducible (first | refine vw_seq ?_ | refine vw_block ?_ | refine vw_rg ?_)
    | ((with_reducible apply vq_free'); (focus rfl))
    | ((with_reducible (first | refine vq_nil ?_ | refine vw_skip ?_ | refine vw_exit ?_ | refine vw_ret ?_)); simp only [Env.keep, Env.get, Env.ev, List.map, Nat.reduceEqDiff, ↓reduceIte, Then, Out'])
    | ((with_reducible (first | apply vq_p | apply vq_r | apply vq_a | apply vq_w | apply vq_g | apply vw_condm)); (focus (simp (disch := (first | with_reducible assumption | omega | ((repeat (first | rw [Store.next_push] | rw [Store.next_set])) <;> omega) | fail)) only [go_sem, Nat.reduceEqDiff, Nat.reduceAdd, Nat.reduceMul, Nat.reduceLeDiff, ↓reduceIte, reduceCtorEq, Int.reduceEq, Int.reduceLT, Int.reduceLE, Int.reduceAdd, Int.reduceSub, Int.reduceMul, Int.reduceNeg, Int.reduceToNat, e5] <;> rfl)); (first | (with_reducible (first | refine way_tt ?_ | refine way_ff ?_ | refine wayc_t ?_ | refine wayc_f ?_ | refine way_tf ?_ | refine way_ft ?_ | refine way_t ?_); try simp only [Env.put]) | with_reducible refine (?_ : WQ _ _ _ _ _ _)))
    | fail
  have hG5 := (j4.1.newer f5).1
  apply vq_evpf (constVI (w := 4) (n := 4) hG5 o4.wf (by decide))
  · rfl
  rintro d6 s6 ⟨f6, hG6, v6⟩
  repeat first
    | with_reducible (first | refine vw_seq ?_ | refine vw_block ?_ | refine vw_rg ?_)
    | ((with_reducible apply vq_free'); (focus rfl))
    | ((with_reducible (first | refine vq_nil ?_ | refine vw_skip ?_ | refine vw_exit ?_ | refine vw_ret ?_)); simp only [Env.keep, Env.get, Env.ev, List.map, Nat.reduceEqDiff, ↓reduceIte, Then, Out'])
    | ((with_reducible (first | apply vq_p | apply vq_r | apply vq_a | apply vq_w | apply vq_g | apply vw_condm)); (focus (simp (disch := (first | with_reducible assumption | omega | ((repeat (first | rw [Store.next_push] | rw [Store.next_set])) <;> omega) | fail)) only [go_sem, Nat.reduceEqDiff, Nat.reduceAdd, Nat.reduceMul, Nat.reduceLeDiff, ↓reduceIte, reduceCtorEq, Int.reduceEq, Int.reduceLT, Int.reduceLE, Int.reduceAdd, Int.reduceSub, Int.reduceMul, Int.reduceNeg, Int.reduceToNat] <;> rfl)); (first | (with_reducible (first | refine way_tt ?_ | refine way_ff ?_ | refine wayc_t ?_ | refine wayc_f ?_ | refine way_tf ?_ | refine way_ft ?_ | refine way_t ?_); try simp only [Env.put]) | with_reducible refine (?_ : WQ _ _ _ _ _ _)))
    | fail
  apply vq_evpf (constVI (w := 4) (n := 4) hG6 o4.wf (by decide))
  · rfl
  rintro d7 s7 ⟨f7, hG7, v7⟩
  repeat first
    | with_reducible (first | refine vw_seq ?_ | refine vw_block ?_ | refine vw_rg ?_)
    | ((with_reducible apply vq_free'); (focus rfl))
    | ((with_reducible (first | refine vq_nil ?_ | refine vw_skip ?_ | refine vw_exit ?_ | refine vw_ret ?_)); simp only [Env.keep, Env.get, Env.ev, List.map, Nat.reduceEqDiff, ↓reduceIte, Then, Out'])
    | ((with_reducible (first | apply vq_p | apply vq_r | apply vq_a | apply vq_w | apply vq_g | apply vw_condm)); (focus (simp (disch := (first | with_reducible assumption | omega | ((repeat (first | rw [Store.next_push] | rw [Store.next_set])) <;> omega) | fail)) only [go_sem, Nat.reduceEqDiff, Nat.reduceAdd, Nat.reduceMul, Nat.reduceLeDiff, ↓reduceIte, reduceCtorEq, Int.reduceEq, Int.reduceLT, Int.reduceLE, Int.reduceAdd, Int.reduceSub, Int.reduceMul, Int.reduceNeg, Int.reduceToNat] <;> rfl)); (first | (with_reducible (first | refine way_tt ?_ | refine way_ff ?_ | refine wayc_t ?_ | refine wayc_f ?_ | refine way_tf ?_ | refine way_ft ?_ | refine way_t ?_); try simp only [Env.put]) | with_reducible refine (?_ : WQ _ _ _ _ _ _)))
    | fail
  apply vq_evpf (divZ hG7 o4.wf (v6.newer f7) v7 (by omega))
  · rfl
  rintro q s8 ⟨es8, G8, ids8, id8, rfl, k8, l8, n8, g8, j8, o8, v8, z8⟩
  have m8 := o8.len
  have w8 : wid2 (constL (-7) 4) (constL 2 4) = 4 := rfl
  rw [w8] at l8 v8 z8 ⊢
  repeat first
    | with_reducible (first | refine vw_seq ?_ | refine vw_block ?_ | refine vw_rg ?_)
    | ((with_reducible apply vq_free'); (focus rfl))
    | ((with_reducible (first | refine vq_nil ?_ | refine vw_skip ?_ | refine vw_exit ?_ | refine vw_ret ?_)); simp only [Env.keep, Env.get, Env.ev, List.map, Nat.reduceEqDiff, ↓reduceIte, Then, Out'])
    | ((with_reducible (first | apply vq_p | apply vq_r | apply vq_a | apply vq_w | apply vq_g | apply vw_condm)); (focus (simp (disch := (first | with_reducible assumption | omega | ((repeat (first | rw [Store.next_push] | rw [Store.next_set])) <;> omega) | fail)) only [go_sem, Nat.reduceEqDiff, Nat.reduceAdd, Nat.reduceMul, Nat.reduceLeDiff, ↓reduceIte, reduceCtorEq, Int.reduceEq, Int.reduceLT, Int.reduceLE, Int.reduceAdd, Int.reduceSub, Int.reduceMul, Int.reduceNeg, Int.reduceToNat] <;> rfl)); (first | (with_reducible (first | refine way_tt ?_ | refine way_ff ?_ | refine wayc_t ?_ | refine wayc_f ?_ | refine way_tf ?_ | refine way_ft ?_ | refine way_t ?_); try simp only [Env.put]) | with_reducible refine (?_ : WQ _ _ _ _ _ _)))
    | fail
  apply vq_evpf (evalS j8.1 o8.wf rdF_nil v8.rd v8.lt (by omega) (by decide) (by omega))
  · rfl
  rintro q s9 ⟨id9, rfl, k9, f9, g9⟩
  have e9 : (valE G8 [] es8 == -3) = true := by
    rw [z8]
    show ((if valE G4 [] (constL 2 4) = 0 then 0 else trimZ ((valE G4 [] (constL (-7) 4)).tdiv (valE G4 [] (constL 2 4))) 4) == -3) = true
    rw [constL_val o4.wf (by decide) (by decide), constL_val o4.wf (by decide) (by decide)]
    decide
  rw [l8]
  repeat first
    | (apply vq_value k9 l8 (by decide) (by decide); (focus rfl))
    | with_reducible (first | refine vw_seq ?_ | refine vw_block ?_ | refine vw_rg ?_)
    | ((with_reducible apply vq_free'); (focus rfl))
    | ((with_reducible (first | refine vq_nil ?_ | refine vw_skip ?_ | refine vw_exit ?_ | refine vw_ret ?_)); simp only [Env.keep, Env.get, Env.ev, List.map, Nat.reduceEqDiff, ↓reduceIte, Then, Out'])
    | ((with_reducible (first | apply vq_p | apply vq_r | apply vq_a | apply vq_w | apply vq_g | apply vw_condm)); (focus (simp (disch := (first | with_reducible assumption | omega | ((repeat (first | rw [Store.next_push] | rw [Store.next_set])) <;> omega) | fail)) only [go_sem, Nat.reduceEqDiff, Nat.reduceAdd, Nat.reduceMul, Nat.reduceLeDiff, ↓reduceIte, reduceCtorEq, Int.reduceEq, Int.reduceLT, Int.reduceLE, Int.reduceAdd, Int.reduceSub, Int.reduceMul, Int.reduceNeg, Int.reduceToNat, e9] <;> rfl)); (first | (with_reducible (first | refine way_tt ?_ | refine way_ff ?_ | refine wayc_t ?_ | refine wayc_f ?_ | refine way_tf ?_ | refine way_ft ?_ | refine way_t ?_); try simp only [Env.put]) | with_reducible refine (?_ : WQ _ _ _ _ _ _)))
    | fail
  exact ⟨.inr trivial, _, (by simp only [resOf, resAll, resOne, Env.get, Nat.reduceEqDiff, ↓reduceIte] <;> rfl), rfl⟩
theorem awake6' : ∃ s', Ev vfs 35 [] Store.empty (.bool true) s' := by
  obtain ⟨d, s', h, rfl⟩ := awake6 (s := Store.empty)
  exact ⟨s', h⟩
end Go.Proofs.Ytedoacfoglbfeaa
