/- The graph's Or, Xor, Mux, All, Any: what they are. -/
import Derived.Test.YtedoacfoglbfeaaG3
namespace Go.Proofs.Ytedoacfoglbfeaa
open Go.V
set_option maxRecDepth 100000
set_option linter.unusedSimpArgs false
set_option linter.unusedVariables false

theorem ownE {s : Store} {g : Nat} {G : Gr} {ids : List Nat} {a : Nat} (hG : GA s g G ids) (ha : a < 2 * G.nodes.length) (hL : G.nodes.length < 200000) :
    Ev vfs 55 [.ptr g 0, .int .i64 (a : Int)] s (.int .i64 (a : Int)) s := by
  have := own_ok (e := (a : Int)) hG (by omega) (by omega)
  rwa [own_nat ha] at this
theorem notE {s : Store} {G : Gr} {a : Nat} (ha : a < 2 * G.nodes.length) (hL : G.nodes.length ≤ 200000) : Ev vfs 34 [.int .i64 (a : Int)] s (.int .i64 (notN a : Nat)) s := not_ok (by omega)

theorem andS {s : Store} {g : Nat} {G : Gr} {ids : List Nat} {a b : Nat} (hG : GA s g G ids) (hw : G.WF) (ha : a < 2 * G.nodes.length) (hb : b < 2 * G.nodes.length) (hL : G.nodes.length < 200000) :
    EvP vfs 19 [.ptr g 0, .int .i64 (a : Int), .int .i64 (b : Int)] s (GE s g ids G 1 fun m => G.ev m a && G.ev m b) := by
  refine (andE hG hw ha hb hL).mono ?_
  rintro d s' ⟨rfl, ids', h⟩
  obtain ⟨h1, h2, h3⟩ := Gr.and_ok hw ha hb
  exact ⟨_, _, ids', rfl, h, h1, h2, h3⟩

theorem orS {s : Store} {g : Nat} {G : Gr} {ids : List Nat} {a b : Nat} (hG : GA s g G ids) (hw : G.WF) (ha : a < 2 * G.nodes.length) (hb : b < 2 * G.nodes.length) (hL : G.nodes.length < 200000) :
    EvP vfs 32 [.ptr g 0, .int .i64 (a : Int), .int .i64 (b : Int)] s (GE s g ids G 1 fun m => G.ev m a || G.ev m b) := by
  have o1 := ownE hG ha hL
  have o2 := ownE hG hb hL
  have n1 := notE (s := s) ha (by omega)
  have n2 := notE (s := s) hb (by omega)
  refine evp_of (vf := vf32) rfl ?_
  simp only [vf32, List.map, List.getD, List.getElem?_cons_zero, List.getElem?_cons_succ, List.getElem?_nil, Option.getD]
  repeat first
    | (apply vq_call'; (focus (simp only [Env.evL, Env.ev, Env.get, Nat.reduceEqDiff, ↓reduceIte, Made.at]; rfl)); (focus (exact o1)))
    | (apply vq_call'; (focus (simp only [Env.evL, Env.ev, Env.get, Nat.reduceEqDiff, ↓reduceIte, Made.at]; rfl)); (focus (exact o2)))
    | (apply vq_call'; (focus (simp only [Env.evL, Env.ev, Env.get, Nat.reduceEqDiff, ↓reduceIte, Made.at]; rfl)); (focus (exact n1)))
    | (apply vq_call'; (focus (simp only [Env.evL, Env.ev, Env.get, Nat.reduceEqDiff, ↓reduceIte, Made.at]; rfl)); (focus (exact n2)))
    | with_reducible (first | refine vw_seq ?_ | refine vw_block ?_ | refine vw_rg ?_)
    | ((with_reducible apply vq_free'); (focus rfl))
    | ((with_reducible (first | refine vq_nil ?_ | refine vw_skip ?_ | refine vw_exit ?_ | refine vw_ret ?_)); simp only [Env.keep, Env.get, Env.ev, List.map, Nat.reduceEqDiff, ↓reduceIte, Then, Out'])
    | ((with_reducible (first | apply vq_p | apply vq_r | apply vq_a | apply vq_w | apply vq_g | apply vw_condm)); (focus (simp (disch := (first | with_reducible assumption | omega | ((repeat (first | rw [Store.next_push] | rw [Store.next_set])) <;> omega) | fail)) only [go_sem, Nat.reduceEqDiff, Nat.reduceAdd, Nat.reduceMul, Nat.reduceLeDiff, ↓reduceIte, reduceCtorEq, Int.reduceEq, Int.reduceLT, Int.reduceLE, Int.reduceAdd, Int.reduceSub, Int.reduceMul, Int.reduceNeg, Int.reduceToNat] <;> rfl)); (first | (with_reducible (first | refine way_tt ?_ | refine way_ff ?_ | refine wayc_t ?_ | refine wayc_f ?_ | refine way_tf ?_ | refine way_ft ?_ | refine way_t ?_); try simp only [Env.put]) | with_reducible refine (?_ : WQ _ _ _ _ _ _)))
    | fail
  apply vq_evpf (andS hG hw (notN_lt ha) (notN_lt hb) hL)
  · rfl
  rintro d s1 ⟨e, G', ids', rfl, h1, h2, h3, h4⟩
  have n3 := notE (s := s1) h3 (by have := h2.len; omega)
  repeat first
    | (apply vq_call'; (focus (simp only [Env.evL, Env.ev, Env.get, Nat.reduceEqDiff, ↓reduceIte, Made.at]; rfl)); (focus (exact n3)))
    | with_reducible (first | refine vw_seq ?_ | refine vw_block ?_ | refine vw_rg ?_)
    | ((with_reducible apply vq_free'); (focus rfl))
    | ((with_reducible (first | refine vq_nil ?_ | refine vw_skip ?_ | refine vw_exit ?_ | refine vw_ret ?_)); simp only [Env.keep, Env.get, Env.ev, List.map, Nat.reduceEqDiff, ↓reduceIte, Then, Out'])
    | ((with_reducible (first | apply vq_p | apply vq_r | apply vq_a | apply vq_w | apply vq_g | apply vw_condm)); (focus (simp (disch := (first | with_reducible assumption | omega | ((repeat (first | rw [Store.next_push] | rw [Store.next_set])) <;> omega) | fail)) only [go_sem, Nat.reduceEqDiff, Nat.reduceAdd, Nat.reduceMul, Nat.reduceLeDiff, ↓reduceIte, reduceCtorEq, Int.reduceEq, Int.reduceLT, Int.reduceLE, Int.reduceAdd, Int.reduceSub, Int.reduceMul, Int.reduceNeg, Int.reduceToNat] <;> rfl)); (first | (with_reducible (first | refine way_tt ?_ | refine way_ff ?_ | refine wayc_t ?_ | refine wayc_f ?_ | refine way_tf ?_ | refine way_ft ?_ | refine way_t ?_); try simp only [Env.put]) | with_reducible refine (?_ : WQ _ _ _ _ _ _)))
    | fail
  refine ⟨.inr trivial, _, (by simp only [resOf, resAll, resOne, Env.get, Nat.reduceEqDiff, ↓reduceIte] <;> rfl), notN e, G', ids', rfl, h1, h2, notN_lt h3, fun m => ?_⟩
  simp only [Gr.ev_not, h4]
  cases G.ev m a <;> cases G.ev m b <;> rfl

theorem xorS {s : Store} {g : Nat} {G : Gr} {ids : List Nat} {a b : Nat} (hG : GA s g G ids) (hw : G.WF) (ha : a < 2 * G.nodes.length) (hb : b < 2 * G.nodes.length) (hL : G.nodes.length + 2 < 200000) :
    EvP vfs 23 [.ptr g 0, .int .i64 (a : Int), .int .i64 (b : Int)] s (GE s g ids G 3 fun m => G.ev m a != G.ev m b) := by
  have o1 := ownE hG ha (by omega)
  have o2 := ownE hG hb (by omega)
  have n2 := notE (s := s) hb (by omega)
  refine evp_of (vf := vf23) rfl ?_
  simp only [vf23, List.map, List.getD, List.getElem?_cons_zero, List.getElem?_cons_succ, List.getElem?_nil, Option.getD]
  repeat first
    | (apply vq_call'; (focus (simp only [Env.evL, Env.ev, Env.get, Nat.reduceEqDiff, ↓reduceIte, Made.at]; rfl)); (focus (exact o1)))
    | (apply vq_call'; (focus (simp only [Env.evL, Env.ev, Env.get, Nat.reduceEqDiff, ↓reduceIte, Made.at]; rfl)); (focus (exact o2)))
    | (apply vq_call'; (focus (simp only [Env.evL, Env.ev, Env.get, Nat.reduceEqDiff, ↓reduceIte, Made.at]; rfl)); (focus (exact n2)))
    | with_reducible (first | refine vw_seq ?_ | refine vw_block ?_ | refine vw_rg ?_)
    | ((with_reducible apply vq_free'); (focus rfl))
    | ((with_reducible (first | refine vq_nil ?_ | refine vw_skip ?_ | refine vw_exit ?_ | refine vw_ret ?_)); simp only [Env.keep, Env.get, Env.ev, List.map, Nat.reduceEqDiff, ↓reduceIte, Then, Out'])
    | ((with_reducible (first | apply vq_p | apply vq_r | apply vq_a | apply vq_w | apply vq_g | apply vw_condm)); (focus (simp (disch := (first | with_reducible assumption | omega | ((repeat (first | rw [Store.next_push] | rw [Store.next_set])) <;> omega) | fail)) only [go_sem, Nat.reduceEqDiff, Nat.reduceAdd, Nat.reduceMul, Nat.reduceLeDiff, ↓reduceIte, reduceCtorEq, Int.reduceEq, Int.reduceLT, Int.reduceLE, Int.reduceAdd, Int.reduceSub, Int.reduceMul, Int.reduceNeg, Int.reduceToNat] <;> rfl)); (first | (with_reducible (first | refine way_tt ?_ | refine way_ff ?_ | refine wayc_t ?_ | refine wayc_f ?_ | refine way_tf ?_ | refine way_ft ?_ | refine way_t ?_); try simp only [Env.put]) | with_reducible refine (?_ : WQ _ _ _ _ _ _)))
    | fail
  apply vq_evpf (andS hG hw ha (notN_lt hb) (by omega))
  · rfl
  rintro d s1 ⟨e1, G1, ids1, rfl, h1, h2, h3, h4⟩
  have n1 := notE (s := s1) (G := G) ha (by omega)
  have hle := h2.ext.le
  have hlen := h2.len
  repeat first
    | (apply vq_call'; (focus (simp only [Env.evL, Env.ev, Env.get, Nat.reduceEqDiff, ↓reduceIte, Made.at]; rfl)); (focus (exact n1)))
    | with_reducible (first | refine vw_seq ?_ | refine vw_block ?_ | refine vw_rg ?_)
    | ((with_reducible apply vq_free'); (focus rfl))
    | ((with_reducible (first | refine vq_nil ?_ | refine vw_skip ?_ | refine vw_exit ?_ | refine vw_ret ?_)); simp only [Env.keep, Env.get, Env.ev, List.map, Nat.reduceEqDiff, ↓reduceIte, Then, Out'])
    | ((with_reducible (first | apply vq_p | apply vq_r | apply vq_a | apply vq_w | apply vq_g | apply vw_condm)); (focus (simp (disch := (first | with_reducible assumption | omega | ((repeat (first | rw [Store.next_push] | rw [Store.next_set])) <;> omega) | fail)) only [go_sem, Nat.reduceEqDiff, Nat.reduceAdd, Nat.reduceMul, Nat.reduceLeDiff, ↓reduceIte, reduceCtorEq, Int.reduceEq, Int.reduceLT, Int.reduceLE, Int.reduceAdd, Int.reduceSub, Int.reduceMul, Int.reduceNeg, Int.reduceToNat] <;> rfl)); (first | (with_reducible (first | refine way_tt ?_ | refine way_ff ?_ | refine wayc_t ?_ | refine wayc_f ?_ | refine way_tf ?_ | refine way_ft ?_ | refine way_t ?_); try simp only [Env.put]) | with_reducible refine (?_ : WQ _ _ _ _ _ _)))
    | fail
  apply vq_evpf (andS h1.1 h2.wf (a := notN a) (b := b) (notN_lt (by omega)) (by omega) (by omega))
  · rfl
  rintro d s2 ⟨e2, G2, ids2, rfl, k1, k2, k3, k4⟩
  have kle := k2.ext.le
  have klen := k2.len
  repeat first
    | with_reducible (first | refine vw_seq ?_ | refine vw_block ?_ | refine vw_rg ?_)
    | ((with_reducible apply vq_free'); (focus rfl))
    | ((with_reducible (first | refine vq_nil ?_ | refine vw_skip ?_ | refine vw_exit ?_ | refine vw_ret ?_)); simp only [Env.keep, Env.get, Env.ev, List.map, Nat.reduceEqDiff, ↓reduceIte, Then, Out'])
    | ((with_reducible (first | apply vq_p | apply vq_r | apply vq_a | apply vq_w | apply vq_g | apply vw_condm)); (focus (simp (disch := (first | with_reducible assumption | omega | ((repeat (first | rw [Store.next_push] | rw [Store.next_set])) <;> omega) | fail)) only [go_sem, Nat.reduceEqDiff, Nat.reduceAdd, Nat.reduceMul, Nat.reduceLeDiff, ↓reduceIte, reduceCtorEq, Int.reduceEq, Int.reduceLT, Int.reduceLE, Int.reduceAdd, Int.reduceSub, Int.reduceMul, Int.reduceNeg, Int.reduceToNat] <;> rfl)); (first | (with_reducible (first | refine way_tt ?_ | refine way_ff ?_ | refine wayc_t ?_ | refine wayc_f ?_ | refine way_tf ?_ | refine way_ft ?_ | refine way_t ?_); try simp only [Env.put]) | with_reducible refine (?_ : WQ _ _ _ _ _ _)))
    | fail
  apply vq_evpf (orS k1.1 k2.wf (a := e1) (b := e2) (by omega) k3 (by omega))
  · rfl
  rintro d s3 ⟨e3, G3, ids3, rfl, l1, l2, l3, l4⟩
  repeat first
    | with_reducible (first | refine vw_seq ?_ | refine vw_block ?_ | refine vw_rg ?_)
    | ((with_reducible apply vq_free'); (focus rfl))
    | ((with_reducible (first | refine vq_nil ?_ | refine vw_skip ?_ | refine vw_exit ?_ | refine vw_ret ?_)); simp only [Env.keep, Env.get, Env.ev, List.map, Nat.reduceEqDiff, ↓reduceIte, Then, Out'])
    | ((with_reducible (first | apply vq_p | apply vq_r | apply vq_a | apply vq_w | apply vq_g | apply vw_condm)); (focus (simp (disch := (first | with_reducible assumption | omega | ((repeat (first | rw [Store.next_push] | rw [Store.next_set])) <;> omega) | fail)) only [go_sem, Nat.reduceEqDiff, Nat.reduceAdd, Nat.reduceMul, Nat.reduceLeDiff, ↓reduceIte, reduceCtorEq, Int.reduceEq, Int.reduceLT, Int.reduceLE, Int.reduceAdd, Int.reduceSub, Int.reduceMul, Int.reduceNeg, Int.reduceToNat] <;> rfl)); (first | (with_reducible (first | refine way_tt ?_ | refine way_ff ?_ | refine wayc_t ?_ | refine wayc_f ?_ | refine way_tf ?_ | refine way_ft ?_ | refine way_t ?_); try simp only [Env.put]) | with_reducible refine (?_ : WQ _ _ _ _ _ _)))
    | fail
  refine ⟨.inr trivial, _, (by simp only [resOf, resAll, resOne, Env.get, Nat.reduceEqDiff, ↓reduceIte] <;> rfl), e3, G3, ids3, rfl, (h1.trans k1).trans l1, ((h2.trans k2).trans l2).weaken (by omega), l3, fun m => ?_⟩
  simp only [l4, k2.ext.ev h3, h4, k4, Gr.ev_not, h2.ext.ev ha, h2.ext.ev hb]
  cases G.ev m a <;> cases G.ev m b <;> rfl

theorem muxS {s : Store} {g : Nat} {G : Gr} {ids : List Nat} {c a b : Nat} (hG : GA s g G ids) (hw : G.WF) (hc : c < 2 * G.nodes.length) (ha : a < 2 * G.nodes.length) (hb : b < 2 * G.nodes.length) (hL : G.nodes.length + 2 < 200000) :
    EvP vfs 33 [.ptr g 0, .int .i64 (c : Int), .int .i64 (a : Int), .int .i64 (b : Int)] s (GE s g ids G 3 fun m => if G.ev m c then G.ev m a else G.ev m b) := by
  have o0 := ownE hG hc (by omega)
  have o1 := ownE hG ha (by omega)
  have o2 := ownE hG hb (by omega)
  refine evp_of (vf := vf33) rfl ?_
  simp only [vf33, List.map, List.getD, List.getElem?_cons_zero, List.getElem?_cons_succ, List.getElem?_nil, Option.getD]
  repeat first
    | (apply vq_call'; (focus (simp only [Env.evL, Env.ev, Env.get, Nat.reduceEqDiff, ↓reduceIte, Made.at]; rfl)); (focus (exact o0)))
    | (apply vq_call'; (focus (simp only [Env.evL, Env.ev, Env.get, Nat.reduceEqDiff, ↓reduceIte, Made.at]; rfl)); (focus (exact o1)))
    | (apply vq_call'; (focus (simp only [Env.evL, Env.ev, Env.get, Nat.reduceEqDiff, ↓reduceIte, Made.at]; rfl)); (focus (exact o2)))
    | with_reducible (first | refine vw_seq ?_ | refine vw_block ?_ | refine vw_rg ?_)
    | ((with_reducible apply vq_free'); (focus rfl))
    | ((with_reducible (first | refine vq_nil ?_ | refine vw_skip ?_ | refine vw_exit ?_ | refine vw_ret ?_)); simp only [Env.keep, Env.get, Env.ev, List.map, Nat.reduceEqDiff, ↓reduceIte, Then, Out'])
    | ((with_reducible (first | apply vq_p | apply vq_r | apply vq_a | apply vq_w | apply vq_g | apply vw_condm)); (focus (simp (disch := (first | with_reducible assumption | omega | ((repeat (first | rw [Store.next_push] | rw [Store.next_set])) <;> omega) | fail)) only [go_sem, Nat.reduceEqDiff, Nat.reduceAdd, Nat.reduceMul, Nat.reduceLeDiff, ↓reduceIte, reduceCtorEq, Int.reduceEq, Int.reduceLT, Int.reduceLE, Int.reduceAdd, Int.reduceSub, Int.reduceMul, Int.reduceNeg, Int.reduceToNat] <;> rfl)); (first | (with_reducible (first | refine way_tt ?_ | refine way_ff ?_ | refine wayc_t ?_ | refine wayc_f ?_ | refine way_tf ?_ | refine way_ft ?_ | refine way_t ?_); try simp only [Env.put]) | with_reducible refine (?_ : WQ _ _ _ _ _ _)))
    | fail
  apply vq_evpf (andS hG hw hc ha (by omega))
  · rfl
  rintro d s1 ⟨e1, G1, ids1, rfl, h1, h2, h3, h4⟩
  have n1 := notE (s := s1) (G := G) hc (by omega)
  have hle := h2.ext.le
  have hlen := h2.len
  repeat first
    | (apply vq_call'; (focus (simp only [Env.evL, Env.ev, Env.get, Nat.reduceEqDiff, ↓reduceIte, Made.at]; rfl)); (focus (exact n1)))
    | with_reducible (first | refine vw_seq ?_ | refine vw_block ?_ | refine vw_rg ?_)
    | ((with_reducible apply vq_free'); (focus rfl))
    | ((with_reducible (first | refine vq_nil ?_ | refine vw_skip ?_ | refine vw_exit ?_ | refine vw_ret ?_)); simp only [Env.keep, Env.get, Env.ev, List.map, Nat.reduceEqDiff, ↓reduceIte, Then, Out'])
    | ((with_reducible (first | apply vq_p | apply vq_r | apply vq_a | apply vq_w | apply vq_g | apply vw_condm)); (focus (simp (disch := (first | with_reducible assumption | omega | ((repeat (first | rw [Store.next_push] | rw [Store.next_set])) <;> omega) | fail)) only [go_sem, Nat.reduceEqDiff, Nat.reduceAdd, Nat.reduceMul, Nat.reduceLeDiff, ↓reduceIte, reduceCtorEq, Int.reduceEq, Int.reduceLT, Int.reduceLE, Int.reduceAdd, Int.reduceSub, Int.reduceMul, Int.reduceNeg, Int.reduceToNat] <;> rfl)); (first | (with_reducible (first | refine way_tt ?_ | refine way_ff ?_ | refine wayc_t ?_ | refine wayc_f ?_ | refine way_tf ?_ | refine way_ft ?_ | refine way_t ?_); try simp only [Env.put]) | with_reducible refine (?_ : WQ _ _ _ _ _ _)))
    | fail
  apply vq_evpf (andS h1.1 h2.wf (a := notN c) (b := b) (notN_lt (by omega)) (by omega) (by omega))
  · rfl
  rintro d s2 ⟨e2, G2, ids2, rfl, k1, k2, k3, k4⟩
  have kle := k2.ext.le
  have klen := k2.len
  repeat first
    | with_reducible (first | refine vw_seq ?_ | refine vw_block ?_ | refine vw_rg ?_)
    | ((with_reducible apply vq_free'); (focus rfl))
    | ((with_reducible (first | refine vq_nil ?_ | refine vw_skip ?_ | refine vw_exit ?_ | refine vw_ret ?_)); simp only [Env.keep, Env.get, Env.ev, List.map, Nat.reduceEqDiff, ↓reduceIte, Then, Out'])
    | ((with_reducible (first | apply vq_p | apply vq_r | apply vq_a | apply vq_w | apply vq_g | apply vw_condm)); (focus (simp (disch := (first | with_reducible assumption | omega | ((repeat (first | rw [Store.next_push] | rw [Store.next_set])) <;> omega) | fail)) only [go_sem, Nat.reduceEqDiff, Nat.reduceAdd, Nat.reduceMul, Nat.reduceLeDiff, ↓reduceIte, reduceCtorEq, Int.reduceEq, Int.reduceLT, Int.reduceLE, Int.reduceAdd, Int.reduceSub, Int.reduceMul, Int.reduceNeg, Int.reduceToNat] <;> rfl)); (first | (with_reducible (first | refine way_tt ?_ | refine way_ff ?_ | refine wayc_t ?_ | refine wayc_f ?_ | refine way_tf ?_ | refine way_ft ?_ | refine way_t ?_); try simp only [Env.put]) | with_reducible refine (?_ : WQ _ _ _ _ _ _)))
    | fail
  apply vq_evpf (orS k1.1 k2.wf (a := e1) (b := e2) (by omega) k3 (by omega))
  · rfl
  rintro d s3 ⟨e3, G3, ids3, rfl, l1, l2, l3, l4⟩
  repeat first
    | with_reducible (first | refine vw_seq ?_ | refine vw_block ?_ | refine vw_rg ?_)
    | ((with_reducible apply vq_free'); (focus rfl))
    | ((with_reducible (first | refine vq_nil ?_ | refine vw_skip ?_ | refine vw_exit ?_ | refine vw_ret ?_)); simp only [Env.keep, Env.get, Env.ev, List.map, Nat.reduceEqDiff, ↓reduceIte, Then, Out'])
    | ((with_reducible (first | apply vq_p | apply vq_r | apply vq_a | apply vq_w | apply vq_g | apply vw_condm)); (focus (simp (disch := (first | with_reducible assumption | omega | ((repeat (first | rw [Store.next_push] | rw [Store.next_set])) <;> omega) | fail)) only [go_sem, Nat.reduceEqDiff, Nat.reduceAdd, Nat.reduceMul, Nat.reduceLeDiff, ↓reduceIte, reduceCtorEq, Int.reduceEq, Int.reduceLT, Int.reduceLE, Int.reduceAdd, Int.reduceSub, Int.reduceMul, Int.reduceNeg, Int.reduceToNat] <;> rfl)); (first | (with_reducible (first | refine way_tt ?_ | refine way_ff ?_ | refine wayc_t ?_ | refine wayc_f ?_ | refine way_tf ?_ | refine way_ft ?_ | refine way_t ?_); try simp only [Env.put]) | with_reducible refine (?_ : WQ _ _ _ _ _ _)))
    | fail
  refine ⟨.inr trivial, _, (by simp only [resOf, resAll, resOne, Env.get, Nat.reduceEqDiff, ↓reduceIte] <;> rfl), e3, G3, ids3, rfl, (h1.trans k1).trans l1, ((h2.trans k2).trans l2).weaken (by omega), l3, fun m => ?_⟩
  simp only [l4, k2.ext.ev h3, h4, k4, Gr.ev_not, h2.ext.ev hc, h2.ext.ev hb]
  cases G.ev m c <;> cases G.ev m a <;> cases G.ev m b <;> rfl

theorem i64_succ {i : Nat} (h : i < 1000000000) : IntKind.i64.wrap ((i : Int) + 1) = ((i + 1 : Nat) : Int) := by rw [i64_id (by omega) (by omega)]; omega
theorem take_all {l : List Nat} {i : Nat} (h : i < l.length) (f : Nat → Bool) : (l.take (i + 1)).all f = ((l.take i).all f && f l[i]) := by
  rw [List.take_succ_eq_append_getElem h, List.all_append, List.all_cons, List.all_nil, Bool.and_true]
theorem take_any {l : List Nat} {i : Nat} (h : i < l.length) (f : Nat → Bool) : (l.take (i + 1)).any f = ((l.take i).any f || f l[i]) := by
  rw [List.take_succ_eq_append_getElem h, List.any_append, List.any_cons, List.any_nil, Bool.or_false]

theorem allS {s : Store} {g : Nat} {G : Gr} {ids : List Nat} {d : D} {es : List Nat} (hG : GA s g G ids) (hw : G.WF) (hd : RdF s ids d (cellsI es)) (he : ∀ e ∈ es, e < 2 * G.nodes.length) (hL : G.nodes.length + es.length < 200000) :
    EvP vfs 30 [.ptr g 0, d] s (GE s g ids G es.length fun m => es.all (G.ev m)) := by
  have hlen := hd.1.lenI
  have hGl := hw.len
  refine evp_of (vf := vf30) rfl ?_
  simp only [vf30, List.map, List.getD, List.getElem?_cons_zero, List.getElem?_cons_succ, List.getElem?_nil, Option.getD]
  repeat first
    | with_reducible (first | refine vw_seq ?_ | refine vw_block ?_ | refine vw_rg ?_)
    | ((with_reducible apply vq_free'); (focus rfl))
    | ((with_reducible (first | refine vq_nil ?_ | refine vw_skip ?_ | refine vw_exit ?_ | refine vw_ret ?_)); simp only [Env.keep, Env.get, Env.ev, List.map, Nat.reduceEqDiff, ↓reduceIte, Then, Out'])
    | ((with_reducible (first | apply vq_p | apply vq_r | apply vq_a | apply vq_w | apply vq_g | apply vw_condm)); (focus (simp (disch := (first | with_reducible assumption | omega | ((repeat (first | rw [Store.next_push] | rw [Store.next_set])) <;> omega) | fail)) only [go_sem, Nat.reduceEqDiff, Nat.reduceAdd, Nat.reduceMul, Nat.reduceLeDiff, ↓reduceIte, reduceCtorEq, Int.reduceEq, Int.reduceLT, Int.reduceLE, Int.reduceAdd, Int.reduceSub, Int.reduceMul, Int.reduceNeg, Int.reduceToNat, hlen] <;> rfl)); (first | (with_reducible (first | refine way_tt ?_ | refine way_ff ?_ | refine wayc_t ?_ | refine wayc_f ?_ | refine way_tf ?_ | refine way_ft ?_ | refine way_t ?_); try simp only [Env.put]) | with_reducible refine (?_ : WQ _ _ _ _ _ _)))
    | fail
  refine vw_loop_inv (fun n env s1 => ∃ (i e : Nat) (G1 : Gr) (ids1 : List Nat) (x y : D), i ≤ es.length ∧ n = es.length - i ∧ GrStep s g ids s1 G1 ids1 ∧ Gr.Ok G G1 i ∧ e < 2 * G1.nodes.length ∧ (∀ m, G1.ev m e = (es.take i).all (G.ev m)) ∧
    env = [(0, .ptr g 0), (1, d), (4, .int .i64 0), (5, .int .i64 (e : Int)), (7, x), (8, d), (9, .int .i64 (es.length : Int)), (10, .int .i64 (i : Int)), (11, y)]) ?_ es.length _ _
    ⟨0, 1, G, ids, _, _, Nat.zero_le _, by omega, GrStep.refl hG, Gr.Ok.refl hw, by omega, fun m => by simp [hw.ev_one], rfl⟩
  rintro n env s1 ⟨i, e, G1, ids1, x, y, hi, rfl, h1, h2, h3, h4, rfl⟩
  have hle := h2.ext.le
  have hl1 := h2.len
  by_cases hc : i < es.length
  · have hc' : (i : Int) < (es.length : Int) := by omega
    obtain ⟨p, p1, p2⟩ := (hd.step h1).1.idxI hc
    have hei := he _ (List.getElem_mem hc)
    have hs := i64_succ (i := i) (by omega)
    repeat first
      | with_reducible (first | refine vw_seq ?_ | refine vw_block ?_ | refine vw_rg ?_)
      | ((with_reducible apply vq_free'); (focus rfl))
      | ((with_reducible (first | refine vq_nil ?_ | refine vw_skip ?_ | refine vw_exit ?_ | refine vw_ret ?_)); simp only [Env.keep, Env.get, Env.ev, List.map, Nat.reduceEqDiff, ↓reduceIte, Then, Out'])
      | ((with_reducible (first | apply vq_p | apply vq_r | apply vq_a | apply vq_w | apply vq_g | apply vw_condm)); (focus (simp (disch := (first | with_reducible assumption | omega | ((repeat (first | rw [Store.next_push] | rw [Store.next_set])) <;> omega) | fail)) only [go_sem, Nat.reduceEqDiff, Nat.reduceAdd, Nat.reduceMul, Nat.reduceLeDiff, ↓reduceIte, reduceCtorEq, Int.reduceEq, Int.reduceLT, Int.reduceLE, Int.reduceAdd, Int.reduceSub, Int.reduceMul, Int.reduceNeg, Int.reduceToNat, hc', p1, p2] <;> rfl)); (first | (with_reducible (first | refine way_tt ?_ | refine way_ff ?_ | refine wayc_t ?_ | refine wayc_f ?_ | refine way_tf ?_ | refine way_ft ?_ | refine way_t ?_); try simp only [Env.put]) | with_reducible refine (?_ : WQ _ _ _ _ _ _)))
      | fail
    apply vq_evpf (andS h1.1 h2.wf h3 (b := es[i]) (by omega) (by omega))
    · rfl
    rintro r s2 ⟨e2, G2, ids2, rfl, k1, k2, k3, k4⟩
    repeat first
      | with_reducible (first | refine vw_seq ?_ | refine vw_block ?_ | refine vw_rg ?_)
      | ((with_reducible apply vq_free'); (focus rfl))
      | ((with_reducible (first | refine vq_nil ?_ | refine vw_skip ?_ | refine vw_exit ?_ | refine vw_ret ?_)); simp only [Env.keep, Env.get, Env.ev, List.map, Nat.reduceEqDiff, ↓reduceIte, Then, Out'])
      | ((with_reducible (first | apply vq_p | apply vq_r | apply vq_a | apply vq_w | apply vq_g | apply vw_condm)); (focus (simp (disch := (first | with_reducible assumption | omega | ((repeat (first | rw [Store.next_push] | rw [Store.next_set])) <;> omega) | fail)) only [go_sem, Nat.reduceEqDiff, Nat.reduceAdd, Nat.reduceMul, Nat.reduceLeDiff, ↓reduceIte, reduceCtorEq, Int.reduceEq, Int.reduceLT, Int.reduceLE, Int.reduceAdd, Int.reduceSub, Int.reduceMul, Int.reduceNeg, Int.reduceToNat, hs] <;> rfl)); (first | (with_reducible (first | refine way_tt ?_ | refine way_ff ?_ | refine wayc_t ?_ | refine wayc_f ?_ | refine way_tf ?_ | refine way_ft ?_ | refine way_t ?_); try simp only [Env.put]) | with_reducible refine (?_ : WQ _ _ _ _ _ _)))
      | fail
    refine ⟨es.length - (i + 1), by omega, i + 1, e2, G2, ids2, _, _, by omega, rfl, h1.trans k1, h2.trans k2, k3, fun m => ?_, rfl⟩
    simp only [k4, h4, take_all hc, h2.ext.ev hei]
  · have hc' : ¬ (i : Int) < (es.length : Int) := by omega
    obtain rfl : i = es.length := by omega
    repeat first
      | with_reducible (first | refine vw_seq ?_ | refine vw_block ?_ | refine vw_rg ?_)
      | ((with_reducible apply vq_free'); (focus rfl))
      | ((with_reducible (first | refine vq_nil ?_ | refine vw_skip ?_ | refine vw_exit ?_ | refine vw_ret ?_)); simp only [Env.keep, Env.get, Env.ev, List.map, Nat.reduceEqDiff, ↓reduceIte, Then, Out'])
      | ((with_reducible (first | apply vq_p | apply vq_r | apply vq_a | apply vq_w | apply vq_g | apply vw_condm)); (focus (simp (disch := (first | with_reducible assumption | omega | ((repeat (first | rw [Store.next_push] | rw [Store.next_set])) <;> omega) | fail)) only [go_sem, Nat.reduceEqDiff, Nat.reduceAdd, Nat.reduceMul, Nat.reduceLeDiff, ↓reduceIte, reduceCtorEq, Int.reduceEq, Int.reduceLT, Int.reduceLE, Int.reduceAdd, Int.reduceSub, Int.reduceMul, Int.reduceNeg, Int.reduceToNat, hc'] <;> rfl)); (first | (with_reducible (first | refine way_tt ?_ | refine way_ff ?_ | refine wayc_t ?_ | refine wayc_f ?_ | refine way_tf ?_ | refine way_ft ?_ | refine way_t ?_); try simp only [Env.put]) | with_reducible refine (?_ : WQ _ _ _ _ _ _)))
      | fail
    refine ⟨.inr trivial, _, (by simp only [resOf, resAll, resOne, Env.get, Nat.reduceEqDiff, ↓reduceIte] <;> rfl), e, G1, ids1, rfl, h1, h2, h3, fun m => by rw [h4, List.take_length]⟩

theorem anyS {s : Store} {g : Nat} {G : Gr} {ids : List Nat} {d : D} {es : List Nat} (hG : GA s g G ids) (hw : G.WF) (hd : RdF s ids d (cellsI es)) (he : ∀ e ∈ es, e < 2 * G.nodes.length) (hL : G.nodes.length + es.length < 200000) :
    EvP vfs 31 [.ptr g 0, d] s (GE s g ids G es.length fun m => es.any (G.ev m)) := by
  have hlen := hd.1.lenI
  have hGl := hw.len
  refine evp_of (vf := vf31) rfl ?_
  simp only [vf31, List.map, List.getD, List.getElem?_cons_zero, List.getElem?_cons_succ, List.getElem?_nil, Option.getD]
  repeat first
    | with_reducible (first | refine vw_seq ?_ | refine vw_block ?_ | refine vw_rg ?_)
    | ((with_reducible apply vq_free'); (focus rfl))
    | ((with_reducible (first | refine vq_nil ?_ | refine vw_skip ?_ | refine vw_exit ?_ | refine vw_ret ?_)); simp only [Env.keep, Env.get, Env.ev, List.map, Nat.reduceEqDiff, ↓reduceIte, Then, Out'])
    | ((with_reducible (first | apply vq_p | apply vq_r | apply vq_a | apply vq_w | apply vq_g | apply vw_condm)); (focus (simp (disch := (first | with_reducible assumption | omega | ((repeat (first | rw [Store.next_push] | rw [Store.next_set])) <;> omega) | fail)) only [go_sem, Nat.reduceEqDiff, Nat.reduceAdd, Nat.reduceMul, Nat.reduceLeDiff, ↓reduceIte, reduceCtorEq, Int.reduceEq, Int.reduceLT, Int.reduceLE, Int.reduceAdd, Int.reduceSub, Int.reduceMul, Int.reduceNeg, Int.reduceToNat, hlen] <;> rfl)); (first | (with_reducible (first | refine way_tt ?_ | refine way_ff ?_ | refine wayc_t ?_ | refine wayc_f ?_ | refine way_tf ?_ | refine way_ft ?_ | refine way_t ?_); try simp only [Env.put]) | with_reducible refine (?_ : WQ _ _ _ _ _ _)))
    | fail
  refine vw_loop_inv (fun n env s1 => ∃ (i e : Nat) (G1 : Gr) (ids1 : List Nat) (x y : D), i ≤ es.length ∧ n = es.length - i ∧ GrStep s g ids s1 G1 ids1 ∧ Gr.Ok G G1 i ∧ e < 2 * G1.nodes.length ∧ (∀ m, G1.ev m e = (es.take i).any (G.ev m)) ∧
    env = [(0, .ptr g 0), (1, d), (4, .int .i64 0), (5, .int .i64 (e : Int)), (7, x), (8, d), (9, .int .i64 (es.length : Int)), (10, .int .i64 (i : Int)), (11, y)]) ?_ es.length _ _
    ⟨0, 0, G, ids, _, _, Nat.zero_le _, by omega, GrStep.refl hG, Gr.Ok.refl hw, by omega, fun m => by simp [hw.ev_zero], rfl⟩
  rintro n env s1 ⟨i, e, G1, ids1, x, y, hi, rfl, h1, h2, h3, h4, rfl⟩
  have hle := h2.ext.le
  have hl1 := h2.len
  by_cases hc : i < es.length
  · have hc' : (i : Int) < (es.length : Int) := by omega
    obtain ⟨p, p1, p2⟩ := (hd.step h1).1.idxI hc
    have hei := he _ (List.getElem_mem hc)
    have hs := i64_succ (i := i) (by omega)
    repeat first
      | with_reducible (first | refine vw_seq ?_ | refine vw_block ?_ | refine vw_rg ?_)
      | ((with_reducible apply vq_free'); (focus rfl))
      | ((with_reducible (first | refine vq_nil ?_ | refine vw_skip ?_ | refine vw_exit ?_ | refine vw_ret ?_)); simp only [Env.keep, Env.get, Env.ev, List.map, Nat.reduceEqDiff, ↓reduceIte, Then, Out'])
      | ((with_reducible (first | apply vq_p | apply vq_r | apply vq_a | apply vq_w | apply vq_g | apply vw_condm)); (focus (simp (disch := (first | with_reducible assumption | omega | ((repeat (first | rw [Store.next_push] | rw [Store.next_set])) <;> omega) | fail)) only [go_sem, Nat.reduceEqDiff, Nat.reduceAdd, Nat.reduceMul, Nat.reduceLeDiff, ↓reduceIte, reduceCtorEq, Int.reduceEq, Int.reduceLT, Int.reduceLE, Int.reduceAdd, Int.reduceSub, Int.reduceMul, Int.reduceNeg, Int.reduceToNat, hc', p1, p2] <;> rfl)); (first | (with_reducible (first | refine way_tt ?_ | refine way_ff ?_ | refine wayc_t ?_ | refine wayc_f ?_ | refine way_tf ?_ | refine way_ft ?_ | refine way_t ?_); try simp only [Env.put]) | with_reducible refine (?_ : WQ _ _ _ _ _ _)))
      | fail
    apply vq_evpf (orS h1.1 h2.wf h3 (b := es[i]) (by omega) (by omega))
    · rfl
    rintro r s2 ⟨e2, G2, ids2, rfl, k1, k2, k3, k4⟩
    repeat first
      | with_reducible (first | refine vw_seq ?_ | refine vw_block ?_ | refine vw_rg ?_)
      | ((with_reducible apply vq_free'); (focus rfl))
      | ((with_reducible (first | refine vq_nil ?_ | refine vw_skip ?_ | refine vw_exit ?_ | refine vw_ret ?_)); simp only [Env.keep, Env.get, Env.ev, List.map, Nat.reduceEqDiff, ↓reduceIte, Then, Out'])
      | ((with_reducible (first | apply vq_p | apply vq_r | apply vq_a | apply vq_w | apply vq_g | apply vw_condm)); (focus (simp (disch := (first | with_reducible assumption | omega | ((repeat (first | rw [Store.next_push] | rw [Store.next_set])) <;> omega) | fail)) only [go_sem, Nat.reduceEqDiff, Nat.reduceAdd, Nat.reduceMul, Nat.reduceLeDiff, ↓reduceIte, reduceCtorEq, Int.reduceEq, Int.reduceLT, Int.reduceLE, Int.reduceAdd, Int.reduceSub, Int.reduceMul, Int.reduceNeg, Int.reduceToNat, hs] <;> rfl)); (first | (with_reducible (first | refine way_tt ?_ | refine way_ff ?_ | refine wayc_t ?_ | refine wayc_f ?_ | refine way_tf ?_ | refine way_ft ?_ | refine way_t ?_); try simp only [Env.put]) | with_reducible refine (?_ : WQ _ _ _ _ _ _)))
      | fail
    refine ⟨es.length - (i + 1), by omega, i + 1, e2, G2, ids2, _, _, by omega, rfl, h1.trans k1, h2.trans k2, k3, fun m => ?_, rfl⟩
    simp only [k4, h4, take_any hc, h2.ext.ev hei]
  · have hc' : ¬ (i : Int) < (es.length : Int) := by omega
    obtain rfl : i = es.length := by omega
    repeat first
      | with_reducible (first | refine vw_seq ?_ | refine vw_block ?_ | refine vw_rg ?_)
      | ((with_reducible apply vq_free'); (focus rfl))
      | ((with_reducible (first | refine vq_nil ?_ | refine vw_skip ?_ | refine vw_exit ?_ | refine vw_ret ?_)); simp only [Env.keep, Env.get, Env.ev, List.map, Nat.reduceEqDiff, ↓reduceIte, Then, Out'])
      | ((with_reducible (first | apply vq_p | apply vq_r | apply vq_a | apply vq_w | apply vq_g | apply vw_condm)); (focus (simp (disch := (first | with_reducible assumption | omega | ((repeat (first | rw [Store.next_push] | rw [Store.next_set])) <;> omega) | fail)) only [go_sem, Nat.reduceEqDiff, Nat.reduceAdd, Nat.reduceMul, Nat.reduceLeDiff, ↓reduceIte, reduceCtorEq, Int.reduceEq, Int.reduceLT, Int.reduceLE, Int.reduceAdd, Int.reduceSub, Int.reduceMul, Int.reduceNeg, Int.reduceToNat, hc'] <;> rfl)); (first | (with_reducible (first | refine way_tt ?_ | refine way_ff ?_ | refine wayc_t ?_ | refine wayc_f ?_ | refine way_tf ?_ | refine way_ft ?_ | refine way_t ?_); try simp only [Env.put]) | with_reducible refine (?_ : WQ _ _ _ _ _ _)))
      | fail
    refine ⟨.inr trivial, _, (by simp only [resOf, resAll, resOne, Env.get, Nat.reduceEqDiff, ↓reduceIte] <;> rfl), e, G1, ids1, rfl, h1, h2, h3, fun m => by rw [h4, List.take_length]⟩
end Go.Proofs.Ytedoacfoglbfeaa
