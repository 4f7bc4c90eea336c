/- Texts one behind the other. -/
import Derived.Test.YtlaeblilmppodaaZ4
import Derived.Test.YtlaeblilmppodaaZ2
set_option linter.unusedSimpArgs false
set_option linter.unusedVariables false
namespace Go.Proofs.Ytlaeblilmppodaa
open Go.V
set_option maxRecDepth 100000
set_option maxHeartbeats 4000000
set_option linter.unusedSimpArgs false
set_option linter.unusedVariables false
theorem kids0 {x : Nd} : ((x.kids.length : Int) == 0) = decide (x.kids = []) := by
  rw [Bool.eq_iff_iff, beq_iff_eq, decide_eq_true_eq, ← List.length_eq_zero_iff]; omega
theorem node_1 {d : D} {t : List Nd} {x : Nd} (hT : TreeAt d t) (hx : x.Ok) (hk : KidsIn t x) (hK : x.kind = 1) : IsoB 66 [d, .agg x.row] fun b => b = true → (x.words.length : Int) = 1 ∧ ((x.nums.length : Int) = 4 ∧ ∀ n ∈ x.nums, 0 ≤ n ∧ n ≤ 999999) ∧ x.num 2 ≤ 1 ∧ x.num 3 ≤ 1 ∧ x.kids = [] := by
  refine isoB_of ?_
  have o1 := FL.one hx.w
  have o2 := FL.one hx.n
  have o3 := FL.one hx.k
  have hlen := FI.len hx.k
  have hz := hx.fz
  have hrow : x.row = [.int .i64 1, x.dw, x.dn, x.dk, .int .i64 x.pos] := by unfold Nd.row; rw [hK]
  have hz0 := kids0 (x := x)
  obtain ⟨b1, h1, p1⟩ := words_ok hx (c := 1)
  obtain ⟨b2, h2, p2⟩ := nums_ok hx (c := 4) (m := 999999)
  rw [hrow] at h1 h2 hz ⊢
  cases b1
  · refine evp_of (vf := vf66) rfl ?_
    simp only [vf66, xq, xg, xm, xmg, xc, xl, xlg, xf, xfg, xw, xa, xk, xi, xig, xo, xr, xrp, xn, List.map, List.getD, List.getElem?_cons_zero, List.getElem?_cons_succ, List.getElem?_nil, Option.getD]
    repeat first
     |(apply vq_isoI h1 rfl rfl (fz2 hz fz_int))
     |(apply vq_isoI h2 rfl rfl (fz3 hz fz_int fz_int))
     |with_reducible first|apply vA|apply vB|apply vC
     |((with_reducible apply vD); (focus rfl))
     |((with_reducible first|apply vE|apply vF|apply vG|apply vH); simp only [Env.keep, Env.get, Env.ev, List.map, Nat.reduceEqDiff, ↓reduceIte, Then, Out'])
     |((with_reducible first|apply vI|apply vJ|apply vK|apply vL|apply vM|apply vN); (focus (simp (disch := (first|with_reducible assumption|omega|((repeat (first|rw [nP]|rw [nS]))<;>omega)|fail)) only [go_sem, ↓reduceIte, o1, o2, o3, hlen] <;> rfl)); (first|(with_reducible (first|apply vO|apply vP|apply vQ|apply vR|apply vS|apply vT|apply vU); try simp only [Env.put])|with_reducible refine (?_ : WQ _ _ _ _ _ _)))
     |fail
    exact ⟨.inr trivial, _, (by simp only [resOf, resAll, resOne, Env.get, Nat.reduceEqDiff, ↓reduceIte] <;> rfl), _, rfl, by simp⟩
  cases b2
  · refine evp_of (vf := vf66) rfl ?_
    simp only [vf66, xq, xg, xm, xmg, xc, xl, xlg, xf, xfg, xw, xa, xk, xi, xig, xo, xr, xrp, xn, List.map, List.getD, List.getElem?_cons_zero, List.getElem?_cons_succ, List.getElem?_nil, Option.getD]
    repeat first
     |(apply vq_isoI h1 rfl rfl (fz2 hz fz_int))
     |(apply vq_isoI h2 rfl rfl (fz3 hz fz_int fz_int))
     |with_reducible first|apply vA|apply vB|apply vC
     |((with_reducible apply vD); (focus rfl))
     |((with_reducible first|apply vE|apply vF|apply vG|apply vH); simp only [Env.keep, Env.get, Env.ev, List.map, Nat.reduceEqDiff, ↓reduceIte, Then, Out'])
     |((with_reducible first|apply vI|apply vJ|apply vK|apply vL|apply vM|apply vN); (focus (simp (disch := (first|with_reducible assumption|omega|((repeat (first|rw [nP]|rw [nS]))<;>omega)|fail)) only [go_sem, ↓reduceIte, o1, o2, o3, hlen] <;> rfl)); (first|(with_reducible (first|apply vO|apply vP|apply vQ|apply vR|apply vS|apply vT|apply vU); try simp only [Env.put])|with_reducible refine (?_ : WQ _ _ _ _ _ _)))
     |fail
    exact ⟨.inr trivial, _, (by simp only [resOf, resAll, resOne, Env.get, Nat.reduceEqDiff, ↓reduceIte] <;> rfl), _, rfl, by simp⟩
  have q2 := p2 rfl
  have l4 : x.nums.length = 4 := by omega
  have i2 : idxAV 1 x.dn (.int .i64 2) = some (.fp [.int .i64 (x.num 2)] 0) := by rw [num_get (by omega)]; exact FI.idx hx.n (i := 2) (by omega)
  have i3 : idxAV 1 x.dn (.int .i64 3) = some (.fp [.int .i64 (x.num 3)] 0) := by rw [num_get (by omega)]; exact FI.idx hx.n (i := 3) (by omega)
  by_cases c2 : x.num 2 ≤ 1
  · by_cases c3 : x.num 3 ≤ 1
    · refine evp_of (vf := vf66) rfl ?_
      simp only [vf66, xq, xg, xm, xmg, xc, xl, xlg, xf, xfg, xw, xa, xk, xi, xig, xo, xr, xrp, xn, List.map, List.getD, List.getElem?_cons_zero, List.getElem?_cons_succ, List.getElem?_nil, Option.getD]
      repeat first
       |(apply vq_isoI h1 rfl rfl (fz2 hz fz_int))
       |(apply vq_isoI h2 rfl rfl (fz3 hz fz_int fz_int))
       |with_reducible first|apply vA|apply vB|apply vC
       |((with_reducible apply vD); (focus rfl))
       |((with_reducible first|apply vE|apply vF|apply vG|apply vH); simp only [Env.keep, Env.get, Env.ev, List.map, Nat.reduceEqDiff, ↓reduceIte, Then, Out'])
       |((with_reducible first|apply vI|apply vJ|apply vK|apply vL|apply vM|apply vN); (focus (simp (disch := (first|with_reducible assumption|omega|((repeat (first|rw [nP]|rw [nS]))<;>omega)|fail)) only [go_sem, ↓reduceIte, o1, o2, o3, hlen, i2, i3, c2, c3, hz0] <;> rfl)); (first|(with_reducible (first|apply vO|apply vP|apply vQ|apply vR|apply vS|apply vT|apply vU); try simp only [Env.put])|with_reducible refine (?_ : WQ _ _ _ _ _ _)))
       |fail
      exact ⟨.inr trivial, _, (by simp only [resOf, resAll, resOne, Env.get, Nat.reduceEqDiff, ↓reduceIte] <;> rfl), _, rfl, fun h => ⟨p1 rfl, q2, c2, c3, by simpa using h⟩⟩
    · refine evp_of (vf := vf66) rfl ?_
      simp only [vf66, xq, xg, xm, xmg, xc, xl, xlg, xf, xfg, xw, xa, xk, xi, xig, xo, xr, xrp, xn, List.map, List.getD, List.getElem?_cons_zero, List.getElem?_cons_succ, List.getElem?_nil, Option.getD]
      repeat first
       |(apply vq_isoI h1 rfl rfl (fz2 hz fz_int))
       |(apply vq_isoI h2 rfl rfl (fz3 hz fz_int fz_int))
       |with_reducible first|apply vA|apply vB|apply vC
       |((with_reducible apply vD); (focus rfl))
       |((with_reducible first|apply vE|apply vF|apply vG|apply vH); simp only [Env.keep, Env.get, Env.ev, List.map, Nat.reduceEqDiff, ↓reduceIte, Then, Out'])
       |((with_reducible first|apply vI|apply vJ|apply vK|apply vL|apply vM|apply vN); (focus (simp (disch := (first|with_reducible assumption|omega|((repeat (first|rw [nP]|rw [nS]))<;>omega)|fail)) only [go_sem, ↓reduceIte, o1, o2, o3, hlen, i2, i3, c2, c3, hz0] <;> rfl)); (first|(with_reducible (first|apply vO|apply vP|apply vQ|apply vR|apply vS|apply vT|apply vU); try simp only [Env.put])|with_reducible refine (?_ : WQ _ _ _ _ _ _)))
       |fail
      exact ⟨.inr trivial, _, (by simp only [resOf, resAll, resOne, Env.get, Nat.reduceEqDiff, ↓reduceIte] <;> rfl), _, rfl, by simp⟩
  · refine evp_of (vf := vf66) rfl ?_
    simp only [vf66, xq, xg, xm, xmg, xc, xl, xlg, xf, xfg, xw, xa, xk, xi, xig, xo, xr, xrp, xn, List.map, List.getD, List.getElem?_cons_zero, List.getElem?_cons_succ, List.getElem?_nil, Option.getD]
    repeat first
     |(apply vq_isoI h1 rfl rfl (fz2 hz fz_int))
     |(apply vq_isoI h2 rfl rfl (fz3 hz fz_int fz_int))
     |with_reducible first|apply vA|apply vB|apply vC
     |((with_reducible apply vD); (focus rfl))
     |((with_reducible first|apply vE|apply vF|apply vG|apply vH); simp only [Env.keep, Env.get, Env.ev, List.map, Nat.reduceEqDiff, ↓reduceIte, Then, Out'])
     |((with_reducible first|apply vI|apply vJ|apply vK|apply vL|apply vM|apply vN); (focus (simp (disch := (first|with_reducible assumption|omega|((repeat (first|rw [nP]|rw [nS]))<;>omega)|fail)) only [go_sem, ↓reduceIte, o1, o2, o3, hlen, i2, i3, c2, hz0] <;> rfl)); (first|(with_reducible (first|apply vO|apply vP|apply vQ|apply vR|apply vS|apply vT|apply vU); try simp only [Env.put])|with_reducible refine (?_ : WQ _ _ _ _ _ _)))
     |fail
    exact ⟨.inr trivial, _, (by simp only [resOf, resAll, resOne, Env.get, Nat.reduceEqDiff, ↓reduceIte] <;> rfl), _, rfl, by simp⟩
theorem node_2 {d : D} {t : List Nd} {x : Nd} (hT : TreeAt d t) (hx : x.Ok) (hk : KidsIn t x) (hK : x.kind = 2) : IsoB 66 [d, .agg x.row] fun b => b = true → (x.words.length : Int) = 1 ∧ x.nums.length = 2 ∧ -999999 ≤ x.num 1 ∧ x.num 1 ≤ 999999 ∧ x.kids = [] := by
  refine isoB_of ?_
  have o1 := FL.one hx.w
  have o2 := FL.one hx.n
  have o3 := FL.one hx.k
  have hlen := FI.len hx.k
  have hlen2 := FI.len hx.n
  have hz := hx.fz
  have hrow : x.row = [.int .i64 2, x.dw, x.dn, x.dk, .int .i64 x.pos] := by unfold Nd.row; rw [hK]
  have hz0 := kids0 (x := x)
  obtain ⟨b1, h1, p1⟩ := words_ok hx (c := 1)
  rw [hrow] at h1 hz ⊢
  cases b1
  · refine evp_of (vf := vf66) rfl ?_
    simp only [vf66, xq, xg, xm, xmg, xc, xl, xlg, xf, xfg, xw, xa, xk, xi, xig, xo, xr, xrp, xn, List.map, List.getD, List.getElem?_cons_zero, List.getElem?_cons_succ, List.getElem?_nil, Option.getD]
    repeat first
     |(apply vq_isoI h1 rfl rfl (fz2 hz fz_int))
     |with_reducible first|apply vA|apply vB|apply vC
     |((with_reducible apply vD); (focus rfl))
     |((with_reducible first|apply vE|apply vF|apply vG|apply vH); simp only [Env.keep, Env.get, Env.ev, List.map, Nat.reduceEqDiff, ↓reduceIte, Then, Out'])
     |((with_reducible first|apply vI|apply vJ|apply vK|apply vL|apply vM|apply vN); (focus (simp (disch := (first|with_reducible assumption|omega|((repeat (first|rw [nP]|rw [nS]))<;>omega)|fail)) only [go_sem, ↓reduceIte, o1, o2, o3, hlen] <;> rfl)); (first|(with_reducible (first|apply vO|apply vP|apply vQ|apply vR|apply vS|apply vT|apply vU); try simp only [Env.put])|with_reducible refine (?_ : WQ _ _ _ _ _ _)))
     |fail
    exact ⟨.inr trivial, _, (by simp only [resOf, resAll, resOne, Env.get, Nat.reduceEqDiff, ↓reduceIte] <;> rfl), _, rfl, by simp⟩
  by_cases l2 : x.nums.length = 2
  · have l2' : ((x.nums.length : Int) == 2) = true := by rw [l2]; rfl
    have i0 : idxAV 1 x.dn (.int .i64 0) = some (.fp [.int .i64 (x.num 0)] 0) := by rw [num_get (by omega)]; exact FI.idx hx.n (i := 0) (by omega)
    have i1 : idxAV 1 x.dn (.int .i64 1) = some (.fp [.int .i64 (x.num 1)] 0) := by rw [num_get (by omega)]; exact FI.idx hx.n (i := 1) (by omega)
    have g0 := in_ok (k := x.num 0) (a := 0) (b := 999999)
    have g1 := in_ok (k := x.num 1) (a := -999999) (b := 999999)
    cases r0 : inR (x.num 0) 0 999999
    · rw [r0] at g0
      refine evp_of (vf := vf66) rfl ?_
      simp only [vf66, xq, xg, xm, xmg, xc, xl, xlg, xf, xfg, xw, xa, xk, xi, xig, xo, xr, xrp, xn, List.map, List.getD, List.getElem?_cons_zero, List.getElem?_cons_succ, List.getElem?_nil, Option.getD]
      repeat first
       |(apply vq_isoI h1 rfl rfl (fz2 hz fz_int))
       |(apply vq_isoI g0 rfl rfl rfl)
       |(apply vq_isoI g1 rfl rfl rfl)
       |with_reducible first|apply vA|apply vB|apply vC
       |((with_reducible apply vD); (focus rfl))
       |((with_reducible first|apply vE|apply vF|apply vG|apply vH); simp only [Env.keep, Env.get, Env.ev, List.map, Nat.reduceEqDiff, ↓reduceIte, Then, Out'])
       |((with_reducible first|apply vI|apply vJ|apply vK|apply vL|apply vM|apply vN); (focus (simp (disch := (first|with_reducible assumption|omega|((repeat (first|rw [nP]|rw [nS]))<;>omega)|fail)) only [go_sem, ↓reduceIte, o1, o2, o3, hlen, hlen2, l2', i0, i1, hz0] <;> rfl)); (first|(with_reducible (first|apply vO|apply vP|apply vQ|apply vR|apply vS|apply vT|apply vU); try simp only [Env.put])|with_reducible refine (?_ : WQ _ _ _ _ _ _)))
       |fail
      exact ⟨.inr trivial, _, (by simp only [resOf, resAll, resOne, Env.get, Nat.reduceEqDiff, ↓reduceIte] <;> rfl), _, rfl, by simp⟩
    · rw [r0] at g0
      cases r1 : inR (x.num 1) (-999999) 999999
      · rw [r1] at g1
        refine evp_of (vf := vf66) rfl ?_
        simp only [vf66, xq, xg, xm, xmg, xc, xl, xlg, xf, xfg, xw, xa, xk, xi, xig, xo, xr, xrp, xn, List.map, List.getD, List.getElem?_cons_zero, List.getElem?_cons_succ, List.getElem?_nil, Option.getD]
        repeat first
         |(apply vq_isoI h1 rfl rfl (fz2 hz fz_int))
         |(apply vq_isoI g0 rfl rfl rfl)
         |(apply vq_isoI g1 rfl rfl rfl)
         |with_reducible first|apply vA|apply vB|apply vC
         |((with_reducible apply vD); (focus rfl))
         |((with_reducible first|apply vE|apply vF|apply vG|apply vH); simp only [Env.keep, Env.get, Env.ev, List.map, Nat.reduceEqDiff, ↓reduceIte, Then, Out'])
         |((with_reducible first|apply vI|apply vJ|apply vK|apply vL|apply vM|apply vN); (focus (simp (disch := (first|with_reducible assumption|omega|((repeat (first|rw [nP]|rw [nS]))<;>omega)|fail)) only [go_sem, ↓reduceIte, o1, o2, o3, hlen, hlen2, l2', i0, i1, hz0] <;> rfl)); (first|(with_reducible (first|apply vO|apply vP|apply vQ|apply vR|apply vS|apply vT|apply vU); try simp only [Env.put])|with_reducible refine (?_ : WQ _ _ _ _ _ _)))
         |fail
        exact ⟨.inr trivial, _, (by simp only [resOf, resAll, resOne, Env.get, Nat.reduceEqDiff, ↓reduceIte] <;> rfl), _, rfl, by simp⟩
      · rw [r1] at g1
        have r1 := inR_iff.1 r1
        refine evp_of (vf := vf66) rfl ?_
        simp only [vf66, xq, xg, xm, xmg, xc, xl, xlg, xf, xfg, xw, xa, xk, xi, xig, xo, xr, xrp, xn, List.map, List.getD, List.getElem?_cons_zero, List.getElem?_cons_succ, List.getElem?_nil, Option.getD]
        repeat first
         |(apply vq_isoI h1 rfl rfl (fz2 hz fz_int))
         |(apply vq_isoI g0 rfl rfl rfl)
         |(apply vq_isoI g1 rfl rfl rfl)
         |with_reducible first|apply vA|apply vB|apply vC
         |((with_reducible apply vD); (focus rfl))
         |((with_reducible first|apply vE|apply vF|apply vG|apply vH); simp only [Env.keep, Env.get, Env.ev, List.map, Nat.reduceEqDiff, ↓reduceIte, Then, Out'])
         |((with_reducible first|apply vI|apply vJ|apply vK|apply vL|apply vM|apply vN); (focus (simp (disch := (first|with_reducible assumption|omega|((repeat (first|rw [nP]|rw [nS]))<;>omega)|fail)) only [go_sem, ↓reduceIte, o1, o2, o3, hlen, hlen2, l2', i0, i1, hz0] <;> rfl)); (first|(with_reducible (first|apply vO|apply vP|apply vQ|apply vR|apply vS|apply vT|apply vU); try simp only [Env.put])|with_reducible refine (?_ : WQ _ _ _ _ _ _)))
         |fail
        exact ⟨.inr trivial, _, (by simp only [resOf, resAll, resOne, Env.get, Nat.reduceEqDiff, ↓reduceIte] <;> rfl), _, rfl, fun h => ⟨p1 rfl, l2, r1.1, r1.2, by simpa using h⟩⟩
  · have l2' : ((x.nums.length : Int) == 2) = false := by rw [beq_eq_false_iff_ne]; omega
    refine evp_of (vf := vf66) rfl ?_
    simp only [vf66, xq, xg, xm, xmg, xc, xl, xlg, xf, xfg, xw, xa, xk, xi, xig, xo, xr, xrp, xn, List.map, List.getD, List.getElem?_cons_zero, List.getElem?_cons_succ, List.getElem?_nil, Option.getD]
    repeat first
     |(apply vq_isoI h1 rfl rfl (fz2 hz fz_int))
     |with_reducible first|apply vA|apply vB|apply vC
     |((with_reducible apply vD); (focus rfl))
     |((with_reducible first|apply vE|apply vF|apply vG|apply vH); simp only [Env.keep, Env.get, Env.ev, List.map, Nat.reduceEqDiff, ↓reduceIte, Then, Out'])
     |((with_reducible first|apply vI|apply vJ|apply vK|apply vL|apply vM|apply vN); (focus (simp (disch := (first|with_reducible assumption|omega|((repeat (first|rw [nP]|rw [nS]))<;>omega)|fail)) only [go_sem, ↓reduceIte, o1, o2, o3, hlen, hlen2, l2', hz0] <;> rfl)); (first|(with_reducible (first|apply vO|apply vP|apply vQ|apply vR|apply vS|apply vT|apply vU); try simp only [Env.put])|with_reducible refine (?_ : WQ _ _ _ _ _ _)))
     |fail
    exact ⟨.inr trivial, _, (by simp only [resOf, resAll, resOne, Env.get, Nat.reduceEqDiff, ↓reduceIte] <;> rfl), _, rfl, by simp⟩
theorem node_3 {d : D} {t : List Nd} {x : Nd} (hT : TreeAt d t) (hx : x.Ok) (hk : KidsIn t x) (hK : x.kind = 3) : IsoB 66 [d, .agg x.row] fun b => b = true → (x.words.length : Int) = 1 ∧ ((x.nums.length : Int) = 1 ∧ ∀ n ∈ x.nums, 0 ≤ n ∧ n ≤ 999999) ∧ ∃ v, v ≤ x.kids.length ∧ (∀ i, i < v → (nd t (x.kid i)).kind = 2) ∧ ∀ i, v ≤ i → i < x.kids.length → 6 ≤ (nd t (x.kid i)).kind ∧ (nd t (x.kid i)).kind ≤ 15 := by
  refine isoB_of ?_
  have o1 := FL.one hx.w
  have o2 := FL.one hx.n
  have o3 := FL.one hx.k
  have hlen := FI.len hx.k
  have hz := hx.fz
  have hrow : x.row = [.int .i64 3, x.dw, x.dn, x.dk, .int .i64 x.pos] := by unfold Nd.row; rw [hK]
  obtain ⟨b1, h1, p1⟩ := words_ok hx (c := 1)
  obtain ⟨b2, h2, p2⟩ := nums_ok hx (c := 1) (m := 999999)
  rw [hrow] at h1 h2 hz ⊢
  refine evp_of (vf := vf66) rfl ?_
  simp only [vf66, xq, xg, xm, xmg, xc, xl, xlg, xf, xfg, xw, xa, xk, xi, xig, xo, xr, xrp, xn, List.map, List.getD, List.getElem?_cons_zero, List.getElem?_cons_succ, List.getElem?_nil, Option.getD]
  repeat first
   |with_reducible first|apply vA|apply vB|apply vC
   |((with_reducible apply vD); (focus rfl))
   |((with_reducible first|apply vE|apply vF|apply vG|apply vH); simp only [Env.keep, Env.get, Env.ev, List.map, Nat.reduceEqDiff, ↓reduceIte, Then, Out'])
   |((with_reducible first|apply vI|apply vJ|apply vK|apply vL|apply vM|apply vN); (focus (simp (disch := (first|with_reducible assumption|omega|((repeat (first|rw [nP]|rw [nS]))<;>omega)|fail)) only [go_sem, ↓reduceIte, o1, o2, o3, hlen] <;> rfl)); (first|(with_reducible (first|apply vO|apply vP|apply vQ|apply vR|apply vS|apply vT|apply vU); try simp only [Env.put])|with_reducible refine (?_ : WQ _ _ _ _ _ _)))
   |fail
  refine vw_loop_inv (Q := Out' 1 _) (fun n env s => ∃ i : Nat, i ≤ x.kids.length ∧ n = x.kids.length - i ∧ (∀ j, j < i → (nd t (x.kid j)).kind = 2) ∧ s.get 0 = some (.cells [.int .i64 3, x.dw, x.dn, x.dk, .int .i64 x.pos]) ∧ (env.get 0 = d ∧ env.get 3 = .ptr 0 0 ∧ env.get 5 = .int .i64 (x.kids.length : Int) ∧ env.get 6 = .int .i64 (i : Int))) ?_ x.kids.length _ _ ⟨0, by omega, rfl, fun j h => by omega, get_push_new rfl, by simp [Env.get, Made.at]; rfl⟩
  rintro n env s ⟨i, hi, rfl, hall, hg, hE⟩
  have fin : ∀ (env : Env) (s : Store), s.get 0 = some (.cells [.int .i64 3, x.dw, x.dn, x.dk, .int .i64 x.pos]) → (env.get 0 = d ∧ env.get 3 = .ptr 0 0 ∧ env.get 6 = .int .i64 (i : Int)) → True := fun _ _ _ _ => trivial
  obtain ⟨b3, h3, p3⟩ := all_ok hT hx hk (f := i) (a := 6) (b := 15)
  rw [hrow] at h3
  by_cases c3 : i < x.kids.length
  · have c3' : ((i : Int) < (x.kids.length : Int)) = True := eq_true (by omega)
    have hs := succ63 c3 hx.kl
    have hki := hk _ (List.getElem_mem c3)
    have h4 := kid_ok hT hx c3 hki.1 hki.2
    rw [hrow] at h4
    by_cases c4 : (nd t (x.kid i)).kind = 2
    · have c4' : ((nd t (x.kid i)).kind == 2) = true := by rw [c4]; rfl
      repeat first
       |(apply vq_isoI h4 rfl; (focus (simp only [Env.evL, Env.ev, Env.get, Nat.reduceEqDiff, ↓reduceIte, hE])); (focus exact fz3 hT.fz hz fz_int))
       |with_reducible first|apply vA|apply vB|apply vC
       |((with_reducible apply vD); (focus rfl))
       |((with_reducible first|apply vE|apply vF|apply vG|apply vH); simp only [Env.keep, Env.get, Env.ev, List.map, Nat.reduceEqDiff, ↓reduceIte, Then, Out'])
       |((with_reducible first|apply vI|apply vJ|apply vK|apply vL|apply vM|apply vN); (focus (simp (disch := (first|with_reducible assumption|omega|((repeat (first|rw [nP]|rw [nS]))<;>omega)|fail)) only [go_sem, ↓reduceIte, hE, hg, o1, o2, o3, hlen, c3', c4', hs] <;> rfl)); (first|(with_reducible (first|apply vO|apply vP|apply vQ|apply vR|apply vS|apply vT|apply vU); try simp only [Env.put])|with_reducible refine (?_ : WQ _ _ _ _ _ _)))
       |fail
      refine ⟨x.kids.length - (i + 1), by omega, i + 1, by omega, rfl, fun j h => ?_, hg, (by simp only [Env.get, Nat.reduceEqDiff, ↓reduceIte, hE, and_self])⟩
      by_cases e : j = i
      · subst e; exact c4
      · exact hall j (by omega)
    · have c4' : ((nd t (x.kid i)).kind == 2) = false := by rw [beq_eq_false_iff_ne]; exact c4
      cases b1
      · repeat first
         |(apply vq_isoI h4 rfl; (focus (simp only [Env.evL, Env.ev, Env.get, Nat.reduceEqDiff, ↓reduceIte, hE])); (focus exact fz3 hT.fz hz fz_int))
         |(apply vq_isoI h1 rfl rfl (fz2 hz fz_int))
         |with_reducible first|apply vA|apply vB|apply vC
         |((with_reducible apply vD); (focus rfl))
         |((with_reducible first|apply vE|apply vF|apply vG|apply vH); simp only [Env.keep, Env.get, Env.ev, List.map, Nat.reduceEqDiff, ↓reduceIte, Then, Out'])
         |((with_reducible first|apply vI|apply vJ|apply vK|apply vL|apply vM|apply vN); (focus (simp (disch := (first|with_reducible assumption|omega|((repeat (first|rw [nP]|rw [nS]))<;>omega)|fail)) only [go_sem, ↓reduceIte, hE, hg, o1, o2, o3, hlen, c3', c4'] <;> rfl)); (first|(with_reducible (first|apply vO|apply vP|apply vQ|apply vR|apply vS|apply vT|apply vU); try simp only [Env.put])|with_reducible refine (?_ : WQ _ _ _ _ _ _)))
         |fail
        exact ⟨.inr trivial, _, (by simp only [resOf, resAll, resOne, Env.get, Nat.reduceEqDiff, ↓reduceIte] <;> rfl), _, rfl, by simp⟩
      cases b2
      · repeat first
         |(apply vq_isoI h4 rfl; (focus (simp only [Env.evL, Env.ev, Env.get, Nat.reduceEqDiff, ↓reduceIte, hE])); (focus exact fz3 hT.fz hz fz_int))
         |(apply vq_isoI h1 rfl rfl (fz2 hz fz_int))
         |(apply vq_isoI h2 rfl rfl (fz3 hz fz_int fz_int))
         |with_reducible first|apply vA|apply vB|apply vC
         |((with_reducible apply vD); (focus rfl))
         |((with_reducible first|apply vE|apply vF|apply vG|apply vH); simp only [Env.keep, Env.get, Env.ev, List.map, Nat.reduceEqDiff, ↓reduceIte, Then, Out'])
         |((with_reducible first|apply vI|apply vJ|apply vK|apply vL|apply vM|apply vN); (focus (simp (disch := (first|with_reducible assumption|omega|((repeat (first|rw [nP]|rw [nS]))<;>omega)|fail)) only [go_sem, ↓reduceIte, hE, hg, o1, o2, o3, hlen, c3', c4'] <;> rfl)); (first|(with_reducible (first|apply vO|apply vP|apply vQ|apply vR|apply vS|apply vT|apply vU); try simp only [Env.put])|with_reducible refine (?_ : WQ _ _ _ _ _ _)))
         |fail
        exact ⟨.inr trivial, _, (by simp only [resOf, resAll, resOne, Env.get, Nat.reduceEqDiff, ↓reduceIte] <;> rfl), _, rfl, by simp⟩
      repeat first
       |(apply vq_isoI h4 rfl; (focus (simp only [Env.evL, Env.ev, Env.get, Nat.reduceEqDiff, ↓reduceIte, hE])); (focus exact fz3 hT.fz hz fz_int))
       |(apply vq_isoI h1 rfl rfl (fz2 hz fz_int))
       |(apply vq_isoI h2 rfl rfl (fz3 hz fz_int fz_int))
       |(apply vq_isoI h3 rfl; (focus (simp only [Env.evL, Env.ev, Env.get, Nat.reduceEqDiff, ↓reduceIte, hE])); (focus exact fz5 hT.fz hz fz_int fz_int fz_int))
       |with_reducible first|apply vA|apply vB|apply vC
       |((with_reducible apply vD); (focus rfl))
       |((with_reducible first|apply vE|apply vF|apply vG|apply vH); simp only [Env.keep, Env.get, Env.ev, List.map, Nat.reduceEqDiff, ↓reduceIte, Then, Out'])
       |((with_reducible first|apply vI|apply vJ|apply vK|apply vL|apply vM|apply vN); (focus (simp (disch := (first|with_reducible assumption|omega|((repeat (first|rw [nP]|rw [nS]))<;>omega)|fail)) only [go_sem, ↓reduceIte, hE, hg, o1, o2, o3, hlen, c3', c4'] <;> rfl)); (first|(with_reducible (first|apply vO|apply vP|apply vQ|apply vR|apply vS|apply vT|apply vU); try simp only [Env.put])|with_reducible refine (?_ : WQ _ _ _ _ _ _)))
       |fail
      exact ⟨.inr trivial, _, (by simp only [resOf, resAll, resOne, Env.get, Nat.reduceEqDiff, ↓reduceIte] <;> rfl), _, rfl, fun h => ⟨p1 rfl, p2 rfl, i, hi, hall, p3 h⟩⟩
  · have c3' : ((i : Int) < (x.kids.length : Int)) = False := eq_false (by omega)
    cases b1
    · repeat first
       |(apply vq_isoI h1 rfl rfl (fz2 hz fz_int))
       |with_reducible first|apply vA|apply vB|apply vC
       |((with_reducible apply vD); (focus rfl))
       |((with_reducible first|apply vE|apply vF|apply vG|apply vH); simp only [Env.keep, Env.get, Env.ev, List.map, Nat.reduceEqDiff, ↓reduceIte, Then, Out'])
       |((with_reducible first|apply vI|apply vJ|apply vK|apply vL|apply vM|apply vN); (focus (simp (disch := (first|with_reducible assumption|omega|((repeat (first|rw [nP]|rw [nS]))<;>omega)|fail)) only [go_sem, ↓reduceIte, hE, hg, o1, o2, o3, hlen, c3'] <;> rfl)); (first|(with_reducible (first|apply vO|apply vP|apply vQ|apply vR|apply vS|apply vT|apply vU); try simp only [Env.put])|with_reducible refine (?_ : WQ _ _ _ _ _ _)))
       |fail
      exact ⟨.inr trivial, _, (by simp only [resOf, resAll, resOne, Env.get, Nat.reduceEqDiff, ↓reduceIte] <;> rfl), _, rfl, by simp⟩
    cases b2
    · repeat first
       |(apply vq_isoI h1 rfl rfl (fz2 hz fz_int))
       |(apply vq_isoI h2 rfl rfl (fz3 hz fz_int fz_int))
       |with_reducible first|apply vA|apply vB|apply vC
       |((with_reducible apply vD); (focus rfl))
       |((with_reducible first|apply vE|apply vF|apply vG|apply vH); simp only [Env.keep, Env.get, Env.ev, List.map, Nat.reduceEqDiff, ↓reduceIte, Then, Out'])
       |((with_reducible first|apply vI|apply vJ|apply vK|apply vL|apply vM|apply vN); (focus (simp (disch := (first|with_reducible assumption|omega|((repeat (first|rw [nP]|rw [nS]))<;>omega)|fail)) only [go_sem, ↓reduceIte, hE, hg, o1, o2, o3, hlen, c3'] <;> rfl)); (first|(with_reducible (first|apply vO|apply vP|apply vQ|apply vR|apply vS|apply vT|apply vU); try simp only [Env.put])|with_reducible refine (?_ : WQ _ _ _ _ _ _)))
       |fail
      exact ⟨.inr trivial, _, (by simp only [resOf, resAll, resOne, Env.get, Nat.reduceEqDiff, ↓reduceIte] <;> rfl), _, rfl, by simp⟩
    repeat first
     |(apply vq_isoI h1 rfl rfl (fz2 hz fz_int))
     |(apply vq_isoI h2 rfl rfl (fz3 hz fz_int fz_int))
     |(apply vq_isoI h3 rfl; (focus (simp only [Env.evL, Env.ev, Env.get, Nat.reduceEqDiff, ↓reduceIte, hE])); (focus exact fz5 hT.fz hz fz_int fz_int fz_int))
     |with_reducible first|apply vA|apply vB|apply vC
     |((with_reducible apply vD); (focus rfl))
     |((with_reducible first|apply vE|apply vF|apply vG|apply vH); simp only [Env.keep, Env.get, Env.ev, List.map, Nat.reduceEqDiff, ↓reduceIte, Then, Out'])
     |((with_reducible first|apply vI|apply vJ|apply vK|apply vL|apply vM|apply vN); (focus (simp (disch := (first|with_reducible assumption|omega|((repeat (first|rw [nP]|rw [nS]))<;>omega)|fail)) only [go_sem, ↓reduceIte, hE, hg, o1, o2, o3, hlen, c3'] <;> rfl)); (first|(with_reducible (first|apply vO|apply vP|apply vQ|apply vR|apply vS|apply vT|apply vU); try simp only [Env.put])|with_reducible refine (?_ : WQ _ _ _ _ _ _)))
     |fail
    exact ⟨.inr trivial, _, (by simp only [resOf, resAll, resOne, Env.get, Nat.reduceEqDiff, ↓reduceIte] <;> rfl), _, rfl, fun h => ⟨p1 rfl, p2 rfl, i, hi, hall, p3 h⟩⟩
theorem node_x {d : D} {t : List Nd} {x : Nd} (hT : TreeAt d t) (hx : x.Ok) (hK : x.kind < 0 ∨ 22 < x.kind) : IsoB 66 [d, .agg x.row] fun b => b = false := by
  refine isoB_of ?_
  have o1 := FL.one hx.w
  have o2 := FL.one hx.n
  have o3 := FL.one hx.k
  have hlen := FI.len hx.k
  have ne : ∀ c : Int, 0 ≤ c → c ≤ 22 → (x.kind == c) = false := fun c h1 h2 => by rw [beq_eq_false_iff_ne]; omega
  have n0 := ne 0 (by omega) (by omega)
  have n1 := ne 1 (by omega) (by omega)
  have n2 := ne 2 (by omega) (by omega)
  have n3 := ne 3 (by omega) (by omega)
  have n4 := ne 4 (by omega) (by omega)
  have n5 := ne 5 (by omega) (by omega)
  have n6 := ne 6 (by omega) (by omega)
  have n7 := ne 7 (by omega) (by omega)
  have n8 := ne 8 (by omega) (by omega)
  have n9 := ne 9 (by omega) (by omega)
  have n10 := ne 10 (by omega) (by omega)
  have n11 := ne 11 (by omega) (by omega)
  have n12 := ne 12 (by omega) (by omega)
  have n13 := ne 13 (by omega) (by omega)
  have n14 := ne 14 (by omega) (by omega)
  have n15 := ne 15 (by omega) (by omega)
  have n16 := ne 16 (by omega) (by omega)
  have n17 := ne 17 (by omega) (by omega)
  have n18 := ne 18 (by omega) (by omega)
  have n19 := ne 19 (by omega) (by omega)
  have n20 := ne 20 (by omega) (by omega)
  have n21 := ne 21 (by omega) (by omega)
  have n22 := ne 22 (by omega) (by omega)
  unfold Nd.row
  refine evp_of (vf := vf66) rfl ?_
  simp only [vf66, xq, xg, xm, xmg, xc, xl, xlg, xf, xfg, xw, xa, xk, xi, xig, xo, xr, xrp, xn, List.map, List.getD, List.getElem?_cons_zero, List.getElem?_cons_succ, List.getElem?_nil, Option.getD]
  repeat first
   |with_reducible first|apply vA|apply vB|apply vC
   |((with_reducible apply vD); (focus rfl))
   |((with_reducible first|apply vE|apply vF|apply vG|apply vH); simp only [Env.keep, Env.get, Env.ev, List.map, Nat.reduceEqDiff, ↓reduceIte, Then, Out'])
   |((with_reducible first|apply vI|apply vJ|apply vK|apply vL|apply vM|apply vN); (focus (simp (disch := (first|with_reducible assumption|omega|((repeat (first|rw [nP]|rw [nS]))<;>omega)|fail)) only [go_sem, ↓reduceIte, o1, o2, o3, hlen, n0, n1, n2, n3, n4, n5, n6, n7, n8, n9, n10, n11, n12, n13, n14, n15, n16, n17, n18, n19, n20, n21, n22] <;> rfl)); (first|(with_reducible (first|apply vO|apply vP|apply vQ|apply vR|apply vS|apply vT|apply vU); try simp only [Env.put])|with_reducible refine (?_ : WQ _ _ _ _ _ _)))
   |fail
  exact ⟨.inr trivial, _, (by simp only [resOf, resAll, resOne, Env.get, Nat.reduceEqDiff, ↓reduceIte] <;> rfl), _, rfl, rfl⟩
end Go.Proofs.Ytlaeblilmppodaa
namespace Go.Proofs.Ytlaeblilmppodaa
open Go.V
set_option maxRecDepth 100000
set_option maxHeartbeats 4000000
set_option linter.unusedSimpArgs false
set_option linter.unusedVariables false
theorem num_in {x : Nd} {i : Nat} {m : Int} (h : i < x.nums.length) (ha : ∀ n ∈ x.nums, 0 ≤ n ∧ n ≤ m) : 0 ≤ x.num i ∧ x.num i ≤ m := by
  rw [num_get h]; exact ha _ (List.getElem_mem h)
theorem ks_all {t : List Nd} {x : Nd} {a b : Int} (h : ∀ i, 0 ≤ i → i < x.kids.length → a ≤ (nd t (x.kid i)).kind ∧ (nd t (x.kid i)).kind ≤ b) : ∀ k ∈ x.ks, a ≤ (nd t k).kind ∧ (nd t k).kind ≤ b := by
  intro k hk
  obtain ⟨i, hi, rfl⟩ := List.getElem_of_mem hk
  rw [ks_len] at hi
  have := h i (Nat.zero_le _) hi
  rw [kid_get hi] at this
  simpa [Nd.ks] using this
theorem ks_16 {t : List Nd} {x : Nd} (h : ∀ i, i < x.kids.length → (nd t (x.kid i)).kind = 16) : ∀ k ∈ x.ks, (nd t k).kind = 16 := by
  intro k hk
  obtain ⟨i, hi, rfl⟩ := List.getElem_of_mem hk
  rw [ks_len] at hi
  have := h i hi
  rw [kid_get hi] at this
  simpa [Nd.ks] using this
theorem ks_take {t : List Nd} {x : Nd} {v : Nat} (h : ∀ i, i < v → (nd t (x.kid i)).kind = 2) : ∀ k ∈ x.ks.take v, (nd t k).kind = 2 := by
  intro k hk
  obtain ⟨i, hi, rfl⟩ := List.getElem_of_mem hk
  have h1 : i < v ∧ i < x.kids.length := by
    rw [List.length_take, ks_len] at hi
    omega
  have := h i h1.1
  rw [kid_get h1.2] at this
  simpa [Nd.ks] using this
theorem ks_drop {t : List Nd} {x : Nd} {v : Nat} (h : ∀ i, v ≤ i → i < x.kids.length → 6 ≤ (nd t (x.kid i)).kind ∧ (nd t (x.kid i)).kind ≤ 15) : ∀ k ∈ x.ks.drop v, statK (nd t k).kind := by
  intro k hk
  obtain ⟨i, hi, rfl⟩ := List.getElem_of_mem hk
  rw [List.length_drop, ks_len] at hi
  have := h (v + i) (by omega) (by omega)
  rw [kid_get (by omega)] at this
  simpa [Nd.ks, statK] using this
theorem node_ok {d : D} {t : List Nd} {x : Nd} (hT : TreeAt d t) (hx : x.Ok) (hk : KidsIn t x) : IsoB 66 [d, .agg x.row] fun b => b = true → NodeOk t x := by
  by_cases hr : x.kind < 0 ∨ 22 < x.kind
  · obtain ⟨b, h, rfl⟩ := node_x hT hx hr
    exact ⟨false, h, by simp⟩
  have cs : x.kind = 0 ∨ x.kind = 1 ∨ x.kind = 2 ∨ x.kind = 3 ∨ x.kind = 4 ∨ x.kind = 5 ∨ x.kind = 6 ∨ x.kind = 7 ∨ x.kind = 8 ∨ x.kind = 9 ∨ x.kind = 10 ∨ x.kind = 11 ∨ x.kind = 12 ∨ x.kind = 13 ∨ x.kind = 14 ∨ x.kind = 15 ∨ x.kind = 16 ∨ x.kind = 17 ∨ x.kind = 18 ∨ x.kind = 19 ∨ x.kind = 20 ∨ x.kind = 21 ∨ x.kind = 22 := by omega
  rcases cs with hK | hK | hK | hK | hK | hK | hK | hK | hK | hK | hK | hK | hK | hK | hK | hK | hK | hK | hK | hK | hK | hK | hK
  · obtain ⟨b, h, p⟩ := node_0 hT hx hk hK
    refine ⟨b, h, fun hb => ?_⟩
    obtain ⟨w, n, r⟩ := p hb
    exact ⟨by omega, by rw [hK, show wcount 0 = 0 from rfl]; omega, by rw [hK, show ncount 0 = 0 from rfl]; omega, fun _ => ks_all r, fun e => by omega, fun e => by omega, fun e => by omega, fun e => by omega, fun e => by omega, fun e => by omega, fun e => by omega, fun e => by omega, fun e => by omega, fun e => by omega, fun e => by omega, fun e => by omega, fun e => by omega, fun e => by omega⟩
  · obtain ⟨b, h, p⟩ := node_1 hT hx hk hK
    refine ⟨b, h, fun hb => ?_⟩
    obtain ⟨w, n, r⟩ := p hb
    exact ⟨by omega, by rw [hK, show wcount 1 = 1 from rfl]; omega, by rw [hK, show ncount 1 = 4 from rfl]; omega, fun e => by omega, fun _ => ⟨(num_in (by omega) n.2).1, (num_in (by omega) n.2).1, (num_in (by omega) n.2).1, r.1, (num_in (by omega) n.2).1, r.2.1⟩, fun e => by omega, fun e => by omega, fun e => by omega, fun e => by omega, fun _ => r.2.2, fun e => by omega, fun e => by omega, fun e => by omega, fun e => by omega, fun e => by omega, fun e => by omega, fun e => by omega, fun e => by omega⟩
  · obtain ⟨b, h, p⟩ := node_2 hT hx hk hK
    refine ⟨b, h, fun hb => ?_⟩
    obtain ⟨w, n, r⟩ := p hb
    exact ⟨by omega, by rw [hK, show wcount 2 = 1 from rfl]; omega, by rw [hK, show ncount 2 = 2 from rfl]; omega, fun e => by omega, fun e => by omega, fun _ => ⟨r.1, r.2.1⟩, fun e => by omega, fun e => by omega, fun e => by omega, fun _ => r.2.2, fun e => by omega, fun e => by omega, fun e => by omega, fun e => by omega, fun e => by omega, fun e => by omega, fun e => by omega, fun e => by omega⟩
  · obtain ⟨b, h, p⟩ := node_3 hT hx hk hK
    refine ⟨b, h, fun hb => ?_⟩
    obtain ⟨w, n, r⟩ := p hb
    exact ⟨by omega, by rw [hK, show wcount 3 = 1 from rfl]; omega, by rw [hK, show ncount 3 = 1 from rfl]; omega, fun e => by omega, fun e => by omega, fun e => by omega, fun _ => by obtain ⟨v, v1, v2, v3⟩ := r; exact ⟨v, by rw [ks_len]; exact v1, ks_take v2, ks_drop v3⟩, fun _ => num_in (by omega) n.2, fun e => by omega, fun e => by omega, fun e => by omega, fun e => by omega, fun e => by omega, fun e => by omega, fun e => by omega, fun e => by omega, fun e => by omega, fun e => by omega⟩
  · obtain ⟨b, h, p⟩ := node_4 hT hx hk hK
    refine ⟨b, h, fun hb => ?_⟩
    obtain ⟨w, n, r⟩ := p hb
    exact ⟨by omega, by rw [hK, show wcount 4 = 0 from rfl]; omega, by rw [hK, show ncount 4 = 0 from rfl]; omega, fun e => by omega, fun e => by omega, fun e => by omega, fun e => by omega, fun e => by omega, fun _ => ⟨by omega, (r.2.2 0 (by omega)).1 (by omega)⟩, fun e => by omega, fun e => by omega, fun e => by omega, fun e => by omega, fun e => by omega, fun e => by omega, fun e => by omega, fun e => by omega, fun e => by omega⟩
  · obtain ⟨b, h, p⟩ := node_5 hT hx hk hK
    refine ⟨b, h, fun hb => ?_⟩
    obtain ⟨w, n, r⟩ := p hb
    exact ⟨by omega, by rw [hK, show wcount 5 = 0 from rfl]; omega, by rw [hK, show ncount 5 = 0 from rfl]; omega, fun e => by omega, fun e => by omega, fun e => by omega, fun e => by omega, fun e => by omega, fun e => by omega, fun _ => r, fun e => by omega, fun e => by omega, fun e => by omega, fun e => by omega, fun e => by omega, fun e => by omega, fun e => by omega, fun e => by omega⟩
  · obtain ⟨b, h, p⟩ := node_6 hT hx hk hK
    refine ⟨b, h, fun hb => ?_⟩
    obtain ⟨w, n, r⟩ := p hb
    exact ⟨by omega, by rw [hK, show wcount 6 = 1 from rfl]; omega, by rw [hK, show ncount 6 = 0 from rfl]; omega, fun e => by omega, fun e => by omega, fun e => by omega, fun e => by omega, fun e => by omega, fun _ => ⟨by omega, (r.2.2 0 (by omega)).1 (by omega)⟩, fun e => by omega, fun e => by omega, fun e => by omega, fun e => by omega, fun e => by omega, fun e => by omega, fun e => by omega, fun e => by omega, fun e => by omega⟩
  · obtain ⟨b, h, p⟩ := node_7 hT hx hk hK
    refine ⟨b, h, fun hb => ?_⟩
    obtain ⟨w, n, r⟩ := p hb
    exact ⟨by omega, by rw [hK, show wcount 7 = 1 from rfl]; omega, by rw [hK, show ncount 7 = 0 from rfl]; omega, fun e => by omega, fun e => by omega, fun e => by omega, fun e => by omega, fun e => by omega, fun _ => ⟨by omega, (r.2.2 0 (by omega)).1 (by omega)⟩, fun e => by omega, fun e => by omega, fun e => by omega, fun e => by omega, fun e => by omega, fun e => by omega, fun e => by omega, fun e => by omega, fun e => by omega⟩
  · obtain ⟨b, h, p⟩ := node_8 hT hx hk hK
    refine ⟨b, h, fun hb => ?_⟩
    obtain ⟨w, n, r⟩ := p hb
    exact ⟨by omega, by rw [hK, show wcount 8 = 2 from rfl]; omega, by rw [hK, show ncount 8 = 1 from rfl]; omega, fun e => by omega, fun e => by omega, fun e => by omega, fun e => by omega, fun e => by omega, fun e => by omega, fun _ => r, fun e => by omega, fun e => by omega, fun e => by omega, fun e => by omega, fun e => by omega, fun e => by omega, fun _ => num_in (by omega) n.2, fun e => by omega⟩
  · obtain ⟨b, h, p⟩ := node_9 hT hx hk hK
    refine ⟨b, h, fun hb => ?_⟩
    obtain ⟨w, n, r⟩ := p hb
    exact ⟨by omega, by rw [hK, show wcount 9 = 0 from rfl]; omega, by rw [hK, show ncount 9 = 1 from rfl]; omega, fun e => by omega, fun e => by omega, fun e => by omega, fun e => by omega, fun e => by omega, fun _ => ⟨by omega, (r.2.2 0 (by omega)).1 (by omega)⟩, fun e => by omega, fun e => by omega, fun e => by omega, fun e => by omega, fun e => by omega, fun e => by omega, fun e => by omega, fun _ => num_in (by omega) n.2, fun e => by omega⟩
  · obtain ⟨b, h, p⟩ := node_10 hT hx hk hK
    refine ⟨b, h, fun hb => ?_⟩
    obtain ⟨w, n, r⟩ := p hb
    exact ⟨by omega, by rw [hK, show wcount 10 = 0 from rfl]; omega, by rw [hK, show ncount 10 = 1 from rfl]; omega, fun e => by omega, fun e => by omega, fun e => by omega, fun e => by omega, fun e => by omega, fun e => by omega, fun e => by omega, fun _ => ⟨by omega, ks_16 fun i hi => (r.2.2 i hi).2 (by omega)⟩, fun e => by omega, fun e => by omega, fun e => by omega, fun e => by omega, fun e => by omega, fun _ => num_in (by omega) n.2, fun e => by omega⟩
  · obtain ⟨b, h, p⟩ := node_11 hT hx hk hK
    refine ⟨b, h, fun hb => ?_⟩
    obtain ⟨w, n, r⟩ := p hb
    exact ⟨by omega, by rw [hK, show wcount 11 = 0 from rfl]; omega, by rw [hK, show ncount 11 = 0 from rfl]; omega, fun e => by omega, fun e => by omega, fun e => by omega, fun e => by omega, fun e => by omega, fun e => by omega, fun e => by omega, fun e => by omega, fun _ => ⟨by omega, (r.2.2 0 (by omega)).1 (by omega), (r.2.2 1 (by omega)).2 (by omega), fun h3 => (r.2.2 2 (by omega)).2 (by omega)⟩, fun e => by omega, fun e => by omega, fun e => by omega, fun e => by omega, fun e => by omega, fun e => by omega⟩
  · obtain ⟨b, h, p⟩ := node_12 hT hx hk hK
    refine ⟨b, h, fun hb => ?_⟩
    obtain ⟨w, n, r⟩ := p hb
    exact ⟨by omega, by rw [hK, show wcount 12 = 0 from rfl]; omega, by rw [hK, show ncount 12 = 0 from rfl]; omega, fun e => by omega, fun e => by omega, fun e => by omega, fun e => by omega, fun e => by omega, fun e => by omega, fun e => by omega, fun e => by omega, fun e => by omega, fun _ => ⟨by omega, (r.2.2 0 (by omega)).1 (by omega), (r.2.2 1 (by omega)).2 (by omega)⟩, fun e => by omega, fun e => by omega, fun e => by omega, fun e => by omega, fun e => by omega⟩
  · obtain ⟨b, h, p⟩ := node_13 hT hx hk hK
    refine ⟨b, h, fun hb => ?_⟩
    obtain ⟨w, n, r⟩ := p hb
    exact ⟨by omega, by rw [hK, show wcount 13 = 0 from rfl]; omega, by rw [hK, show ncount 13 = 0 from rfl]; omega, fun e => by omega, fun e => by omega, fun e => by omega, fun e => by omega, fun e => by omega, fun e => by omega, fun e => by omega, fun e => by omega, fun e => by omega, fun e => by omega, fun _ => ⟨by omega, (r.2.2 0 (by omega)).2 (by omega)⟩, fun e => by omega, fun e => by omega, fun e => by omega, fun e => by omega⟩
  · obtain ⟨b, h, p⟩ := node_14 hT hx hk hK
    refine ⟨b, h, fun hb => ?_⟩
    obtain ⟨w, n, r⟩ := p hb
    exact ⟨by omega, by rw [hK, show wcount 14 = 0 from rfl]; omega, by rw [hK, show ncount 14 = 0 from rfl]; omega, fun e => by omega, fun e => by omega, fun e => by omega, fun e => by omega, fun e => by omega, fun e => by omega, fun _ => r, fun e => by omega, fun e => by omega, fun e => by omega, fun e => by omega, fun e => by omega, fun e => by omega, fun e => by omega, fun e => by omega⟩
  · obtain ⟨b, h, p⟩ := node_15 hT hx hk hK
    refine ⟨b, h, fun hb => ?_⟩
    obtain ⟨w, n, r⟩ := p hb
    exact ⟨by omega, by rw [hK, show wcount 15 = 0 from rfl]; omega, by rw [hK, show ncount 15 = 0 from rfl]; omega, fun e => by omega, fun e => by omega, fun e => by omega, fun e => by omega, fun e => by omega, fun e => by omega, fun _ => r, fun e => by omega, fun e => by omega, fun e => by omega, fun e => by omega, fun e => by omega, fun e => by omega, fun e => by omega, fun e => by omega⟩
  · obtain ⟨b, h, p⟩ := node_16 hT hx hk hK
    refine ⟨b, h, fun hb => ?_⟩
    obtain ⟨w, n, r⟩ := p hb
    exact ⟨by omega, by rw [hK, show wcount 16 = 0 from rfl]; omega, by rw [hK, show ncount 16 = 0 from rfl]; omega, fun e => by omega, fun e => by omega, fun e => by omega, fun e => by omega, fun e => by omega, fun e => by omega, fun e => by omega, fun e => by omega, fun e => by omega, fun e => by omega, fun e => by omega, fun _ => ks_all r, fun e => by omega, fun e => by omega, fun e => by omega⟩
  · obtain ⟨b, h, p⟩ := node_17 hT hx hk hK
    refine ⟨b, h, fun hb => ?_⟩
    obtain ⟨w, n, r⟩ := p hb
    exact ⟨by omega, by rw [hK, show wcount 17 = 0 from rfl]; omega, by rw [hK, show ncount 17 = 1 from rfl]; omega, fun e => by omega, fun e => by omega, fun e => by omega, fun e => by omega, fun e => by omega, fun e => by omega, fun _ => r, fun e => by omega, fun e => by omega, fun e => by omega, fun e => by omega, fun e => by omega, fun e => by omega, fun e => by omega, fun _ => num_in (by omega) n.2⟩
  · obtain ⟨b, h, p⟩ := node_18 hT hx hk hK
    refine ⟨b, h, fun hb => ?_⟩
    obtain ⟨w, n, r⟩ := p hb
    exact ⟨by omega, by rw [hK, show wcount 18 = 1 from rfl]; omega, by rw [hK, show ncount 18 = 0 from rfl]; omega, fun e => by omega, fun e => by omega, fun e => by omega, fun e => by omega, fun e => by omega, fun e => by omega, fun _ => r, fun e => by omega, fun e => by omega, fun e => by omega, fun e => by omega, fun e => by omega, fun e => by omega, fun e => by omega, fun e => by omega⟩
  · obtain ⟨b, h, p⟩ := node_19 hT hx hk hK
    refine ⟨b, h, fun hb => ?_⟩
    obtain ⟨w, n, r⟩ := p hb
    exact ⟨by omega, by rw [hK, show wcount 19 = 1 from rfl]; omega, by rw [hK, show ncount 19 = 0 from rfl]; omega, fun e => by omega, fun e => by omega, fun e => by omega, fun e => by omega, fun e => by omega, fun e => by omega, fun _ => r, fun e => by omega, fun e => by omega, fun e => by omega, fun e => by omega, fun e => by omega, fun e => by omega, fun e => by omega, fun e => by omega⟩
  · obtain ⟨b, h, p⟩ := node_20 hT hx hk hK
    refine ⟨b, h, fun hb => ?_⟩
    obtain ⟨w, n, r⟩ := p hb
    exact ⟨by omega, by rw [hK, show wcount 20 = 0 from rfl]; omega, by rw [hK, show ncount 20 = 0 from rfl]; omega, fun e => by omega, fun e => by omega, fun e => by omega, fun e => by omega, fun e => by omega, fun _ => ⟨by omega, (r.2.2 0 (by omega)).1 (by omega)⟩, fun e => by omega, fun e => by omega, fun e => by omega, fun e => by omega, fun e => by omega, fun e => by omega, fun e => by omega, fun e => by omega, fun e => by omega⟩
  · obtain ⟨b, h, p⟩ := node_21 hT hx hk hK
    refine ⟨b, h, fun hb => ?_⟩
    obtain ⟨w, n, r⟩ := p hb
    exact ⟨by omega, by rw [hK, show wcount 21 = 0 from rfl]; omega, by rw [hK, show ncount 21 = 0 from rfl]; omega, fun e => by omega, fun e => by omega, fun e => by omega, fun e => by omega, fun e => by omega, fun _ => ⟨by omega, (r.2.2 0 (by omega)).1 (by omega)⟩, fun e => by omega, fun e => by omega, fun e => by omega, fun e => by omega, fun e => by omega, fun e => by omega, fun e => by omega, fun e => by omega, fun e => by omega⟩
  · obtain ⟨b, h, p⟩ := node_22 hT hx hk hK
    refine ⟨b, h, fun hb => ?_⟩
    obtain ⟨w, n, r⟩ := p hb
    exact ⟨by omega, by rw [hK, show wcount 22 = 0 from rfl]; omega, by rw [hK, show ncount 22 = 1 from rfl]; omega, fun e => by omega, fun e => by omega, fun e => by omega, fun e => by omega, fun e => by omega, fun e => by omega, fun e => by omega, fun e => by omega, fun e => by omega, fun e => by omega, fun e => by omega, fun e => by omega, fun _ => ⟨by omega, (r.2.2 0 (by omega)).1 (by omega), (r.2.2 1 (by omega)).1 (by omega), (num_in (by omega) n.2).1, (num_in (by omega) n.2).2⟩, fun e => by omega, fun e => by omega⟩
theorem walk_walk {d : D} {t : List Nd} (hT : TreeAt d t) (hl : t.length ≤ 800) : ∀ (f i : Nat), f ≤ 20 → i < t.length → Iso 65 [d, .int .i64 (i : Int), .int .i64 ((21 - f : Nat) : Int)] (.tup [.int .i64 ((walkF t f i).1 : Int), .bool (walkF t f i).2])
  | 0, i, _, hi => by
    refine iso_of ?_
    have e : (((21 - 0 : Nat)) : Int) = 21 := rfl
    rw [e]
    refine evp_of (vf := vf65) rfl ?_
    simp only [vf65, xq, xg, xm, xmg, xc, xl, xlg, xf, xfg, xw, xa, xk, xi, xig, xo, xr, xrp, xn, List.map, List.getD, List.getElem?_cons_zero, List.getElem?_cons_succ, List.getElem?_nil, Option.getD]
    repeat first
     |with_reducible first|apply vA|apply vB|apply vC
     |((with_reducible apply vD); (focus rfl))
     |((with_reducible first|apply vE|apply vF|apply vG|apply vH); simp only [Env.keep, Env.get, Env.ev, List.map, Nat.reduceEqDiff, ↓reduceIte, Then, Out'])
     |((with_reducible first|apply vI|apply vJ|apply vK|apply vL|apply vM|apply vN); (focus (simp (disch := (first|with_reducible assumption|omega|((repeat (first|rw [nP]|rw [nS]))<;>omega)|fail)) only [go_sem, ↓reduceIte] <;> rfl)); (first|(with_reducible (first|apply vO|apply vP|apply vQ|apply vR|apply vS|apply vT|apply vU); try simp only [Env.put])|with_reducible refine (?_ : WQ _ _ _ _ _ _)))
     |fail
    exact ⟨.inr trivial, _, (by simp only [resOf, resAll, resOne, Env.get, Nat.reduceEqDiff, ↓reduceIte] <;> rfl), rfl⟩
  | f + 1, i, hf, hi => by
    refine iso_of ?_
    have hidx := hT.at (z := (i : Int)) (by omega) (by omega) (k := .i64)
    rw [Int.toNat_natCast] at hidx
    have hx := hT.nd hi
    have o1 := FL.one hx.w
    have o2 := FL.one hx.n
    have o3 := FL.one hx.k
    have hlk := FI.len hx.k
    have hlen := hT.len
    have e1 : ((20 : Int) < ((21 - (f + 1) : Nat) : Int)) = False := eq_false (by omega)
    have e2 : IntKind.i64.wrap ((i : Int) + 1) = ((i + 1 : Nat) : Int) := by rw [i64_id (by omega) (by omega)]; omega
    have e3 : IntKind.i64.wrap (((21 - (f + 1) : Nat) : Int) + 1) = ((21 - f : Nat) : Int) := by rw [i64_id (by omega) (by omega)]; omega
    have key : ∀ (n : Nat) (P : Nat × Bool), walkF t (f + 1) i = P → True := fun _ _ _ => trivial
    refine evp_of (vf := vf65) rfl ?_
    simp only [vf65, xq, xg, xm, xmg, xc, xl, xlg, xf, xfg, xw, xa, xk, xi, xig, xo, xr, xrp, xn, List.map, List.getD, List.getElem?_cons_zero, List.getElem?_cons_succ, List.getElem?_nil, Option.getD]
    repeat first
     |with_reducible first|apply vA|apply vB|apply vC
     |((with_reducible apply vD); (focus rfl))
     |((with_reducible first|apply vE|apply vF|apply vG|apply vH); simp only [Env.keep, Env.get, Env.ev, List.map, Nat.reduceEqDiff, ↓reduceIte, Then, Out'])
     |((with_reducible first|apply vI|apply vJ|apply vK|apply vL|apply vM|apply vN); (focus (simp (disch := (first|with_reducible assumption|omega|((repeat (first|rw [nP]|rw [nS]))<;>omega)|fail)) only [go_sem, ↓reduceIte, e1, e2] <;> rfl)); (first|(with_reducible (first|apply vO|apply vP|apply vQ|apply vR|apply vS|apply vT|apply vU); try simp only [Env.put])|with_reducible refine (?_ : WQ _ _ _ _ _ _)))
     |fail
    refine vw_loop_inv (Q := Out' 0 _) (fun n env s => ∃ j next : Nat, j ≤ (nd t i).kids.length ∧ n = (nd t i).kids.length - j ∧ next ≤ t.length ∧ walkF t (f + 1) i = kidsF (walkF t f) t.length ((nd t i).kids.drop j) next ∧ (env.get 0 = d ∧ env.get 1 = .int .i64 (i : Int) ∧ env.get 2 = .int .i64 ((21 - (f + 1) : Nat) : Int) ∧ env.get 8 = .int .i64 (next : Int) ∧ env.get 9 = .int .i64 (j : Int))) ?_ (nd t i).kids.length _ _ ⟨0, i + 1, by omega, rfl, by omega, rfl, by simp [Env.get]⟩
    rintro n env s ⟨j, next, hj, rfl, hn, hw, hE⟩
    by_cases c1 : j < (nd t i).kids.length
    · have c1' : ((j : Int) < ((nd t i).kids.length : Int)) = True := eq_true (by omega)
      have hki := FI.idx hx.k c1 (k := .i64)
      have hs := succ63 c1 hx.kl
      rw [List.drop_eq_getElem_cons c1] at hw
      unfold kidsF at hw
      by_cases c2 : (nd t i).kids[j] = (next : Int)
      · have c2' : ((nd t i).kids[j] != (next : Int)) = false := by rw [c2]; simp
        by_cases c3 : next < t.length
        · have c3' : ((t.length : Int) ≤ (next : Int)) = False := eq_false (by omega)
          rw [if_neg (by omega)] at hw
          have hrec := walk_walk hT hl f next (by omega) c3
          obtain ⟨s1, hrec⟩ := hrec
          have hwl := walk_le f c3
          cases hb : (walkF t f next).2
          · rw [hb] at hrec hw
            rw [if_neg (by simp)] at hw
            repeat first
             |(refine vq_iso' (l := [d, .int .i64 (next : Int), .int .i64 ((21 - f : Nat) : Int)]) ?_ (fz3 hT.fz fz_int fz_int) hrec rfl rfl ?_; (focus (simp only [Env.evL, Env.ev, Env.get, Nat.reduceEqDiff, ↓reduceIte, hE])))
             |with_reducible first|apply vA|apply vB|apply vC
             |((with_reducible apply vD); (focus rfl))
             |((with_reducible first|apply vE|apply vF|apply vG|apply vH); simp only [Env.keep, Env.get, Env.ev, List.map, Nat.reduceEqDiff, ↓reduceIte, Then, Out'])
             |((with_reducible first|apply vI|apply vJ|apply vK|apply vL|apply vM|apply vN); (focus (simp (disch := (first|with_reducible assumption|omega|((repeat (first|rw [nP]|rw [nS]))<;>omega)|fail)) only [go_sem, ↓reduceIte, hE, e1, hidx, o1, o2, o3, hlk, hlen, c1', hki, c2', c3', e3] <;> rfl)); (first|(with_reducible (first|apply vO|apply vP|apply vQ|apply vR|apply vS|apply vT|apply vU); try simp only [Env.put])|with_reducible refine (?_ : WQ _ _ _ _ _ _)))
             |fail
            exact ⟨.inr trivial, _, (by simp only [resOf, resAll, resOne, Env.get, Nat.reduceEqDiff, ↓reduceIte] <;> rfl), by rw [hw]⟩
          · rw [hb] at hrec hw
            rw [if_pos rfl] at hw
            repeat first
             |(refine vq_iso' (l := [d, .int .i64 (next : Int), .int .i64 ((21 - f : Nat) : Int)]) ?_ (fz3 hT.fz fz_int fz_int) hrec rfl rfl ?_; (focus (simp only [Env.evL, Env.ev, Env.get, Nat.reduceEqDiff, ↓reduceIte, hE])))
             |with_reducible first|apply vA|apply vB|apply vC
             |((with_reducible apply vD); (focus rfl))
             |((with_reducible first|apply vE|apply vF|apply vG|apply vH); simp only [Env.keep, Env.get, Env.ev, List.map, Nat.reduceEqDiff, ↓reduceIte, Then, Out'])
             |((with_reducible first|apply vI|apply vJ|apply vK|apply vL|apply vM|apply vN); (focus (simp (disch := (first|with_reducible assumption|omega|((repeat (first|rw [nP]|rw [nS]))<;>omega)|fail)) only [go_sem, ↓reduceIte, hE, e1, hidx, o1, o2, o3, hlk, hlen, c1', hki, c2', c3', e3, hs] <;> rfl)); (first|(with_reducible (first|apply vO|apply vP|apply vQ|apply vR|apply vS|apply vT|apply vU); try simp only [Env.put])|with_reducible refine (?_ : WQ _ _ _ _ _ _)))
             |fail
            exact ⟨(nd t i).kids.length - (j + 1), by omega, j + 1, (walkF t f next).1, by omega, rfl, hwl, hw, (by simp only [Env.get, Nat.reduceEqDiff, ↓reduceIte, hE, and_self])⟩
        · have c3' : ((t.length : Int) ≤ (next : Int)) = True := eq_true (by omega)
          rw [if_pos (by omega)] at hw
          repeat first
           |with_reducible first|apply vA|apply vB|apply vC
           |((with_reducible apply vD); (focus rfl))
           |((with_reducible first|apply vE|apply vF|apply vG|apply vH); simp only [Env.keep, Env.get, Env.ev, List.map, Nat.reduceEqDiff, ↓reduceIte, Then, Out'])
           |((with_reducible first|apply vI|apply vJ|apply vK|apply vL|apply vM|apply vN); (focus (simp (disch := (first|with_reducible assumption|omega|((repeat (first|rw [nP]|rw [nS]))<;>omega)|fail)) only [go_sem, ↓reduceIte, hE, e1, hidx, o1, o2, o3, hlk, hlen, c1', hki, c2', c3'] <;> rfl)); (first|(with_reducible (first|apply vO|apply vP|apply vQ|apply vR|apply vS|apply vT|apply vU); try simp only [Env.put])|with_reducible refine (?_ : WQ _ _ _ _ _ _)))
           |fail
          exact ⟨.inr trivial, _, (by simp only [resOf, resAll, resOne, Env.get, Nat.reduceEqDiff, ↓reduceIte] <;> rfl), by rw [hw]⟩
      · have c2' : ((nd t i).kids[j] != (next : Int)) = true := by rw [bne_iff_ne]; exact c2
        rw [if_pos (by omega)] at hw
        repeat first
         |with_reducible first|apply vA|apply vB|apply vC
         |((with_reducible apply vD); (focus rfl))
         |((with_reducible first|apply vE|apply vF|apply vG|apply vH); simp only [Env.keep, Env.get, Env.ev, List.map, Nat.reduceEqDiff, ↓reduceIte, Then, Out'])
         |((with_reducible first|apply vI|apply vJ|apply vK|apply vL|apply vM|apply vN); (focus (simp (disch := (first|with_reducible assumption|omega|((repeat (first|rw [nP]|rw [nS]))<;>omega)|fail)) only [go_sem, ↓reduceIte, hE, e1, hidx, o1, o2, o3, hlk, hlen, c1', hki, c2'] <;> rfl)); (first|(with_reducible (first|apply vO|apply vP|apply vQ|apply vR|apply vS|apply vT|apply vU); try simp only [Env.put])|with_reducible refine (?_ : WQ _ _ _ _ _ _)))
         |fail
        exact ⟨.inr trivial, _, (by simp only [resOf, resAll, resOne, Env.get, Nat.reduceEqDiff, ↓reduceIte] <;> rfl), by rw [hw]⟩
    · have c1' : ((j : Int) < ((nd t i).kids.length : Int)) = False := eq_false (by omega)
      rw [List.drop_eq_nil_of_le (by omega)] at hw
      repeat first
       |with_reducible first|apply vA|apply vB|apply vC
       |((with_reducible apply vD); (focus rfl))
       |((with_reducible first|apply vE|apply vF|apply vG|apply vH); simp only [Env.keep, Env.get, Env.ev, List.map, Nat.reduceEqDiff, ↓reduceIte, Then, Out'])
       |((with_reducible first|apply vI|apply vJ|apply vK|apply vL|apply vM|apply vN); (focus (simp (disch := (first|with_reducible assumption|omega|((repeat (first|rw [nP]|rw [nS]))<;>omega)|fail)) only [go_sem, ↓reduceIte, hE, e1, hidx, o1, o2, o3, hlk, hlen, c1'] <;> rfl)); (first|(with_reducible (first|apply vO|apply vP|apply vQ|apply vR|apply vS|apply vT|apply vU); try simp only [Env.put])|with_reducible refine (?_ : WQ _ _ _ _ _ _)))
       |fail
      exact ⟨.inr trivial, _, (by simp only [resOf, resAll, resOne, Env.get, Nat.reduceEqDiff, ↓reduceIte] <;> rfl), by rw [hw]; rfl⟩
theorem small_ok {d : D} {t : List Nd} (hT : TreeAt d t) : IsoB 36 [d] fun _ => True := by
  refine isoB_of ?_
  have hlen := hT.len
  refine evp_of (vf := vf36) rfl ?_
  simp only [vf36, xq, xg, xm, xmg, xc, xl, xlg, xf, xfg, xw, xa, xk, xi, xig, xo, xr, xrp, xn, List.map, List.getD, List.getElem?_cons_zero, List.getElem?_cons_succ, List.getElem?_nil, Option.getD]
  repeat first
   |with_reducible first|apply vA|apply vB|apply vC
   |((with_reducible apply vD); (focus rfl))
   |((with_reducible first|apply vE|apply vF|apply vG|apply vH); simp only [Env.keep, Env.get, Env.ev, List.map, Nat.reduceEqDiff, ↓reduceIte, Then, Out'])
   |((with_reducible first|apply vI|apply vJ|apply vK|apply vL|apply vM|apply vN); (focus (simp (disch := (first|with_reducible assumption|omega|((repeat (first|rw [nP]|rw [nS]))<;>omega)|fail)) only [go_sem, ↓reduceIte, hlen] <;> rfl)); (first|(with_reducible (first|apply vO|apply vP|apply vQ|apply vR|apply vS|apply vT|apply vU); try simp only [Env.put])|with_reducible refine (?_ : WQ _ _ _ _ _ _)))
   |fail
  refine vw_loop_inv (Q := Out' 0 _) (fun n env s => ∃ (i : Nat) (m : Int), i ≤ t.length ∧ n = t.length - i ∧ (env.get 0 = d ∧ env.get 3 = .int .i64 m ∧ env.get 4 = .int .i64 (i : Int))) ?_ t.length _ _ ⟨0, _, by omega, rfl, by simp [Env.get]; rfl⟩
  rintro n env s ⟨i, m, hi, rfl, hE⟩
  by_cases c1 : i < t.length
  · have c1' : ((i : Int) < (t.length : Int)) = True := eq_true (by omega)
    have hs := succ63 c1 hT.le
    have hidx := hT.at (z := (i : Int)) (by omega) (by omega) (k := .i64)
    rw [Int.toNat_natCast] at hidx
    have hx := hT.nd c1
    have o1 := FL.one hx.w
    have o2 := FL.one hx.n
    have o3 := FL.one hx.k
    have l1 := FS.len hx.w
    have l2 := FI.len hx.n
    have l3 := FI.len hx.k
    by_cases c2 : m ≤ 1500
    · repeat first
       |with_reducible first|apply vA|apply vB|apply vC
       |((with_reducible apply vD); (focus rfl))
       |((with_reducible first|apply vE|apply vF|apply vG|apply vH); simp only [Env.keep, Env.get, Env.ev, List.map, Nat.reduceEqDiff, ↓reduceIte, Then, Out'])
       |((with_reducible first|apply vI|apply vJ|apply vK|apply vL|apply vM|apply vN); (focus (simp (disch := (first|with_reducible assumption|omega|((repeat (first|rw [nP]|rw [nS]))<;>omega)|fail)) only [go_sem, ↓reduceIte, hE, hlen, c1', c2, hidx, o1, o2, o3, l1, l2, l3, hs] <;> rfl)); (first|(with_reducible (first|apply vO|apply vP|apply vQ|apply vR|apply vS|apply vT|apply vU); try simp only [Env.put])|with_reducible refine (?_ : WQ _ _ _ _ _ _)))
       |fail
      exact ⟨t.length - (i + 1), by omega, i + 1, _, by omega, rfl, by simp only [Env.get, Nat.reduceEqDiff, ↓reduceIte, hE, and_self, true_and, and_true]; rfl⟩
    · repeat first
       |with_reducible first|apply vA|apply vB|apply vC
       |((with_reducible apply vD); (focus rfl))
       |((with_reducible first|apply vE|apply vF|apply vG|apply vH); simp only [Env.keep, Env.get, Env.ev, List.map, Nat.reduceEqDiff, ↓reduceIte, Then, Out'])
       |((with_reducible first|apply vI|apply vJ|apply vK|apply vL|apply vM|apply vN); (focus (simp (disch := (first|with_reducible assumption|omega|((repeat (first|rw [nP]|rw [nS]))<;>omega)|fail)) only [go_sem, ↓reduceIte, hE, hlen, c1', c2] <;> rfl)); (first|(with_reducible (first|apply vO|apply vP|apply vQ|apply vR|apply vS|apply vT|apply vU); try simp only [Env.put])|with_reducible refine (?_ : WQ _ _ _ _ _ _)))
       |fail
      exact ⟨.inr trivial, _, (by simp only [resOf, resAll, resOne, Env.get, Nat.reduceEqDiff, ↓reduceIte] <;> rfl), _, rfl, trivial⟩
  · have c1' : ((i : Int) < (t.length : Int)) = False := eq_false (by omega)
    repeat first
     |with_reducible first|apply vA|apply vB|apply vC
     |((with_reducible apply vD); (focus rfl))
     |((with_reducible first|apply vE|apply vF|apply vG|apply vH); simp only [Env.keep, Env.get, Env.ev, List.map, Nat.reduceEqDiff, ↓reduceIte, Then, Out'])
     |((with_reducible first|apply vI|apply vJ|apply vK|apply vL|apply vM|apply vN); (focus (simp (disch := (first|with_reducible assumption|omega|((repeat (first|rw [nP]|rw [nS]))<;>omega)|fail)) only [go_sem, ↓reduceIte, hE, hlen, c1'] <;> rfl)); (first|(with_reducible (first|apply vO|apply vP|apply vQ|apply vR|apply vS|apply vT|apply vU); try simp only [Env.put])|with_reducible refine (?_ : WQ _ _ _ _ _ _)))
     |fail
    exact ⟨.inr trivial, _, (by simp only [resOf, resAll, resOne, Env.get, Nat.reduceEqDiff, ↓reduceIte] <;> rfl), _, rfl, trivial⟩
theorem right_ok {d : D} {t : List Nd} (hT : TreeAt d t) : IsoB 37 [d] fun b => b = true → RightT t := by
  refine isoB_of ?_
  have hlen := hT.len
  by_cases c1 : t.length = 0
  · have c1' : ((t.length : Int) == 0) = true := by rw [c1]; rfl
    refine evp_of (vf := vf37) rfl ?_
    simp only [vf37, xq, xg, xm, xmg, xc, xl, xlg, xf, xfg, xw, xa, xk, xi, xig, xo, xr, xrp, xn, List.map, List.getD, List.getElem?_cons_zero, List.getElem?_cons_succ, List.getElem?_nil, Option.getD]
    repeat first
     |with_reducible first|apply vA|apply vB|apply vC
     |((with_reducible apply vD); (focus rfl))
     |((with_reducible first|apply vE|apply vF|apply vG|apply vH); simp only [Env.keep, Env.get, Env.ev, List.map, Nat.reduceEqDiff, ↓reduceIte, Then, Out'])
     |((with_reducible first|apply vI|apply vJ|apply vK|apply vL|apply vM|apply vN); (focus (simp (disch := (first|with_reducible assumption|omega|((repeat (first|rw [nP]|rw [nS]))<;>omega)|fail)) only [go_sem, ↓reduceIte, hlen, c1'] <;> rfl)); (first|(with_reducible (first|apply vO|apply vP|apply vQ|apply vR|apply vS|apply vT|apply vU); try simp only [Env.put])|with_reducible refine (?_ : WQ _ _ _ _ _ _)))
     |fail
    exact ⟨.inr trivial, _, (by simp only [resOf, resAll, resOne, Env.get, Nat.reduceEqDiff, ↓reduceIte] <;> rfl), _, rfl, by simp⟩
  have c1' : ((t.length : Int) == 0) = false := by rw [beq_eq_false_iff_ne]; omega
  by_cases c2 : 800 < t.length
  · have c2' : ((800 : Int) < (t.length : Int)) = True := eq_true (by omega)
    refine evp_of (vf := vf37) rfl ?_
    simp only [vf37, xq, xg, xm, xmg, xc, xl, xlg, xf, xfg, xw, xa, xk, xi, xig, xo, xr, xrp, xn, List.map, List.getD, List.getElem?_cons_zero, List.getElem?_cons_succ, List.getElem?_nil, Option.getD]
    repeat first
     |with_reducible first|apply vA|apply vB|apply vC
     |((with_reducible apply vD); (focus rfl))
     |((with_reducible first|apply vE|apply vF|apply vG|apply vH); simp only [Env.keep, Env.get, Env.ev, List.map, Nat.reduceEqDiff, ↓reduceIte, Then, Out'])
     |((with_reducible first|apply vI|apply vJ|apply vK|apply vL|apply vM|apply vN); (focus (simp (disch := (first|with_reducible assumption|omega|((repeat (first|rw [nP]|rw [nS]))<;>omega)|fail)) only [go_sem, ↓reduceIte, hlen, c1', c2'] <;> rfl)); (first|(with_reducible (first|apply vO|apply vP|apply vQ|apply vR|apply vS|apply vT|apply vU); try simp only [Env.put])|with_reducible refine (?_ : WQ _ _ _ _ _ _)))
     |fail
    exact ⟨.inr trivial, _, (by simp only [resOf, resAll, resOne, Env.get, Nat.reduceEqDiff, ↓reduceIte] <;> rfl), _, rfl, by simp⟩
  have c2' : ((800 : Int) < (t.length : Int)) = False := eq_false (by omega)
  have h0 := hT.at (z := 0) (by omega) (by omega) (k := .i64)
  have x0 := hT.nd (i := 0) (by omega)
  have z0 : (0 : Int).toNat = 0 := rfl
  rw [z0] at h0
  have o1 := FL.one x0.w
  have o2 := FL.one x0.n
  have o3 := FL.one x0.k
  by_cases c3 : (nd t 0).kind = 0
  · have c3' : ((nd t 0).kind != 0) = false := by rw [c3]; rfl
    obtain ⟨s1, hw⟩ := walk_walk hT (by omega) 20 0 (by omega) (by omega)
    have e21 : ((21 - 20 : Nat) : Int) = 1 := rfl
    have e00 : ((0 : Nat) : Int) = 0 := rfl
    rw [e21, e00] at hw
    cases hb : (walkF t 20 0).2
    · rw [hb] at hw
      refine evp_of (vf := vf37) rfl ?_
      simp only [vf37, xq, xg, xm, xmg, xc, xl, xlg, xf, xfg, xw, xa, xk, xi, xig, xo, xr, xrp, xn, List.map, List.getD, List.getElem?_cons_zero, List.getElem?_cons_succ, List.getElem?_nil, Option.getD]
      repeat first
       |(refine vq_iso' (l := [d, .int .i64 0, .int .i64 1]) rfl (fz3 hT.fz fz_int fz_int) hw rfl rfl ?_)
       |with_reducible first|apply vA|apply vB|apply vC
       |((with_reducible apply vD); (focus rfl))
       |((with_reducible first|apply vE|apply vF|apply vG|apply vH); simp only [Env.keep, Env.get, Env.ev, List.map, Nat.reduceEqDiff, ↓reduceIte, Then, Out'])
       |((with_reducible first|apply vI|apply vJ|apply vK|apply vL|apply vM|apply vN); (focus (simp (disch := (first|with_reducible assumption|omega|((repeat (first|rw [nP]|rw [nS]))<;>omega)|fail)) only [go_sem, ↓reduceIte, hlen, c1', c2', h0, o1, o2, o3, c3'] <;> rfl)); (first|(with_reducible (first|apply vO|apply vP|apply vQ|apply vR|apply vS|apply vT|apply vU); try simp only [Env.put])|with_reducible refine (?_ : WQ _ _ _ _ _ _)))
       |fail
      exact ⟨.inr trivial, _, (by simp only [resOf, resAll, resOne, Env.get, Nat.reduceEqDiff, ↓reduceIte] <;> rfl), _, rfl, by simp⟩
    · rw [hb] at hw
      by_cases c4 : (walkF t 20 0).1 = t.length
      · have c4' : (((walkF t 20 0).1 : Int) != (t.length : Int)) = false := by rw [c4]; simp
        have hfull : walkF t 20 0 = (t.length, true) := by rw [← c4, ← hb]
        obtain ⟨hsub, hsubs⟩ := walk_ok 20 (by omega) hfull
        have hbe : ∀ i, i < t.length → ∀ k ∈ (nd t i).kids, (i : Int) < k ∧ k < (t.length : Int) := fun i hi k hk => hsub.down i (by omega) hi k hk
        refine evp_of (vf := vf37) rfl ?_
        simp only [vf37, xq, xg, xm, xmg, xc, xl, xlg, xf, xfg, xw, xa, xk, xi, xig, xo, xr, xrp, xn, List.map, List.getD, List.getElem?_cons_zero, List.getElem?_cons_succ, List.getElem?_nil, Option.getD]
        repeat first
         |(refine vq_iso' (l := [d, .int .i64 0, .int .i64 1]) rfl (fz3 hT.fz fz_int fz_int) hw rfl rfl ?_)
         |with_reducible first|apply vA|apply vB|apply vC
         |((with_reducible apply vD); (focus rfl))
         |((with_reducible first|apply vE|apply vF|apply vG|apply vH); simp only [Env.keep, Env.get, Env.ev, List.map, Nat.reduceEqDiff, ↓reduceIte, Then, Out'])
         |((with_reducible first|apply vI|apply vJ|apply vK|apply vL|apply vM|apply vN); (focus (simp (disch := (first|with_reducible assumption|omega|((repeat (first|rw [nP]|rw [nS]))<;>omega)|fail)) only [go_sem, ↓reduceIte, hlen, c1', c2', h0, o1, o2, o3, c3', c4'] <;> rfl)); (first|(with_reducible (first|apply vO|apply vP|apply vQ|apply vR|apply vS|apply vT|apply vU); try simp only [Env.put])|with_reducible refine (?_ : WQ _ _ _ _ _ _)))
         |fail
        refine vw_loop_inv (Q := Out' 0 _) (fun n env s => ∃ i : Nat, i ≤ t.length ∧ n = t.length - i ∧ (∀ j, j < i → NodeOk t (nd t j)) ∧ (env.get 0 = d ∧ env.get 5 = .int .i64 (i : Int))) ?_ t.length _ _ ⟨0, by omega, rfl, fun j h => by omega, by simp [Env.get]⟩
        rintro n env s ⟨i, hi, rfl, hall, hE⟩
        by_cases c5 : i < t.length
        · have c5' : ((i : Int) < (t.length : Int)) = True := eq_true (by omega)
          have hs := succ63 c5 hT.le
          have hidx := hT.at (z := (i : Int)) (by omega) (by omega) (k := .i64)
          rw [Int.toNat_natCast] at hidx
          have hx := hT.nd c5
          have p1 := FL.one hx.w
          have p2 := FL.one hx.n
          have p3 := FL.one hx.k
          obtain ⟨b, hn, hp⟩ := node_ok hT hx (fun k hk => by have := hbe i c5 k hk; omega)
          have hz := hx.fz
          unfold Nd.row at hn hz
          cases b
          · repeat first
             |(apply vq_isoI hn rfl; (focus (simp only [Env.evL, Env.ev, Env.get, Nat.reduceEqDiff, ↓reduceIte, hE])); (focus exact fz2 hT.fz hz))
             |with_reducible first|apply vA|apply vB|apply vC
             |((with_reducible apply vD); (focus rfl))
             |((with_reducible first|apply vE|apply vF|apply vG|apply vH); simp only [Env.keep, Env.get, Env.ev, List.map, Nat.reduceEqDiff, ↓reduceIte, Then, Out'])
             |((with_reducible first|apply vI|apply vJ|apply vK|apply vL|apply vM|apply vN); (focus (simp (disch := (first|with_reducible assumption|omega|((repeat (first|rw [nP]|rw [nS]))<;>omega)|fail)) only [go_sem, ↓reduceIte, hE, hlen, c5', hidx, p1, p2, p3] <;> rfl)); (first|(with_reducible (first|apply vO|apply vP|apply vQ|apply vR|apply vS|apply vT|apply vU); try simp only [Env.put])|with_reducible refine (?_ : WQ _ _ _ _ _ _)))
             |fail
            exact ⟨.inr trivial, _, (by simp only [resOf, resAll, resOne, Env.get, Nat.reduceEqDiff, ↓reduceIte] <;> rfl), _, rfl, by simp⟩
          · repeat first
             |(apply vq_isoI hn rfl; (focus (simp only [Env.evL, Env.ev, Env.get, Nat.reduceEqDiff, ↓reduceIte, hE])); (focus exact fz2 hT.fz hz))
             |with_reducible first|apply vA|apply vB|apply vC
             |((with_reducible apply vD); (focus rfl))
             |((with_reducible first|apply vE|apply vF|apply vG|apply vH); simp only [Env.keep, Env.get, Env.ev, List.map, Nat.reduceEqDiff, ↓reduceIte, Then, Out'])
             |((with_reducible first|apply vI|apply vJ|apply vK|apply vL|apply vM|apply vN); (focus (simp (disch := (first|with_reducible assumption|omega|((repeat (first|rw [nP]|rw [nS]))<;>omega)|fail)) only [go_sem, ↓reduceIte, hE, hlen, c5', hidx, p1, p2, p3, hs] <;> rfl)); (first|(with_reducible (first|apply vO|apply vP|apply vQ|apply vR|apply vS|apply vT|apply vU); try simp only [Env.put])|with_reducible refine (?_ : WQ _ _ _ _ _ _)))
             |fail
            refine ⟨t.length - (i + 1), by omega, i + 1, by omega, rfl, fun j h => ?_, (by simp only [Env.get, Nat.reduceEqDiff, ↓reduceIte, hE, and_self])⟩
            by_cases e : j = i
            · subst e; exact hp rfl
            · exact hall j (by omega)
        · have c5' : ((i : Int) < (t.length : Int)) = False := eq_false (by omega)
          repeat first
           |with_reducible first|apply vA|apply vB|apply vC
           |((with_reducible apply vD); (focus rfl))
           |((with_reducible first|apply vE|apply vF|apply vG|apply vH); simp only [Env.keep, Env.get, Env.ev, List.map, Nat.reduceEqDiff, ↓reduceIte, Then, Out'])
           |((with_reducible first|apply vI|apply vJ|apply vK|apply vL|apply vM|apply vN); (focus (simp (disch := (first|with_reducible assumption|omega|((repeat (first|rw [nP]|rw [nS]))<;>omega)|fail)) only [go_sem, ↓reduceIte, hE, hlen, c5'] <;> rfl)); (first|(with_reducible (first|apply vO|apply vP|apply vQ|apply vR|apply vS|apply vT|apply vU); try simp only [Env.put])|with_reducible refine (?_ : WQ _ _ _ _ _ _)))
           |fail
          exact ⟨.inr trivial, _, (by simp only [resOf, resAll, resOne, Env.get, Nat.reduceEqDiff, ↓reduceIte] <;> rfl), _, rfl, fun _ => ⟨⟨by omega, by omega, c3, hbe, fun j h => hall j (by omega)⟩, hsubs, hfull⟩⟩
      · have c4' : (((walkF t 20 0).1 : Int) != (t.length : Int)) = true := by rw [bne_iff_ne]; omega
        refine evp_of (vf := vf37) rfl ?_
        simp only [vf37, xq, xg, xm, xmg, xc, xl, xlg, xf, xfg, xw, xa, xk, xi, xig, xo, xr, xrp, xn, List.map, List.getD, List.getElem?_cons_zero, List.getElem?_cons_succ, List.getElem?_nil, Option.getD]
        repeat first
         |(refine vq_iso' (l := [d, .int .i64 0, .int .i64 1]) rfl (fz3 hT.fz fz_int fz_int) hw rfl rfl ?_)
         |with_reducible first|apply vA|apply vB|apply vC
         |((with_reducible apply vD); (focus rfl))
         |((with_reducible first|apply vE|apply vF|apply vG|apply vH); simp only [Env.keep, Env.get, Env.ev, List.map, Nat.reduceEqDiff, ↓reduceIte, Then, Out'])
         |((with_reducible first|apply vI|apply vJ|apply vK|apply vL|apply vM|apply vN); (focus (simp (disch := (first|with_reducible assumption|omega|((repeat (first|rw [nP]|rw [nS]))<;>omega)|fail)) only [go_sem, ↓reduceIte, hlen, c1', c2', h0, o1, o2, o3, c3', c4'] <;> rfl)); (first|(with_reducible (first|apply vO|apply vP|apply vQ|apply vR|apply vS|apply vT|apply vU); try simp only [Env.put])|with_reducible refine (?_ : WQ _ _ _ _ _ _)))
         |fail
        exact ⟨.inr trivial, _, (by simp only [resOf, resAll, resOne, Env.get, Nat.reduceEqDiff, ↓reduceIte] <;> rfl), _, rfl, by simp⟩
  · have c3' : ((nd t 0).kind != 0) = true := by rw [bne_iff_ne]; exact c3
    refine evp_of (vf := vf37) rfl ?_
    simp only [vf37, xq, xg, xm, xmg, xc, xl, xlg, xf, xfg, xw, xa, xk, xi, xig, xo, xr, xrp, xn, List.map, List.getD, List.getElem?_cons_zero, List.getElem?_cons_succ, List.getElem?_nil, Option.getD]
    repeat first
     |with_reducible first|apply vA|apply vB|apply vC
     |((with_reducible apply vD); (focus rfl))
     |((with_reducible first|apply vE|apply vF|apply vG|apply vH); simp only [Env.keep, Env.get, Env.ev, List.map, Nat.reduceEqDiff, ↓reduceIte, Then, Out'])
     |((with_reducible first|apply vI|apply vJ|apply vK|apply vL|apply vM|apply vN); (focus (simp (disch := (first|with_reducible assumption|omega|((repeat (first|rw [nP]|rw [nS]))<;>omega)|fail)) only [go_sem, ↓reduceIte, hlen, c1', c2', h0, o1, o2, o3, c3'] <;> rfl)); (first|(with_reducible (first|apply vO|apply vP|apply vQ|apply vR|apply vS|apply vT|apply vU); try simp only [Env.put])|with_reducible refine (?_ : WQ _ _ _ _ _ _)))
     |fail
    exact ⟨.inr trivial, _, (by simp only [resOf, resAll, resOne, Env.get, Nat.reduceEqDiff, ↓reduceIte] <;> rfl), _, rfl, by simp⟩
end Go.Proofs.Ytlaeblilmppodaa
namespace Go.Proofs.Ytlaeblilmppodaa
open Go.V
set_option maxRecDepth 100000
set_option maxHeartbeats 4000000
set_option linter.unusedSimpArgs false
set_option linter.unusedVariables false
theorem rd_fs {d : D} {l : List ByteArray} (h : Rd Store.empty d (l.map .str)) : FS d l := by
  rcases h with ⟨rfl, h⟩ | rfl | ⟨id, off, cs, rfl, h, _⟩
  · left; exact ⟨rfl, by simpa using h⟩
  · right; simp
  · simp at h
theorem sl_fs {s : Store} {d : D} {l : List ByteArray} {ids : List Nat} (h : Sl s d (l.map .str) ids) : ∃ d', V.ice s.get 20 d = some d' ∧ FS d' l := by
  obtain ⟨d', h1, h2⟩ := h.rd.ice (by simp [scal1])
  exact ⟨d', h1, rd_fs h2⟩
theorem take_inB {l : List ByteArray} {x : ByteArray} {i : Nat} (h : i < l.length) : inB (l.take (i + 1)) x = (inB (l.take i) x || decide (l[i] = x)) := by
  unfold inB
  rw [List.take_succ_eq_append_getElem h, List.any_append]; simp
theorem in11_ok {d : D} {l : List ByteArray} {x : ByteArray} (hd : FS d l) (hl : l.length ≤ maxLen) : Iso 120 [d, .str x] (.bool (inB l x)) := by
  refine iso_of ?_
  have hlen := FS.len hd
  refine evp_of (vf := vf120) rfl ?_
  simp only [vf120, xq, xg, xm, xmg, xc, xl, xlg, xf, xfg, xw, xa, xk, xi, xig, xo, xr, xrp, xn, List.map, List.getD, List.getElem?_cons_zero, List.getElem?_cons_succ, List.getElem?_nil, Option.getD]
  repeat first
   |with_reducible first|apply vA|apply vB|apply vC
   |((with_reducible apply vD); (focus rfl))
   |((with_reducible first|apply vE|apply vF|apply vG|apply vH); simp only [Env.keep, Env.get, Env.ev, List.map, Nat.reduceEqDiff, ↓reduceIte, Then, Out'])
   |((with_reducible first|apply vI|apply vJ|apply vK|apply vL|apply vM|apply vN); (focus (simp (disch := (first|with_reducible assumption|omega|((repeat (first|rw [nP]|rw [nS]))<;>omega)|fail)) only [go_sem, ↓reduceIte] <;> rfl)); (first|(with_reducible (first|apply vO|apply vP|apply vQ|apply vR|apply vS|apply vT|apply vU); try simp only [Env.put])|with_reducible refine (?_ : WQ _ _ _ _ _ _)))
   |fail
  refine vw_loop_inv (Q := Out' 0 _) (fun n env s => ∃ i : Nat, i ≤ l.length ∧ n = l.length - i ∧ inB (l.take i) x = false ∧ (env.get 0 = d ∧ env.get 1 = .str x ∧ env.get 5 = .int .i64 (i : Int))) ?_ l.length _ _ ⟨0, by omega, rfl, by simp [inB], by simp [Env.get]⟩
  rintro n env s ⟨i, hi, rfl, hn, hE⟩
  by_cases c1 : i < l.length
  · have c1' : ((i : Int) < (l.length : Int)) = True := eq_true (by omega)
    have hs := succ63 c1 hl
    have hidx := FS.idx hd c1 (k := .i64)
    have ht := take_inB (x := x) c1
    rw [hn] at ht
    by_cases c2 : l[i] = x
    · repeat first
       |with_reducible first|apply vA|apply vB|apply vC
       |((with_reducible apply vD); (focus rfl))
       |((with_reducible first|apply vE|apply vF|apply vG|apply vH); simp only [Env.keep, Env.get, Env.ev, List.map, Nat.reduceEqDiff, ↓reduceIte, Then, Out'])
       |((with_reducible first|apply vI|apply vJ|apply vK|apply vL|apply vM|apply vN); (focus (simp (disch := (first|with_reducible assumption|omega|((repeat (first|rw [nP]|rw [nS]))<;>omega)|fail)) only [go_sem, ↓reduceIte, hE, hlen, c1', hidx, c2] <;> rfl)); (first|(with_reducible (first|apply vO|apply vP|apply vQ|apply vR|apply vS|apply vT|apply vU); try simp only [Env.put])|with_reducible refine (?_ : WQ _ _ _ _ _ _)))
       |fail
      refine ⟨.inr trivial, _, (by simp only [resOf, resAll, resOne, Env.get, Nat.reduceEqDiff, ↓reduceIte] <;> rfl), ?_⟩
      have : inB l x = true := by rw [inB_iff]; exact c2 ▸ List.getElem_mem c1
      rw [this]
    · rw [decide_eq_false c2] at ht
      repeat first
       |with_reducible first|apply vA|apply vB|apply vC
       |((with_reducible apply vD); (focus rfl))
       |((with_reducible first|apply vE|apply vF|apply vG|apply vH); simp only [Env.keep, Env.get, Env.ev, List.map, Nat.reduceEqDiff, ↓reduceIte, Then, Out'])
       |((with_reducible first|apply vI|apply vJ|apply vK|apply vL|apply vM|apply vN); (focus (simp (disch := (first|with_reducible assumption|omega|((repeat (first|rw [nP]|rw [nS]))<;>omega)|fail)) only [go_sem, ↓reduceIte, hE, hlen, c1', hidx, c2, hs] <;> rfl)); (first|(with_reducible (first|apply vO|apply vP|apply vQ|apply vR|apply vS|apply vT|apply vU); try simp only [Env.put])|with_reducible refine (?_ : WQ _ _ _ _ _ _)))
       |fail
      exact ⟨l.length - (i + 1), by omega, i + 1, by omega, rfl, by rw [ht]; rfl, (by simp only [Env.get, Nat.reduceEqDiff, ↓reduceIte, hE, and_self])⟩
  · have c1' : ((i : Int) < (l.length : Int)) = False := eq_false (by omega)
    rw [List.take_of_length_le (by omega)] at hn
    repeat first
     |with_reducible first|apply vA|apply vB|apply vC
     |((with_reducible apply vD); (focus rfl))
     |((with_reducible first|apply vE|apply vF|apply vG|apply vH); simp only [Env.keep, Env.get, Env.ev, List.map, Nat.reduceEqDiff, ↓reduceIte, Then, Out'])
     |((with_reducible first|apply vI|apply vJ|apply vK|apply vL|apply vM|apply vN); (focus (simp (disch := (first|with_reducible assumption|omega|((repeat (first|rw [nP]|rw [nS]))<;>omega)|fail)) only [go_sem, ↓reduceIte, hE, hlen, c1'] <;> rfl)); (first|(with_reducible (first|apply vO|apply vP|apply vQ|apply vR|apply vS|apply vT|apply vU); try simp only [Env.put])|with_reducible refine (?_ : WQ _ _ _ _ _ _)))
     |fail
    exact ⟨.inr trivial, _, (by simp only [resOf, resAll, resOne, Env.get, Nat.reduceEqDiff, ↓reduceIte] <;> rfl), by rw [hn]⟩
theorem item_ok {d : D} {t : List Nd} (hT : TreeAt d t) (hR : RightT t) {i : Nat} (hi : i < t.length) : Iso 124 [d, .int .i64 (i : Int)] (.int .i64 (item t i : Int)) := by
  refine iso_of ?_
  have hp := hR.ok.pos
  have h0 := hT.at (z := 0) (by omega) (by omega) (k := .i64)
  have x0 := hT.nd (i := 0) (by omega)
  have z0 : (0 : Int).toNat = 0 := rfl
  rw [z0] at h0
  have o1 := FL.one x0.w
  have o2 := FL.one x0.n
  have o3 := FL.one x0.k
  have hlk := FI.len x0.k
  refine evp_of (vf := vf124) rfl ?_
  simp only [vf124, xq, xg, xm, xmg, xc, xl, xlg, xf, xfg, xw, xa, xk, xi, xig, xo, xr, xrp, xn, List.map, List.getD, List.getElem?_cons_zero, List.getElem?_cons_succ, List.getElem?_nil, Option.getD]
  repeat first
   |with_reducible first|apply vA|apply vB|apply vC
   |((with_reducible apply vD); (focus rfl))
   |((with_reducible first|apply vE|apply vF|apply vG|apply vH); simp only [Env.keep, Env.get, Env.ev, List.map, Nat.reduceEqDiff, ↓reduceIte, Then, Out'])
   |((with_reducible first|apply vI|apply vJ|apply vK|apply vL|apply vM|apply vN); (focus (simp (disch := (first|with_reducible assumption|omega|((repeat (first|rw [nP]|rw [nS]))<;>omega)|fail)) only [go_sem, ↓reduceIte] <;> rfl)); (first|(with_reducible (first|apply vO|apply vP|apply vQ|apply vR|apply vS|apply vT|apply vU); try simp only [Env.put])|with_reducible refine (?_ : WQ _ _ _ _ _ _)))
   |fail
  refine vw_loop_inv (Q := Out' 0 _) (fun n env s => ∃ j out : Nat, j ≤ (nd t 0).kids.length ∧ n = (nd t 0).kids.length - j ∧ item t i = itemF ((nd t 0).kids.drop j) i out ∧ (env.get 0 = d ∧ env.get 1 = .int .i64 (i : Int) ∧ env.get 5 = .int .i64 (out : Int) ∧ env.get 6 = .int .i64 (j : Int))) ?_ (nd t 0).kids.length _ _ ⟨0, 0, by omega, rfl, rfl, by simp [Env.get]⟩
  rintro n env s ⟨j, out, hj, rfl, hw, hE⟩
  by_cases c1 : j < (nd t 0).kids.length
  · have c1' : ((j : Int) < ((nd t 0).kids.length : Int)) = True := eq_true (by omega)
    have hki := FI.idx x0.k c1 (k := .i64)
    have hs := succ63 c1 x0.kl
    have hkr := hR.ok.kids 0 hp _ (List.getElem_mem c1)
    rw [List.drop_eq_getElem_cons c1] at hw
    unfold itemF at hw
    by_cases c2 : (nd t 0).kids[j] ≤ (i : Int)
    · rw [if_pos c2] at hw
      have hk : (((nd t 0).kids[j].toNat : Nat) : Int) = (nd t 0).kids[j] := Int.toNat_of_nonneg (by omega)
      repeat first
       |with_reducible first|apply vA|apply vB|apply vC
       |((with_reducible apply vD); (focus rfl))
       |((with_reducible first|apply vE|apply vF|apply vG|apply vH); simp only [Env.keep, Env.get, Env.ev, List.map, Nat.reduceEqDiff, ↓reduceIte, Then, Out'])
       |((with_reducible first|apply vI|apply vJ|apply vK|apply vL|apply vM|apply vN); (focus (simp (disch := (first|with_reducible assumption|omega|((repeat (first|rw [nP]|rw [nS]))<;>omega)|fail)) only [go_sem, ↓reduceIte, hE, h0, o1, o2, o3, hlk, c1', hki, c2, hs] <;> rfl)); (first|(with_reducible (first|apply vO|apply vP|apply vQ|apply vR|apply vS|apply vT|apply vU); try simp only [Env.put])|with_reducible refine (?_ : WQ _ _ _ _ _ _)))
       |fail
      exact ⟨(nd t 0).kids.length - (j + 1), by omega, j + 1, _, by omega, rfl, hw, by simp only [Env.get, Nat.reduceEqDiff, ↓reduceIte, hE, hk, and_self]⟩
    · rw [if_neg c2] at hw
      repeat first
       |with_reducible first|apply vA|apply vB|apply vC
       |((with_reducible apply vD); (focus rfl))
       |((with_reducible first|apply vE|apply vF|apply vG|apply vH); simp only [Env.keep, Env.get, Env.ev, List.map, Nat.reduceEqDiff, ↓reduceIte, Then, Out'])
       |((with_reducible first|apply vI|apply vJ|apply vK|apply vL|apply vM|apply vN); (focus (simp (disch := (first|with_reducible assumption|omega|((repeat (first|rw [nP]|rw [nS]))<;>omega)|fail)) only [go_sem, ↓reduceIte, hE, h0, o1, o2, o3, hlk, c1', hki, c2, hs] <;> rfl)); (first|(with_reducible (first|apply vO|apply vP|apply vQ|apply vR|apply vS|apply vT|apply vU); try simp only [Env.put])|with_reducible refine (?_ : WQ _ _ _ _ _ _)))
       |fail
      exact ⟨(nd t 0).kids.length - (j + 1), by omega, j + 1, _, by omega, rfl, hw, (by simp only [Env.get, Nat.reduceEqDiff, ↓reduceIte, hE, and_self])⟩
  · have c1' : ((j : Int) < ((nd t 0).kids.length : Int)) = False := eq_false (by omega)
    rw [List.drop_eq_nil_of_le (by omega)] at hw
    repeat first
     |with_reducible first|apply vA|apply vB|apply vC
     |((with_reducible apply vD); (focus rfl))
     |((with_reducible first|apply vE|apply vF|apply vG|apply vH); simp only [Env.keep, Env.get, Env.ev, List.map, Nat.reduceEqDiff, ↓reduceIte, Then, Out'])
     |((with_reducible first|apply vI|apply vJ|apply vK|apply vL|apply vM|apply vN); (focus (simp (disch := (first|with_reducible assumption|omega|((repeat (first|rw [nP]|rw [nS]))<;>omega)|fail)) only [go_sem, ↓reduceIte, hE, h0, o1, o2, o3, hlk, c1'] <;> rfl)); (first|(with_reducible (first|apply vO|apply vP|apply vQ|apply vR|apply vS|apply vT|apply vU); try simp only [Env.put])|with_reducible refine (?_ : WQ _ _ _ _ _ _)))
     |fail
    exact ⟨.inr trivial, _, (by simp only [resOf, resAll, resOne, Env.get, Nat.reduceEqDiff, ↓reduceIte] <;> rfl), by rw [hw]; rfl⟩
theorem names_len (t : List Nd) (at' : Nat) (kind : Int) : ∀ n, (namesF t at' kind n).length ≤ n
  | 0 => Nat.le_refl _
  | n + 1 => by
    have := names_len t at' kind n
    rw [namesF]
    split
    · simp; exact this
    · omega
def IsoS (f : Nat) (l : List D) (x : List ByteArray) : Prop := ∃ s1 r d', Ev vfs f l Store.empty r s1 ∧ V.ice s1.get 20 r = some d' ∧ FS d' x
theorem vq_isoS {pairs i t f args rest s Q} {env : Env} {l : List D} {x : List ByteArray} (hr : IsoS f l x) (hl : env.evL args = l) (ha : mapO (V.ice s.get 20) l = some l) (hp : pureL l = true)
    (h : ∀ d, FS d x → WQ vfs pairs rest ((t, d) :: env) s Q) : WQ vfs pairs ((i, ⟨some t, .m (.call .iso (.cst (.fn f [])) args), none⟩) :: rest) env s Q := by
  obtain ⟨s1, r, d', h1, h2, h3⟩ := hr
  exact vq_iso' hl ha h1 h2 (by rw [hp, Bool.or_true]) (h d' h3)
theorem names_ok {d : D} {t : List Nd} (hT : TreeAt d t) (hR : RightT t) {i : Nat} (hi : i < t.length) {kind : Int} (hk : kind = 1 ∨ kind = 2 ∨ kind = 3) : IsoS 119 [d, .int .i64 (i : Int), .int .i64 kind] (namesF t i kind i) := by
  have main : EvP vfs 119 [d, .int .i64 (i : Int), .int .i64 kind] Store.empty fun r s' => ∃ ids, Sl s' r ((namesF t i kind i).map .str) ids := by
    have hit := item_ok hT hR hi
    have hle := hR.ok.le
    refine evp_of (vf := vf119) rfl ?_
    simp only [vf119, xq, xg, xm, xmg, xc, xl, xlg, xf, xfg, xw, xa, xk, xi, xig, xo, xr, xrp, xn, List.map, List.getD, List.getElem?_cons_zero, List.getElem?_cons_succ, List.getElem?_nil, Option.getD]
    repeat first
     |(apply vq_isoI hit rfl rfl (fz2 hT.fz fz_int))
     |with_reducible first|apply vA|apply vB|apply vC
     |((with_reducible apply vD); (focus rfl))
     |((with_reducible first|apply vE|apply vF|apply vG|apply vH); simp only [Env.keep, Env.get, Env.ev, List.map, Nat.reduceEqDiff, ↓reduceIte, Then, Out'])
     |((with_reducible first|apply vI|apply vJ|apply vK|apply vL|apply vM|apply vN); (focus (simp (disch := (first|with_reducible assumption|omega|((repeat (first|rw [nP]|rw [nS]))<;>omega)|fail)) only [go_sem, ↓reduceIte] <;> rfl)); (first|(with_reducible (first|apply vO|apply vP|apply vQ|apply vR|apply vS|apply vT|apply vU); try simp only [Env.put])|with_reducible refine (?_ : WQ _ _ _ _ _ _)))
     |fail
    refine vw_loop_inv (Q := Out' 0 _) (fun n env s => ∃ (j : Nat) (dn : D) (ids : List Nat), j ≤ i ∧ n = i - j ∧ Sl s dn ((namesF t i kind j).map .str) ids ∧ (env.get 0 = d ∧ env.get 1 = .int .i64 (i : Int) ∧ env.get 2 = .int .i64 kind ∧ env.get 7 = dn ∧ env.get 8 = .int .i64 (item t i : Int) ∧ env.get 9 = .int .i64 (j : Int))) ?_ i _ _ ⟨0, .nils, [], by omega, rfl, .inl ⟨rfl, rfl, rfl⟩, by simp [Env.get]⟩
    rintro n env s ⟨j, dn, ids, hj, rfl, hS, hE⟩
    have hnl := names_len t i kind j
    by_cases c1 : j < i
    · have c1' : ((j : Int) < (i : Int)) = True := eq_true (by omega)
      have hs : IntKind.i64.wrap ((j : Int) + 1) = ((j + 1 : Nat) : Int) := by rw [i64_id (by omega) (by omega)]; omega
      have hidx := hT.at (z := (j : Int)) (by omega) (by omega) (k := .i64)
      rw [Int.toNat_natCast] at hidx
      have hx := hT.nd (i := j) (by omega)
      have o1 := FL.one hx.w
      have o2 := FL.one hx.n
      have o3 := FL.one hx.k
      have hnode := hR.ok.node j (by omega)
      have hitj := item_ok hT hR (i := j) (by omega)
      by_cases c2 : (nd t j).kind = kind
      · have c2' : ((nd t j).kind != kind) = false := by rw [c2]; simp
        have hwl : (nd t j).words.length = 1 := by
          rw [hnode.wl, c2]
          rcases hk with rfl | rfl | rfl <;> rfl
        have hw0 : idxAV 1 (nd t j).dw (.int .i64 0) = some (.fp [.str ((nd t j).word 0)] 0) := by
          rw [word_get (by omega)]; exact FS.idx hx.w (i := 0) (by omega)
        obtain ⟨dn', hi1, hi2⟩ := sl_fs hS
        obtain ⟨s1, hin⟩ := in11_ok (x := (nd t j).word 0) hi2 (by have : maxLen = 9223372036854775807 := rfl; omega)
        obtain ⟨s', d', e1, e2, e3, e4⟩ := hS.push1 (.str ((nd t j).word 0)) (bytes := 16) (by decide) (by rw [List.length_map]; omega)
        have hone := hS.one
        by_cases b1 : item t j = j
        · have c3 : item t j = j ∨ item t j = item t i := .inl b1
          have b1' : (item t j = j) = True := eq_true b1
          cases hr : inB (namesF t i kind j) ((nd t j).word 0)
          · rw [hr] at hin
            repeat first
             |(apply vq_isoI hitj rfl; (focus (simp only [Env.evL, Env.ev, Env.get, Nat.reduceEqDiff, ↓reduceIte, hE])); (focus exact fz2 hT.fz fz_int))
             |(refine vq_isoL (l := [dn, .str ((nd t j).word 0)]) hin rfl ?_ ?_ ?_; (focus (simp only [Env.evL, Env.ev, Env.get, Nat.reduceEqDiff, ↓reduceIte, hE])); (focus (simp only [mapO, hi1]; rfl)))
             |(apply vq_append'; (focus (simp only [Env.ev, Env.get, Nat.reduceEqDiff, ↓reduceIte, hE]; rfl)); (focus rfl); (focus exact e1))
             |with_reducible first|apply vA|apply vB|apply vC
             |((with_reducible apply vD); (focus rfl))
             |((with_reducible first|apply vE|apply vF|apply vG|apply vH); simp only [Env.keep, Env.get, Env.ev, List.map, Nat.reduceEqDiff, ↓reduceIte, Then, Out'])
             |((with_reducible first|apply vI|apply vJ|apply vK|apply vL|apply vM|apply vN); (focus (simp (disch := (first|with_reducible assumption|omega|((repeat (first|rw [nP]|rw [nS]))<;>omega)|fail)) only [go_sem, ↓reduceIte, hE, c1', hidx, o1, o2, o3, c2', b1', hw0, hs, hone] <;> rfl)); (first|(with_reducible (first|apply vO|apply vP|apply vQ|apply vR|apply vS|apply vT|apply vU); try simp only [Env.put])|with_reducible refine (?_ : WQ _ _ _ _ _ _)))
             |fail
            refine ⟨i - (j + 1), by omega, j + 1, d', [s.next + 1], by omega, rfl, ?_, (by simp only [Env.get, Nat.reduceEqDiff, ↓reduceIte, hE, and_self])⟩
            rw [namesF, if_pos ⟨c2, c3, hr⟩, List.map_append]
            exact e2
          · rw [hr] at hin
            repeat first
             |(apply vq_isoI hitj rfl; (focus (simp only [Env.evL, Env.ev, Env.get, Nat.reduceEqDiff, ↓reduceIte, hE])); (focus exact fz2 hT.fz fz_int))
             |(refine vq_isoL (l := [dn, .str ((nd t j).word 0)]) hin rfl ?_ ?_ ?_; (focus (simp only [Env.evL, Env.ev, Env.get, Nat.reduceEqDiff, ↓reduceIte, hE])); (focus (simp only [mapO, hi1]; rfl)))
             |with_reducible first|apply vA|apply vB|apply vC
             |((with_reducible apply vD); (focus rfl))
             |((with_reducible first|apply vE|apply vF|apply vG|apply vH); simp only [Env.keep, Env.get, Env.ev, List.map, Nat.reduceEqDiff, ↓reduceIte, Then, Out'])
             |((with_reducible first|apply vI|apply vJ|apply vK|apply vL|apply vM|apply vN); (focus (simp (disch := (first|with_reducible assumption|omega|((repeat (first|rw [nP]|rw [nS]))<;>omega)|fail)) only [go_sem, ↓reduceIte, hE, c1', hidx, o1, o2, o3, c2', b1', hw0, hs, hone] <;> rfl)); (first|(with_reducible (first|apply vO|apply vP|apply vQ|apply vR|apply vS|apply vT|apply vU); try simp only [Env.put])|with_reducible refine (?_ : WQ _ _ _ _ _ _)))
             |fail
            refine ⟨i - (j + 1), by omega, j + 1, dn, ids, by omega, rfl, ?_, (by simp only [Env.get, Nat.reduceEqDiff, ↓reduceIte, hE, and_self])⟩
            rw [namesF, if_neg (by rw [hr]; simp)]
            exact hS
        · have b1' : (item t j = j) = False := eq_false b1
          by_cases b2 : item t j = item t i
          · have b2' : (item t j = item t i) = True := eq_true b2
            have c3 : item t j = j ∨ item t j = item t i := .inr b2
            cases hr : inB (namesF t i kind j) ((nd t j).word 0)
            · rw [hr] at hin
              repeat first
               |(apply vq_isoI hitj rfl; (focus (simp only [Env.evL, Env.ev, Env.get, Nat.reduceEqDiff, ↓reduceIte, hE])); (focus exact fz2 hT.fz fz_int))
               |(refine vq_isoL (l := [dn, .str ((nd t j).word 0)]) hin rfl ?_ ?_ ?_; (focus (simp only [Env.evL, Env.ev, Env.get, Nat.reduceEqDiff, ↓reduceIte, hE])); (focus (simp only [mapO, hi1]; rfl)))
               |(apply vq_append'; (focus (simp only [Env.ev, Env.get, Nat.reduceEqDiff, ↓reduceIte, hE]; rfl)); (focus rfl); (focus exact e1))
               |with_reducible first|apply vA|apply vB|apply vC
               |((with_reducible apply vD); (focus rfl))
               |((with_reducible first|apply vE|apply vF|apply vG|apply vH); simp only [Env.keep, Env.get, Env.ev, List.map, Nat.reduceEqDiff, ↓reduceIte, Then, Out'])
               |((with_reducible first|apply vI|apply vJ|apply vK|apply vL|apply vM|apply vN); (focus (simp (disch := (first|with_reducible assumption|omega|((repeat (first|rw [nP]|rw [nS]))<;>omega)|fail)) only [go_sem, ↓reduceIte, hE, c1', hidx, o1, o2, o3, c2', b1', b2', hw0, hs, hone] <;> rfl)); (first|(with_reducible (first|apply vO|apply vP|apply vQ|apply vR|apply vS|apply vT|apply vU); try simp only [Env.put])|with_reducible refine (?_ : WQ _ _ _ _ _ _)))
               |fail
              refine ⟨i - (j + 1), by omega, j + 1, d', [s.next + 1], by omega, rfl, ?_, (by simp only [Env.get, Nat.reduceEqDiff, ↓reduceIte, hE, and_self])⟩
              rw [namesF, if_pos ⟨c2, c3, hr⟩, List.map_append]
              exact e2
            · rw [hr] at hin
              repeat first
               |(apply vq_isoI hitj rfl; (focus (simp only [Env.evL, Env.ev, Env.get, Nat.reduceEqDiff, ↓reduceIte, hE])); (focus exact fz2 hT.fz fz_int))
               |(refine vq_isoL (l := [dn, .str ((nd t j).word 0)]) hin rfl ?_ ?_ ?_; (focus (simp only [Env.evL, Env.ev, Env.get, Nat.reduceEqDiff, ↓reduceIte, hE])); (focus (simp only [mapO, hi1]; rfl)))
               |with_reducible first|apply vA|apply vB|apply vC
               |((with_reducible apply vD); (focus rfl))
               |((with_reducible first|apply vE|apply vF|apply vG|apply vH); simp only [Env.keep, Env.get, Env.ev, List.map, Nat.reduceEqDiff, ↓reduceIte, Then, Out'])
               |((with_reducible first|apply vI|apply vJ|apply vK|apply vL|apply vM|apply vN); (focus (simp (disch := (first|with_reducible assumption|omega|((repeat (first|rw [nP]|rw [nS]))<;>omega)|fail)) only [go_sem, ↓reduceIte, hE, c1', hidx, o1, o2, o3, c2', b1', b2', hw0, hs, hone] <;> rfl)); (first|(with_reducible (first|apply vO|apply vP|apply vQ|apply vR|apply vS|apply vT|apply vU); try simp only [Env.put])|with_reducible refine (?_ : WQ _ _ _ _ _ _)))
               |fail
              refine ⟨i - (j + 1), by omega, j + 1, dn, ids, by omega, rfl, ?_, (by simp only [Env.get, Nat.reduceEqDiff, ↓reduceIte, hE, and_self])⟩
              rw [namesF, if_neg (by rw [hr]; simp)]
              exact hS
          · have b2' : (item t j = item t i) = False := eq_false b2
            repeat first
             |(apply vq_isoI hitj rfl; (focus (simp only [Env.evL, Env.ev, Env.get, Nat.reduceEqDiff, ↓reduceIte, hE])); (focus exact fz2 hT.fz fz_int))
             |with_reducible first|apply vA|apply vB|apply vC
             |((with_reducible apply vD); (focus rfl))
             |((with_reducible first|apply vE|apply vF|apply vG|apply vH); simp only [Env.keep, Env.get, Env.ev, List.map, Nat.reduceEqDiff, ↓reduceIte, Then, Out'])
             |((with_reducible first|apply vI|apply vJ|apply vK|apply vL|apply vM|apply vN); (focus (simp (disch := (first|with_reducible assumption|omega|((repeat (first|rw [nP]|rw [nS]))<;>omega)|fail)) only [go_sem, ↓reduceIte, hE, c1', hidx, o1, o2, o3, c2', b1', b2', hs] <;> rfl)); (first|(with_reducible (first|apply vO|apply vP|apply vQ|apply vR|apply vS|apply vT|apply vU); try simp only [Env.put])|with_reducible refine (?_ : WQ _ _ _ _ _ _)))
             |fail
            refine ⟨i - (j + 1), by omega, j + 1, dn, ids, by omega, rfl, ?_, (by simp only [Env.get, Nat.reduceEqDiff, ↓reduceIte, hE, and_self])⟩
            rw [namesF, if_neg fun h => by rcases h.2.1 with h | h; exact b1 h; exact b2 h]
            exact hS
      · have c2' : ((nd t j).kind != kind) = true := by rw [bne_iff_ne]; exact c2
        repeat first
         |with_reducible first|apply vA|apply vB|apply vC
         |((with_reducible apply vD); (focus rfl))
         |((with_reducible first|apply vE|apply vF|apply vG|apply vH); simp only [Env.keep, Env.get, Env.ev, List.map, Nat.reduceEqDiff, ↓reduceIte, Then, Out'])
         |((with_reducible first|apply vI|apply vJ|apply vK|apply vL|apply vM|apply vN); (focus (simp (disch := (first|with_reducible assumption|omega|((repeat (first|rw [nP]|rw [nS]))<;>omega)|fail)) only [go_sem, ↓reduceIte, hE, c1', hidx, o1, o2, o3, c2', hs] <;> rfl)); (first|(with_reducible (first|apply vO|apply vP|apply vQ|apply vR|apply vS|apply vT|apply vU); try simp only [Env.put])|with_reducible refine (?_ : WQ _ _ _ _ _ _)))
         |fail
        refine ⟨i - (j + 1), by omega, j + 1, dn, ids, by omega, rfl, ?_, (by simp only [Env.get, Nat.reduceEqDiff, ↓reduceIte, hE, and_self])⟩
        rw [namesF, if_neg fun h => c2 h.1]
        exact hS
    · have c1' : ((j : Int) < (i : Int)) = False := eq_false (by omega)
      obtain rfl : j = i := by omega
      repeat first
       |with_reducible first|apply vA|apply vB|apply vC
       |((with_reducible apply vD); (focus rfl))
       |((with_reducible first|apply vE|apply vF|apply vG|apply vH); simp only [Env.keep, Env.get, Env.ev, List.map, Nat.reduceEqDiff, ↓reduceIte, Then, Out'])
       |((with_reducible first|apply vI|apply vJ|apply vK|apply vL|apply vM|apply vN); (focus (simp (disch := (first|with_reducible assumption|omega|((repeat (first|rw [nP]|rw [nS]))<;>omega)|fail)) only [go_sem, ↓reduceIte, hE, c1'] <;> rfl)); (first|(with_reducible (first|apply vO|apply vP|apply vQ|apply vR|apply vS|apply vT|apply vU); try simp only [Env.put])|with_reducible refine (?_ : WQ _ _ _ _ _ _)))
       |fail
      exact ⟨.inr trivial, _, (by simp only [resOf, resAll, resOne, Env.get, Nat.reduceEqDiff, ↓reduceIte] <;> rfl), ids, hS⟩
  obtain ⟨r, s', h, ids, hS⟩ := main
  obtain ⟨d', h1, h2⟩ := sl_fs hS
  exact ⟨s', r, d', h, h1, h2⟩
end Go.Proofs.Ytlaeblilmppodaa
namespace Go.Proofs.Ytlaeblilmppodaa
open Go.V
set_option maxRecDepth 100000
set_option maxHeartbeats 4000000
set_option linter.unusedSimpArgs false
set_option linter.unusedVariables false
structure GoodAt (t : List Nd) (i : Nat) : Prop where
  use : (nd t i).kind = 6 ∨ (nd t i).kind = 18 → Seen t 2 i ((nd t i).word 0)
  chan : (nd t i).kind = 7 ∨ (nd t i).kind = 19 ∨ (nd t i).kind = 8 → Seen t 1 i ((nd t i).word 0)
  recv : (nd t i).kind = 8 → Seen t 2 i ((nd t i).word 1)
  once : (nd t i).kind = 1 ∨ (nd t i).kind = 2 ∨ (nd t i).kind = 3 → ¬ Seen t 1 i ((nd t i).word 0) ∧ ¬ Seen t 2 i ((nd t i).word 0) ∧ ¬ Seen t 3 i ((nd t i).word 0)
theorem seen_in {t : List Nd} {i : Nat} {k : Int} {s : ByteArray} : inB (namesF t i k i) s = true ↔ Seen t k i s := by rw [inB_iff, mem_names]; rfl
theorem seen_no {t : List Nd} {i : Nat} {k : Int} {s : ByteArray} : inB (namesF t i k i) s = false ↔ ¬ Seen t k i s := by rw [← seen_in]; simp
theorem names_le {t : List Nd} (hR : RightT t) {i : Nat} {k : Int} (hi : i < t.length) : (namesF t i k i).length ≤ maxLen := by
  have h1 := names_len t i k i
  have h2 := hR.ok.le
  have : maxLen = 9223372036854775807 := rfl
  omega
theorem bad_1 {d : D} {t : List Nd} (hT : TreeAt d t) (hR : RightT t) {i : Nat} (hi : i < t.length) (hK : (nd t i).kind = 1) : IsoB 103 [d, .int .i64 (i : Int)] fun b => b = false → GoodAt t i := by
  refine isoB_of ?_
  have hidx := hT.at (z := (i : Int)) (by omega) (by omega) (k := .i64)
  rw [Int.toNat_natCast] at hidx
  have hx := hT.nd hi
  have hnode := hR.ok.node i hi
  have o1 := FL.one hx.w
  have o2 := FL.one hx.n
  have o3 := FL.one hx.k
  have hpu : ∀ n m : Int, pureL [d, .int .i64 n, .int .i64 m] = true := fun n m => by simp [pureL, pureD, hT.fl.pure]
  have hwl : (nd t i).words.length = 1 := by rw [hnode.wl, hK]; rfl
  have w0 : idxAV 1 (nd t i).dw (.int .i64 0) = some (.fp [.str ((nd t i).word 0)] 0) := by
    rw [word_get (by omega)]; exact FS.idx hx.w (i := 0) (by omega)
  rw [hK] at hidx
  refine evp_of (vf := vf103) rfl ?_
  simp only [vf103, xq, xg, xm, xmg, xc, xl, xlg, xf, xfg, xw, xa, xk, xi, xig, xo, xr, xrp, xn, List.map, List.getD, List.getElem?_cons_zero, List.getElem?_cons_succ, List.getElem?_nil, Option.getD]
  repeat first
   |with_reducible first|apply vA|apply vB|apply vC
   |((with_reducible apply vD); (focus rfl))
   |((with_reducible first|apply vE|apply vF|apply vG|apply vH); simp only [Env.keep, Env.get, Env.ev, List.map, Nat.reduceEqDiff, ↓reduceIte, Then, Out'])
   |((with_reducible first|apply vI|apply vJ|apply vK|apply vL|apply vM|apply vN); (focus (simp (disch := (first|with_reducible assumption|omega|((repeat (first|rw [nP]|rw [nS]))<;>omega)|fail)) only [go_sem, ↓reduceIte, hidx, o1, o2, o3] <;> rfl)); (first|(with_reducible (first|apply vO|apply vP|apply vQ|apply vR|apply vS|apply vT|apply vU); try simp only [Env.put])|with_reducible refine (?_ : WQ _ _ _ _ _ _)))
   |fail
  refine vq_isoS (names_ok hT hR hi (.inl rfl)) rfl (fz3 hT.fz fz_int fz_int) (hpu _ _) ?_
  intro dc hdc
  repeat first
   |with_reducible first|apply vA|apply vB|apply vC
   |((with_reducible apply vD); (focus rfl))
   |((with_reducible first|apply vE|apply vF|apply vG|apply vH); simp only [Env.keep, Env.get, Env.ev, List.map, Nat.reduceEqDiff, ↓reduceIte, Then, Out'])
   |((with_reducible first|apply vI|apply vJ|apply vK|apply vL|apply vM|apply vN); (focus (simp (disch := (first|with_reducible assumption|omega|((repeat (first|rw [nP]|rw [nS]))<;>omega)|fail)) only [go_sem, ↓reduceIte] <;> rfl)); (first|(with_reducible (first|apply vO|apply vP|apply vQ|apply vR|apply vS|apply vT|apply vU); try simp only [Env.put])|with_reducible refine (?_ : WQ _ _ _ _ _ _)))
   |fail
  refine vq_isoS (names_ok hT hR hi (.inr (.inl rfl))) rfl (fz3 hT.fz fz_int fz_int) (hpu _ _) ?_
  intro dv hdv
  repeat first
   |with_reducible first|apply vA|apply vB|apply vC
   |((with_reducible apply vD); (focus rfl))
   |((with_reducible first|apply vE|apply vF|apply vG|apply vH); simp only [Env.keep, Env.get, Env.ev, List.map, Nat.reduceEqDiff, ↓reduceIte, Then, Out'])
   |((with_reducible first|apply vI|apply vJ|apply vK|apply vL|apply vM|apply vN); (focus (simp (disch := (first|with_reducible assumption|omega|((repeat (first|rw [nP]|rw [nS]))<;>omega)|fail)) only [go_sem, ↓reduceIte] <;> rfl)); (first|(with_reducible (first|apply vO|apply vP|apply vQ|apply vR|apply vS|apply vT|apply vU); try simp only [Env.put])|with_reducible refine (?_ : WQ _ _ _ _ _ _)))
   |fail
  refine vq_isoS (names_ok hT hR hi (.inr (.inr rfl))) rfl (fz3 hT.fz fz_int fz_int) (hpu _ _) ?_
  intro dp hdp
  have fc := FL.fz hdc
  have fv := FL.fz hdv
  have fp := FL.fz hdp
  have hc := in11_ok (x := (nd t i).word 0) hdc (names_le hR hi)
  have hv := in11_ok (x := (nd t i).word 0) hdv (names_le hR hi)
  have hp := in11_ok (x := (nd t i).word 0) hdp (names_le hR hi)
  cases r1 : inB (namesF t i 1 i) ((nd t i).word 0)
  · rw [r1] at hc
    cases r2 : inB (namesF t i 2 i) ((nd t i).word 0)
    · rw [r2] at hv
      repeat first
       |(apply vq_isoI hc rfl rfl (fz2 fc fz_str))
       |(apply vq_isoI hv rfl rfl (fz2 fv fz_str))
       |(apply vq_isoI hp rfl rfl (fz2 fp fz_str))
       |with_reducible first|apply vA|apply vB|apply vC
       |((with_reducible apply vD); (focus rfl))
       |((with_reducible first|apply vE|apply vF|apply vG|apply vH); simp only [Env.keep, Env.get, Env.ev, List.map, Nat.reduceEqDiff, ↓reduceIte, Then, Out'])
       |((with_reducible first|apply vI|apply vJ|apply vK|apply vL|apply vM|apply vN); (focus (simp (disch := (first|with_reducible assumption|omega|((repeat (first|rw [nP]|rw [nS]))<;>omega)|fail)) only [go_sem, ↓reduceIte, o1, o2, o3, w0] <;> rfl)); (first|(with_reducible (first|apply vO|apply vP|apply vQ|apply vR|apply vS|apply vT|apply vU); try simp only [Env.put])|with_reducible refine (?_ : WQ _ _ _ _ _ _)))
       |fail
      exact ⟨.inr trivial, _, (by simp only [resOf, resAll, resOne, Env.get, Nat.reduceEqDiff, ↓reduceIte] <;> rfl), _, rfl, fun h => ⟨fun e => by omega, fun e => by omega, fun e => by omega, fun _ => ⟨seen_no.1 r1, seen_no.1 r2, seen_no.1 h⟩⟩⟩
    · rw [r2] at hv
      repeat first
       |(apply vq_isoI hc rfl rfl (fz2 fc fz_str))
       |(apply vq_isoI hv rfl rfl (fz2 fv fz_str))
       |(apply vq_isoI hp rfl rfl (fz2 fp fz_str))
       |with_reducible first|apply vA|apply vB|apply vC
       |((with_reducible apply vD); (focus rfl))
       |((with_reducible first|apply vE|apply vF|apply vG|apply vH); simp only [Env.keep, Env.get, Env.ev, List.map, Nat.reduceEqDiff, ↓reduceIte, Then, Out'])
       |((with_reducible first|apply vI|apply vJ|apply vK|apply vL|apply vM|apply vN); (focus (simp (disch := (first|with_reducible assumption|omega|((repeat (first|rw [nP]|rw [nS]))<;>omega)|fail)) only [go_sem, ↓reduceIte, o1, o2, o3, w0] <;> rfl)); (first|(with_reducible (first|apply vO|apply vP|apply vQ|apply vR|apply vS|apply vT|apply vU); try simp only [Env.put])|with_reducible refine (?_ : WQ _ _ _ _ _ _)))
       |fail
      exact ⟨.inr trivial, _, (by simp only [resOf, resAll, resOne, Env.get, Nat.reduceEqDiff, ↓reduceIte] <;> rfl), _, rfl, by simp⟩
  · rw [r1] at hc
    repeat first
     |(apply vq_isoI hc rfl rfl (fz2 fc fz_str))
     |(apply vq_isoI hv rfl rfl (fz2 fv fz_str))
     |(apply vq_isoI hp rfl rfl (fz2 fp fz_str))
     |with_reducible first|apply vA|apply vB|apply vC
     |((with_reducible apply vD); (focus rfl))
     |((with_reducible first|apply vE|apply vF|apply vG|apply vH); simp only [Env.keep, Env.get, Env.ev, List.map, Nat.reduceEqDiff, ↓reduceIte, Then, Out'])
     |((with_reducible first|apply vI|apply vJ|apply vK|apply vL|apply vM|apply vN); (focus (simp (disch := (first|with_reducible assumption|omega|((repeat (first|rw [nP]|rw [nS]))<;>omega)|fail)) only [go_sem, ↓reduceIte, o1, o2, o3, w0] <;> rfl)); (first|(with_reducible (first|apply vO|apply vP|apply vQ|apply vR|apply vS|apply vT|apply vU); try simp only [Env.put])|with_reducible refine (?_ : WQ _ _ _ _ _ _)))
     |fail
    exact ⟨.inr trivial, _, (by simp only [resOf, resAll, resOne, Env.get, Nat.reduceEqDiff, ↓reduceIte] <;> rfl), _, rfl, by simp⟩
theorem bad_2 {d : D} {t : List Nd} (hT : TreeAt d t) (hR : RightT t) {i : Nat} (hi : i < t.length) (hK : (nd t i).kind = 2) : IsoB 103 [d, .int .i64 (i : Int)] fun b => b = false → GoodAt t i := by
  refine isoB_of ?_
  have hidx := hT.at (z := (i : Int)) (by omega) (by omega) (k := .i64)
  rw [Int.toNat_natCast] at hidx
  have hx := hT.nd hi
  have hnode := hR.ok.node i hi
  have o1 := FL.one hx.w
  have o2 := FL.one hx.n
  have o3 := FL.one hx.k
  have hpu : ∀ n m : Int, pureL [d, .int .i64 n, .int .i64 m] = true := fun n m => by simp [pureL, pureD, hT.fl.pure]
  have hwl : (nd t i).words.length = 1 := by rw [hnode.wl, hK]; rfl
  have w0 : idxAV 1 (nd t i).dw (.int .i64 0) = some (.fp [.str ((nd t i).word 0)] 0) := by
    rw [word_get (by omega)]; exact FS.idx hx.w (i := 0) (by omega)
  rw [hK] at hidx
  refine evp_of (vf := vf103) rfl ?_
  simp only [vf103, xq, xg, xm, xmg, xc, xl, xlg, xf, xfg, xw, xa, xk, xi, xig, xo, xr, xrp, xn, List.map, List.getD, List.getElem?_cons_zero, List.getElem?_cons_succ, List.getElem?_nil, Option.getD]
  repeat first
   |with_reducible first|apply vA|apply vB|apply vC
   |((with_reducible apply vD); (focus rfl))
   |((with_reducible first|apply vE|apply vF|apply vG|apply vH); simp only [Env.keep, Env.get, Env.ev, List.map, Nat.reduceEqDiff, ↓reduceIte, Then, Out'])
   |((with_reducible first|apply vI|apply vJ|apply vK|apply vL|apply vM|apply vN); (focus (simp (disch := (first|with_reducible assumption|omega|((repeat (first|rw [nP]|rw [nS]))<;>omega)|fail)) only [go_sem, ↓reduceIte, hidx, o1, o2, o3] <;> rfl)); (first|(with_reducible (first|apply vO|apply vP|apply vQ|apply vR|apply vS|apply vT|apply vU); try simp only [Env.put])|with_reducible refine (?_ : WQ _ _ _ _ _ _)))
   |fail
  refine vq_isoS (names_ok hT hR hi (.inl rfl)) rfl (fz3 hT.fz fz_int fz_int) (hpu _ _) ?_
  intro dc hdc
  repeat first
   |with_reducible first|apply vA|apply vB|apply vC
   |((with_reducible apply vD); (focus rfl))
   |((with_reducible first|apply vE|apply vF|apply vG|apply vH); simp only [Env.keep, Env.get, Env.ev, List.map, Nat.reduceEqDiff, ↓reduceIte, Then, Out'])
   |((with_reducible first|apply vI|apply vJ|apply vK|apply vL|apply vM|apply vN); (focus (simp (disch := (first|with_reducible assumption|omega|((repeat (first|rw [nP]|rw [nS]))<;>omega)|fail)) only [go_sem, ↓reduceIte] <;> rfl)); (first|(with_reducible (first|apply vO|apply vP|apply vQ|apply vR|apply vS|apply vT|apply vU); try simp only [Env.put])|with_reducible refine (?_ : WQ _ _ _ _ _ _)))
   |fail
  refine vq_isoS (names_ok hT hR hi (.inr (.inl rfl))) rfl (fz3 hT.fz fz_int fz_int) (hpu _ _) ?_
  intro dv hdv
  repeat first
   |with_reducible first|apply vA|apply vB|apply vC
   |((with_reducible apply vD); (focus rfl))
   |((with_reducible first|apply vE|apply vF|apply vG|apply vH); simp only [Env.keep, Env.get, Env.ev, List.map, Nat.reduceEqDiff, ↓reduceIte, Then, Out'])
   |((with_reducible first|apply vI|apply vJ|apply vK|apply vL|apply vM|apply vN); (focus (simp (disch := (first|with_reducible assumption|omega|((repeat (first|rw [nP]|rw [nS]))<;>omega)|fail)) only [go_sem, ↓reduceIte] <;> rfl)); (first|(with_reducible (first|apply vO|apply vP|apply vQ|apply vR|apply vS|apply vT|apply vU); try simp only [Env.put])|with_reducible refine (?_ : WQ _ _ _ _ _ _)))
   |fail
  refine vq_isoS (names_ok hT hR hi (.inr (.inr rfl))) rfl (fz3 hT.fz fz_int fz_int) (hpu _ _) ?_
  intro dp hdp
  have fc := FL.fz hdc
  have fv := FL.fz hdv
  have fp := FL.fz hdp
  have hc := in11_ok (x := (nd t i).word 0) hdc (names_le hR hi)
  have hv := in11_ok (x := (nd t i).word 0) hdv (names_le hR hi)
  have hp := in11_ok (x := (nd t i).word 0) hdp (names_le hR hi)
  cases r1 : inB (namesF t i 1 i) ((nd t i).word 0)
  · rw [r1] at hc
    cases r2 : inB (namesF t i 2 i) ((nd t i).word 0)
    · rw [r2] at hv
      repeat first
       |(apply vq_isoI hc rfl rfl (fz2 fc fz_str))
       |(apply vq_isoI hv rfl rfl (fz2 fv fz_str))
       |(apply vq_isoI hp rfl rfl (fz2 fp fz_str))
       |with_reducible first|apply vA|apply vB|apply vC
       |((with_reducible apply vD); (focus rfl))
       |((with_reducible first|apply vE|apply vF|apply vG|apply vH); simp only [Env.keep, Env.get, Env.ev, List.map, Nat.reduceEqDiff, ↓reduceIte, Then, Out'])
       |((with_reducible first|apply vI|apply vJ|apply vK|apply vL|apply vM|apply vN); (focus (simp (disch := (first|with_reducible assumption|omega|((repeat (first|rw [nP]|rw [nS]))<;>omega)|fail)) only [go_sem, ↓reduceIte, o1, o2, o3, w0] <;> rfl)); (first|(with_reducible (first|apply vO|apply vP|apply vQ|apply vR|apply vS|apply vT|apply vU); try simp only [Env.put])|with_reducible refine (?_ : WQ _ _ _ _ _ _)))
       |fail
      exact ⟨.inr trivial, _, (by simp only [resOf, resAll, resOne, Env.get, Nat.reduceEqDiff, ↓reduceIte] <;> rfl), _, rfl, fun h => ⟨fun e => by omega, fun e => by omega, fun e => by omega, fun _ => ⟨seen_no.1 r1, seen_no.1 r2, seen_no.1 h⟩⟩⟩
    · rw [r2] at hv
      repeat first
       |(apply vq_isoI hc rfl rfl (fz2 fc fz_str))
       |(apply vq_isoI hv rfl rfl (fz2 fv fz_str))
       |(apply vq_isoI hp rfl rfl (fz2 fp fz_str))
       |with_reducible first|apply vA|apply vB|apply vC
       |((with_reducible apply vD); (focus rfl))
       |((with_reducible first|apply vE|apply vF|apply vG|apply vH); simp only [Env.keep, Env.get, Env.ev, List.map, Nat.reduceEqDiff, ↓reduceIte, Then, Out'])
       |((with_reducible first|apply vI|apply vJ|apply vK|apply vL|apply vM|apply vN); (focus (simp (disch := (first|with_reducible assumption|omega|((repeat (first|rw [nP]|rw [nS]))<;>omega)|fail)) only [go_sem, ↓reduceIte, o1, o2, o3, w0] <;> rfl)); (first|(with_reducible (first|apply vO|apply vP|apply vQ|apply vR|apply vS|apply vT|apply vU); try simp only [Env.put])|with_reducible refine (?_ : WQ _ _ _ _ _ _)))
       |fail
      exact ⟨.inr trivial, _, (by simp only [resOf, resAll, resOne, Env.get, Nat.reduceEqDiff, ↓reduceIte] <;> rfl), _, rfl, by simp⟩
  · rw [r1] at hc
    repeat first
     |(apply vq_isoI hc rfl rfl (fz2 fc fz_str))
     |(apply vq_isoI hv rfl rfl (fz2 fv fz_str))
     |(apply vq_isoI hp rfl rfl (fz2 fp fz_str))
     |with_reducible first|apply vA|apply vB|apply vC
     |((with_reducible apply vD); (focus rfl))
     |((with_reducible first|apply vE|apply vF|apply vG|apply vH); simp only [Env.keep, Env.get, Env.ev, List.map, Nat.reduceEqDiff, ↓reduceIte, Then, Out'])
     |((with_reducible first|apply vI|apply vJ|apply vK|apply vL|apply vM|apply vN); (focus (simp (disch := (first|with_reducible assumption|omega|((repeat (first|rw [nP]|rw [nS]))<;>omega)|fail)) only [go_sem, ↓reduceIte, o1, o2, o3, w0] <;> rfl)); (first|(with_reducible (first|apply vO|apply vP|apply vQ|apply vR|apply vS|apply vT|apply vU); try simp only [Env.put])|with_reducible refine (?_ : WQ _ _ _ _ _ _)))
     |fail
    exact ⟨.inr trivial, _, (by simp only [resOf, resAll, resOne, Env.get, Nat.reduceEqDiff, ↓reduceIte] <;> rfl), _, rfl, by simp⟩
theorem bad_3 {d : D} {t : List Nd} (hT : TreeAt d t) (hR : RightT t) {i : Nat} (hi : i < t.length) (hK : (nd t i).kind = 3) : IsoB 103 [d, .int .i64 (i : Int)] fun b => b = false → GoodAt t i := by
  refine isoB_of ?_
  have hidx := hT.at (z := (i : Int)) (by omega) (by omega) (k := .i64)
  rw [Int.toNat_natCast] at hidx
  have hx := hT.nd hi
  have hnode := hR.ok.node i hi
  have o1 := FL.one hx.w
  have o2 := FL.one hx.n
  have o3 := FL.one hx.k
  have hpu : ∀ n m : Int, pureL [d, .int .i64 n, .int .i64 m] = true := fun n m => by simp [pureL, pureD, hT.fl.pure]
  have hwl : (nd t i).words.length = 1 := by rw [hnode.wl, hK]; rfl
  have w0 : idxAV 1 (nd t i).dw (.int .i64 0) = some (.fp [.str ((nd t i).word 0)] 0) := by
    rw [word_get (by omega)]; exact FS.idx hx.w (i := 0) (by omega)
  rw [hK] at hidx
  refine evp_of (vf := vf103) rfl ?_
  simp only [vf103, xq, xg, xm, xmg, xc, xl, xlg, xf, xfg, xw, xa, xk, xi, xig, xo, xr, xrp, xn, List.map, List.getD, List.getElem?_cons_zero, List.getElem?_cons_succ, List.getElem?_nil, Option.getD]
  repeat first
   |with_reducible first|apply vA|apply vB|apply vC
   |((with_reducible apply vD); (focus rfl))
   |((with_reducible first|apply vE|apply vF|apply vG|apply vH); simp only [Env.keep, Env.get, Env.ev, List.map, Nat.reduceEqDiff, ↓reduceIte, Then, Out'])
   |((with_reducible first|apply vI|apply vJ|apply vK|apply vL|apply vM|apply vN); (focus (simp (disch := (first|with_reducible assumption|omega|((repeat (first|rw [nP]|rw [nS]))<;>omega)|fail)) only [go_sem, ↓reduceIte, hidx, o1, o2, o3] <;> rfl)); (first|(with_reducible (first|apply vO|apply vP|apply vQ|apply vR|apply vS|apply vT|apply vU); try simp only [Env.put])|with_reducible refine (?_ : WQ _ _ _ _ _ _)))
   |fail
  refine vq_isoS (names_ok hT hR hi (.inl rfl)) rfl (fz3 hT.fz fz_int fz_int) (hpu _ _) ?_
  intro dc hdc
  repeat first
   |with_reducible first|apply vA|apply vB|apply vC
   |((with_reducible apply vD); (focus rfl))
   |((with_reducible first|apply vE|apply vF|apply vG|apply vH); simp only [Env.keep, Env.get, Env.ev, List.map, Nat.reduceEqDiff, ↓reduceIte, Then, Out'])
   |((with_reducible first|apply vI|apply vJ|apply vK|apply vL|apply vM|apply vN); (focus (simp (disch := (first|with_reducible assumption|omega|((repeat (first|rw [nP]|rw [nS]))<;>omega)|fail)) only [go_sem, ↓reduceIte] <;> rfl)); (first|(with_reducible (first|apply vO|apply vP|apply vQ|apply vR|apply vS|apply vT|apply vU); try simp only [Env.put])|with_reducible refine (?_ : WQ _ _ _ _ _ _)))
   |fail
  refine vq_isoS (names_ok hT hR hi (.inr (.inl rfl))) rfl (fz3 hT.fz fz_int fz_int) (hpu _ _) ?_
  intro dv hdv
  repeat first
   |with_reducible first|apply vA|apply vB|apply vC
   |((with_reducible apply vD); (focus rfl))
   |((with_reducible first|apply vE|apply vF|apply vG|apply vH); simp only [Env.keep, Env.get, Env.ev, List.map, Nat.reduceEqDiff, ↓reduceIte, Then, Out'])
   |((with_reducible first|apply vI|apply vJ|apply vK|apply vL|apply vM|apply vN); (focus (simp (disch := (first|with_reducible assumption|omega|((repeat (first|rw [nP]|rw [nS]))<;>omega)|fail)) only [go_sem, ↓reduceIte] <;> rfl)); (first|(with_reducible (first|apply vO|apply vP|apply vQ|apply vR|apply vS|apply vT|apply vU); try simp only [Env.put])|with_reducible refine (?_ : WQ _ _ _ _ _ _)))
   |fail
  refine vq_isoS (names_ok hT hR hi (.inr (.inr rfl))) rfl (fz3 hT.fz fz_int fz_int) (hpu _ _) ?_
  intro dp hdp
  have fc := FL.fz hdc
  have fv := FL.fz hdv
  have fp := FL.fz hdp
  have hc := in11_ok (x := (nd t i).word 0) hdc (names_le hR hi)
  have hv := in11_ok (x := (nd t i).word 0) hdv (names_le hR hi)
  have hp := in11_ok (x := (nd t i).word 0) hdp (names_le hR hi)
  cases r1 : inB (namesF t i 1 i) ((nd t i).word 0)
  · rw [r1] at hc
    cases r2 : inB (namesF t i 2 i) ((nd t i).word 0)
    · rw [r2] at hv
      repeat first
       |(apply vq_isoI hc rfl rfl (fz2 fc fz_str))
       |(apply vq_isoI hv rfl rfl (fz2 fv fz_str))
       |(apply vq_isoI hp rfl rfl (fz2 fp fz_str))
       |with_reducible first|apply vA|apply vB|apply vC
       |((with_reducible apply vD); (focus rfl))
       |((with_reducible first|apply vE|apply vF|apply vG|apply vH); simp only [Env.keep, Env.get, Env.ev, List.map, Nat.reduceEqDiff, ↓reduceIte, Then, Out'])
       |((with_reducible first|apply vI|apply vJ|apply vK|apply vL|apply vM|apply vN); (focus (simp (disch := (first|with_reducible assumption|omega|((repeat (first|rw [nP]|rw [nS]))<;>omega)|fail)) only [go_sem, ↓reduceIte, o1, o2, o3, w0] <;> rfl)); (first|(with_reducible (first|apply vO|apply vP|apply vQ|apply vR|apply vS|apply vT|apply vU); try simp only [Env.put])|with_reducible refine (?_ : WQ _ _ _ _ _ _)))
       |fail
      exact ⟨.inr trivial, _, (by simp only [resOf, resAll, resOne, Env.get, Nat.reduceEqDiff, ↓reduceIte] <;> rfl), _, rfl, fun h => ⟨fun e => by omega, fun e => by omega, fun e => by omega, fun _ => ⟨seen_no.1 r1, seen_no.1 r2, seen_no.1 h⟩⟩⟩
    · rw [r2] at hv
      repeat first
       |(apply vq_isoI hc rfl rfl (fz2 fc fz_str))
       |(apply vq_isoI hv rfl rfl (fz2 fv fz_str))
       |(apply vq_isoI hp rfl rfl (fz2 fp fz_str))
       |with_reducible first|apply vA|apply vB|apply vC
       |((with_reducible apply vD); (focus rfl))
       |((with_reducible first|apply vE|apply vF|apply vG|apply vH); simp only [Env.keep, Env.get, Env.ev, List.map, Nat.reduceEqDiff, ↓reduceIte, Then, Out'])
       |((with_reducible first|apply vI|apply vJ|apply vK|apply vL|apply vM|apply vN); (focus (simp (disch := (first|with_reducible assumption|omega|((repeat (first|rw [nP]|rw [nS]))<;>omega)|fail)) only [go_sem, ↓reduceIte, o1, o2, o3, w0] <;> rfl)); (first|(with_reducible (first|apply vO|apply vP|apply vQ|apply vR|apply vS|apply vT|apply vU); try simp only [Env.put])|with_reducible refine (?_ : WQ _ _ _ _ _ _)))
       |fail
      exact ⟨.inr trivial, _, (by simp only [resOf, resAll, resOne, Env.get, Nat.reduceEqDiff, ↓reduceIte] <;> rfl), _, rfl, by simp⟩
  · rw [r1] at hc
    repeat first
     |(apply vq_isoI hc rfl rfl (fz2 fc fz_str))
     |(apply vq_isoI hv rfl rfl (fz2 fv fz_str))
     |(apply vq_isoI hp rfl rfl (fz2 fp fz_str))
     |with_reducible first|apply vA|apply vB|apply vC
     |((with_reducible apply vD); (focus rfl))
     |((with_reducible first|apply vE|apply vF|apply vG|apply vH); simp only [Env.keep, Env.get, Env.ev, List.map, Nat.reduceEqDiff, ↓reduceIte, Then, Out'])
     |((with_reducible first|apply vI|apply vJ|apply vK|apply vL|apply vM|apply vN); (focus (simp (disch := (first|with_reducible assumption|omega|((repeat (first|rw [nP]|rw [nS]))<;>omega)|fail)) only [go_sem, ↓reduceIte, o1, o2, o3, w0] <;> rfl)); (first|(with_reducible (first|apply vO|apply vP|apply vQ|apply vR|apply vS|apply vT|apply vU); try simp only [Env.put])|with_reducible refine (?_ : WQ _ _ _ _ _ _)))
     |fail
    exact ⟨.inr trivial, _, (by simp only [resOf, resAll, resOne, Env.get, Nat.reduceEqDiff, ↓reduceIte] <;> rfl), _, rfl, by simp⟩
theorem bad_6 {d : D} {t : List Nd} (hT : TreeAt d t) (hR : RightT t) {i : Nat} (hi : i < t.length) (hK : (nd t i).kind = 6) : IsoB 103 [d, .int .i64 (i : Int)] fun b => b = false → GoodAt t i := by
  refine isoB_of ?_
  have hidx := hT.at (z := (i : Int)) (by omega) (by omega) (k := .i64)
  rw [Int.toNat_natCast] at hidx
  have hx := hT.nd hi
  have hnode := hR.ok.node i hi
  have o1 := FL.one hx.w
  have o2 := FL.one hx.n
  have o3 := FL.one hx.k
  have hpu : ∀ n m : Int, pureL [d, .int .i64 n, .int .i64 m] = true := fun n m => by simp [pureL, pureD, hT.fl.pure]
  have hwl : (nd t i).words.length = 1 := by rw [hnode.wl, hK]; rfl
  have w0 : idxAV 1 (nd t i).dw (.int .i64 0) = some (.fp [.str ((nd t i).word 0)] 0) := by
    rw [word_get (by omega)]; exact FS.idx hx.w (i := 0) (by omega)
  rw [hK] at hidx
  refine evp_of (vf := vf103) rfl ?_
  simp only [vf103, xq, xg, xm, xmg, xc, xl, xlg, xf, xfg, xw, xa, xk, xi, xig, xo, xr, xrp, xn, List.map, List.getD, List.getElem?_cons_zero, List.getElem?_cons_succ, List.getElem?_nil, Option.getD]
  repeat first
   |with_reducible first|apply vA|apply vB|apply vC
   |((with_reducible apply vD); (focus rfl))
   |((with_reducible first|apply vE|apply vF|apply vG|apply vH); simp only [Env.keep, Env.get, Env.ev, List.map, Nat.reduceEqDiff, ↓reduceIte, Then, Out'])
   |((with_reducible first|apply vI|apply vJ|apply vK|apply vL|apply vM|apply vN); (focus (simp (disch := (first|with_reducible assumption|omega|((repeat (first|rw [nP]|rw [nS]))<;>omega)|fail)) only [go_sem, ↓reduceIte, hidx, o1, o2, o3] <;> rfl)); (first|(with_reducible (first|apply vO|apply vP|apply vQ|apply vR|apply vS|apply vT|apply vU); try simp only [Env.put])|with_reducible refine (?_ : WQ _ _ _ _ _ _)))
   |fail
  refine vq_isoS (names_ok hT hR hi (.inl rfl)) rfl (fz3 hT.fz fz_int fz_int) (hpu _ _) ?_
  intro dc hdc
  repeat first
   |with_reducible first|apply vA|apply vB|apply vC
   |((with_reducible apply vD); (focus rfl))
   |((with_reducible first|apply vE|apply vF|apply vG|apply vH); simp only [Env.keep, Env.get, Env.ev, List.map, Nat.reduceEqDiff, ↓reduceIte, Then, Out'])
   |((with_reducible first|apply vI|apply vJ|apply vK|apply vL|apply vM|apply vN); (focus (simp (disch := (first|with_reducible assumption|omega|((repeat (first|rw [nP]|rw [nS]))<;>omega)|fail)) only [go_sem, ↓reduceIte] <;> rfl)); (first|(with_reducible (first|apply vO|apply vP|apply vQ|apply vR|apply vS|apply vT|apply vU); try simp only [Env.put])|with_reducible refine (?_ : WQ _ _ _ _ _ _)))
   |fail
  refine vq_isoS (names_ok hT hR hi (.inr (.inl rfl))) rfl (fz3 hT.fz fz_int fz_int) (hpu _ _) ?_
  intro dv hdv
  repeat first
   |with_reducible first|apply vA|apply vB|apply vC
   |((with_reducible apply vD); (focus rfl))
   |((with_reducible first|apply vE|apply vF|apply vG|apply vH); simp only [Env.keep, Env.get, Env.ev, List.map, Nat.reduceEqDiff, ↓reduceIte, Then, Out'])
   |((with_reducible first|apply vI|apply vJ|apply vK|apply vL|apply vM|apply vN); (focus (simp (disch := (first|with_reducible assumption|omega|((repeat (first|rw [nP]|rw [nS]))<;>omega)|fail)) only [go_sem, ↓reduceIte] <;> rfl)); (first|(with_reducible (first|apply vO|apply vP|apply vQ|apply vR|apply vS|apply vT|apply vU); try simp only [Env.put])|with_reducible refine (?_ : WQ _ _ _ _ _ _)))
   |fail
  refine vq_isoS (names_ok hT hR hi (.inr (.inr rfl))) rfl (fz3 hT.fz fz_int fz_int) (hpu _ _) ?_
  intro dp hdp
  have fc := FL.fz hdc
  have fv := FL.fz hdv
  have fp := FL.fz hdp
  have hc := in11_ok (x := (nd t i).word 0) hdv (names_le hR hi)
  repeat first
   |(apply vq_isoI hc rfl rfl (fz2 fv fz_str))
   |with_reducible first|apply vA|apply vB|apply vC
   |((with_reducible apply vD); (focus rfl))
   |((with_reducible first|apply vE|apply vF|apply vG|apply vH); simp only [Env.keep, Env.get, Env.ev, List.map, Nat.reduceEqDiff, ↓reduceIte, Then, Out'])
   |((with_reducible first|apply vI|apply vJ|apply vK|apply vL|apply vM|apply vN); (focus (simp (disch := (first|with_reducible assumption|omega|((repeat (first|rw [nP]|rw [nS]))<;>omega)|fail)) only [go_sem, ↓reduceIte, o1, o2, o3, w0] <;> rfl)); (first|(with_reducible (first|apply vO|apply vP|apply vQ|apply vR|apply vS|apply vT|apply vU); try simp only [Env.put])|with_reducible refine (?_ : WQ _ _ _ _ _ _)))
   |fail
  exact ⟨.inr trivial, _, (by simp only [resOf, resAll, resOne, Env.get, Nat.reduceEqDiff, ↓reduceIte] <;> rfl), _, rfl, fun h => ⟨fun _ => seen_in.1 (by simpa using h), fun e => by omega, fun e => by omega, fun e => by omega⟩⟩
theorem bad_18 {d : D} {t : List Nd} (hT : TreeAt d t) (hR : RightT t) {i : Nat} (hi : i < t.length) (hK : (nd t i).kind = 18) : IsoB 103 [d, .int .i64 (i : Int)] fun b => b = false → GoodAt t i := by
  refine isoB_of ?_
  have hidx := hT.at (z := (i : Int)) (by omega) (by omega) (k := .i64)
  rw [Int.toNat_natCast] at hidx
  have hx := hT.nd hi
  have hnode := hR.ok.node i hi
  have o1 := FL.one hx.w
  have o2 := FL.one hx.n
  have o3 := FL.one hx.k
  have hpu : ∀ n m : Int, pureL [d, .int .i64 n, .int .i64 m] = true := fun n m => by simp [pureL, pureD, hT.fl.pure]
  have hwl : (nd t i).words.length = 1 := by rw [hnode.wl, hK]; rfl
  have w0 : idxAV 1 (nd t i).dw (.int .i64 0) = some (.fp [.str ((nd t i).word 0)] 0) := by
    rw [word_get (by omega)]; exact FS.idx hx.w (i := 0) (by omega)
  rw [hK] at hidx
  refine evp_of (vf := vf103) rfl ?_
  simp only [vf103, xq, xg, xm, xmg, xc, xl, xlg, xf, xfg, xw, xa, xk, xi, xig, xo, xr, xrp, xn, List.map, List.getD, List.getElem?_cons_zero, List.getElem?_cons_succ, List.getElem?_nil, Option.getD]
  repeat first
   |with_reducible first|apply vA|apply vB|apply vC
   |((with_reducible apply vD); (focus rfl))
   |((with_reducible first|apply vE|apply vF|apply vG|apply vH); simp only [Env.keep, Env.get, Env.ev, List.map, Nat.reduceEqDiff, ↓reduceIte, Then, Out'])
   |((with_reducible first|apply vI|apply vJ|apply vK|apply vL|apply vM|apply vN); (focus (simp (disch := (first|with_reducible assumption|omega|((repeat (first|rw [nP]|rw [nS]))<;>omega)|fail)) only [go_sem, ↓reduceIte, hidx, o1, o2, o3] <;> rfl)); (first|(with_reducible (first|apply vO|apply vP|apply vQ|apply vR|apply vS|apply vT|apply vU); try simp only [Env.put])|with_reducible refine (?_ : WQ _ _ _ _ _ _)))
   |fail
  refine vq_isoS (names_ok hT hR hi (.inl rfl)) rfl (fz3 hT.fz fz_int fz_int) (hpu _ _) ?_
  intro dc hdc
  repeat first
   |with_reducible first|apply vA|apply vB|apply vC
   |((with_reducible apply vD); (focus rfl))
   |((with_reducible first|apply vE|apply vF|apply vG|apply vH); simp only [Env.keep, Env.get, Env.ev, List.map, Nat.reduceEqDiff, ↓reduceIte, Then, Out'])
   |((with_reducible first|apply vI|apply vJ|apply vK|apply vL|apply vM|apply vN); (focus (simp (disch := (first|with_reducible assumption|omega|((repeat (first|rw [nP]|rw [nS]))<;>omega)|fail)) only [go_sem, ↓reduceIte] <;> rfl)); (first|(with_reducible (first|apply vO|apply vP|apply vQ|apply vR|apply vS|apply vT|apply vU); try simp only [Env.put])|with_reducible refine (?_ : WQ _ _ _ _ _ _)))
   |fail
  refine vq_isoS (names_ok hT hR hi (.inr (.inl rfl))) rfl (fz3 hT.fz fz_int fz_int) (hpu _ _) ?_
  intro dv hdv
  repeat first
   |with_reducible first|apply vA|apply vB|apply vC
   |((with_reducible apply vD); (focus rfl))
   |((with_reducible first|apply vE|apply vF|apply vG|apply vH); simp only [Env.keep, Env.get, Env.ev, List.map, Nat.reduceEqDiff, ↓reduceIte, Then, Out'])
   |((with_reducible first|apply vI|apply vJ|apply vK|apply vL|apply vM|apply vN); (focus (simp (disch := (first|with_reducible assumption|omega|((repeat (first|rw [nP]|rw [nS]))<;>omega)|fail)) only [go_sem, ↓reduceIte] <;> rfl)); (first|(with_reducible (first|apply vO|apply vP|apply vQ|apply vR|apply vS|apply vT|apply vU); try simp only [Env.put])|with_reducible refine (?_ : WQ _ _ _ _ _ _)))
   |fail
  refine vq_isoS (names_ok hT hR hi (.inr (.inr rfl))) rfl (fz3 hT.fz fz_int fz_int) (hpu _ _) ?_
  intro dp hdp
  have fc := FL.fz hdc
  have fv := FL.fz hdv
  have fp := FL.fz hdp
  have hc := in11_ok (x := (nd t i).word 0) hdv (names_le hR hi)
  repeat first
   |(apply vq_isoI hc rfl rfl (fz2 fv fz_str))
   |with_reducible first|apply vA|apply vB|apply vC
   |((with_reducible apply vD); (focus rfl))
   |((with_reducible first|apply vE|apply vF|apply vG|apply vH); simp only [Env.keep, Env.get, Env.ev, List.map, Nat.reduceEqDiff, ↓reduceIte, Then, Out'])
   |((with_reducible first|apply vI|apply vJ|apply vK|apply vL|apply vM|apply vN); (focus (simp (disch := (first|with_reducible assumption|omega|((repeat (first|rw [nP]|rw [nS]))<;>omega)|fail)) only [go_sem, ↓reduceIte, o1, o2, o3, w0] <;> rfl)); (first|(with_reducible (first|apply vO|apply vP|apply vQ|apply vR|apply vS|apply vT|apply vU); try simp only [Env.put])|with_reducible refine (?_ : WQ _ _ _ _ _ _)))
   |fail
  exact ⟨.inr trivial, _, (by simp only [resOf, resAll, resOne, Env.get, Nat.reduceEqDiff, ↓reduceIte] <;> rfl), _, rfl, fun h => ⟨fun _ => seen_in.1 (by simpa using h), fun e => by omega, fun e => by omega, fun e => by omega⟩⟩
theorem bad_7 {d : D} {t : List Nd} (hT : TreeAt d t) (hR : RightT t) {i : Nat} (hi : i < t.length) (hK : (nd t i).kind = 7) : IsoB 103 [d, .int .i64 (i : Int)] fun b => b = false → GoodAt t i := by
  refine isoB_of ?_
  have hidx := hT.at (z := (i : Int)) (by omega) (by omega) (k := .i64)
  rw [Int.toNat_natCast] at hidx
  have hx := hT.nd hi
  have hnode := hR.ok.node i hi
  have o1 := FL.one hx.w
  have o2 := FL.one hx.n
  have o3 := FL.one hx.k
  have hpu : ∀ n m : Int, pureL [d, .int .i64 n, .int .i64 m] = true := fun n m => by simp [pureL, pureD, hT.fl.pure]
  have hwl : (nd t i).words.length = 1 := by rw [hnode.wl, hK]; rfl
  have w0 : idxAV 1 (nd t i).dw (.int .i64 0) = some (.fp [.str ((nd t i).word 0)] 0) := by
    rw [word_get (by omega)]; exact FS.idx hx.w (i := 0) (by omega)
  rw [hK] at hidx
  refine evp_of (vf := vf103) rfl ?_
  simp only [vf103, xq, xg, xm, xmg, xc, xl, xlg, xf, xfg, xw, xa, xk, xi, xig, xo, xr, xrp, xn, List.map, List.getD, List.getElem?_cons_zero, List.getElem?_cons_succ, List.getElem?_nil, Option.getD]
  repeat first
   |with_reducible first|apply vA|apply vB|apply vC
   |((with_reducible apply vD); (focus rfl))
   |((with_reducible first|apply vE|apply vF|apply vG|apply vH); simp only [Env.keep, Env.get, Env.ev, List.map, Nat.reduceEqDiff, ↓reduceIte, Then, Out'])
   |((with_reducible first|apply vI|apply vJ|apply vK|apply vL|apply vM|apply vN); (focus (simp (disch := (first|with_reducible assumption|omega|((repeat (first|rw [nP]|rw [nS]))<;>omega)|fail)) only [go_sem, ↓reduceIte, hidx, o1, o2, o3] <;> rfl)); (first|(with_reducible (first|apply vO|apply vP|apply vQ|apply vR|apply vS|apply vT|apply vU); try simp only [Env.put])|with_reducible refine (?_ : WQ _ _ _ _ _ _)))
   |fail
  refine vq_isoS (names_ok hT hR hi (.inl rfl)) rfl (fz3 hT.fz fz_int fz_int) (hpu _ _) ?_
  intro dc hdc
  repeat first
   |with_reducible first|apply vA|apply vB|apply vC
   |((with_reducible apply vD); (focus rfl))
   |((with_reducible first|apply vE|apply vF|apply vG|apply vH); simp only [Env.keep, Env.get, Env.ev, List.map, Nat.reduceEqDiff, ↓reduceIte, Then, Out'])
   |((with_reducible first|apply vI|apply vJ|apply vK|apply vL|apply vM|apply vN); (focus (simp (disch := (first|with_reducible assumption|omega|((repeat (first|rw [nP]|rw [nS]))<;>omega)|fail)) only [go_sem, ↓reduceIte] <;> rfl)); (first|(with_reducible (first|apply vO|apply vP|apply vQ|apply vR|apply vS|apply vT|apply vU); try simp only [Env.put])|with_reducible refine (?_ : WQ _ _ _ _ _ _)))
   |fail
  refine vq_isoS (names_ok hT hR hi (.inr (.inl rfl))) rfl (fz3 hT.fz fz_int fz_int) (hpu _ _) ?_
  intro dv hdv
  repeat first
   |with_reducible first|apply vA|apply vB|apply vC
   |((with_reducible apply vD); (focus rfl))
   |((with_reducible first|apply vE|apply vF|apply vG|apply vH); simp only [Env.keep, Env.get, Env.ev, List.map, Nat.reduceEqDiff, ↓reduceIte, Then, Out'])
   |((with_reducible first|apply vI|apply vJ|apply vK|apply vL|apply vM|apply vN); (focus (simp (disch := (first|with_reducible assumption|omega|((repeat (first|rw [nP]|rw [nS]))<;>omega)|fail)) only [go_sem, ↓reduceIte] <;> rfl)); (first|(with_reducible (first|apply vO|apply vP|apply vQ|apply vR|apply vS|apply vT|apply vU); try simp only [Env.put])|with_reducible refine (?_ : WQ _ _ _ _ _ _)))
   |fail
  refine vq_isoS (names_ok hT hR hi (.inr (.inr rfl))) rfl (fz3 hT.fz fz_int fz_int) (hpu _ _) ?_
  intro dp hdp
  have fc := FL.fz hdc
  have fv := FL.fz hdv
  have fp := FL.fz hdp
  have hc := in11_ok (x := (nd t i).word 0) hdc (names_le hR hi)
  repeat first
   |(apply vq_isoI hc rfl rfl (fz2 fc fz_str))
   |with_reducible first|apply vA|apply vB|apply vC
   |((with_reducible apply vD); (focus rfl))
   |((with_reducible first|apply vE|apply vF|apply vG|apply vH); simp only [Env.keep, Env.get, Env.ev, List.map, Nat.reduceEqDiff, ↓reduceIte, Then, Out'])
   |((with_reducible first|apply vI|apply vJ|apply vK|apply vL|apply vM|apply vN); (focus (simp (disch := (first|with_reducible assumption|omega|((repeat (first|rw [nP]|rw [nS]))<;>omega)|fail)) only [go_sem, ↓reduceIte, o1, o2, o3, w0] <;> rfl)); (first|(with_reducible (first|apply vO|apply vP|apply vQ|apply vR|apply vS|apply vT|apply vU); try simp only [Env.put])|with_reducible refine (?_ : WQ _ _ _ _ _ _)))
   |fail
  exact ⟨.inr trivial, _, (by simp only [resOf, resAll, resOne, Env.get, Nat.reduceEqDiff, ↓reduceIte] <;> rfl), _, rfl, fun h => ⟨fun e => by omega, fun _ => seen_in.1 (by simpa using h), fun e => by omega, fun e => by omega⟩⟩
theorem bad_19 {d : D} {t : List Nd} (hT : TreeAt d t) (hR : RightT t) {i : Nat} (hi : i < t.length) (hK : (nd t i).kind = 19) : IsoB 103 [d, .int .i64 (i : Int)] fun b => b = false → GoodAt t i := by
  refine isoB_of ?_
  have hidx := hT.at (z := (i : Int)) (by omega) (by omega) (k := .i64)
  rw [Int.toNat_natCast] at hidx
  have hx := hT.nd hi
  have hnode := hR.ok.node i hi
  have o1 := FL.one hx.w
  have o2 := FL.one hx.n
  have o3 := FL.one hx.k
  have hpu : ∀ n m : Int, pureL [d, .int .i64 n, .int .i64 m] = true := fun n m => by simp [pureL, pureD, hT.fl.pure]
  have hwl : (nd t i).words.length = 1 := by rw [hnode.wl, hK]; rfl
  have w0 : idxAV 1 (nd t i).dw (.int .i64 0) = some (.fp [.str ((nd t i).word 0)] 0) := by
    rw [word_get (by omega)]; exact FS.idx hx.w (i := 0) (by omega)
  rw [hK] at hidx
  refine evp_of (vf := vf103) rfl ?_
  simp only [vf103, xq, xg, xm, xmg, xc, xl, xlg, xf, xfg, xw, xa, xk, xi, xig, xo, xr, xrp, xn, List.map, List.getD, List.getElem?_cons_zero, List.getElem?_cons_succ, List.getElem?_nil, Option.getD]
  repeat first
   |with_reducible first|apply vA|apply vB|apply vC
   |((with_reducible apply vD); (focus rfl))
   |((with_reducible first|apply vE|apply vF|apply vG|apply vH); simp only [Env.keep, Env.get, Env.ev, List.map, Nat.reduceEqDiff, ↓reduceIte, Then, Out'])
   |((with_reducible first|apply vI|apply vJ|apply vK|apply vL|apply vM|apply vN); (focus (simp (disch := (first|with_reducible assumption|omega|((repeat (first|rw [nP]|rw [nS]))<;>omega)|fail)) only [go_sem, ↓reduceIte, hidx, o1, o2, o3] <;> rfl)); (first|(with_reducible (first|apply vO|apply vP|apply vQ|apply vR|apply vS|apply vT|apply vU); try simp only [Env.put])|with_reducible refine (?_ : WQ _ _ _ _ _ _)))
   |fail
  refine vq_isoS (names_ok hT hR hi (.inl rfl)) rfl (fz3 hT.fz fz_int fz_int) (hpu _ _) ?_
  intro dc hdc
  repeat first
   |with_reducible first|apply vA|apply vB|apply vC
   |((with_reducible apply vD); (focus rfl))
   |((with_reducible first|apply vE|apply vF|apply vG|apply vH); simp only [Env.keep, Env.get, Env.ev, List.map, Nat.reduceEqDiff, ↓reduceIte, Then, Out'])
   |((with_reducible first|apply vI|apply vJ|apply vK|apply vL|apply vM|apply vN); (focus (simp (disch := (first|with_reducible assumption|omega|((repeat (first|rw [nP]|rw [nS]))<;>omega)|fail)) only [go_sem, ↓reduceIte] <;> rfl)); (first|(with_reducible (first|apply vO|apply vP|apply vQ|apply vR|apply vS|apply vT|apply vU); try simp only [Env.put])|with_reducible refine (?_ : WQ _ _ _ _ _ _)))
   |fail
  refine vq_isoS (names_ok hT hR hi (.inr (.inl rfl))) rfl (fz3 hT.fz fz_int fz_int) (hpu _ _) ?_
  intro dv hdv
  repeat first
   |with_reducible first|apply vA|apply vB|apply vC
   |((with_reducible apply vD); (focus rfl))
   |((with_reducible first|apply vE|apply vF|apply vG|apply vH); simp only [Env.keep, Env.get, Env.ev, List.map, Nat.reduceEqDiff, ↓reduceIte, Then, Out'])
   |((with_reducible first|apply vI|apply vJ|apply vK|apply vL|apply vM|apply vN); (focus (simp (disch := (first|with_reducible assumption|omega|((repeat (first|rw [nP]|rw [nS]))<;>omega)|fail)) only [go_sem, ↓reduceIte] <;> rfl)); (first|(with_reducible (first|apply vO|apply vP|apply vQ|apply vR|apply vS|apply vT|apply vU); try simp only [Env.put])|with_reducible refine (?_ : WQ _ _ _ _ _ _)))
   |fail
  refine vq_isoS (names_ok hT hR hi (.inr (.inr rfl))) rfl (fz3 hT.fz fz_int fz_int) (hpu _ _) ?_
  intro dp hdp
  have fc := FL.fz hdc
  have fv := FL.fz hdv
  have fp := FL.fz hdp
  have hc := in11_ok (x := (nd t i).word 0) hdc (names_le hR hi)
  repeat first
   |(apply vq_isoI hc rfl rfl (fz2 fc fz_str))
   |with_reducible first|apply vA|apply vB|apply vC
   |((with_reducible apply vD); (focus rfl))
   |((with_reducible first|apply vE|apply vF|apply vG|apply vH); simp only [Env.keep, Env.get, Env.ev, List.map, Nat.reduceEqDiff, ↓reduceIte, Then, Out'])
   |((with_reducible first|apply vI|apply vJ|apply vK|apply vL|apply vM|apply vN); (focus (simp (disch := (first|with_reducible assumption|omega|((repeat (first|rw [nP]|rw [nS]))<;>omega)|fail)) only [go_sem, ↓reduceIte, o1, o2, o3, w0] <;> rfl)); (first|(with_reducible (first|apply vO|apply vP|apply vQ|apply vR|apply vS|apply vT|apply vU); try simp only [Env.put])|with_reducible refine (?_ : WQ _ _ _ _ _ _)))
   |fail
  exact ⟨.inr trivial, _, (by simp only [resOf, resAll, resOne, Env.get, Nat.reduceEqDiff, ↓reduceIte] <;> rfl), _, rfl, fun h => ⟨fun e => by omega, fun _ => seen_in.1 (by simpa using h), fun e => by omega, fun e => by omega⟩⟩
theorem bad_8 {d : D} {t : List Nd} (hT : TreeAt d t) (hR : RightT t) {i : Nat} (hi : i < t.length) (hK : (nd t i).kind = 8) : IsoB 103 [d, .int .i64 (i : Int)] fun b => b = false → GoodAt t i := by
  refine isoB_of ?_
  have hidx := hT.at (z := (i : Int)) (by omega) (by omega) (k := .i64)
  rw [Int.toNat_natCast] at hidx
  have hx := hT.nd hi
  have hnode := hR.ok.node i hi
  have o1 := FL.one hx.w
  have o2 := FL.one hx.n
  have o3 := FL.one hx.k
  have hpu : ∀ n m : Int, pureL [d, .int .i64 n, .int .i64 m] = true := fun n m => by simp [pureL, pureD, hT.fl.pure]
  have hwl : (nd t i).words.length = 2 := by rw [hnode.wl, hK]; rfl
  have w0 : idxAV 1 (nd t i).dw (.int .i64 0) = some (.fp [.str ((nd t i).word 0)] 0) := by
    rw [word_get (by omega)]; exact FS.idx hx.w (i := 0) (by omega)
  have w1 : idxAV 1 (nd t i).dw (.int .i64 1) = some (.fp [.str ((nd t i).word 1)] 0) := by
    rw [word_get (by omega)]; exact FS.idx hx.w (i := 1) (by omega)
  rw [hK] at hidx
  refine evp_of (vf := vf103) rfl ?_
  simp only [vf103, xq, xg, xm, xmg, xc, xl, xlg, xf, xfg, xw, xa, xk, xi, xig, xo, xr, xrp, xn, List.map, List.getD, List.getElem?_cons_zero, List.getElem?_cons_succ, List.getElem?_nil, Option.getD]
  repeat first
   |with_reducible first|apply vA|apply vB|apply vC
   |((with_reducible apply vD); (focus rfl))
   |((with_reducible first|apply vE|apply vF|apply vG|apply vH); simp only [Env.keep, Env.get, Env.ev, List.map, Nat.reduceEqDiff, ↓reduceIte, Then, Out'])
   |((with_reducible first|apply vI|apply vJ|apply vK|apply vL|apply vM|apply vN); (focus (simp (disch := (first|with_reducible assumption|omega|((repeat (first|rw [nP]|rw [nS]))<;>omega)|fail)) only [go_sem, ↓reduceIte, hidx, o1, o2, o3] <;> rfl)); (first|(with_reducible (first|apply vO|apply vP|apply vQ|apply vR|apply vS|apply vT|apply vU); try simp only [Env.put])|with_reducible refine (?_ : WQ _ _ _ _ _ _)))
   |fail
  refine vq_isoS (names_ok hT hR hi (.inl rfl)) rfl (fz3 hT.fz fz_int fz_int) (hpu _ _) ?_
  intro dc hdc
  repeat first
   |with_reducible first|apply vA|apply vB|apply vC
   |((with_reducible apply vD); (focus rfl))
   |((with_reducible first|apply vE|apply vF|apply vG|apply vH); simp only [Env.keep, Env.get, Env.ev, List.map, Nat.reduceEqDiff, ↓reduceIte, Then, Out'])
   |((with_reducible first|apply vI|apply vJ|apply vK|apply vL|apply vM|apply vN); (focus (simp (disch := (first|with_reducible assumption|omega|((repeat (first|rw [nP]|rw [nS]))<;>omega)|fail)) only [go_sem, ↓reduceIte] <;> rfl)); (first|(with_reducible (first|apply vO|apply vP|apply vQ|apply vR|apply vS|apply vT|apply vU); try simp only [Env.put])|with_reducible refine (?_ : WQ _ _ _ _ _ _)))
   |fail
  refine vq_isoS (names_ok hT hR hi (.inr (.inl rfl))) rfl (fz3 hT.fz fz_int fz_int) (hpu _ _) ?_
  intro dv hdv
  repeat first
   |with_reducible first|apply vA|apply vB|apply vC
   |((with_reducible apply vD); (focus rfl))
   |((with_reducible first|apply vE|apply vF|apply vG|apply vH); simp only [Env.keep, Env.get, Env.ev, List.map, Nat.reduceEqDiff, ↓reduceIte, Then, Out'])
   |((with_reducible first|apply vI|apply vJ|apply vK|apply vL|apply vM|apply vN); (focus (simp (disch := (first|with_reducible assumption|omega|((repeat (first|rw [nP]|rw [nS]))<;>omega)|fail)) only [go_sem, ↓reduceIte] <;> rfl)); (first|(with_reducible (first|apply vO|apply vP|apply vQ|apply vR|apply vS|apply vT|apply vU); try simp only [Env.put])|with_reducible refine (?_ : WQ _ _ _ _ _ _)))
   |fail
  refine vq_isoS (names_ok hT hR hi (.inr (.inr rfl))) rfl (fz3 hT.fz fz_int fz_int) (hpu _ _) ?_
  intro dp hdp
  have fc := FL.fz hdc
  have fv := FL.fz hdv
  have fp := FL.fz hdp
  have hc := in11_ok (x := (nd t i).word 0) hdc (names_le hR hi)
  have hv := in11_ok (x := (nd t i).word 1) hdv (names_le hR hi)
  cases r1 : inB (namesF t i 1 i) ((nd t i).word 0)
  · rw [r1] at hc
    repeat first
     |(apply vq_isoI hc rfl rfl (fz2 fc fz_str))
     |(apply vq_isoI hv rfl rfl (fz2 fv fz_str))
     |with_reducible first|apply vA|apply vB|apply vC
     |((with_reducible apply vD); (focus rfl))
     |((with_reducible first|apply vE|apply vF|apply vG|apply vH); simp only [Env.keep, Env.get, Env.ev, List.map, Nat.reduceEqDiff, ↓reduceIte, Then, Out'])
     |((with_reducible first|apply vI|apply vJ|apply vK|apply vL|apply vM|apply vN); (focus (simp (disch := (first|with_reducible assumption|omega|((repeat (first|rw [nP]|rw [nS]))<;>omega)|fail)) only [go_sem, ↓reduceIte, o1, o2, o3, w0, w1] <;> rfl)); (first|(with_reducible (first|apply vO|apply vP|apply vQ|apply vR|apply vS|apply vT|apply vU); try simp only [Env.put])|with_reducible refine (?_ : WQ _ _ _ _ _ _)))
     |fail
    exact ⟨.inr trivial, _, (by simp only [resOf, resAll, resOne, Env.get, Nat.reduceEqDiff, ↓reduceIte] <;> rfl), _, rfl, by simp⟩
  · rw [r1] at hc
    repeat first
     |(apply vq_isoI hc rfl rfl (fz2 fc fz_str))
     |(apply vq_isoI hv rfl rfl (fz2 fv fz_str))
     |with_reducible first|apply vA|apply vB|apply vC
     |((with_reducible apply vD); (focus rfl))
     |((with_reducible first|apply vE|apply vF|apply vG|apply vH); simp only [Env.keep, Env.get, Env.ev, List.map, Nat.reduceEqDiff, ↓reduceIte, Then, Out'])
     |((with_reducible first|apply vI|apply vJ|apply vK|apply vL|apply vM|apply vN); (focus (simp (disch := (first|with_reducible assumption|omega|((repeat (first|rw [nP]|rw [nS]))<;>omega)|fail)) only [go_sem, ↓reduceIte, o1, o2, o3, w0, w1] <;> rfl)); (first|(with_reducible (first|apply vO|apply vP|apply vQ|apply vR|apply vS|apply vT|apply vU); try simp only [Env.put])|with_reducible refine (?_ : WQ _ _ _ _ _ _)))
     |fail
    exact ⟨.inr trivial, _, (by simp only [resOf, resAll, resOne, Env.get, Nat.reduceEqDiff, ↓reduceIte] <;> rfl), _, rfl, fun h => ⟨fun e => by omega, fun _ => seen_in.1 r1, fun _ => seen_in.1 (by simpa using h), fun e => by omega⟩⟩
theorem bad_x {d : D} {t : List Nd} (hT : TreeAt d t) (hR : RightT t) {i : Nat} (hi : i < t.length) (hK : (nd t i).kind ≠ 1 ∧ (nd t i).kind ≠ 2 ∧ (nd t i).kind ≠ 3 ∧ (nd t i).kind ≠ 6 ∧ (nd t i).kind ≠ 18 ∧ (nd t i).kind ≠ 7 ∧ (nd t i).kind ≠ 19 ∧ (nd t i).kind ≠ 8) : IsoB 103 [d, .int .i64 (i : Int)] fun b => b = false → GoodAt t i := by
  refine isoB_of ?_
  have hidx := hT.at (z := (i : Int)) (by omega) (by omega) (k := .i64)
  rw [Int.toNat_natCast] at hidx
  have hx := hT.nd hi
  have hnode := hR.ok.node i hi
  have o1 := FL.one hx.w
  have o2 := FL.one hx.n
  have o3 := FL.one hx.k
  have hpu : ∀ n m : Int, pureL [d, .int .i64 n, .int .i64 m] = true := fun n m => by simp [pureL, pureD, hT.fl.pure]
  have n1 : ((nd t i).kind == 1) = false := by rw [beq_eq_false_iff_ne]; omega
  have n2 : ((nd t i).kind == 2) = false := by rw [beq_eq_false_iff_ne]; omega
  have n3 : ((nd t i).kind == 3) = false := by rw [beq_eq_false_iff_ne]; omega
  have n6 : ((nd t i).kind == 6) = false := by rw [beq_eq_false_iff_ne]; omega
  have n18 : ((nd t i).kind == 18) = false := by rw [beq_eq_false_iff_ne]; omega
  have n7 : ((nd t i).kind == 7) = false := by rw [beq_eq_false_iff_ne]; omega
  have n19 : ((nd t i).kind == 19) = false := by rw [beq_eq_false_iff_ne]; omega
  have n8 : ((nd t i).kind == 8) = false := by rw [beq_eq_false_iff_ne]; omega
  refine evp_of (vf := vf103) rfl ?_
  simp only [vf103, xq, xg, xm, xmg, xc, xl, xlg, xf, xfg, xw, xa, xk, xi, xig, xo, xr, xrp, xn, List.map, List.getD, List.getElem?_cons_zero, List.getElem?_cons_succ, List.getElem?_nil, Option.getD]
  repeat first
   |with_reducible first|apply vA|apply vB|apply vC
   |((with_reducible apply vD); (focus rfl))
   |((with_reducible first|apply vE|apply vF|apply vG|apply vH); simp only [Env.keep, Env.get, Env.ev, List.map, Nat.reduceEqDiff, ↓reduceIte, Then, Out'])
   |((with_reducible first|apply vI|apply vJ|apply vK|apply vL|apply vM|apply vN); (focus (simp (disch := (first|with_reducible assumption|omega|((repeat (first|rw [nP]|rw [nS]))<;>omega)|fail)) only [go_sem, ↓reduceIte, hidx, o1, o2, o3] <;> rfl)); (first|(with_reducible (first|apply vO|apply vP|apply vQ|apply vR|apply vS|apply vT|apply vU); try simp only [Env.put])|with_reducible refine (?_ : WQ _ _ _ _ _ _)))
   |fail
  refine vq_isoS (names_ok hT hR hi (.inl rfl)) rfl (fz3 hT.fz fz_int fz_int) (hpu _ _) ?_
  intro dc hdc
  repeat first
   |with_reducible first|apply vA|apply vB|apply vC
   |((with_reducible apply vD); (focus rfl))
   |((with_reducible first|apply vE|apply vF|apply vG|apply vH); simp only [Env.keep, Env.get, Env.ev, List.map, Nat.reduceEqDiff, ↓reduceIte, Then, Out'])
   |((with_reducible first|apply vI|apply vJ|apply vK|apply vL|apply vM|apply vN); (focus (simp (disch := (first|with_reducible assumption|omega|((repeat (first|rw [nP]|rw [nS]))<;>omega)|fail)) only [go_sem, ↓reduceIte] <;> rfl)); (first|(with_reducible (first|apply vO|apply vP|apply vQ|apply vR|apply vS|apply vT|apply vU); try simp only [Env.put])|with_reducible refine (?_ : WQ _ _ _ _ _ _)))
   |fail
  refine vq_isoS (names_ok hT hR hi (.inr (.inl rfl))) rfl (fz3 hT.fz fz_int fz_int) (hpu _ _) ?_
  intro dv hdv
  repeat first
   |with_reducible first|apply vA|apply vB|apply vC
   |((with_reducible apply vD); (focus rfl))
   |((with_reducible first|apply vE|apply vF|apply vG|apply vH); simp only [Env.keep, Env.get, Env.ev, List.map, Nat.reduceEqDiff, ↓reduceIte, Then, Out'])
   |((with_reducible first|apply vI|apply vJ|apply vK|apply vL|apply vM|apply vN); (focus (simp (disch := (first|with_reducible assumption|omega|((repeat (first|rw [nP]|rw [nS]))<;>omega)|fail)) only [go_sem, ↓reduceIte] <;> rfl)); (first|(with_reducible (first|apply vO|apply vP|apply vQ|apply vR|apply vS|apply vT|apply vU); try simp only [Env.put])|with_reducible refine (?_ : WQ _ _ _ _ _ _)))
   |fail
  refine vq_isoS (names_ok hT hR hi (.inr (.inr rfl))) rfl (fz3 hT.fz fz_int fz_int) (hpu _ _) ?_
  intro dp hdp
  have fc := FL.fz hdc
  have fv := FL.fz hdv
  have fp := FL.fz hdp
  repeat first
   |with_reducible first|apply vA|apply vB|apply vC
   |((with_reducible apply vD); (focus rfl))
   |((with_reducible first|apply vE|apply vF|apply vG|apply vH); simp only [Env.keep, Env.get, Env.ev, List.map, Nat.reduceEqDiff, ↓reduceIte, Then, Out'])
   |((with_reducible first|apply vI|apply vJ|apply vK|apply vL|apply vM|apply vN); (focus (simp (disch := (first|with_reducible assumption|omega|((repeat (first|rw [nP]|rw [nS]))<;>omega)|fail)) only [go_sem, ↓reduceIte, o1, o2, o3, n1, n2, n3, n6, n18, n7, n19, n8] <;> rfl)); (first|(with_reducible (first|apply vO|apply vP|apply vQ|apply vR|apply vS|apply vT|apply vU); try simp only [Env.put])|with_reducible refine (?_ : WQ _ _ _ _ _ _)))
   |fail
  exact ⟨.inr trivial, _, (by simp only [resOf, resAll, resOne, Env.get, Nat.reduceEqDiff, ↓reduceIte] <;> rfl), _, rfl, fun _ => ⟨fun e => by omega, fun e => by omega, fun e => by omega, fun e => by omega⟩⟩
theorem bad_ok {d : D} {t : List Nd} (hT : TreeAt d t) (hR : RightT t) {i : Nat} (hi : i < t.length) : IsoB 103 [d, .int .i64 (i : Int)] fun b => b = false → GoodAt t i := by
  by_cases k1 : (nd t i).kind = 1
  · exact bad_1 hT hR hi k1
  by_cases k2 : (nd t i).kind = 2
  · exact bad_2 hT hR hi k2
  by_cases k3 : (nd t i).kind = 3
  · exact bad_3 hT hR hi k3
  by_cases k6 : (nd t i).kind = 6
  · exact bad_6 hT hR hi k6
  by_cases k18 : (nd t i).kind = 18
  · exact bad_18 hT hR hi k18
  by_cases k7 : (nd t i).kind = 7
  · exact bad_7 hT hR hi k7
  by_cases k19 : (nd t i).kind = 19
  · exact bad_19 hT hR hi k19
  by_cases k8 : (nd t i).kind = 8
  · exact bad_8 hT hR hi k8
  exact bad_x hT hR hi ⟨k1, k2, k3, k6, k18, k7, k19, k8⟩
def IsoF (f : Nat) (l : List D) (P : Prop) : Prop := ∃ (e a : Int), Iso f l (.agg [.int .i64 e, .int .i64 a]) ∧ (e = 0 → P)
theorem isoF_of {f : Nat} {l : List D} {P : Prop} (h : EvP vfs f l Store.empty fun d _ => ∃ (e a : Int), d = .agg [.int .i64 e, .int .i64 a] ∧ (e = 0 → P)) : IsoF f l P := by
  obtain ⟨d, s', h, e, a, rfl, hp⟩ := h
  exact ⟨e, a, ⟨s', h⟩, hp⟩
theorem check11_ok {d : D} {t : List Nd} (hT : TreeAt d t) (hR : RightT t) : IsoF 79 [d] (Scoped t) := by
  refine isoF_of ?_
  have hlen := hT.len
  have hle := hR.ok.le
  refine evp_of (vf := vf79) rfl ?_
  simp only [vf79, xq, xg, xm, xmg, xc, xl, xlg, xf, xfg, xw, xa, xk, xi, xig, xo, xr, xrp, xn, List.map, List.getD, List.getElem?_cons_zero, List.getElem?_cons_succ, List.getElem?_nil, Option.getD]
  repeat first
   |with_reducible first|apply vA|apply vB|apply vC
   |((with_reducible apply vD); (focus rfl))
   |((with_reducible first|apply vE|apply vF|apply vG|apply vH); simp only [Env.keep, Env.get, Env.ev, List.map, Nat.reduceEqDiff, ↓reduceIte, Then, Out'])
   |((with_reducible first|apply vI|apply vJ|apply vK|apply vL|apply vM|apply vN); (focus (simp (disch := (first|with_reducible assumption|omega|((repeat (first|rw [nP]|rw [nS]))<;>omega)|fail)) only [go_sem, ↓reduceIte] <;> rfl)); (first|(with_reducible (first|apply vO|apply vP|apply vQ|apply vR|apply vS|apply vT|apply vU); try simp only [Env.put])|with_reducible refine (?_ : WQ _ _ _ _ _ _)))
   |fail
  refine vw_loop_inv (Q := Out' 0 _) (fun n env s => ∃ i : Nat, i ≤ t.length ∧ n = t.length - i ∧ (∀ j, j < i → GoodAt t j) ∧ s.get 0 = some (.cells [.int .i64 0, .int .i64 0]) ∧ (env.get 0 = d ∧ env.get 2 = .ptr 0 0 ∧ env.get 3 = .int .i64 (i : Int))) ?_ t.length _ _ ⟨0, by omega, rfl, fun j h => by omega, get_push_new rfl, by simp [Env.get, Made.at]; rfl⟩
  rintro n env s ⟨i, hi, rfl, hall, hg, hE⟩
  have hgl := get_lts hg
  by_cases c1 : i < t.length
  · have c1' : ((i : Int) < (t.length : Int)) = True := eq_true (by omega)
    have hs : IntKind.i64.wrap ((i : Int) + 1) = ((i + 1 : Nat) : Int) := by rw [i64_id (by omega) (by omega)]; omega
    have hidx := hT.at (z := (i : Int)) (by omega) (by omega) (k := .i64)
    rw [Int.toNat_natCast] at hidx
    have hx := hT.nd c1
    have o1 := FL.one hx.w
    have o2 := FL.one hx.n
    have o3 := FL.one hx.k
    obtain ⟨b, hb, hp⟩ := bad_ok hT hR c1
    cases b
    · repeat first
       |(apply vq_isoI hb rfl; (focus (simp only [Env.evL, Env.ev, Env.get, Nat.reduceEqDiff, ↓reduceIte, hE])); (focus exact fz2 hT.fz fz_int))
       |with_reducible first|apply vA|apply vB|apply vC
       |((with_reducible apply vD); (focus rfl))
       |((with_reducible first|apply vE|apply vF|apply vG|apply vH); simp only [Env.keep, Env.get, Env.ev, List.map, Nat.reduceEqDiff, ↓reduceIte, Then, Out'])
       |((with_reducible first|apply vI|apply vJ|apply vK|apply vL|apply vM|apply vN); (focus (simp (disch := (first|with_reducible assumption|omega|((repeat (first|rw [nP]|rw [nS]))<;>omega)|fail)) only [go_sem, ↓reduceIte, hE, hlen, c1', hs] <;> rfl)); (first|(with_reducible (first|apply vO|apply vP|apply vQ|apply vR|apply vS|apply vT|apply vU); try simp only [Env.put])|with_reducible refine (?_ : WQ _ _ _ _ _ _)))
       |fail
      refine ⟨t.length - (i + 1), by omega, i + 1, by omega, rfl, fun j h => ?_, hg, (by simp only [Env.get, Nat.reduceEqDiff, ↓reduceIte, hE, and_self])⟩
      by_cases e : j = i
      · subst e; exact hp rfl
      · exact hall j (by omega)
    · repeat first
       |(apply vq_isoI hb rfl; (focus (simp only [Env.evL, Env.ev, Env.get, Nat.reduceEqDiff, ↓reduceIte, hE])); (focus exact fz2 hT.fz fz_int))
       |with_reducible first|apply vA|apply vB|apply vC
       |((with_reducible apply vD); (focus rfl))
       |((with_reducible first|apply vE|apply vF|apply vG|apply vH); simp only [Env.keep, Env.get, Env.ev, List.map, Nat.reduceEqDiff, ↓reduceIte, Then, Out'])
       |((with_reducible first|apply vI|apply vJ|apply vK|apply vL|apply vM|apply vN); (focus (simp (disch := (first|with_reducible assumption|omega|((repeat (first|rw [nP]|rw [nS]))<;>omega)|fail)) only [go_sem, ↓reduceIte, hE, hlen, c1', hidx, o1, o2, o3, hg] <;> rfl)); (first|(with_reducible (first|apply vO|apply vP|apply vQ|apply vR|apply vS|apply vT|apply vU); try simp only [Env.put])|with_reducible refine (?_ : WQ _ _ _ _ _ _)))
       |fail
      refine ⟨.inr trivial, _, ?_, 20, (nd t i).pos, rfl, by simp⟩
      simp only [resOf, resAll, resOne, Env.get, Nat.reduceEqDiff, ↓reduceIte, hE, get_set_eq hgl]
      rfl
  · have c1' : ((i : Int) < (t.length : Int)) = False := eq_false (by omega)
    repeat first
     |with_reducible first|apply vA|apply vB|apply vC
     |((with_reducible apply vD); (focus rfl))
     |((with_reducible first|apply vE|apply vF|apply vG|apply vH); simp only [Env.keep, Env.get, Env.ev, List.map, Nat.reduceEqDiff, ↓reduceIte, Then, Out'])
     |((with_reducible first|apply vI|apply vJ|apply vK|apply vL|apply vM|apply vN); (focus (simp (disch := (first|with_reducible assumption|omega|((repeat (first|rw [nP]|rw [nS]))<;>omega)|fail)) only [go_sem, ↓reduceIte, hE, hlen, c1', hg] <;> rfl)); (first|(with_reducible (first|apply vO|apply vP|apply vQ|apply vR|apply vS|apply vT|apply vU); try simp only [Env.put])|with_reducible refine (?_ : WQ _ _ _ _ _ _)))
     |fail
    refine ⟨.inr trivial, _, ?_, 0, 0, rfl, fun _ => ?_⟩
    · simp only [resOf, resAll, resOne, Env.get, Nat.reduceEqDiff, ↓reduceIte, hE, get_set_eq hgl]
      rfl
    · exact ⟨fun j h => (hall j (by omega)).use, fun j h => (hall j (by omega)).chan, fun j h => (hall j (by omega)).recv, fun j h => (hall j (by omega)).once⟩
end Go.Proofs.Ytlaeblilmppodaa
namespace Go.V
def b2n (b : Bool) : Nat := if b then 1 else 0
@[simp] theorem b2n_t : b2n true = 1 := rfl
@[simp] theorem b2n_f : b2n false = 0 := rfl
theorem b2n_le (b : Bool) : b2n b ≤ 1 := by cases b <;> simp
def num (f : Nat → Bool) : Nat → Nat
  | 0 => 0
  | n + 1 => num f n + b2n (f n) * 2 ^ n
theorem num_lt (f : Nat → Bool) : ∀ n, num f n < 2 ^ n
  | 0 => by simp [num]
  | n + 1 => by
    have := num_lt f n
    have h := b2n_le (f n)
    simp only [num, Nat.pow_succ]
    have : b2n (f n) * 2 ^ n ≤ 1 * 2 ^ n := Nat.mul_le_mul_right _ h
    omega
theorem num_cong {f g : Nat → Bool} : ∀ {n : Nat}, (∀ i, i < n → f i = g i) → num f n = num g n
  | 0, _ => rfl
  | n + 1, h => by rw [num, num, num_cong fun i hi => h i (by omega), h n (by omega)]
theorem num_inj {f g : Nat → Bool} : ∀ {n : Nat}, num f n = num g n → ∀ i, i < n → f i = g i
  | 0, _, i, hi => by omega
  | n + 1, h, i, hi => by
    simp only [num] at h
    have h1 := num_lt f n
    have h2 := num_lt g n
    have hp : 0 < 2 ^ n := Nat.pos_of_ne_zero (by simp)
    have e : f n = g n ∧ num f n = num g n := by
      cases hf : f n <;> cases hg : g n <;> simp [hf, hg] at h ⊢ <;> omega
    rcases Nat.lt_or_ge i n with hi' | hi'
    · exact num_inj e.2 i hi'
    · have : i = n := by omega
      subst this
      exact e.1
theorem num_zero : ∀ n, num (fun _ => false) n = 0
  | 0 => rfl
  | n + 1 => by simp [num, num_zero n]
theorem num_split (f : Nat → Bool) (k : Nat) : ∀ n, num f (k + n) = num f k + num (fun i => f (k + i)) n * 2 ^ k
  | 0 => by simp [num]
  | n + 1 => by
    rw [← Nat.add_assoc, num, num, num_split f k n, Nat.add_mul, Nat.pow_add, Nat.add_assoc]
    congr 2
    rw [Nat.mul_assoc, Nat.mul_comm (2 ^ k)]
def carryAt (A B : Nat → Bool) (c : Bool) : Nat → Bool
  | 0 => c
  | i + 1 => (A i && B i) || ((A i != B i) && carryAt A B c i)
def sumAt (A B : Nat → Bool) (c : Bool) (i : Nat) : Bool := (A i != B i) != carryAt A B c i
theorem sum_num (A B : Nat → Bool) (c : Bool) : ∀ n, num (sumAt A B c) n + b2n (carryAt A B c n) * 2 ^ n = num A n + num B n + b2n c
  | 0 => by simp [num, carryAt]
  | n + 1 => by
    have ih := sum_num A B c n
    simp only [num, carryAt, sumAt, Nat.pow_succ]
    cases A n <;> cases B n <;> cases hc : carryAt A B c n <;> simp [hc] at ih ⊢ <;> omega
theorem sum_mod (A B : Nat → Bool) (c : Bool) (n : Nat) : num (sumAt A B c) n = (num A n + num B n + b2n c) % 2 ^ n := by
  rw [← sum_num A B c n, Nat.add_mul_mod_self_right, Nat.mod_eq_of_lt (num_lt _ _)]
theorem not_num (A : Nat → Bool) : ∀ n, num (fun i => !A i) n + num A n + 1 = 2 ^ n
  | 0 => by simp [num]
  | n + 1 => by
    have ih := not_num A n
    simp only [num, Nat.pow_succ]
    cases A n <;> simp <;> omega
def underAt (A B : Nat → Bool) : Nat → Bool
  | 0 => false
  | i + 1 => if A i != B i then B i else underAt A B i
theorem under_num (A B : Nat → Bool) : ∀ n, underAt A B n = decide (num A n < num B n)
  | 0 => by simp [underAt, num]
  | n + 1 => by
    have ih := under_num A B n
    have h1 := num_lt A n
    have h2 := num_lt B n
    simp only [underAt, num]
    rw [Bool.eq_iff_iff]
    rcases Bool.eq_false_or_eq_true (A n) with hA | hA <;> rcases Bool.eq_false_or_eq_true (B n) with hB | hB <;> simp [hA, hB, ih] <;> omega
theorem same_num {A B : Nat → Bool} (n : Nat) : (∀ i, i < n → A i = B i) ↔ num A n = num B n := ⟨num_cong, num_inj⟩
theorem some_num {A : Nat → Bool} (n : Nat) : (∃ i, i < n ∧ A i = true) ↔ num A n ≠ 0 := by
  constructor
  · rintro ⟨i, hi, h⟩ h0
    have := num_inj (f := A) (g := fun _ => false) (n := n) (by rw [h0, num_zero]) i hi
    rw [h] at this; cases this
  · intro h
    apply Classical.byContradiction
    intro hn
    apply h
    rw [← num_zero n]
    exact num_cong fun i hi => by
      cases hA : A i with
      | false => rfl
      | true => exact absurd ⟨i, hi, hA⟩ hn
def trimZ (n : Int) (w : Nat) : Int := (n + 2 ^ (w - 1)) % 2 ^ w - 2 ^ (w - 1)
def valZ (f : Nat → Bool) (w : Nat) : Int := (num f w : Int) - (b2n (f (w - 1)) : Int) * 2 ^ w
theorem pow_pos' (w : Nat) : (0 : Int) < 2 ^ w := by
  have : (0 : Int) < ((2 ^ w : Nat) : Int) := by exact_mod_cast Nat.pos_of_ne_zero (by simp)
  simpa using this
theorem pow_half {w : Nat} (h : 0 < w) : (2 : Int) ^ w = 2 * 2 ^ (w - 1) := by
  obtain ⟨k, rfl⟩ : ∃ k, w = k + 1 := ⟨w - 1, by omega⟩
  rw [Int.pow_succ, Nat.add_sub_cancel]; omega
theorem trimZ_mod {a b : Int} {w : Nat} (h : a % 2 ^ w = b % 2 ^ w) : trimZ a w = trimZ b w := by
  unfold trimZ
  rw [Int.add_emod, h, ← Int.add_emod]
theorem trimZ_id {n : Int} {w : Nat} (h : 0 < w) (h1 : -2 ^ (w - 1) ≤ n) (h2 : n < 2 ^ (w - 1)) : trimZ n w = n := by
  unfold trimZ
  rw [Int.emod_eq_of_lt (by omega) (by have := pow_half h; omega)]; omega
theorem trimZ_lo {n : Int} {w : Nat} (h : 0 < w) : -2 ^ (w - 1) ≤ trimZ n w ∧ trimZ n w < 2 ^ (w - 1) := by
  unfold trimZ
  have hp := pow_pos' w
  have h1 := Int.emod_nonneg (n + 2 ^ (w - 1)) (b := 2 ^ w) (by omega)
  have h2 := Int.emod_lt_of_pos (n + 2 ^ (w - 1)) hp
  have := pow_half h
  omega
theorem trimZ_emod {n : Int} {w : Nat} : trimZ n w % 2 ^ w = n % 2 ^ w := by
  unfold trimZ
  rw [Int.sub_emod, Int.emod_emod_of_dvd _ (Int.dvd_refl _), ← Int.sub_emod]
  congr 1; omega
theorem num_top {f : Nat → Bool} {w : Nat} (h : 0 < w) : f (w - 1) = decide (2 ^ (w - 1) ≤ num f w) := by
  obtain ⟨k, rfl⟩ : ∃ k, w = k + 1 := ⟨w - 1, by omega⟩
  have h1 := num_lt f k
  simp only [Nat.add_sub_cancel, num]
  cases f k <;> simp <;> omega
theorem valZ_trim {f : Nat → Bool} {w : Nat} (h : 0 < w) : valZ f w = trimZ (num f w) w := by
  have ht := num_top (f := f) h
  have hl := num_lt f w
  have hp := pow_half h
  have hl' : (num f w : Int) < 2 ^ w := by exact_mod_cast hl
  unfold valZ
  have hnn : (0 : Int) ≤ num f w := Int.natCast_nonneg _
  by_cases hc : 2 ^ (w - 1) ≤ num f w
  · rw [ht, decide_eq_true hc]
    have hc' : (2 : Int) ^ (w - 1) ≤ num f w := by exact_mod_cast hc
    rw [← trimZ_mod (a := (num f w : Int) - 2 ^ w) (b := num f w) (by rw [Int.sub_emod, Int.emod_self]; simp), trimZ_id h (by omega) (by omega)]
    simp
  · rw [ht, decide_eq_false hc]
    have hc' : (num f w : Int) < 2 ^ (w - 1) := by
      have : num f w < 2 ^ (w - 1) := by omega
      exact_mod_cast this
    rw [trimZ_id h (by omega) (by omega)]
    simp
theorem valZ_cong {f g : Nat → Bool} {w : Nat} (hw : 0 < w) (h : ∀ i, i < w → f i = g i) : valZ f w = valZ g w := by
  unfold valZ
  rw [num_cong h, h (w - 1) (by omega)]
def partAt (A : Nat → Bool) (b : Bool) (i j : Nat) : Bool := decide (i ≤ j) && (A (j - i) && b)
theorem part_num (A : Nat → Bool) (b : Bool) {i w : Nat} (h : i ≤ w) : num (partAt A b i) w = b2n b * (num A (w - i) * 2 ^ i) := by
  obtain ⟨n, rfl⟩ : ∃ n, w = i + n := ⟨w - i, by omega⟩
  rw [num_split]
  have e1 : num (partAt A b i) i = 0 := by
    rw [← num_zero i]
    exact num_cong fun j hj => by simp [partAt]; omega
  have e2 : num (fun j => partAt A b i (i + j)) n = b2n b * num A n := by
    cases b with
    | false => rw [b2n_f, Nat.zero_mul, ← num_zero n]; exact num_cong fun j _ => by simp [partAt]
    | true => rw [b2n_t, Nat.one_mul]; exact num_cong fun j _ => by simp [partAt]
  rw [e1, e2, Nat.add_sub_cancel_left, Nat.zero_add, Nat.mul_assoc]
def mulAt (A B : Nat → Bool) : Nat → (Nat → Bool)
  | 0 => fun _ => false
  | i + 1 => sumAt (mulAt A B i) (partAt A (B i) i) false
theorem mul_num (A B : Nat → Bool) {w : Nat} : ∀ {i : Nat}, i ≤ w → num (mulAt A B i) w = (num A w * num B i) % 2 ^ w
  | 0, _ => by simp [mulAt, num, num_zero]
  | i + 1, h => by
    have ih := mul_num A B (w := w) (i := i) (by omega)
    rw [mulAt, sum_mod, ih, part_num A (B i) (by omega), b2n_f, Nat.add_zero, num, Nat.mul_add]
    have hs : num A w * 2 ^ i % 2 ^ w = num A (w - i) * 2 ^ i % 2 ^ w := by
      have := num_split A (w - i) i
      rw [show w - i + i = w by omega] at this
      rw [this, Nat.add_mul, Nat.mul_assoc, ← Nat.pow_add, show w - i + i = w by omega, Nat.add_mul_mod_self_right]
    cases B i with
    | false => simp
    | true =>
      rw [b2n_t, Nat.one_mul, Nat.one_mul, Nat.mod_add_mod, Nat.add_mod, ← hs, ← Nat.add_mod]
def shiftAt (r : Nat → Bool) (d : Bool) (j : Nat) : Bool := if j = 0 then d else r (j - 1)
theorem shift_num (r : Nat → Bool) (d : Bool) {w : Nat} (h : 0 < w) : num (shiftAt r d) w = b2n d + 2 * num r (w - 1) := by
  obtain ⟨n, rfl⟩ : ∃ n, w = 1 + n := ⟨w - 1, by omega⟩
  rw [num_split]
  have e2 : num (fun j => shiftAt r d (1 + j)) n = num r n := num_cong fun j _ => by
    simp only [shiftAt]
    rw [if_neg (by omega)]
    congr 1; omega
  rw [e2, Nat.add_sub_cancel_left]
  simp [num, shiftAt]; omega
def ifAt (c : Bool) (A B : Nat → Bool) (j : Nat) : Bool := if c then A j else B j
theorem if_num (c : Bool) (A B : Nat → Bool) (w : Nat) : num (ifAt c A B) w = if c then num A w else num B w := by
  cases c
  · exact num_cong fun _ _ => by simp [ifAt]
  · exact num_cong fun _ _ => by simp [ifAt]
mutual
def restAt (X Y : Nat → Bool) (w : Nat) : Nat → (Nat → Bool)
  | 0 => fun _ => false
  | k + 1 => ifAt (!underAt (shiftAt (restAt X Y w k) (X (w - 1 - k))) Y w) (sumAt (shiftAt (restAt X Y w k) (X (w - 1 - k))) (fun j => !Y j) true) (shiftAt (restAt X Y w k) (X (w - 1 - k)))
end
def fitsAt (X Y : Nat → Bool) (w k : Nat) : Bool := !underAt (shiftAt (restAt X Y w k) (X (w - 1 - k))) Y w
def quoAt (X Y : Nat → Bool) (w i : Nat) : Bool := fitsAt X Y w (w - 1 - i)
theorem sub_num {A B : Nat → Bool} {w : Nat} (h : num B w ≤ num A w) : num (sumAt A (fun j => !B j) true) w = num A w - num B w := by
  rw [sum_mod, b2n_t]
  have h1 := not_num B w
  have h2 := num_lt A w
  rw [show num A w + num (fun j => !B j) w + 1 = (num A w - num B w) + 2 ^ w by omega, Nat.add_mod_right, Nat.mod_eq_of_lt (by omega)]
theorem top_num (X : Nat → Bool) {w k : Nat} (h : k < w) : num X w / 2 ^ (w - (k + 1)) = 2 * (num X w / 2 ^ (w - k)) + b2n (X (w - 1 - k)) := by
  have h1 := num_split X (w - (k + 1)) (k + 1)
  rw [show w - (k + 1) + (k + 1) = w by omega] at h1
  have h2 := num_split X (w - k) k
  rw [show w - k + k = w by omega] at h2
  have p1 : 0 < 2 ^ (w - (k + 1)) := Nat.pos_of_ne_zero (by simp)
  have p2 : 0 < 2 ^ (w - k) := Nat.pos_of_ne_zero (by simp)
  have e1 : num X w / 2 ^ (w - (k + 1)) = num (fun i => X (w - (k + 1) + i)) (k + 1) := by
    rw [h1, Nat.add_mul_div_right _ _ p1, Nat.div_eq_of_lt (num_lt _ _), Nat.zero_add]
  have e2 : num X w / 2 ^ (w - k) = num (fun i => X (w - k + i)) k := by
    rw [h2, Nat.add_mul_div_right _ _ p2, Nat.div_eq_of_lt (num_lt _ _), Nat.zero_add]
  rw [e1, e2, show k + 1 = 1 + k by omega, num_split]
  have e3 : num (fun i => (fun i => X (w - (1 + k) + i)) (1 + i)) k = num (fun i => X (w - k + i)) k := num_cong fun i _ => by
    show X _ = X _
    congr 1; omega
  rw [e3]
  have e4 : w - (1 + k) + 0 = w - 1 - k := by omega
  simp only [num, e4]
  omega
theorem dstep {x y d : Nat} (hy : 0 < y) (hd : d ≤ 1) : (2 * x + d) / y = 2 * (x / y) + (if y ≤ 2 * (x % y) + d then 1 else 0) ∧ (2 * x + d) % y = if y ≤ 2 * (x % y) + d then 2 * (x % y) + d - y else 2 * (x % y) + d := by
  have hmod := Nat.mod_add_div x y
  have hlt := Nat.mod_lt x hy
  have hx : 2 * x + d = 2 * (x % y) + d + y * (2 * (x / y)) := by rw [Nat.mul_left_comm]; omega
  rw [hx, Nat.add_mul_div_left _ _ hy, Nat.add_mul_mod_self_left]
  split
  · rename_i hc
    have e : 2 * (x % y) + d = (2 * (x % y) + d - y) + y * 1 := by omega
    constructor
    · rw [e, Nat.add_mul_div_left _ _ hy, Nat.div_eq_of_lt (by omega)]; omega
    · rw [e, Nat.add_mul_mod_self_left, Nat.mod_eq_of_lt (by omega)]; omega
  · rename_i hc
    constructor
    · rw [Nat.div_eq_of_lt (by omega)]; omega
    · rw [Nat.mod_eq_of_lt (by omega)]
theorem low_num {r : Nat → Bool} {w : Nat} (hw : 0 < w) (h : num r w < 2 ^ (w - 1)) : num r (w - 1) = num r w := by
  obtain ⟨v, rfl⟩ : ∃ v, w = v + 1 := ⟨w - 1, by omega⟩
  have ht := num_top (f := r) hw
  rw [decide_eq_false (by omega)] at ht
  simp only [Nat.add_sub_cancel] at ht ⊢
  simp [num, ht]
theorem rest_num (X Y : Nat → Bool) {w : Nat} (hw : 0 < w) (hy : 0 < num Y w) (hy2 : num Y w ≤ 2 ^ (w - 1)) : ∀ {k : Nat}, k ≤ w → num (restAt X Y w k) w = num X w / 2 ^ (w - k) % num Y w
  | 0, _ => by
    have := num_lt X w
    rw [Nat.sub_zero, Nat.div_eq_of_lt this, Nat.zero_mod]
    exact num_zero w
  | k + 1, h => by
    have ih := rest_num X Y hw hy hy2 (k := k) (by omega)
    have hlt := Nat.mod_lt (num X w / 2 ^ (w - k)) hy
    have hs := shift_num (restAt X Y w k) (X (w - 1 - k)) hw
    rw [low_num hw (by omega), ih, Nat.add_comm] at hs
    rw [restAt, if_num, under_num, top_num X (w := w) (k := k) (by omega), (dstep hy (b2n_le _)).2, ← hs]
    by_cases hc : num (shiftAt (restAt X Y w k) (X (w - 1 - k))) w < num Y w
    · rw [decide_eq_true hc]
      simp only [Bool.not_true, Bool.false_eq_true, if_false]
      rw [if_neg (by omega)]
    · rw [decide_eq_false hc]
      simp only [Bool.not_false, if_true]
      rw [if_pos (by omega)]
      exact sub_num (by omega)
theorem fits_num (X Y : Nat → Bool) {w k : Nat} (hw : 0 < w) (hy : 0 < num Y w) (hy2 : num Y w ≤ 2 ^ (w - 1)) (h : k < w) : num X w / 2 ^ (w - (k + 1)) / num Y w = 2 * (num X w / 2 ^ (w - k) / num Y w) + b2n (fitsAt X Y w k) := by
  have ih := rest_num X Y hw hy hy2 (k := k) (by omega)
  have hlt := Nat.mod_lt (num X w / 2 ^ (w - k)) hy
  have hs := shift_num (restAt X Y w k) (X (w - 1 - k)) hw
  rw [low_num hw (by omega), ih, Nat.add_comm] at hs
  rw [fitsAt, under_num, top_num X h, (dstep hy (b2n_le _)).1, ← hs]
  congr 1
  by_cases hc : num (shiftAt (restAt X Y w k) (X (w - 1 - k))) w < num Y w
  · rw [decide_eq_true hc, if_neg (by omega)]; rfl
  · rw [decide_eq_false hc, if_pos (by omega)]; rfl
theorem quo_top (X Y : Nat → Bool) {w : Nat} (hw : 0 < w) (hy : 0 < num Y w) (hy2 : num Y w ≤ 2 ^ (w - 1)) : ∀ {k : Nat}, k ≤ w → num (fun i => quoAt X Y w (w - k + i)) k = num X w / 2 ^ (w - k) / num Y w
  | 0, _ => by
    have := num_lt X w
    rw [Nat.sub_zero, Nat.div_eq_of_lt this, Nat.zero_div]
    rfl
  | k + 1, h => by
    have ih := quo_top X Y hw hy hy2 (k := k) (by omega)
    rw [fits_num X Y hw hy hy2 (by omega), ← ih, show k + 1 = 1 + k by omega, num_split]
    have e3 : num (fun i => (fun i => quoAt X Y w (w - (1 + k) + i)) (1 + i)) k = num (fun i => quoAt X Y w (w - k + i)) k := num_cong fun i _ => by
      show quoAt X Y w _ = quoAt X Y w _
      congr 1; omega
    rw [e3]
    have e4 : quoAt X Y w (w - (1 + k) + 0) = fitsAt X Y w k := by
      unfold quoAt
      congr 1; omega
    simp only [num, e4]
    omega
theorem quo_num (X Y : Nat → Bool) {w : Nat} (hw : 0 < w) (hy : 0 < num Y w) (hy2 : num Y w ≤ 2 ^ (w - 1)) : num (quoAt X Y w) w = num X w / num Y w := by
  have := quo_top X Y hw hy hy2 (k := w) (Nat.le_refl _)
  rw [Nat.sub_self, Nat.pow_zero, Nat.div_one] at this
  rw [← this]
  exact num_cong fun i _ => by congr 1; omega
theorem rem_num (X Y : Nat → Bool) {w : Nat} (hw : 0 < w) (hy : 0 < num Y w) (hy2 : num Y w ≤ 2 ^ (w - 1)) : num (restAt X Y w w) w = num X w % num Y w := by
  have := rest_num X Y hw hy hy2 (k := w) (Nat.le_refl _)
  rwa [Nat.sub_self, Nat.pow_zero, Nat.div_one] at this
def minusAt (c : Bool) (A : Nat → Bool) : Nat → Bool := ifAt c (sumAt (fun _ => false) (fun j => !A j) true) A
theorem minus_num (c : Bool) (A : Nat → Bool) (w : Nat) : num (minusAt c A) w = if c then (2 ^ w - num A w) % 2 ^ w else num A w := by
  rw [minusAt, if_num]
  cases c
  · rfl
  · simp only [if_true]
    have := not_num A w
    have := num_lt A w
    rw [sum_mod, num_zero, b2n_t]
    congr 1; omega
theorem minus_mod (c : Bool) (A : Nat → Bool) (w : Nat) : (num (minusAt c A) w : Int) % 2 ^ w = (if c then -(num A w : Int) else (num A w : Int)) % 2 ^ w := by
  have hl := num_lt A w
  rw [minus_num]
  cases c
  · rfl
  · simp only [if_true]
    rw [Int.natCast_emod, Int.natCast_sub (by omega), Int.natCast_pow]
    rw [Int.emod_emod_of_dvd _ (by exact Int.dvd_refl _)]
    rw [show ((2 : Nat) : Int) ^ w - (num A w : Int) = -(num A w : Int) + 2 ^ w by simp; omega, Int.add_emod_right]
end Go.V
namespace Go.Proofs.Ytlaeblilmppodaa
open Go.V
set_option maxRecDepth 100000
set_option maxHeartbeats 4000000
set_option linter.unusedSimpArgs false
set_option linter.unusedVariables false
theorem pow_le' {v w : Nat} (h : w ≤ v) : (2 : Int) ^ w ≤ 2 ^ v := by
  have : (2 : Nat) ^ w ≤ 2 ^ v := Nat.pow_le_pow_right (by omega) h
  exact_mod_cast this
theorem pow_dvd' {v w : Nat} (h : w ≤ v) : (2 : Int) ^ w ∣ 2 ^ v := by
  obtain ⟨k, rfl⟩ : ∃ k, v = w + k := ⟨v - w, by omega⟩
  rw [Int.pow_add]; exact Int.dvd_mul_right _ _
theorem trimZ_if {n : Int} {w : Nat} (h : 0 < w) : trimZ n w = if 2 ^ (w - 1) ≤ n % 2 ^ w then n % 2 ^ w - 2 ^ w else n % 2 ^ w := by
  have hp := pow_half h
  have p := pow_pos' w
  have h1 := Int.emod_nonneg n (b := 2 ^ w) (by omega)
  have h2 := Int.emod_lt_of_pos n p
  have e : trimZ n w = trimZ (n % 2 ^ w) w := (trimZ_mod (by rw [Int.emod_emod_of_dvd _ (Int.dvd_refl _)])).symm
  rw [e]
  generalize n % 2 ^ w = r at *
  split
  · rw [← trimZ_mod (a := r - 2 ^ w) (b := r) (by rw [Int.sub_emod, Int.emod_self]; simp), trimZ_id h (by omega) (by omega)]
  · rw [trimZ_id h (by omega) (by omega)]
theorem tmod_emod {n m : Int} (h : 0 < m) : (if n.tmod m < 0 then n.tmod m + m else n.tmod m) = n % m := by
  have h1 := Int.mul_tdiv_add_tmod n m
  have h2 := Int.tmod_lt_of_pos n h
  have h3 : -m < n.tmod m := by
    have := Int.tmod_lt_of_pos (-n) h
    rw [Int.neg_tmod] at this
    omega
  have e : n % m = n.tmod m % m := by
    conv => lhs; rw [← h1]
    rw [Int.add_comm, Int.add_mul_emod_self_left]
  rw [e]
  generalize n.tmod m = r at *
  split
  · rw [← Int.add_emod_right, Int.emod_eq_of_lt (by omega) (by omega)]
  · rw [Int.emod_eq_of_lt (by omega) (by omega)]
theorem two16 {w : Nat} (h : w ≤ 16) : (2 : Int) ^ w ≤ 65536 := by
  have := pow_le' (w := w) (v := 16) h
  omega
theorem trimR {s : Store} {x n : Int} {w : Nat} (hn : (w : Int) = min (max n 1) 16) (hx : in64 x) :
    Ev vfs 45 [.int .i64 x, .int .i64 n] s (.int .i64 (trimZ x w)) s := by
  obtain ⟨hx1, hx2⟩ := hx
  have hw1 : 1 ≤ w := by omega
  have hwl : w ≤ 16 := by omega
  have hp := two16 hwl
  have hp0 := pow_pos' w
  rw [trimZ_if hw1]
  refine ev_of (vf := vf45) rfl ?_
  simp only [vf45, xq, xg, xm, xmg, xc, xl, xlg, xf, xfg, xw, xa, xk, xi, xig, xo, xr, xrp, xn, List.map, List.getD, List.getElem?_cons_zero, List.getElem?_cons_succ, List.getElem?_nil, Option.getD]
  repeat first
   |with_reducible first|apply vA|apply vB|apply vC
   |((with_reducible apply vD); (focus rfl))
   |((with_reducible first|apply vE|apply vF|apply vG|apply vH); simp only [Env.keep, Env.get, Env.ev, List.map, Nat.reduceEqDiff, ↓reduceIte, Then, Out'])
   |((with_reducible first|apply vI|apply vJ|apply vK|apply vL|apply vM|apply vN); (focus (simp (disch := (first|with_reducible assumption|omega|((repeat (first|rw [nP]|rw [nS]))<;>omega)|fail)) only [go_sem, ↓reduceIte] <;> rfl)); (first|(with_reducible (first|apply vO|apply vP|apply vQ|apply vR|apply vS|apply vT|apply vU); try simp only [Env.put])|with_reducible refine (?_ : WQ _ _ _ _ _ _)))
   |fail
  refine WP.mono (Q := fun e env s' => e = .normal ∧ s' = s ∧ (env.get 0 = .int .i64 x ∧ env.get 1 = .int .i64 (max n 1))) ?_ ?_
  · by_cases h : n < 1
    · have b1 : (n < 1) = True := eq_true h
      repeat first
       |with_reducible first|apply vA|apply vB|apply vC
       |((with_reducible apply vD); (focus rfl))
       |((with_reducible first|apply vE|apply vF|apply vG|apply vH); simp only [Env.keep, Env.get, Env.ev, List.map, Nat.reduceEqDiff, ↓reduceIte, Then, Out'])
       |((with_reducible first|apply vI|apply vJ|apply vK|apply vL|apply vM|apply vN); (focus (simp (disch := (first|with_reducible assumption|omega|((repeat (first|rw [nP]|rw [nS]))<;>omega)|fail)) only [go_sem, ↓reduceIte, b1] <;> rfl)); (first|(with_reducible (first|apply vO|apply vP|apply vQ|apply vR|apply vS|apply vT|apply vU); try simp only [Env.put])|with_reducible refine (?_ : WQ _ _ _ _ _ _)))
       |fail
      exact ⟨trivial, trivial, by simp [Env.get]; omega⟩
    · have b1 : (n < 1) = False := eq_false h
      repeat first
       |with_reducible first|apply vA|apply vB|apply vC
       |((with_reducible apply vD); (focus rfl))
       |((with_reducible first|apply vE|apply vF|apply vG|apply vH); simp only [Env.keep, Env.get, Env.ev, List.map, Nat.reduceEqDiff, ↓reduceIte, Then, Out'])
       |((with_reducible first|apply vI|apply vJ|apply vK|apply vL|apply vM|apply vN); (focus (simp (disch := (first|with_reducible assumption|omega|((repeat (first|rw [nP]|rw [nS]))<;>omega)|fail)) only [go_sem, ↓reduceIte, b1] <;> rfl)); (first|(with_reducible (first|apply vO|apply vP|apply vQ|apply vR|apply vS|apply vT|apply vU); try simp only [Env.put])|with_reducible refine (?_ : WQ _ _ _ _ _ _)))
       |fail
      exact ⟨trivial, trivial, by simp [Env.get]; omega⟩
  rintro e env s' ⟨rfl, rfl, hE⟩
  simp only [Then]
  repeat first
   |with_reducible first|apply vA|apply vB|apply vC
   |((with_reducible apply vD); (focus rfl))
   |((with_reducible first|apply vE|apply vF|apply vG|apply vH); simp only [Env.keep, Env.get, Env.ev, List.map, Nat.reduceEqDiff, ↓reduceIte, Then, Out'])
   |((with_reducible first|apply vI|apply vJ|apply vK|apply vL|apply vM|apply vN); (focus (simp (disch := (first|with_reducible assumption|omega|((repeat (first|rw [nP]|rw [nS]))<;>omega)|fail)) only [go_sem, ↓reduceIte, hE] <;> rfl)); (first|(with_reducible (first|apply vO|apply vP|apply vQ|apply vR|apply vS|apply vT|apply vU); try simp only [Env.put])|with_reducible refine (?_ : WQ _ _ _ _ _ _)))
   |fail
  refine WP.mono (Q := fun e env s1 => e = .normal ∧ s1 = s' ∧ (env.get 0 = .int .i64 x ∧ env.get 1 = .int .i64 (w : Int))) ?_ ?_
  · by_cases h : 16 < max n 1
    · have b1 : (16 < max n 1) = True := eq_true h
      repeat first
       |with_reducible first|apply vA|apply vB|apply vC
       |((with_reducible apply vD); (focus rfl))
       |((with_reducible first|apply vE|apply vF|apply vG|apply vH); simp only [Env.keep, Env.get, Env.ev, List.map, Nat.reduceEqDiff, ↓reduceIte, Then, Out'])
       |((with_reducible first|apply vI|apply vJ|apply vK|apply vL|apply vM|apply vN); (focus (simp (disch := (first|with_reducible assumption|omega|((repeat (first|rw [nP]|rw [nS]))<;>omega)|fail)) only [go_sem, ↓reduceIte, hE, b1] <;> rfl)); (first|(with_reducible (first|apply vO|apply vP|apply vQ|apply vR|apply vS|apply vT|apply vU); try simp only [Env.put])|with_reducible refine (?_ : WQ _ _ _ _ _ _)))
       |fail
      exact ⟨trivial, trivial, by simp [Env.get, hE]; omega⟩
    · have b1 : (16 < max n 1) = False := eq_false h
      repeat first
       |with_reducible first|apply vA|apply vB|apply vC
       |((with_reducible apply vD); (focus rfl))
       |((with_reducible first|apply vE|apply vF|apply vG|apply vH); simp only [Env.keep, Env.get, Env.ev, List.map, Nat.reduceEqDiff, ↓reduceIte, Then, Out'])
       |((with_reducible first|apply vI|apply vJ|apply vK|apply vL|apply vM|apply vN); (focus (simp (disch := (first|with_reducible assumption|omega|((repeat (first|rw [nP]|rw [nS]))<;>omega)|fail)) only [go_sem, ↓reduceIte, hE, b1] <;> rfl)); (first|(with_reducible (first|apply vO|apply vP|apply vQ|apply vR|apply vS|apply vT|apply vU); try simp only [Env.put])|with_reducible refine (?_ : WQ _ _ _ _ _ _)))
       |fail
      exact ⟨trivial, trivial, by simp [Env.get, hE]; omega⟩
  clear hE
  rintro e env s1 ⟨rfl, rfl, hE⟩
  simp only [Then]
  repeat first
   |with_reducible first|apply vA|apply vB|apply vC
   |((with_reducible apply vD); (focus rfl))
   |((with_reducible first|apply vE|apply vF|apply vG|apply vH); simp only [Env.keep, Env.get, Env.ev, List.map, Nat.reduceEqDiff, ↓reduceIte, Then, Out'])
   |((with_reducible first|apply vI|apply vJ|apply vK|apply vL|apply vM|apply vN); (focus (simp (disch := (first|with_reducible assumption|omega|((repeat (first|rw [nP]|rw [nS]))<;>omega)|fail)) only [go_sem, ↓reduceIte, hE] <;> rfl)); (first|(with_reducible (first|apply vO|apply vP|apply vQ|apply vR|apply vS|apply vT|apply vU); try simp only [Env.put])|with_reducible refine (?_ : WQ _ _ _ _ _ _)))
   |fail
  refine vw_loop_inv (fun k env s2 => ∃ (i : Nat), i ≤ w ∧ k = w - i ∧ s2 = s1 ∧ (env.get 0 = .int .i64 x ∧ env.get 1 = .int .i64 (w : Int) ∧ env.get 5 = .int .i64 (2 ^ i) ∧ env.get 6 = .int .i64 (i : Int))) ?_ w _ _
    ⟨0, Nat.zero_le _, by omega, rfl, by simp [Env.get, hE]⟩
  clear hE
  rintro k env s2 ⟨i, hi, rfl, rfl, hE⟩
  by_cases hci : i < w
  · have hci' : (i : Int) < (w : Int) := by omega
    have hs := (by rw [i64_id (by omega) (by omega)]; omega : IntKind.i64.wrap ((i : Int) + 1) = ((i + 1 : Nat) : Int))
    have hpi := two16 (w := i) (by omega)
    have hpi0 := pow_pos' i
    have hmul : IntKind.i64.wrap ((2 : Int) ^ i * 2) = 2 ^ (i + 1) := by rw [i64_id (by omega) (by omega), Int.pow_succ]
    repeat first
     |with_reducible first|apply vA|apply vB|apply vC
     |((with_reducible apply vD); (focus rfl))
     |((with_reducible first|apply vE|apply vF|apply vG|apply vH); simp only [Env.keep, Env.get, Env.ev, List.map, Nat.reduceEqDiff, ↓reduceIte, Then, Out'])
     |((with_reducible first|apply vI|apply vJ|apply vK|apply vL|apply vM|apply vN); (focus (simp (disch := (first|with_reducible assumption|omega|((repeat (first|rw [nP]|rw [nS]))<;>omega)|fail)) only [go_sem, ↓reduceIte, hE, hci', hs, hmul] <;> rfl)); (first|(with_reducible (first|apply vO|apply vP|apply vQ|apply vR|apply vS|apply vT|apply vU); try simp only [Env.put])|with_reducible refine (?_ : WQ _ _ _ _ _ _)))
     |fail
    exact ⟨w - (i + 1), by omega, i + 1, by omega, rfl, trivial, (by simp only [Env.get, Nat.reduceEqDiff, ↓reduceIte, hE, and_self])⟩
  · have hci' : ¬ (i : Int) < (w : Int) := by omega
    obtain rfl : i = w := by omega
    have hne : ((2 : Int) ^ i = 0) = False := eq_false (by omega)
    have hm := tmod_emod (n := x) hp0
    have h1 := Int.emod_nonneg x (b := 2 ^ i) (by omega)
    have h2 := Int.emod_lt_of_pos x hp0
    have hh := pow_half (w := i) (by omega)
    have hdiv : ((2 : Int) ^ i).tdiv 2 = 2 ^ (i - 1) := by
      rw [Int.tdiv_eq_ediv_of_nonneg (by omega)]; omega
    have hwd : IntKind.i64.wrap ((2 : Int) ^ (i - 1)) = 2 ^ (i - 1) := i64_id (by omega) (by omega)
    have hs2 : IntKind.i64.wrap (x % 2 ^ i - 2 ^ i) = x % 2 ^ i - 2 ^ i := i64_id (by omega) (by omega)
    by_cases hneg : x.tmod (2 ^ i) < 0
    · rw [if_pos hneg] at hm
      have hadd : IntKind.i64.wrap (x.tmod (2 ^ i) + 2 ^ i) = x % 2 ^ i := by rw [hm]; exact i64_id (by omega) (by omega)
      by_cases hc : 2 ^ (i - 1) ≤ x % 2 ^ i
      · repeat first
         |with_reducible first|apply vA|apply vB|apply vC
         |((with_reducible apply vD); (focus rfl))
         |((with_reducible first|apply vE|apply vF|apply vG|apply vH); simp only [Env.keep, Env.get, Env.ev, List.map, Nat.reduceEqDiff, ↓reduceIte, Then, Out'])
         |((with_reducible first|apply vI|apply vJ|apply vK|apply vL|apply vM|apply vN); (focus (simp (disch := (first|with_reducible assumption|omega|((repeat (first|rw [nP]|rw [nS]))<;>omega)|fail)) only [go_sem, ↓reduceIte, hE, hci', hne, hneg, hadd, hdiv, hwd, hc, hs2] <;> rfl)); (first|(with_reducible (first|apply vO|apply vP|apply vQ|apply vR|apply vS|apply vT|apply vU); try simp only [Env.put])|with_reducible refine (?_ : WQ _ _ _ _ _ _)))
         |fail
        exact ⟨.inr trivial, trivial, (by simp only [resOf, resAll, resOne, Env.get, Nat.reduceEqDiff, ↓reduceIte, hc] <;> rfl)⟩
      · repeat first
         |with_reducible first|apply vA|apply vB|apply vC
         |((with_reducible apply vD); (focus rfl))
         |((with_reducible first|apply vE|apply vF|apply vG|apply vH); simp only [Env.keep, Env.get, Env.ev, List.map, Nat.reduceEqDiff, ↓reduceIte, Then, Out'])
         |((with_reducible first|apply vI|apply vJ|apply vK|apply vL|apply vM|apply vN); (focus (simp (disch := (first|with_reducible assumption|omega|((repeat (first|rw [nP]|rw [nS]))<;>omega)|fail)) only [go_sem, ↓reduceIte, hE, hci', hne, hneg, hadd, hdiv, hwd, hc, hs2] <;> rfl)); (first|(with_reducible (first|apply vO|apply vP|apply vQ|apply vR|apply vS|apply vT|apply vU); try simp only [Env.put])|with_reducible refine (?_ : WQ _ _ _ _ _ _)))
         |fail
        exact ⟨.inr trivial, trivial, (by simp only [resOf, resAll, resOne, Env.get, Nat.reduceEqDiff, ↓reduceIte, hc] <;> rfl)⟩
    · rw [if_neg hneg] at hm
      have hneg : (x % 2 ^ i < 0) = False := eq_false (by omega)
      by_cases hc : 2 ^ (i - 1) ≤ x % 2 ^ i
      · repeat first
         |with_reducible first|apply vA|apply vB|apply vC
         |((with_reducible apply vD); (focus rfl))
         |((with_reducible first|apply vE|apply vF|apply vG|apply vH); simp only [Env.keep, Env.get, Env.ev, List.map, Nat.reduceEqDiff, ↓reduceIte, Then, Out'])
         |((with_reducible first|apply vI|apply vJ|apply vK|apply vL|apply vM|apply vN); (focus (simp (disch := (first|with_reducible assumption|omega|((repeat (first|rw [nP]|rw [nS]))<;>omega)|fail)) only [go_sem, ↓reduceIte, hE, hci', hne, hneg, hm, hdiv, hwd, hc, hs2] <;> rfl)); (first|(with_reducible (first|apply vO|apply vP|apply vQ|apply vR|apply vS|apply vT|apply vU); try simp only [Env.put])|with_reducible refine (?_ : WQ _ _ _ _ _ _)))
         |fail
        exact ⟨.inr trivial, trivial, (by simp only [resOf, resAll, resOne, Env.get, Nat.reduceEqDiff, ↓reduceIte, hc] <;> rfl)⟩
      · repeat first
         |with_reducible first|apply vA|apply vB|apply vC
         |((with_reducible apply vD); (focus rfl))
         |((with_reducible first|apply vE|apply vF|apply vG|apply vH); simp only [Env.keep, Env.get, Env.ev, List.map, Nat.reduceEqDiff, ↓reduceIte, Then, Out'])
         |((with_reducible first|apply vI|apply vJ|apply vK|apply vL|apply vM|apply vN); (focus (simp (disch := (first|with_reducible assumption|omega|((repeat (first|rw [nP]|rw [nS]))<;>omega)|fail)) only [go_sem, ↓reduceIte, hE, hci', hne, hneg, hm, hdiv, hwd, hc, hs2] <;> rfl)); (first|(with_reducible (first|apply vO|apply vP|apply vQ|apply vR|apply vS|apply vT|apply vU); try simp only [Env.put])|with_reducible refine (?_ : WQ _ _ _ _ _ _)))
         |fail
        exact ⟨.inr trivial, trivial, (by simp only [resOf, resAll, resOne, Env.get, Nat.reduceEqDiff, ↓reduceIte, hc] <;> rfl)⟩
theorem trim_iso {x n : Int} {w : Nat} (hn : (w : Int) = min (max n 1) 16) (hx : in64 x) : Iso 45 [.int .i64 x, .int .i64 n] (.int .i64 (trimZ x w)) := ⟨_, trimR hn hx⟩
end Go.Proofs.Ytlaeblilmppodaa
namespace Go.V
def copiesF (t : List Nd) (i : Nat) : Int := if (nd t (item t i)).kind = 3 then (nd t (item t i)).num 0 else 1
def stepF (t : List Nd) (kind : Int) (i : Nat) : Int := if kind = 1 then 1 else min (copiesF t i) 100
def sumF (t : List Nd) (kind : Int) : Nat → Int
  | 0 => 0
  | i + 1 => if sumF t kind i < 100 ∧ (nd t i).kind = kind then sumF t kind i + stepF t kind i else sumF t kind i
theorem sum_big {t : List Nd} {kind : Int} {i : Nat} (h : 100 ≤ sumF t kind i) : ∀ {j : Nat}, i ≤ j → sumF t kind j = sumF t kind i
  | 0, hj => by
    obtain rfl : i = 0 := by omega
    rfl
  | j + 1, hj => by
    by_cases e : i = j + 1
    · subst e; rfl
    · have ih := sum_big h (j := j) (by omega)
      rw [sumF, if_neg (by omega), ih]
structure FineAt (t : List Nd) (i : Nat) : Prop where
  chan : (nd t i).kind = 1 → 1 ≤ (nd t i).num 0 ∧ (nd t i).num 0 ≤ 3 ∧ 1 ≤ (nd t i).num 1 ∧ (nd t i).num 1 ≤ 8 ∧ sumF t 1 (i + 1) ≤ 3
  var : (nd t i).kind = 2 → 1 ≤ (nd t i).num 0 ∧ (nd t i).num 0 ≤ 8 ∧ trimZ ((nd t i).num 1) ((nd t i).num 0).toNat = (nd t i).num 1 ∧ sumF t 2 (i + 1) ≤ 8
  proc : (nd t i).kind = 3 → 1 ≤ (nd t i).num 0 ∧ sumF t 3 (i + 1) ≤ 4
  lit : (nd t i).kind = 17 → (nd t i).num 0 ≤ 127
structure Typed (t : List Nd) : Prop where
  fine : ∀ i, i < t.length → FineAt t i
theorem item_le {t : List Nd} (h : RightT t) {i : Nat} (hi : i < t.length) : item t i ≤ i := by
  by_cases h0 : i = 0
  · subst h0
    have : item t 0 = 0 := itemF_late fun k hk => by have := h.subs.mem k hk; omega
    omega
  · obtain ⟨b, _, _, h3, _⟩ := item_in h (by omega) hi
    exact h3
theorem copies_in {t : List Nd} (h : RightT t) {i : Nat} (hi : i < t.length) : 0 ≤ copiesF t i ∧ copiesF t i ≤ 999999 := by
  have := item_le h hi
  unfold copiesF
  split
  · rename_i h3
    exact (h.ok.node _ (by omega)).copies h3
  · omega
theorem step_in {t : List Nd} (h : RightT t) {kind : Int} {i : Nat} (hi : i < t.length) : 0 ≤ stepF t kind i ∧ stepF t kind i ≤ 100 := by
  have := copies_in h hi
  unfold stepF
  split <;> omega
theorem sum_in {t : List Nd} (h : RightT t) {kind : Int} : ∀ {i : Nat}, i ≤ t.length → 0 ≤ sumF t kind i ∧ sumF t kind i < 200
  | 0, _ => by simp [sumF]
  | i + 1, hi => by
    have ih := sum_in h (kind := kind) (i := i) (by omega)
    have := step_in h (kind := kind) (i := i) (by omega)
    rw [sumF]
    split <;> omega
end Go.V
