/- Texts one behind the other. -/
import Derived.Test.YtlaeblilmppodaaZ5
import Derived.Test.YtlaeblilmppodaaZ4
import Derived.Test.YtlaeblilmppodaaZ2
set_option linter.unusedSimpArgs false
set_option linter.unusedVariables false
namespace Go.Proofs.Ytlaeblilmppodaa
open Go.V
set_option maxRecDepth 100000
set_option maxHeartbeats 4000000
set_option linter.unusedSimpArgs false
set_option linter.unusedVariables false
theorem num_idx {x : Nd} (hx : x.Ok) {i : Nat} (h : i < x.nums.length) : idxAV 1 x.dn (.int .i64 (i : Int)) = some (.fp [.int .i64 (x.num i)] 0) := by rw [num_get h]; exact FI.idx hx.n h
theorem copies_ok {d : D} {t : List Nd} (hT : TreeAt d t) (hR : RightT t) {i : Nat} (hi : i < t.length) : Iso 121 [d, .int .i64 (i : Int)] (.int .i64 (copiesF t i)) := by
  refine iso_of ?_
  have hit := item_ok hT hR hi
  have hle := item_le hR hi
  have hidx := hT.at (z := (item t i : Int)) (by omega) (by omega) (k := .i64)
  rw [Int.toNat_natCast] at hidx
  have hx := hT.nd (i := item t i) (by omega)
  have o1 := FL.one hx.w
  have o2 := FL.one hx.n
  have o3 := FL.one hx.k
  unfold copiesF
  by_cases c : (nd t (item t i)).kind = 3
  · have c' : ((nd t (item t i)).kind == 3) = true := by rw [c]; rfl
    have hnl : (nd t (item t i)).nums.length = 1 := by rw [(hR.ok.node _ (by omega)).nl, c]; rfl
    have n0 := num_idx hx (i := 0) (by omega)
    have z0 : ((0 : Nat) : Int) = 0 := rfl
    rw [z0] at n0
    rw [if_pos c]
    refine evp_of (vf := vf121) rfl ?_
    simp only [vf121, xq, xg, xm, xmg, xc, xl, xlg, xf, xfg, xw, xa, xk, xi, xig, xo, xr, xrp, xn, List.map, List.getD, List.getElem?_cons_zero, List.getElem?_cons_succ, List.getElem?_nil, Option.getD]
    repeat first
     |(apply vq_isoI hit rfl rfl (fz2 hT.fz fz_int))
     |with_reducible first|apply vA|apply vB|apply vC
     |((with_reducible apply vD); (focus rfl))
     |((with_reducible first|apply vE|apply vF|apply vG|apply vH); simp only [Env.keep, Env.get, Env.ev, List.map, Nat.reduceEqDiff, ↓reduceIte, Then, Out'])
     |((with_reducible first|apply vI|apply vJ|apply vK|apply vL|apply vM|apply vN); (focus (simp (disch := (first|with_reducible assumption|omega|((repeat (first|rw [nP]|rw [nS]))<;>omega)|fail)) only [go_sem, ↓reduceIte, hidx, o1, o2, o3, c', n0] <;> rfl)); (first|(with_reducible (first|apply vO|apply vP|apply vQ|apply vR|apply vS|apply vT|apply vU); try simp only [Env.put])|with_reducible refine (?_ : WQ _ _ _ _ _ _)))
     |fail
    exact ⟨.inr trivial, _, (by simp only [resOf, resAll, resOne, Env.get, Nat.reduceEqDiff, ↓reduceIte] <;> rfl), rfl⟩
  · have c' : ((nd t (item t i)).kind == 3) = false := by rw [beq_eq_false_iff_ne]; exact c
    rw [if_neg c]
    refine evp_of (vf := vf121) rfl ?_
    simp only [vf121, xq, xg, xm, xmg, xc, xl, xlg, xf, xfg, xw, xa, xk, xi, xig, xo, xr, xrp, xn, List.map, List.getD, List.getElem?_cons_zero, List.getElem?_cons_succ, List.getElem?_nil, Option.getD]
    repeat first
     |(apply vq_isoI hit rfl rfl (fz2 hT.fz fz_int))
     |with_reducible first|apply vA|apply vB|apply vC
     |((with_reducible apply vD); (focus rfl))
     |((with_reducible first|apply vE|apply vF|apply vG|apply vH); simp only [Env.keep, Env.get, Env.ev, List.map, Nat.reduceEqDiff, ↓reduceIte, Then, Out'])
     |((with_reducible first|apply vI|apply vJ|apply vK|apply vL|apply vM|apply vN); (focus (simp (disch := (first|with_reducible assumption|omega|((repeat (first|rw [nP]|rw [nS]))<;>omega)|fail)) only [go_sem, ↓reduceIte, hidx, o1, o2, o3, c'] <;> rfl)); (first|(with_reducible (first|apply vO|apply vP|apply vQ|apply vR|apply vS|apply vT|apply vU); try simp only [Env.put])|with_reducible refine (?_ : WQ _ _ _ _ _ _)))
     |fail
    exact ⟨.inr trivial, _, (by simp only [resOf, resAll, resOne, Env.get, Nat.reduceEqDiff, ↓reduceIte] <;> rfl), rfl⟩
theorem sum_ok {d : D} {t : List Nd} (hT : TreeAt d t) (hR : RightT t) {i : Nat} (hi : i < t.length) {kind : Int} : Iso 104 [d, .int .i64 (i : Int), .int .i64 kind] (.int .i64 (sumF t kind (i + 1))) := by
  refine iso_of ?_
  have hle := hR.ok.le
  refine evp_of (vf := vf104) rfl ?_
  simp only [vf104, xq, xg, xm, xmg, xc, xl, xlg, xf, xfg, xw, xa, xk, xi, xig, xo, xr, xrp, xn, List.map, List.getD, List.getElem?_cons_zero, List.getElem?_cons_succ, List.getElem?_nil, Option.getD]
  repeat first
   |with_reducible first|apply vA|apply vB|apply vC
   |((with_reducible apply vD); (focus rfl))
   |((with_reducible first|apply vE|apply vF|apply vG|apply vH); simp only [Env.keep, Env.get, Env.ev, List.map, Nat.reduceEqDiff, ↓reduceIte, Then, Out'])
   |((with_reducible first|apply vI|apply vJ|apply vK|apply vL|apply vM|apply vN); (focus (simp (disch := (first|with_reducible assumption|omega|((repeat (first|rw [nP]|rw [nS]))<;>omega)|fail)) only [go_sem, ↓reduceIte] <;> rfl)); (first|(with_reducible (first|apply vO|apply vP|apply vQ|apply vR|apply vS|apply vT|apply vU); try simp only [Env.put])|with_reducible refine (?_ : WQ _ _ _ _ _ _)))
   |fail
  refine vw_loop_inv (Q := Out' 0 _) (fun n env s => ∃ j : Nat, j ≤ i + 1 ∧ n = i + 1 - j ∧ (env.get 0 = d ∧ env.get 1 = .int .i64 (i : Int) ∧ env.get 2 = .int .i64 kind ∧ env.get 7 = .int .i64 (sumF t kind j) ∧ env.get 8 = .int .i64 (j : Int))) ?_ (i + 1) _ _ ⟨0, by omega, rfl, by simp [Env.get, sumF]⟩
  rintro n env s ⟨j, hj, rfl, hE⟩
  have hsi := sum_in hR (kind := kind) (i := j) (by omega)
  by_cases c1 : j ≤ i
  · have c1' : ((j : Int) ≤ (i : Int)) = True := eq_true (by omega)
    have hs : IntKind.i64.wrap ((j : Int) + 1) = ((j + 1 : Nat) : Int) := by rw [i64_id (by omega) (by omega)]; omega
    by_cases c2 : sumF t kind j < 100
    · have hidx := hT.at (z := (j : Int)) (by omega) (by omega) (k := .i64)
      rw [Int.toNat_natCast] at hidx
      have hx := hT.nd (i := j) (by omega)
      have o1 := FL.one hx.w
      have o2 := FL.one hx.n
      have o3 := FL.one hx.k
      by_cases c3 : (nd t j).kind = kind
      · have c3' : ((nd t j).kind != kind) = false := by rw [c3]; simp
        have hst : sumF t kind (j + 1) = sumF t kind j + stepF t kind j := by rw [sumF, if_pos ⟨c2, c3⟩]
        have hsr := step_in hR (kind := kind) (i := j) (by omega)
        by_cases c4 : kind = 1
        · have c4' : (kind == 1) = true := by rw [c4]; rfl
          have hw : IntKind.i64.wrap (sumF t kind j + 1) = sumF t kind (j + 1) := by rw [i64_id (by omega) (by omega), hst, stepF, if_pos c4]
          repeat first
           |with_reducible first|apply vA|apply vB|apply vC
           |((with_reducible apply vD); (focus rfl))
           |((with_reducible first|apply vE|apply vF|apply vG|apply vH); simp only [Env.keep, Env.get, Env.ev, List.map, Nat.reduceEqDiff, ↓reduceIte, Then, Out'])
           |((with_reducible first|apply vI|apply vJ|apply vK|apply vL|apply vM|apply vN); (focus (simp (disch := (first|with_reducible assumption|omega|((repeat (first|rw [nP]|rw [nS]))<;>omega)|fail)) only [go_sem, ↓reduceIte, hE, c1', c2, hidx, o1, o2, o3, c3', c4', hw, hs] <;> rfl)); (first|(with_reducible (first|apply vO|apply vP|apply vQ|apply vR|apply vS|apply vT|apply vU); try simp only [Env.put])|with_reducible refine (?_ : WQ _ _ _ _ _ _)))
           |fail
          exact ⟨i + 1 - (j + 1), by omega, j + 1, by omega, rfl, (by simp only [Env.get, Nat.reduceEqDiff, ↓reduceIte, hE, and_self])⟩
        · have c4' : (kind == 1) = false := by rw [beq_eq_false_iff_ne]; exact c4
          have hc := copies_ok hT hR (i := j) (by omega)
          have hcr := copies_in hR (i := j) (by omega)
          have hw : IntKind.i64.wrap (sumF t kind j + min (copiesF t j) 100) = sumF t kind (j + 1) := by rw [i64_id (by omega) (by omega), hst, stepF, if_neg c4]
          repeat first
           |(apply vq_isoI hc rfl; (focus (simp only [Env.evL, Env.ev, Env.get, Nat.reduceEqDiff, ↓reduceIte, hE])); (focus exact fz2 hT.fz fz_int))
           |with_reducible first|apply vA|apply vB|apply vC
           |((with_reducible apply vD); (focus rfl))
           |((with_reducible first|apply vE|apply vF|apply vG|apply vH); simp only [Env.keep, Env.get, Env.ev, List.map, Nat.reduceEqDiff, ↓reduceIte, Then, Out'])
           |((with_reducible first|apply vI|apply vJ|apply vK|apply vL|apply vM|apply vN); (focus (simp (disch := (first|with_reducible assumption|omega|((repeat (first|rw [nP]|rw [nS]))<;>omega)|fail)) only [go_sem, ↓reduceIte, hE, c1', c2, hidx, o1, o2, o3, c3', c4', hw, hs] <;> rfl)); (first|(with_reducible (first|apply vO|apply vP|apply vQ|apply vR|apply vS|apply vT|apply vU); try simp only [Env.put])|with_reducible refine (?_ : WQ _ _ _ _ _ _)))
           |fail
          exact ⟨i + 1 - (j + 1), by omega, j + 1, by omega, rfl, (by simp only [Env.get, Nat.reduceEqDiff, ↓reduceIte, hE, and_self])⟩
      · have c3' : ((nd t j).kind != kind) = true := by rw [bne_iff_ne]; exact c3
        have hst : sumF t kind (j + 1) = sumF t kind j := by rw [sumF, if_neg fun h => c3 h.2]
        repeat first
         |with_reducible first|apply vA|apply vB|apply vC
         |((with_reducible apply vD); (focus rfl))
         |((with_reducible first|apply vE|apply vF|apply vG|apply vH); simp only [Env.keep, Env.get, Env.ev, List.map, Nat.reduceEqDiff, ↓reduceIte, Then, Out'])
         |((with_reducible first|apply vI|apply vJ|apply vK|apply vL|apply vM|apply vN); (focus (simp (disch := (first|with_reducible assumption|omega|((repeat (first|rw [nP]|rw [nS]))<;>omega)|fail)) only [go_sem, ↓reduceIte, hE, c1', c2, hidx, o1, o2, o3, c3', hs] <;> rfl)); (first|(with_reducible (first|apply vO|apply vP|apply vQ|apply vR|apply vS|apply vT|apply vU); try simp only [Env.put])|with_reducible refine (?_ : WQ _ _ _ _ _ _)))
         |fail
        exact ⟨i + 1 - (j + 1), by omega, j + 1, by omega, rfl, by simp only [Env.get, Nat.reduceEqDiff, ↓reduceIte, hE, hst, and_self]⟩
    · have hb := sum_big (t := t) (kind := kind) (i := j) (by omega) (j := i + 1) (by omega)
      repeat first
       |with_reducible first|apply vA|apply vB|apply vC
       |((with_reducible apply vD); (focus rfl))
       |((with_reducible first|apply vE|apply vF|apply vG|apply vH); simp only [Env.keep, Env.get, Env.ev, List.map, Nat.reduceEqDiff, ↓reduceIte, Then, Out'])
       |((with_reducible first|apply vI|apply vJ|apply vK|apply vL|apply vM|apply vN); (focus (simp (disch := (first|with_reducible assumption|omega|((repeat (first|rw [nP]|rw [nS]))<;>omega)|fail)) only [go_sem, ↓reduceIte, hE, c1', c2] <;> rfl)); (first|(with_reducible (first|apply vO|apply vP|apply vQ|apply vR|apply vS|apply vT|apply vU); try simp only [Env.put])|with_reducible refine (?_ : WQ _ _ _ _ _ _)))
       |fail
      exact ⟨.inr trivial, _, (by simp only [resOf, resAll, resOne, Env.get, Nat.reduceEqDiff, ↓reduceIte] <;> rfl), by rw [hb]⟩
  · have c1' : ((j : Int) ≤ (i : Int)) = False := eq_false (by omega)
    obtain rfl : j = i + 1 := by omega
    repeat first
     |with_reducible first|apply vA|apply vB|apply vC
     |((with_reducible apply vD); (focus rfl))
     |((with_reducible first|apply vE|apply vF|apply vG|apply vH); simp only [Env.keep, Env.get, Env.ev, List.map, Nat.reduceEqDiff, ↓reduceIte, Then, Out'])
     |((with_reducible first|apply vI|apply vJ|apply vK|apply vL|apply vM|apply vN); (focus (simp (disch := (first|with_reducible assumption|omega|((repeat (first|rw [nP]|rw [nS]))<;>omega)|fail)) only [go_sem, ↓reduceIte, hE, c1'] <;> rfl)); (first|(with_reducible (first|apply vO|apply vP|apply vQ|apply vR|apply vS|apply vT|apply vU); try simp only [Env.put])|with_reducible refine (?_ : WQ _ _ _ _ _ _)))
     |fail
    exact ⟨.inr trivial, _, (by simp only [resOf, resAll, resOne, Env.get, Nat.reduceEqDiff, ↓reduceIte] <;> rfl), rfl⟩
theorem inside_ok {d : D} {t : List Nd} (hT : TreeAt d t) (hR : RightT t) {z : Int} : ∀ (f a : Nat), a < t.length → t.length - a < f → IsoB 105 [d, .int .i64 z, .int .i64 (a : Int)] fun _ => True
  | 0, a, _, h => by omega
  | f + 1, a, ha, hf => by
    refine isoB_of ?_
    have hidx := hT.at (z := (a : Int)) (by omega) (by omega) (k := .i64)
    rw [Int.toNat_natCast] at hidx
    have hx := hT.nd ha
    have o1 := FL.one hx.w
    have o2 := FL.one hx.n
    have o3 := FL.one hx.k
    have hlk := FI.len hx.k
    refine evp_of (vf := vf105) rfl ?_
    simp only [vf105, xq, xg, xm, xmg, xc, xl, xlg, xf, xfg, xw, xa, xk, xi, xig, xo, xr, xrp, xn, List.map, List.getD, List.getElem?_cons_zero, List.getElem?_cons_succ, List.getElem?_nil, Option.getD]
    repeat first
     |with_reducible first|apply vA|apply vB|apply vC
     |((with_reducible apply vD); (focus rfl))
     |((with_reducible first|apply vE|apply vF|apply vG|apply vH); simp only [Env.keep, Env.get, Env.ev, List.map, Nat.reduceEqDiff, ↓reduceIte, Then, Out'])
     |((with_reducible first|apply vI|apply vJ|apply vK|apply vL|apply vM|apply vN); (focus (simp (disch := (first|with_reducible assumption|omega|((repeat (first|rw [nP]|rw [nS]))<;>omega)|fail)) only [go_sem, ↓reduceIte] <;> rfl)); (first|(with_reducible (first|apply vO|apply vP|apply vQ|apply vR|apply vS|apply vT|apply vU); try simp only [Env.put])|with_reducible refine (?_ : WQ _ _ _ _ _ _)))
     |fail
    refine vw_loop_inv (Q := Out' 0 _) (fun n env s => ∃ j : Nat, j ≤ (nd t a).kids.length ∧ n = (nd t a).kids.length - j ∧ (env.get 0 = d ∧ env.get 1 = .int .i64 z ∧ env.get 2 = .int .i64 (a : Int) ∧ env.get 7 = .int .i64 (j : Int))) ?_ (nd t a).kids.length _ _ ⟨0, by omega, rfl, by simp [Env.get]⟩
    rintro n env s ⟨j, hj, rfl, hE⟩
    by_cases c1 : j < (nd t a).kids.length
    · have c1' : ((j : Int) < ((nd t a).kids.length : Int)) = True := eq_true (by omega)
      have hki := FI.idx hx.k c1 (k := .i64)
      have hs := succ63 c1 hx.kl
      have hkr := hR.ok.kids a ha _ (List.getElem_mem c1)
      obtain ⟨k, hk⟩ : ∃ k : Nat, (nd t a).kids[j] = (k : Int) := ⟨(nd t a).kids[j].toNat, by omega⟩
      rw [hk] at hki hkr
      obtain ⟨b, hb, _⟩ := inside_ok hT hR (z := z) f k (by omega) (by omega)
      cases c2 : ((k : Int) == z)
      · cases b
        · repeat first
           |(apply vq_isoI hb rfl; (focus (simp only [Env.evL, Env.ev, Env.get, Nat.reduceEqDiff, ↓reduceIte, hE])); (focus exact fz3 hT.fz fz_int fz_int))
           |with_reducible first|apply vA|apply vB|apply vC
           |((with_reducible apply vD); (focus rfl))
           |((with_reducible first|apply vE|apply vF|apply vG|apply vH); simp only [Env.keep, Env.get, Env.ev, List.map, Nat.reduceEqDiff, ↓reduceIte, Then, Out'])
           |((with_reducible first|apply vI|apply vJ|apply vK|apply vL|apply vM|apply vN); (focus (simp (disch := (first|with_reducible assumption|omega|((repeat (first|rw [nP]|rw [nS]))<;>omega)|fail)) only [go_sem, ↓reduceIte, hE, hidx, o1, o2, o3, hlk, c1', hki, c2, hs] <;> rfl)); (first|(with_reducible (first|apply vO|apply vP|apply vQ|apply vR|apply vS|apply vT|apply vU); try simp only [Env.put])|with_reducible refine (?_ : WQ _ _ _ _ _ _)))
           |fail
          exact ⟨(nd t a).kids.length - (j + 1), by omega, j + 1, by omega, rfl, (by simp only [Env.get, Nat.reduceEqDiff, ↓reduceIte, hE, and_self])⟩
        · repeat first
           |(apply vq_isoI hb rfl; (focus (simp only [Env.evL, Env.ev, Env.get, Nat.reduceEqDiff, ↓reduceIte, hE])); (focus exact fz3 hT.fz fz_int fz_int))
           |with_reducible first|apply vA|apply vB|apply vC
           |((with_reducible apply vD); (focus rfl))
           |((with_reducible first|apply vE|apply vF|apply vG|apply vH); simp only [Env.keep, Env.get, Env.ev, List.map, Nat.reduceEqDiff, ↓reduceIte, Then, Out'])
           |((with_reducible first|apply vI|apply vJ|apply vK|apply vL|apply vM|apply vN); (focus (simp (disch := (first|with_reducible assumption|omega|((repeat (first|rw [nP]|rw [nS]))<;>omega)|fail)) only [go_sem, ↓reduceIte, hE, hidx, o1, o2, o3, hlk, c1', hki, c2] <;> rfl)); (first|(with_reducible (first|apply vO|apply vP|apply vQ|apply vR|apply vS|apply vT|apply vU); try simp only [Env.put])|with_reducible refine (?_ : WQ _ _ _ _ _ _)))
           |fail
          exact ⟨.inr trivial, _, (by simp only [resOf, resAll, resOne, Env.get, Nat.reduceEqDiff, ↓reduceIte] <;> rfl), _, rfl, trivial⟩
      · repeat first
         |with_reducible first|apply vA|apply vB|apply vC
         |((with_reducible apply vD); (focus rfl))
         |((with_reducible first|apply vE|apply vF|apply vG|apply vH); simp only [Env.keep, Env.get, Env.ev, List.map, Nat.reduceEqDiff, ↓reduceIte, Then, Out'])
         |((with_reducible first|apply vI|apply vJ|apply vK|apply vL|apply vM|apply vN); (focus (simp (disch := (first|with_reducible assumption|omega|((repeat (first|rw [nP]|rw [nS]))<;>omega)|fail)) only [go_sem, ↓reduceIte, hE, hidx, o1, o2, o3, hlk, c1', hki, c2] <;> rfl)); (first|(with_reducible (first|apply vO|apply vP|apply vQ|apply vR|apply vS|apply vT|apply vU); try simp only [Env.put])|with_reducible refine (?_ : WQ _ _ _ _ _ _)))
         |fail
        exact ⟨.inr trivial, _, (by simp only [resOf, resAll, resOne, Env.get, Nat.reduceEqDiff, ↓reduceIte] <;> rfl), _, rfl, trivial⟩
    · have c1' : ((j : Int) < ((nd t a).kids.length : Int)) = False := eq_false (by omega)
      repeat first
       |with_reducible first|apply vA|apply vB|apply vC
       |((with_reducible apply vD); (focus rfl))
       |((with_reducible first|apply vE|apply vF|apply vG|apply vH); simp only [Env.keep, Env.get, Env.ev, List.map, Nat.reduceEqDiff, ↓reduceIte, Then, Out'])
       |((with_reducible first|apply vI|apply vJ|apply vK|apply vL|apply vM|apply vN); (focus (simp (disch := (first|with_reducible assumption|omega|((repeat (first|rw [nP]|rw [nS]))<;>omega)|fail)) only [go_sem, ↓reduceIte, hE, hidx, o1, o2, o3, hlk, c1'] <;> rfl)); (first|(with_reducible (first|apply vO|apply vP|apply vQ|apply vR|apply vS|apply vT|apply vU); try simp only [Env.put])|with_reducible refine (?_ : WQ _ _ _ _ _ _)))
       |fail
      exact ⟨.inr trivial, _, (by simp only [resOf, resAll, resOne, Env.get, Nat.reduceEqDiff, ↓reduceIte] <;> rfl), _, rfl, trivial⟩
end Go.Proofs.Ytlaeblilmppodaa
namespace Go.Proofs.Ytlaeblilmppodaa
open Go.V
set_option maxRecDepth 100000
set_option maxHeartbeats 4000000
set_option linter.unusedSimpArgs false
set_option linter.unusedVariables false
def IsoE (f : Nat) (l : List D) (P : Prop) : Prop := ∃ e : Int, Iso f l (.int .i64 e) ∧ (e = 0 → P)
theorem isoE_of {f : Nat} {l : List D} {P : Prop} (h : EvP vfs f l Store.empty fun d _ => ∃ e : Int, d = .int .i64 e ∧ (e = 0 → P)) : IsoE f l P := by
  obtain ⟨d, s', h, e, rfl, hp⟩ := h
  exact ⟨e, ⟨s', h⟩, hp⟩
theorem wrong_1 {d : D} {t : List Nd} (hT : TreeAt d t) (hR : RightT t) {i : Nat} (hi : i < t.length) (hK : (nd t i).kind = 1) : IsoE 80 [d, .int .i64 (i : Int)] (FineAt t i) := by
  refine isoE_of ?_
  have hidx := hT.at (z := (i : Int)) (by omega) (by omega) (k := .i64)
  rw [Int.toNat_natCast] at hidx
  have hx := hT.nd hi
  have hnode := hR.ok.node i hi
  have hle := hR.ok.le
  have o1 := FL.one hx.w
  have o2 := FL.one hx.n
  have o3 := FL.one hx.k
  have hnl : (nd t i).nums.length = 4 := by rw [hnode.nl, hK]; rfl
  have n0 : idxAV 1 (nd t i).dn (.int .i64 0) = some (.fp [.int .i64 ((nd t i).num 0)] 0) := num_idx hx (i := 0) (by omega)
  have n1 : idxAV 1 (nd t i).dn (.int .i64 1) = some (.fp [.int .i64 ((nd t i).num 1)] 0) := num_idx hx (i := 1) (by omega)
  rw [hK] at hidx
  have hs := sum_ok hT hR hi (kind := 1)
  by_cases e0 : (nd t i).num 0 < 1
  · have d0 : ((nd t i).num 0 < 1) = True := eq_true e0
    refine evp_of (vf := vf80) rfl ?_
    simp only [vf80, xq, xg, xm, xmg, xc, xl, xlg, xf, xfg, xw, xa, xk, xi, xig, xo, xr, xrp, xn, List.map, List.getD, List.getElem?_cons_zero, List.getElem?_cons_succ, List.getElem?_nil, Option.getD]
    repeat first
     |(apply vq_isoI hs rfl rfl (fz3 hT.fz fz_int fz_int))
     |with_reducible first|apply vA|apply vB|apply vC
     |((with_reducible apply vD); (focus rfl))
     |((with_reducible first|apply vE|apply vF|apply vG|apply vH); simp only [Env.keep, Env.get, Env.ev, List.map, Nat.reduceEqDiff, ↓reduceIte, Then, Out'])
     |((with_reducible first|apply vI|apply vJ|apply vK|apply vL|apply vM|apply vN); (focus (simp (disch := (first|with_reducible assumption|omega|((repeat (first|rw [nP]|rw [nS]))<;>omega)|fail)) only [go_sem, ↓reduceIte, hidx, o1, o2, o3, n0, n1, d0] <;> rfl)); (first|(with_reducible (first|apply vO|apply vP|apply vQ|apply vR|apply vS|apply vT|apply vU); try simp only [Env.put])|with_reducible refine (?_ : WQ _ _ _ _ _ _)))
     |fail
    exact ⟨.inr trivial, _, (by simp only [resOf, resAll, resOne, Env.get, Nat.reduceEqDiff, ↓reduceIte] <;> rfl), _, rfl, by simp⟩
  have d0 : ((nd t i).num 0 < 1) = False := eq_false e0
  by_cases e1 : 3 < (nd t i).num 0
  · have d1 : (3 < (nd t i).num 0) = True := eq_true e1
    refine evp_of (vf := vf80) rfl ?_
    simp only [vf80, xq, xg, xm, xmg, xc, xl, xlg, xf, xfg, xw, xa, xk, xi, xig, xo, xr, xrp, xn, List.map, List.getD, List.getElem?_cons_zero, List.getElem?_cons_succ, List.getElem?_nil, Option.getD]
    repeat first
     |(apply vq_isoI hs rfl rfl (fz3 hT.fz fz_int fz_int))
     |with_reducible first|apply vA|apply vB|apply vC
     |((with_reducible apply vD); (focus rfl))
     |((with_reducible first|apply vE|apply vF|apply vG|apply vH); simp only [Env.keep, Env.get, Env.ev, List.map, Nat.reduceEqDiff, ↓reduceIte, Then, Out'])
     |((with_reducible first|apply vI|apply vJ|apply vK|apply vL|apply vM|apply vN); (focus (simp (disch := (first|with_reducible assumption|omega|((repeat (first|rw [nP]|rw [nS]))<;>omega)|fail)) only [go_sem, ↓reduceIte, hidx, o1, o2, o3, n0, n1, d0, d1] <;> rfl)); (first|(with_reducible (first|apply vO|apply vP|apply vQ|apply vR|apply vS|apply vT|apply vU); try simp only [Env.put])|with_reducible refine (?_ : WQ _ _ _ _ _ _)))
     |fail
    exact ⟨.inr trivial, _, (by simp only [resOf, resAll, resOne, Env.get, Nat.reduceEqDiff, ↓reduceIte] <;> rfl), _, rfl, by simp⟩
  have d1 : (3 < (nd t i).num 0) = False := eq_false e1
  by_cases e2 : (nd t i).num 1 < 1
  · have d2 : ((nd t i).num 1 < 1) = True := eq_true e2
    refine evp_of (vf := vf80) rfl ?_
    simp only [vf80, xq, xg, xm, xmg, xc, xl, xlg, xf, xfg, xw, xa, xk, xi, xig, xo, xr, xrp, xn, List.map, List.getD, List.getElem?_cons_zero, List.getElem?_cons_succ, List.getElem?_nil, Option.getD]
    repeat first
     |(apply vq_isoI hs rfl rfl (fz3 hT.fz fz_int fz_int))
     |with_reducible first|apply vA|apply vB|apply vC
     |((with_reducible apply vD); (focus rfl))
     |((with_reducible first|apply vE|apply vF|apply vG|apply vH); simp only [Env.keep, Env.get, Env.ev, List.map, Nat.reduceEqDiff, ↓reduceIte, Then, Out'])
     |((with_reducible first|apply vI|apply vJ|apply vK|apply vL|apply vM|apply vN); (focus (simp (disch := (first|with_reducible assumption|omega|((repeat (first|rw [nP]|rw [nS]))<;>omega)|fail)) only [go_sem, ↓reduceIte, hidx, o1, o2, o3, n0, n1, d0, d1, d2] <;> rfl)); (first|(with_reducible (first|apply vO|apply vP|apply vQ|apply vR|apply vS|apply vT|apply vU); try simp only [Env.put])|with_reducible refine (?_ : WQ _ _ _ _ _ _)))
     |fail
    exact ⟨.inr trivial, _, (by simp only [resOf, resAll, resOne, Env.get, Nat.reduceEqDiff, ↓reduceIte] <;> rfl), _, rfl, by simp⟩
  have d2 : ((nd t i).num 1 < 1) = False := eq_false e2
  by_cases e3 : 8 < (nd t i).num 1
  · have d3 : (8 < (nd t i).num 1) = True := eq_true e3
    refine evp_of (vf := vf80) rfl ?_
    simp only [vf80, xq, xg, xm, xmg, xc, xl, xlg, xf, xfg, xw, xa, xk, xi, xig, xo, xr, xrp, xn, List.map, List.getD, List.getElem?_cons_zero, List.getElem?_cons_succ, List.getElem?_nil, Option.getD]
    repeat first
     |(apply vq_isoI hs rfl rfl (fz3 hT.fz fz_int fz_int))
     |with_reducible first|apply vA|apply vB|apply vC
     |((with_reducible apply vD); (focus rfl))
     |((with_reducible first|apply vE|apply vF|apply vG|apply vH); simp only [Env.keep, Env.get, Env.ev, List.map, Nat.reduceEqDiff, ↓reduceIte, Then, Out'])
     |((with_reducible first|apply vI|apply vJ|apply vK|apply vL|apply vM|apply vN); (focus (simp (disch := (first|with_reducible assumption|omega|((repeat (first|rw [nP]|rw [nS]))<;>omega)|fail)) only [go_sem, ↓reduceIte, hidx, o1, o2, o3, n0, n1, d0, d1, d2, d3] <;> rfl)); (first|(with_reducible (first|apply vO|apply vP|apply vQ|apply vR|apply vS|apply vT|apply vU); try simp only [Env.put])|with_reducible refine (?_ : WQ _ _ _ _ _ _)))
     |fail
    exact ⟨.inr trivial, _, (by simp only [resOf, resAll, resOne, Env.get, Nat.reduceEqDiff, ↓reduceIte] <;> rfl), _, rfl, by simp⟩
  have d3 : (8 < (nd t i).num 1) = False := eq_false e3
  by_cases e4 : 3 < sumF t 1 (i + 1)
  · have d4 : (3 < sumF t 1 (i + 1)) = True := eq_true e4
    refine evp_of (vf := vf80) rfl ?_
    simp only [vf80, xq, xg, xm, xmg, xc, xl, xlg, xf, xfg, xw, xa, xk, xi, xig, xo, xr, xrp, xn, List.map, List.getD, List.getElem?_cons_zero, List.getElem?_cons_succ, List.getElem?_nil, Option.getD]
    repeat first
     |(apply vq_isoI hs rfl rfl (fz3 hT.fz fz_int fz_int))
     |with_reducible first|apply vA|apply vB|apply vC
     |((with_reducible apply vD); (focus rfl))
     |((with_reducible first|apply vE|apply vF|apply vG|apply vH); simp only [Env.keep, Env.get, Env.ev, List.map, Nat.reduceEqDiff, ↓reduceIte, Then, Out'])
     |((with_reducible first|apply vI|apply vJ|apply vK|apply vL|apply vM|apply vN); (focus (simp (disch := (first|with_reducible assumption|omega|((repeat (first|rw [nP]|rw [nS]))<;>omega)|fail)) only [go_sem, ↓reduceIte, hidx, o1, o2, o3, n0, n1, d0, d1, d2, d3, d4] <;> rfl)); (first|(with_reducible (first|apply vO|apply vP|apply vQ|apply vR|apply vS|apply vT|apply vU); try simp only [Env.put])|with_reducible refine (?_ : WQ _ _ _ _ _ _)))
     |fail
    exact ⟨.inr trivial, _, (by simp only [resOf, resAll, resOne, Env.get, Nat.reduceEqDiff, ↓reduceIte] <;> rfl), _, rfl, by simp⟩
  have d4 : (3 < sumF t 1 (i + 1)) = False := eq_false e4
  refine evp_of (vf := vf80) rfl ?_
  simp only [vf80, xq, xg, xm, xmg, xc, xl, xlg, xf, xfg, xw, xa, xk, xi, xig, xo, xr, xrp, xn, List.map, List.getD, List.getElem?_cons_zero, List.getElem?_cons_succ, List.getElem?_nil, Option.getD]
  repeat first
   |(apply vq_isoI hs rfl rfl (fz3 hT.fz fz_int fz_int))
   |with_reducible first|apply vA|apply vB|apply vC
   |((with_reducible apply vD); (focus rfl))
   |((with_reducible first|apply vE|apply vF|apply vG|apply vH); simp only [Env.keep, Env.get, Env.ev, List.map, Nat.reduceEqDiff, ↓reduceIte, Then, Out'])
   |((with_reducible first|apply vI|apply vJ|apply vK|apply vL|apply vM|apply vN); (focus (simp (disch := (first|with_reducible assumption|omega|((repeat (first|rw [nP]|rw [nS]))<;>omega)|fail)) only [go_sem, ↓reduceIte, hidx, o1, o2, o3, n0, n1, d0, d1, d2, d3, d4] <;> rfl)); (first|(with_reducible (first|apply vO|apply vP|apply vQ|apply vR|apply vS|apply vT|apply vU); try simp only [Env.put])|with_reducible refine (?_ : WQ _ _ _ _ _ _)))
   |fail
  exact ⟨.inr trivial, _, (by simp only [resOf, resAll, resOne, Env.get, Nat.reduceEqDiff, ↓reduceIte] <;> rfl), _, rfl, fun _ => ⟨fun _ => by omega, fun h => by omega, fun h => by omega, fun h => by omega⟩⟩
theorem wrong_2 {d : D} {t : List Nd} (hT : TreeAt d t) (hR : RightT t) {i : Nat} (hi : i < t.length) (hK : (nd t i).kind = 2) : IsoE 80 [d, .int .i64 (i : Int)] (FineAt t i) := by
  refine isoE_of ?_
  have hidx := hT.at (z := (i : Int)) (by omega) (by omega) (k := .i64)
  rw [Int.toNat_natCast] at hidx
  have hx := hT.nd hi
  have hnode := hR.ok.node i hi
  have hle := hR.ok.le
  have o1 := FL.one hx.w
  have o2 := FL.one hx.n
  have o3 := FL.one hx.k
  have hnl : (nd t i).nums.length = 2 := by rw [hnode.nl, hK]; rfl
  have n0 : idxAV 1 (nd t i).dn (.int .i64 0) = some (.fp [.int .i64 ((nd t i).num 0)] 0) := num_idx hx (i := 0) (by omega)
  have n1 : idxAV 1 (nd t i).dn (.int .i64 1) = some (.fp [.int .i64 ((nd t i).num 1)] 0) := num_idx hx (i := 1) (by omega)
  rw [hK] at hidx
  have hs := sum_ok hT hR hi (kind := 2)
  have hv := hnode.var hK
  by_cases e0 : (nd t i).num 0 < 1
  · have d0 : ((nd t i).num 0 < 1) = True := eq_true e0
    refine evp_of (vf := vf80) rfl ?_
    simp only [vf80, xq, xg, xm, xmg, xc, xl, xlg, xf, xfg, xw, xa, xk, xi, xig, xo, xr, xrp, xn, List.map, List.getD, List.getElem?_cons_zero, List.getElem?_cons_succ, List.getElem?_nil, Option.getD]
    repeat first
     |(apply vq_isoI hs rfl rfl (fz3 hT.fz fz_int fz_int))
     |with_reducible first|apply vA|apply vB|apply vC
     |((with_reducible apply vD); (focus rfl))
     |((with_reducible first|apply vE|apply vF|apply vG|apply vH); simp only [Env.keep, Env.get, Env.ev, List.map, Nat.reduceEqDiff, ↓reduceIte, Then, Out'])
     |((with_reducible first|apply vI|apply vJ|apply vK|apply vL|apply vM|apply vN); (focus (simp (disch := (first|with_reducible assumption|omega|((repeat (first|rw [nP]|rw [nS]))<;>omega)|fail)) only [go_sem, ↓reduceIte, hidx, o1, o2, o3, n0, n1, d0] <;> rfl)); (first|(with_reducible (first|apply vO|apply vP|apply vQ|apply vR|apply vS|apply vT|apply vU); try simp only [Env.put])|with_reducible refine (?_ : WQ _ _ _ _ _ _)))
     |fail
    exact ⟨.inr trivial, _, (by simp only [resOf, resAll, resOne, Env.get, Nat.reduceEqDiff, ↓reduceIte] <;> rfl), _, rfl, by simp⟩
  have d0 : ((nd t i).num 0 < 1) = False := eq_false e0
  by_cases e1 : 8 < (nd t i).num 0
  · have d1 : (8 < (nd t i).num 0) = True := eq_true e1
    refine evp_of (vf := vf80) rfl ?_
    simp only [vf80, xq, xg, xm, xmg, xc, xl, xlg, xf, xfg, xw, xa, xk, xi, xig, xo, xr, xrp, xn, List.map, List.getD, List.getElem?_cons_zero, List.getElem?_cons_succ, List.getElem?_nil, Option.getD]
    repeat first
     |(apply vq_isoI hs rfl rfl (fz3 hT.fz fz_int fz_int))
     |with_reducible first|apply vA|apply vB|apply vC
     |((with_reducible apply vD); (focus rfl))
     |((with_reducible first|apply vE|apply vF|apply vG|apply vH); simp only [Env.keep, Env.get, Env.ev, List.map, Nat.reduceEqDiff, ↓reduceIte, Then, Out'])
     |((with_reducible first|apply vI|apply vJ|apply vK|apply vL|apply vM|apply vN); (focus (simp (disch := (first|with_reducible assumption|omega|((repeat (first|rw [nP]|rw [nS]))<;>omega)|fail)) only [go_sem, ↓reduceIte, hidx, o1, o2, o3, n0, n1, d0, d1] <;> rfl)); (first|(with_reducible (first|apply vO|apply vP|apply vQ|apply vR|apply vS|apply vT|apply vU); try simp only [Env.put])|with_reducible refine (?_ : WQ _ _ _ _ _ _)))
     |fail
    exact ⟨.inr trivial, _, (by simp only [resOf, resAll, resOne, Env.get, Nat.reduceEqDiff, ↓reduceIte] <;> rfl), _, rfl, by simp⟩
  have d1 : (8 < (nd t i).num 0) = False := eq_false e1
  have ht := trim_iso (x := (nd t i).num 1) (n := (nd t i).num 0) (w := ((nd t i).num 0).toNat) (by omega) ⟨by omega, by omega⟩
  by_cases e2 : trimZ ((nd t i).num 1) ((nd t i).num 0).toNat = (nd t i).num 1
  · have d2 : (trimZ ((nd t i).num 1) ((nd t i).num 0).toNat != (nd t i).num 1) = false := by rw [e2]; simp
    by_cases e3 : 8 < sumF t 2 (i + 1)
    · have d3 : (8 < sumF t 2 (i + 1)) = True := eq_true e3
      refine evp_of (vf := vf80) rfl ?_
      simp only [vf80, xq, xg, xm, xmg, xc, xl, xlg, xf, xfg, xw, xa, xk, xi, xig, xo, xr, xrp, xn, List.map, List.getD, List.getElem?_cons_zero, List.getElem?_cons_succ, List.getElem?_nil, Option.getD]
      repeat first
       |(apply vq_isoI hs rfl rfl (fz3 hT.fz fz_int fz_int))
       |(apply vq_isoI ht rfl rfl (fz2 fz_int fz_int))
       |with_reducible first|apply vA|apply vB|apply vC
       |((with_reducible apply vD); (focus rfl))
       |((with_reducible first|apply vE|apply vF|apply vG|apply vH); simp only [Env.keep, Env.get, Env.ev, List.map, Nat.reduceEqDiff, ↓reduceIte, Then, Out'])
       |((with_reducible first|apply vI|apply vJ|apply vK|apply vL|apply vM|apply vN); (focus (simp (disch := (first|with_reducible assumption|omega|((repeat (first|rw [nP]|rw [nS]))<;>omega)|fail)) only [go_sem, ↓reduceIte, hidx, o1, o2, o3, n0, n1, d0, d1, d2, d3] <;> rfl)); (first|(with_reducible (first|apply vO|apply vP|apply vQ|apply vR|apply vS|apply vT|apply vU); try simp only [Env.put])|with_reducible refine (?_ : WQ _ _ _ _ _ _)))
       |fail
      exact ⟨.inr trivial, _, (by simp only [resOf, resAll, resOne, Env.get, Nat.reduceEqDiff, ↓reduceIte] <;> rfl), _, rfl, by simp⟩
    · have d3 : (8 < sumF t 2 (i + 1)) = False := eq_false e3
      refine evp_of (vf := vf80) rfl ?_
      simp only [vf80, xq, xg, xm, xmg, xc, xl, xlg, xf, xfg, xw, xa, xk, xi, xig, xo, xr, xrp, xn, List.map, List.getD, List.getElem?_cons_zero, List.getElem?_cons_succ, List.getElem?_nil, Option.getD]
      repeat first
       |(apply vq_isoI hs rfl rfl (fz3 hT.fz fz_int fz_int))
       |(apply vq_isoI ht rfl rfl (fz2 fz_int fz_int))
       |with_reducible first|apply vA|apply vB|apply vC
       |((with_reducible apply vD); (focus rfl))
       |((with_reducible first|apply vE|apply vF|apply vG|apply vH); simp only [Env.keep, Env.get, Env.ev, List.map, Nat.reduceEqDiff, ↓reduceIte, Then, Out'])
       |((with_reducible first|apply vI|apply vJ|apply vK|apply vL|apply vM|apply vN); (focus (simp (disch := (first|with_reducible assumption|omega|((repeat (first|rw [nP]|rw [nS]))<;>omega)|fail)) only [go_sem, ↓reduceIte, hidx, o1, o2, o3, n0, n1, d0, d1, d2, d3] <;> rfl)); (first|(with_reducible (first|apply vO|apply vP|apply vQ|apply vR|apply vS|apply vT|apply vU); try simp only [Env.put])|with_reducible refine (?_ : WQ _ _ _ _ _ _)))
       |fail
      exact ⟨.inr trivial, _, (by simp only [resOf, resAll, resOne, Env.get, Nat.reduceEqDiff, ↓reduceIte] <;> rfl), _, rfl, fun _ => ⟨fun h => by omega, fun _ => ⟨by omega, by omega, e2, by omega⟩, fun h => by omega, fun h => by omega⟩⟩
  · have d2 : (trimZ ((nd t i).num 1) ((nd t i).num 0).toNat != (nd t i).num 1) = true := by rw [bne_iff_ne]; exact e2
    refine evp_of (vf := vf80) rfl ?_
    simp only [vf80, xq, xg, xm, xmg, xc, xl, xlg, xf, xfg, xw, xa, xk, xi, xig, xo, xr, xrp, xn, List.map, List.getD, List.getElem?_cons_zero, List.getElem?_cons_succ, List.getElem?_nil, Option.getD]
    repeat first
     |(apply vq_isoI hs rfl rfl (fz3 hT.fz fz_int fz_int))
     |(apply vq_isoI ht rfl rfl (fz2 fz_int fz_int))
     |with_reducible first|apply vA|apply vB|apply vC
     |((with_reducible apply vD); (focus rfl))
     |((with_reducible first|apply vE|apply vF|apply vG|apply vH); simp only [Env.keep, Env.get, Env.ev, List.map, Nat.reduceEqDiff, ↓reduceIte, Then, Out'])
     |((with_reducible first|apply vI|apply vJ|apply vK|apply vL|apply vM|apply vN); (focus (simp (disch := (first|with_reducible assumption|omega|((repeat (first|rw [nP]|rw [nS]))<;>omega)|fail)) only [go_sem, ↓reduceIte, hidx, o1, o2, o3, n0, n1, d0, d1, d2] <;> rfl)); (first|(with_reducible (first|apply vO|apply vP|apply vQ|apply vR|apply vS|apply vT|apply vU); try simp only [Env.put])|with_reducible refine (?_ : WQ _ _ _ _ _ _)))
     |fail
    exact ⟨.inr trivial, _, (by simp only [resOf, resAll, resOne, Env.get, Nat.reduceEqDiff, ↓reduceIte] <;> rfl), _, rfl, by simp⟩
theorem wrong_3 {d : D} {t : List Nd} (hT : TreeAt d t) (hR : RightT t) {i : Nat} (hi : i < t.length) (hK : (nd t i).kind = 3) : IsoE 80 [d, .int .i64 (i : Int)] (FineAt t i) := by
  refine isoE_of ?_
  have hidx := hT.at (z := (i : Int)) (by omega) (by omega) (k := .i64)
  rw [Int.toNat_natCast] at hidx
  have hx := hT.nd hi
  have hnode := hR.ok.node i hi
  have hle := hR.ok.le
  have o1 := FL.one hx.w
  have o2 := FL.one hx.n
  have o3 := FL.one hx.k
  have hnl : (nd t i).nums.length = 1 := by rw [hnode.nl, hK]; rfl
  have n0 : idxAV 1 (nd t i).dn (.int .i64 0) = some (.fp [.int .i64 ((nd t i).num 0)] 0) := num_idx hx (i := 0) (by omega)
  rw [hK] at hidx
  have hs := sum_ok hT hR hi (kind := 3)
  by_cases e0 : (nd t i).num 0 < 1
  · have d0 : ((nd t i).num 0 < 1) = True := eq_true e0
    refine evp_of (vf := vf80) rfl ?_
    simp only [vf80, xq, xg, xm, xmg, xc, xl, xlg, xf, xfg, xw, xa, xk, xi, xig, xo, xr, xrp, xn, List.map, List.getD, List.getElem?_cons_zero, List.getElem?_cons_succ, List.getElem?_nil, Option.getD]
    repeat first
     |(apply vq_isoI hs rfl rfl (fz3 hT.fz fz_int fz_int))
     |with_reducible first|apply vA|apply vB|apply vC
     |((with_reducible apply vD); (focus rfl))
     |((with_reducible first|apply vE|apply vF|apply vG|apply vH); simp only [Env.keep, Env.get, Env.ev, List.map, Nat.reduceEqDiff, ↓reduceIte, Then, Out'])
     |((with_reducible first|apply vI|apply vJ|apply vK|apply vL|apply vM|apply vN); (focus (simp (disch := (first|with_reducible assumption|omega|((repeat (first|rw [nP]|rw [nS]))<;>omega)|fail)) only [go_sem, ↓reduceIte, hidx, o1, o2, o3, n0, d0] <;> rfl)); (first|(with_reducible (first|apply vO|apply vP|apply vQ|apply vR|apply vS|apply vT|apply vU); try simp only [Env.put])|with_reducible refine (?_ : WQ _ _ _ _ _ _)))
     |fail
    exact ⟨.inr trivial, _, (by simp only [resOf, resAll, resOne, Env.get, Nat.reduceEqDiff, ↓reduceIte] <;> rfl), _, rfl, by simp⟩
  have d0 : ((nd t i).num 0 < 1) = False := eq_false e0
  by_cases e1 : 4 < sumF t 3 (i + 1)
  · have d1 : (4 < sumF t 3 (i + 1)) = True := eq_true e1
    refine evp_of (vf := vf80) rfl ?_
    simp only [vf80, xq, xg, xm, xmg, xc, xl, xlg, xf, xfg, xw, xa, xk, xi, xig, xo, xr, xrp, xn, List.map, List.getD, List.getElem?_cons_zero, List.getElem?_cons_succ, List.getElem?_nil, Option.getD]
    repeat first
     |(apply vq_isoI hs rfl rfl (fz3 hT.fz fz_int fz_int))
     |with_reducible first|apply vA|apply vB|apply vC
     |((with_reducible apply vD); (focus rfl))
     |((with_reducible first|apply vE|apply vF|apply vG|apply vH); simp only [Env.keep, Env.get, Env.ev, List.map, Nat.reduceEqDiff, ↓reduceIte, Then, Out'])
     |((with_reducible first|apply vI|apply vJ|apply vK|apply vL|apply vM|apply vN); (focus (simp (disch := (first|with_reducible assumption|omega|((repeat (first|rw [nP]|rw [nS]))<;>omega)|fail)) only [go_sem, ↓reduceIte, hidx, o1, o2, o3, n0, d0, d1] <;> rfl)); (first|(with_reducible (first|apply vO|apply vP|apply vQ|apply vR|apply vS|apply vT|apply vU); try simp only [Env.put])|with_reducible refine (?_ : WQ _ _ _ _ _ _)))
     |fail
    exact ⟨.inr trivial, _, (by simp only [resOf, resAll, resOne, Env.get, Nat.reduceEqDiff, ↓reduceIte] <;> rfl), _, rfl, by simp⟩
  have d1 : (4 < sumF t 3 (i + 1)) = False := eq_false e1
  refine evp_of (vf := vf80) rfl ?_
  simp only [vf80, xq, xg, xm, xmg, xc, xl, xlg, xf, xfg, xw, xa, xk, xi, xig, xo, xr, xrp, xn, List.map, List.getD, List.getElem?_cons_zero, List.getElem?_cons_succ, List.getElem?_nil, Option.getD]
  repeat first
   |(apply vq_isoI hs rfl rfl (fz3 hT.fz fz_int fz_int))
   |with_reducible first|apply vA|apply vB|apply vC
   |((with_reducible apply vD); (focus rfl))
   |((with_reducible first|apply vE|apply vF|apply vG|apply vH); simp only [Env.keep, Env.get, Env.ev, List.map, Nat.reduceEqDiff, ↓reduceIte, Then, Out'])
   |((with_reducible first|apply vI|apply vJ|apply vK|apply vL|apply vM|apply vN); (focus (simp (disch := (first|with_reducible assumption|omega|((repeat (first|rw [nP]|rw [nS]))<;>omega)|fail)) only [go_sem, ↓reduceIte, hidx, o1, o2, o3, n0, d0, d1] <;> rfl)); (first|(with_reducible (first|apply vO|apply vP|apply vQ|apply vR|apply vS|apply vT|apply vU); try simp only [Env.put])|with_reducible refine (?_ : WQ _ _ _ _ _ _)))
   |fail
  exact ⟨.inr trivial, _, (by simp only [resOf, resAll, resOne, Env.get, Nat.reduceEqDiff, ↓reduceIte] <;> rfl), _, rfl, fun _ => ⟨fun h => by omega, fun h => by omega, fun _ => by omega, fun h => by omega⟩⟩
theorem wrong_17 {d : D} {t : List Nd} (hT : TreeAt d t) (hR : RightT t) {i : Nat} (hi : i < t.length) (hK : (nd t i).kind = 17) : IsoE 80 [d, .int .i64 (i : Int)] (FineAt t i) := by
  refine isoE_of ?_
  have hidx := hT.at (z := (i : Int)) (by omega) (by omega) (k := .i64)
  rw [Int.toNat_natCast] at hidx
  have hx := hT.nd hi
  have hnode := hR.ok.node i hi
  have hle := hR.ok.le
  have o1 := FL.one hx.w
  have o2 := FL.one hx.n
  have o3 := FL.one hx.k
  have hnl : (nd t i).nums.length = 1 := by rw [hnode.nl, hK]; rfl
  have n0 : idxAV 1 (nd t i).dn (.int .i64 0) = some (.fp [.int .i64 ((nd t i).num 0)] 0) := num_idx hx (i := 0) (by omega)
  rw [hK] at hidx
  by_cases e0 : 127 < (nd t i).num 0
  · have d0 : (127 < (nd t i).num 0) = True := eq_true e0
    refine evp_of (vf := vf80) rfl ?_
    simp only [vf80, xq, xg, xm, xmg, xc, xl, xlg, xf, xfg, xw, xa, xk, xi, xig, xo, xr, xrp, xn, List.map, List.getD, List.getElem?_cons_zero, List.getElem?_cons_succ, List.getElem?_nil, Option.getD]
    repeat first
     |with_reducible first|apply vA|apply vB|apply vC
     |((with_reducible apply vD); (focus rfl))
     |((with_reducible first|apply vE|apply vF|apply vG|apply vH); simp only [Env.keep, Env.get, Env.ev, List.map, Nat.reduceEqDiff, ↓reduceIte, Then, Out'])
     |((with_reducible first|apply vI|apply vJ|apply vK|apply vL|apply vM|apply vN); (focus (simp (disch := (first|with_reducible assumption|omega|((repeat (first|rw [nP]|rw [nS]))<;>omega)|fail)) only [go_sem, ↓reduceIte, hidx, o1, o2, o3, n0, d0] <;> rfl)); (first|(with_reducible (first|apply vO|apply vP|apply vQ|apply vR|apply vS|apply vT|apply vU); try simp only [Env.put])|with_reducible refine (?_ : WQ _ _ _ _ _ _)))
     |fail
    exact ⟨.inr trivial, _, (by simp only [resOf, resAll, resOne, Env.get, Nat.reduceEqDiff, ↓reduceIte] <;> rfl), _, rfl, by simp⟩
  have d0 : (127 < (nd t i).num 0) = False := eq_false e0
  refine evp_of (vf := vf80) rfl ?_
  simp only [vf80, xq, xg, xm, xmg, xc, xl, xlg, xf, xfg, xw, xa, xk, xi, xig, xo, xr, xrp, xn, List.map, List.getD, List.getElem?_cons_zero, List.getElem?_cons_succ, List.getElem?_nil, Option.getD]
  repeat first
   |with_reducible first|apply vA|apply vB|apply vC
   |((with_reducible apply vD); (focus rfl))
   |((with_reducible first|apply vE|apply vF|apply vG|apply vH); simp only [Env.keep, Env.get, Env.ev, List.map, Nat.reduceEqDiff, ↓reduceIte, Then, Out'])
   |((with_reducible first|apply vI|apply vJ|apply vK|apply vL|apply vM|apply vN); (focus (simp (disch := (first|with_reducible assumption|omega|((repeat (first|rw [nP]|rw [nS]))<;>omega)|fail)) only [go_sem, ↓reduceIte, hidx, o1, o2, o3, n0, d0] <;> rfl)); (first|(with_reducible (first|apply vO|apply vP|apply vQ|apply vR|apply vS|apply vT|apply vU); try simp only [Env.put])|with_reducible refine (?_ : WQ _ _ _ _ _ _)))
   |fail
  exact ⟨.inr trivial, _, (by simp only [resOf, resAll, resOne, Env.get, Nat.reduceEqDiff, ↓reduceIte] <;> rfl), _, rfl, fun _ => ⟨fun h => by omega, fun h => by omega, fun h => by omega, fun _ => by omega⟩⟩
theorem wrong_13 {d : D} {t : List Nd} (hT : TreeAt d t) (hR : RightT t) {i : Nat} (hi : i < t.length) (hK : (nd t i).kind = 13) : IsoE 80 [d, .int .i64 (i : Int)] (FineAt t i) := by
  refine isoE_of ?_
  have hidx := hT.at (z := (i : Int)) (by omega) (by omega) (k := .i64)
  rw [Int.toNat_natCast] at hidx
  have hx := hT.nd hi
  have hnode := hR.ok.node i hi
  have hle := hR.ok.le
  have o1 := FL.one hx.w
  have o2 := FL.one hx.n
  have o3 := FL.one hx.k
  rw [hK] at hidx
  refine evp_of (vf := vf80) rfl ?_
  simp only [vf80, xq, xg, xm, xmg, xc, xl, xlg, xf, xfg, xw, xa, xk, xi, xig, xo, xr, xrp, xn, List.map, List.getD, List.getElem?_cons_zero, List.getElem?_cons_succ, List.getElem?_nil, Option.getD]
  repeat first
   |with_reducible first|apply vA|apply vB|apply vC
   |((with_reducible apply vD); (focus rfl))
   |((with_reducible first|apply vE|apply vF|apply vG|apply vH); simp only [Env.keep, Env.get, Env.ev, List.map, Nat.reduceEqDiff, ↓reduceIte, Then, Out'])
   |((with_reducible first|apply vI|apply vJ|apply vK|apply vL|apply vM|apply vN); (focus (simp (disch := (first|with_reducible assumption|omega|((repeat (first|rw [nP]|rw [nS]))<;>omega)|fail)) only [go_sem, ↓reduceIte, hidx, o1, o2, o3] <;> rfl)); (first|(with_reducible (first|apply vO|apply vP|apply vQ|apply vR|apply vS|apply vT|apply vU); try simp only [Env.put])|with_reducible refine (?_ : WQ _ _ _ _ _ _)))
   |fail
  refine vw_loop_inv (Q := Out' 1 _) (fun n env s => ∃ j : Nat, j ≤ i ∧ n = i - j ∧ (env.get 0 = d ∧ env.get 1 = .int .i64 (i : Int) ∧ env.get 6 = .bool false ∧ env.get 7 = .int .i64 (j : Int))) ?_ i _ _ ⟨0, by omega, rfl, by simp [Env.get]⟩
  rintro n env s ⟨j, hj, rfl, hE⟩
  by_cases c1 : j < i
  · have c1' : ((j : Int) < (i : Int)) = True := eq_true (by omega)
    have hs : IntKind.i64.wrap ((j : Int) + 1) = ((j + 1 : Nat) : Int) := by rw [i64_id (by omega) (by omega)]; omega
    have hjdx := hT.at (z := (j : Int)) (by omega) (by omega) (k := .i64)
    rw [Int.toNat_natCast] at hjdx
    have hy := hT.nd (i := j) (by omega)
    have q1 := FL.one hy.w
    have q2 := FL.one hy.n
    have q3 := FL.one hy.k
    obtain ⟨b, hb, _⟩ := inside_ok hT hR (z := (i : Int)) (t.length + 1) j (by omega) (by omega)
    by_cases c2 : (nd t j).kind = 13
    · have c2' : ((nd t j).kind == 13) = true := by rw [c2]; rfl
      cases b
      · repeat first
         |(apply vq_isoI hb rfl; (focus (simp only [Env.evL, Env.ev, Env.get, Nat.reduceEqDiff, ↓reduceIte, hE])); (focus exact fz3 hT.fz fz_int fz_int))
         |with_reducible first|apply vA|apply vB|apply vC
         |((with_reducible apply vD); (focus rfl))
         |((with_reducible first|apply vE|apply vF|apply vG|apply vH); simp only [Env.keep, Env.get, Env.ev, List.map, Nat.reduceEqDiff, ↓reduceIte, Then, Out'])
         |((with_reducible first|apply vI|apply vJ|apply vK|apply vL|apply vM|apply vN); (focus (simp (disch := (first|with_reducible assumption|omega|((repeat (first|rw [nP]|rw [nS]))<;>omega)|fail)) only [go_sem, ↓reduceIte, hE, hjdx, q1, q2, q3, c1', c2', hs] <;> rfl)); (first|(with_reducible (first|apply vO|apply vP|apply vQ|apply vR|apply vS|apply vT|apply vU); try simp only [Env.put])|with_reducible refine (?_ : WQ _ _ _ _ _ _)))
         |fail
        exact ⟨i - (j + 1), by omega, j + 1, by omega, rfl, (by simp only [Env.get, Nat.reduceEqDiff, ↓reduceIte, hE, and_self])⟩
      · repeat first
         |(apply vq_isoI hb rfl; (focus (simp only [Env.evL, Env.ev, Env.get, Nat.reduceEqDiff, ↓reduceIte, hE])); (focus exact fz3 hT.fz fz_int fz_int))
         |with_reducible first|apply vA|apply vB|apply vC
         |((with_reducible apply vD); (focus rfl))
         |((with_reducible first|apply vE|apply vF|apply vG|apply vH); simp only [Env.keep, Env.get, Env.ev, List.map, Nat.reduceEqDiff, ↓reduceIte, Then, Out'])
         |((with_reducible first|apply vI|apply vJ|apply vK|apply vL|apply vM|apply vN); (focus (simp (disch := (first|with_reducible assumption|omega|((repeat (first|rw [nP]|rw [nS]))<;>omega)|fail)) only [go_sem, ↓reduceIte, hE, hjdx, q1, q2, q3, c1', c2'] <;> rfl)); (first|(with_reducible (first|apply vO|apply vP|apply vQ|apply vR|apply vS|apply vT|apply vU); try simp only [Env.put])|with_reducible refine (?_ : WQ _ _ _ _ _ _)))
         |fail
        exact ⟨.inr trivial, _, (by simp only [resOf, resAll, resOne, Env.get, Nat.reduceEqDiff, ↓reduceIte] <;> rfl), _, rfl, by simp⟩
    · have c2' : ((nd t j).kind == 13) = false := by rw [beq_eq_false_iff_ne]; exact c2
      repeat first
       |with_reducible first|apply vA|apply vB|apply vC
       |((with_reducible apply vD); (focus rfl))
       |((with_reducible first|apply vE|apply vF|apply vG|apply vH); simp only [Env.keep, Env.get, Env.ev, List.map, Nat.reduceEqDiff, ↓reduceIte, Then, Out'])
       |((with_reducible first|apply vI|apply vJ|apply vK|apply vL|apply vM|apply vN); (focus (simp (disch := (first|with_reducible assumption|omega|((repeat (first|rw [nP]|rw [nS]))<;>omega)|fail)) only [go_sem, ↓reduceIte, hE, hjdx, q1, q2, q3, c1', c2', hs] <;> rfl)); (first|(with_reducible (first|apply vO|apply vP|apply vQ|apply vR|apply vS|apply vT|apply vU); try simp only [Env.put])|with_reducible refine (?_ : WQ _ _ _ _ _ _)))
       |fail
      exact ⟨i - (j + 1), by omega, j + 1, by omega, rfl, (by simp only [Env.get, Nat.reduceEqDiff, ↓reduceIte, hE, and_self])⟩
  · have c1' : ((j : Int) < (i : Int)) = False := eq_false (by omega)
    repeat first
     |with_reducible first|apply vA|apply vB|apply vC
     |((with_reducible apply vD); (focus rfl))
     |((with_reducible first|apply vE|apply vF|apply vG|apply vH); simp only [Env.keep, Env.get, Env.ev, List.map, Nat.reduceEqDiff, ↓reduceIte, Then, Out'])
     |((with_reducible first|apply vI|apply vJ|apply vK|apply vL|apply vM|apply vN); (focus (simp (disch := (first|with_reducible assumption|omega|((repeat (first|rw [nP]|rw [nS]))<;>omega)|fail)) only [go_sem, ↓reduceIte, hE, c1'] <;> rfl)); (first|(with_reducible (first|apply vO|apply vP|apply vQ|apply vR|apply vS|apply vT|apply vU); try simp only [Env.put])|with_reducible refine (?_ : WQ _ _ _ _ _ _)))
     |fail
    exact ⟨.inr trivial, _, (by simp only [resOf, resAll, resOne, Env.get, Nat.reduceEqDiff, ↓reduceIte] <;> rfl), _, rfl, fun _ => ⟨fun h => by omega, fun h => by omega, fun h => by omega, fun h => by omega⟩⟩
theorem wrong_x {d : D} {t : List Nd} (hT : TreeAt d t) (hR : RightT t) {i : Nat} (hi : i < t.length) (hK : (nd t i).kind ≠ 1 ∧ (nd t i).kind ≠ 2 ∧ (nd t i).kind ≠ 3 ∧ (nd t i).kind ≠ 13 ∧ (nd t i).kind ≠ 17) : IsoE 80 [d, .int .i64 (i : Int)] (FineAt t i) := by
  refine isoE_of ?_
  have hidx := hT.at (z := (i : Int)) (by omega) (by omega) (k := .i64)
  rw [Int.toNat_natCast] at hidx
  have hx := hT.nd hi
  have hnode := hR.ok.node i hi
  have hle := hR.ok.le
  have o1 := FL.one hx.w
  have o2 := FL.one hx.n
  have o3 := FL.one hx.k
  have n1 : ((nd t i).kind == 1) = false := by rw [beq_eq_false_iff_ne]; omega
  have n2 : ((nd t i).kind == 2) = false := by rw [beq_eq_false_iff_ne]; omega
  have n3 : ((nd t i).kind == 3) = false := by rw [beq_eq_false_iff_ne]; omega
  have n13 : ((nd t i).kind == 13) = false := by rw [beq_eq_false_iff_ne]; omega
  have n17 : ((nd t i).kind == 17) = false := by rw [beq_eq_false_iff_ne]; omega
  refine evp_of (vf := vf80) rfl ?_
  simp only [vf80, xq, xg, xm, xmg, xc, xl, xlg, xf, xfg, xw, xa, xk, xi, xig, xo, xr, xrp, xn, List.map, List.getD, List.getElem?_cons_zero, List.getElem?_cons_succ, List.getElem?_nil, Option.getD]
  repeat first
   |with_reducible first|apply vA|apply vB|apply vC
   |((with_reducible apply vD); (focus rfl))
   |((with_reducible first|apply vE|apply vF|apply vG|apply vH); simp only [Env.keep, Env.get, Env.ev, List.map, Nat.reduceEqDiff, ↓reduceIte, Then, Out'])
   |((with_reducible first|apply vI|apply vJ|apply vK|apply vL|apply vM|apply vN); (focus (simp (disch := (first|with_reducible assumption|omega|((repeat (first|rw [nP]|rw [nS]))<;>omega)|fail)) only [go_sem, ↓reduceIte, hidx, o1, o2, o3, n1, n2, n3, n13, n17] <;> rfl)); (first|(with_reducible (first|apply vO|apply vP|apply vQ|apply vR|apply vS|apply vT|apply vU); try simp only [Env.put])|with_reducible refine (?_ : WQ _ _ _ _ _ _)))
   |fail
  exact ⟨.inr trivial, _, (by simp only [resOf, resAll, resOne, Env.get, Nat.reduceEqDiff, ↓reduceIte] <;> rfl), _, rfl, fun _ => ⟨fun h => by omega, fun h => by omega, fun h => by omega, fun h => by omega⟩⟩
theorem wrong_ok {d : D} {t : List Nd} (hT : TreeAt d t) (hR : RightT t) {i : Nat} (hi : i < t.length) : IsoE 80 [d, .int .i64 (i : Int)] (FineAt t i) := by
  by_cases k1 : (nd t i).kind = 1
  · exact wrong_1 hT hR hi k1
  by_cases k2 : (nd t i).kind = 2
  · exact wrong_2 hT hR hi k2
  by_cases k3 : (nd t i).kind = 3
  · exact wrong_3 hT hR hi k3
  by_cases k13 : (nd t i).kind = 13
  · exact wrong_13 hT hR hi k13
  by_cases k17 : (nd t i).kind = 17
  · exact wrong_17 hT hR hi k17
  exact wrong_x hT hR hi ⟨k1, k2, k3, k13, k17⟩
theorem check12_ok {d : D} {t : List Nd} (hT : TreeAt d t) (hR : RightT t) : IsoF 54 [d] (Scoped t ∧ Typed t) := by
  refine isoF_of ?_
  have hlen := hT.len
  have hle := hR.ok.le
  obtain ⟨e, a, hc, hp⟩ := check11_ok hT hR
  obtain ⟨sc, hc⟩ := hc
  by_cases c0 : e = 0
  · subst c0
    refine evp_of (vf := vf54) rfl ?_
    simp only [vf54, xq, xg, xm, xmg, xc, xl, xlg, xf, xfg, xw, xa, xk, xi, xig, xo, xr, xrp, xn, List.map, List.getD, List.getElem?_cons_zero, List.getElem?_cons_succ, List.getElem?_nil, Option.getD]
    repeat first
     |(refine vq_iso' rfl (fz1 hT.fz) hc rfl rfl ?_)
     |with_reducible first|apply vA|apply vB|apply vC
     |((with_reducible apply vD); (focus rfl))
     |((with_reducible first|apply vE|apply vF|apply vG|apply vH); simp only [Env.keep, Env.get, Env.ev, List.map, Nat.reduceEqDiff, ↓reduceIte, Then, Out'])
     |((with_reducible first|apply vI|apply vJ|apply vK|apply vL|apply vM|apply vN); (focus (simp (disch := (first|with_reducible assumption|omega|((repeat (first|rw [nP]|rw [nS]))<;>omega)|fail)) only [go_sem, ↓reduceIte] <;> rfl)); (first|(with_reducible (first|apply vO|apply vP|apply vQ|apply vR|apply vS|apply vT|apply vU); try simp only [Env.put])|with_reducible refine (?_ : WQ _ _ _ _ _ _)))
     |fail
    refine vw_loop_inv (Q := Out' 0 _) (fun n env s => ∃ i : Nat, i ≤ t.length ∧ n = t.length - i ∧ (∀ j, j < i → FineAt t j) ∧ s.get 0 = some (.cells [.int .i64 0, .int .i64 0]) ∧ (env.get 0 = d ∧ env.get 2 = .ptr 0 0 ∧ env.get 4 = .int .i64 (i : Int))) ?_ t.length _ _ ⟨0, by omega, rfl, fun j h => by omega, rfl, by simp [Env.get, Made.at]; rfl⟩
    rintro n env s ⟨i, hi, rfl, hall, hg, hE⟩
    have hgl := get_lts hg
    by_cases c1 : i < t.length
    · have c1' : ((i : Int) < (t.length : Int)) = True := eq_true (by omega)
      have hs : IntKind.i64.wrap ((i : Int) + 1) = ((i + 1 : Nat) : Int) := by rw [i64_id (by omega) (by omega)]; omega
      have hidx := hT.at (z := (i : Int)) (by omega) (by omega) (k := .i64)
      rw [Int.toNat_natCast] at hidx
      have hx := hT.nd c1
      have o1 := FL.one hx.w
      have o2 := FL.one hx.n
      have o3 := FL.one hx.k
      obtain ⟨e, hb, hq⟩ := wrong_ok hT hR c1
      by_cases c2 : e = 0
      · subst c2
        repeat first
         |(apply vq_isoI hb rfl; (focus (simp only [Env.evL, Env.ev, Env.get, Nat.reduceEqDiff, ↓reduceIte, hE])); (focus exact fz2 hT.fz fz_int))
         |with_reducible first|apply vA|apply vB|apply vC
         |((with_reducible apply vD); (focus rfl))
         |((with_reducible first|apply vE|apply vF|apply vG|apply vH); simp only [Env.keep, Env.get, Env.ev, List.map, Nat.reduceEqDiff, ↓reduceIte, Then, Out'])
         |((with_reducible first|apply vI|apply vJ|apply vK|apply vL|apply vM|apply vN); (focus (simp (disch := (first|with_reducible assumption|omega|((repeat (first|rw [nP]|rw [nS]))<;>omega)|fail)) only [go_sem, ↓reduceIte, hE, hlen, c1', hs] <;> rfl)); (first|(with_reducible (first|apply vO|apply vP|apply vQ|apply vR|apply vS|apply vT|apply vU); try simp only [Env.put])|with_reducible refine (?_ : WQ _ _ _ _ _ _)))
         |fail
        refine ⟨t.length - (i + 1), by omega, i + 1, by omega, rfl, fun j h => ?_, hg, (by simp only [Env.get, Nat.reduceEqDiff, ↓reduceIte, hE, and_self])⟩
        by_cases e : j = i
        · subst e; exact hq rfl
        · exact hall j (by omega)
      · have c2' : (e != 0) = true := by rw [bne_iff_ne]; exact c2
        repeat first
         |(apply vq_isoI hb rfl; (focus (simp only [Env.evL, Env.ev, Env.get, Nat.reduceEqDiff, ↓reduceIte, hE])); (focus exact fz2 hT.fz fz_int))
         |with_reducible first|apply vA|apply vB|apply vC
         |((with_reducible apply vD); (focus rfl))
         |((with_reducible first|apply vE|apply vF|apply vG|apply vH); simp only [Env.keep, Env.get, Env.ev, List.map, Nat.reduceEqDiff, ↓reduceIte, Then, Out'])
         |((with_reducible first|apply vI|apply vJ|apply vK|apply vL|apply vM|apply vN); (focus (simp (disch := (first|with_reducible assumption|omega|((repeat (first|rw [nP]|rw [nS]))<;>omega)|fail)) only [go_sem, ↓reduceIte, hE, hlen, c1', c2', hidx, o1, o2, o3, hg] <;> rfl)); (first|(with_reducible (first|apply vO|apply vP|apply vQ|apply vR|apply vS|apply vT|apply vU); try simp only [Env.put])|with_reducible refine (?_ : WQ _ _ _ _ _ _)))
         |fail
        refine ⟨.inr trivial, _, ?_, e, (nd t i).pos, rfl, fun h => (c2 h).elim⟩
        simp only [resOf, resAll, resOne, Env.get, Nat.reduceEqDiff, ↓reduceIte, hE, get_set_eq hgl]
        rfl
    · have c1' : ((i : Int) < (t.length : Int)) = False := eq_false (by omega)
      repeat first
       |with_reducible first|apply vA|apply vB|apply vC
       |((with_reducible apply vD); (focus rfl))
       |((with_reducible first|apply vE|apply vF|apply vG|apply vH); simp only [Env.keep, Env.get, Env.ev, List.map, Nat.reduceEqDiff, ↓reduceIte, Then, Out'])
       |((with_reducible first|apply vI|apply vJ|apply vK|apply vL|apply vM|apply vN); (focus (simp (disch := (first|with_reducible assumption|omega|((repeat (first|rw [nP]|rw [nS]))<;>omega)|fail)) only [go_sem, ↓reduceIte, hE, hlen, c1', hg] <;> rfl)); (first|(with_reducible (first|apply vO|apply vP|apply vQ|apply vR|apply vS|apply vT|apply vU); try simp only [Env.put])|with_reducible refine (?_ : WQ _ _ _ _ _ _)))
       |fail
      refine ⟨.inr trivial, _, ?_, 0, 0, rfl, fun _ => ⟨hp rfl, ⟨fun j h => hall j (by omega)⟩⟩⟩
      simp only [resOf, resAll, resOne, Env.get, Nat.reduceEqDiff, ↓reduceIte, hE, get_set_eq hgl]
      rfl
  · have c0' : (e != 0) = true := by rw [bne_iff_ne]; exact c0
    refine evp_of (vf := vf54) rfl ?_
    simp only [vf54, xq, xg, xm, xmg, xc, xl, xlg, xf, xfg, xw, xa, xk, xi, xig, xo, xr, xrp, xn, List.map, List.getD, List.getElem?_cons_zero, List.getElem?_cons_succ, List.getElem?_nil, Option.getD]
    repeat first
     |(refine vq_iso' rfl (fz1 hT.fz) hc rfl rfl ?_)
     |with_reducible first|apply vA|apply vB|apply vC
     |((with_reducible apply vD); (focus rfl))
     |((with_reducible first|apply vE|apply vF|apply vG|apply vH); simp only [Env.keep, Env.get, Env.ev, List.map, Nat.reduceEqDiff, ↓reduceIte, Then, Out'])
     |((with_reducible first|apply vI|apply vJ|apply vK|apply vL|apply vM|apply vN); (focus (simp (disch := (first|with_reducible assumption|omega|((repeat (first|rw [nP]|rw [nS]))<;>omega)|fail)) only [go_sem, ↓reduceIte, c0'] <;> rfl)); (first|(with_reducible (first|apply vO|apply vP|apply vQ|apply vR|apply vS|apply vT|apply vU); try simp only [Env.put])|with_reducible refine (?_ : WQ _ _ _ _ _ _)))
     |fail
    exact ⟨.inr trivial, _, (by simp only [resOf, resAll, resOne, Env.get, Nat.reduceEqDiff, ↓reduceIte] <;> rfl), e, a, rfl, fun h => (c0 h).elim⟩
end Go.Proofs.Ytlaeblilmppodaa
namespace Go.V
def SN (s : Store) (sz : Nat) (d : D) (rows : List (List D)) : Prop := (d = .nils ∧ rows = []) ∨ (∃ id, d = .arr id 0 rows.length sz ∧ s.get id = some (.cells rows.flatten)) ∨ d = .lst sz rows
theorem SN.one {s : Store} {sz : Nat} {d : D} {rows : List (List D)} (h : SN s sz d rows) : oneCell d = true := by
  rcases h with ⟨rfl, _⟩ | ⟨id, rfl, _⟩ | rfl <;> rfl
theorem SN.stay {s s' : Store} {sz : Nat} {d : D} {rows : List (List D)} (h : SN s sz d rows) (hf : Fr [] s s') : SN s' sz d rows := by
  rcases h with h | ⟨id, rfl, h⟩ | h
  · exact .inl h
  · exact .inr (.inl ⟨id, rfl, by rw [hf.2 id (get_lts h) (by simp), h]⟩)
  · exact .inr (.inr h)
theorem SN.len {s : Store} {sz : Nat} {d : D} {rows : List (List D)} (h : SN s sz d rows) : lenV false d = some (.int .i64 (rows.length : Int)) := by
  rcases h with ⟨rfl, rfl⟩ | ⟨id, rfl, _⟩ | rfl <;> rfl
theorem SN.row {s : Store} {sz : Nat} {d : D} {rows : List (List D)} (h : SN s sz d rows) (hr : ∀ r ∈ rows, r.length = sz) : rowOf s.get d = some rows.flatten ∧ srcLen d = some rows.length ∧ srcSz sz d = true := by
  rcases h with ⟨rfl, rfl⟩ | ⟨id, rfl, h⟩ | rfl
  · exact ⟨rfl, rfl, rfl⟩
  rotate_left
  · exact ⟨rfl, rfl, by simp [srcSz]⟩
  · refine ⟨?_, rfl, by simp [srcSz]⟩
    have hl : rows.flatten.length = rows.length * sz := by
      clear h
      induction rows with
      | nil => simp
      | cons a r ih =>
        rw [List.flatten_cons, List.length_append, ih fun x hx => hr x (by simp [hx]), hr a (by simp), List.length_cons, Nat.succ_mul]
        omega
    simp only [rowOf, h]
    rw [if_pos (by omega), List.drop_zero, List.take_of_length_le (by omega)]
theorem flat_len {sz : Nat} {rows : List (List D)} (hr : ∀ r ∈ rows, r.length = sz) : rows.flatten.length = rows.length * sz := by
  induction rows with
  | nil => simp
  | cons a r ih =>
    rw [List.flatten_cons, List.length_append, ih fun x hx => hr x (by simp [hx]), hr a (by simp), List.length_cons, Nat.succ_mul]
    omega
theorem app_SN {s : Store} {sz bytes id : Nat} {d : D} {old rows : List (List D)} (h : s.get id = some (.cells old.flatten)) (ho : ∀ r ∈ old, r.length = sz) (hd : SN s sz d rows) (hr : ∀ r ∈ rows, r.length = sz) (hb : bytes ≤ 128) (hl : old.length + rows.length ≤ 2 ^ 30) :
    ∃ d' s', appendV sz bytes (.arr id 0 old.length sz) d s = some (d', s') ∧ ∃ id', d' = .arr id' 0 (old ++ rows).length sz ∧ s'.get id' = some (.cells (old ++ rows).flatten) ∧ Fr [id] s s' ∧ (id' = id ∨ s.next ≤ id') := by
  have b1 : (old.length + rows.length) * bytes ≤ 2 ^ 45 := Nat.le_trans (Nat.mul_le_mul hl hb) (by decide)
  have b2 : old.length + rows.length ≤ 2 ^ 45 := Nat.le_trans hl (by decide)
  have b3 : bytes ≤ 2 ^ 20 := Nat.le_trans hb (by decide)
  obtain ⟨r1, r2, r3⟩ := hd.row hr
  have hf := flat_len ho
  by_cases hn : rows.length = 0
  · obtain rfl := List.length_eq_zero_iff.1 hn
    refine ⟨.arr id 0 old.length sz, s, ?_, id, by simp, by simpa using h, Fr.refl _ _, .inl rfl⟩
    unfold appendV
    simp only [r1, r2, r3, b3, decide_true, Bool.and_self, if_true, h, Nat.zero_add, hf, and_self, List.length_nil]
  · refine ⟨.arr s.next 0 (old.length + rows.length) sz, (s.set id none).push (.cells (old.flatten ++ rows.flatten)), ?_, s.next, by simp, ?_, (Fr.set _ (by simp)).thenPush _, .inr (Nat.le_refl _)⟩
    · unfold appendV
      simp only [r1, r2, r3, b3, decide_true, Bool.and_self, if_true, h, Nat.zero_add, hf, and_self, hn, if_false, b1, b2, List.drop_zero]
    · rw [get_push_new (by simp), List.flatten_append]
theorem vq_app {fs : FuncId → Option VFunc} {i t sz bytes a x rest s Q} {env : Env} {da dx : D} {Φ : D → Store → Prop} (hr : ∃ d s', appendV sz bytes da dx s = some (d, s') ∧ Φ d s') (ha : env.ev a = da) (hx : env.ev x = dx)
    (h : ∀ d s', Φ d s' → WQ fs [] rest ((t, d) :: env) s' Q) : WQ fs [] ((i, ⟨some t, .m (.append sz bytes a x), none⟩) :: rest) env s Q := by
  obtain ⟨d, s', h1, h2⟩ := hr
  exact vq_append' ha hx h1 (h d s' h2)
theorem SN.of {s : Store} {sz id n : Nat} {rows : List (List D)} (h : s.get id = some (.cells rows.flatten)) (hn : rows.length = n) : SN s sz (.arr id 0 n sz) rows := .inr (.inl ⟨id, by rw [hn], h⟩)
theorem flat_get : ∀ {sz : Nat} {rows : List (List D)}, (∀ r ∈ rows, r.length = sz) → ∀ {i f : Nat} (hi : i < rows.length), f < sz → rows.flatten[i * sz + f]? = rows[i][f]?
  | sz, [], _, i, f, hi, _ => by simp at hi
  | sz, a :: r, hr, 0, f, _, hf => by
    rw [Nat.zero_mul, Nat.zero_add, List.flatten_cons, List.getElem?_append_left (by rw [hr a (by simp)]; exact hf)]
    rfl
  | sz, a :: r, hr, i + 1, f, hi, hf => by
    have ha := hr a (by simp)
    rw [List.flatten_cons, List.getElem?_append_right (by rw [ha, Nat.succ_mul]; omega), ha, show (i + 1) * sz + f - sz = i * sz + f by rw [Nat.succ_mul]; omega]
    exact flat_get (fun x hx => hr x (by simp [hx])) (by simpa using hi) hf
theorem SN.get1 {s : Store} {sz : Nat} {d : D} {rows : List (List D)} (h : SN s sz d rows) (hr : ∀ r ∈ rows, r.length = sz) {i : Nat} (hi : i < rows.length) {c : D} (hc : (rows[i])[0]? = some c) (ho : oneCell c = true) (hz : 0 < sz) : ∃ p, idxAV sz d (.int .i64 (i : Int)) = some p ∧ ldV s.get none p = some c ∧ ∀ id off, p = .ptr id off → id < s.next := by
  rcases h with ⟨_, rfl⟩ | ⟨id, rfl, hg⟩ | rfl
  · simp at hi
  · refine ⟨.ptr id (i * sz), ?_, ?_, ?_⟩
    · simp only [idxAV]
      rw [if_pos ⟨trivial, by omega, by omega⟩]
      simp
    · simp only [ldV, hg, pull]
      have := flat_get hr hi (f := 0) hz
      rw [Nat.add_zero] at this
      rw [this, hc]
      simp [ho]
    · rintro a b e
      cases e
      exact get_lts hg
  · refine ⟨.fp rows[i] 0, by simp [idxAV, hi], ?_, by simp⟩
    simp only [ldV, pull, hc, ho, if_true]
def rowsN (l : List Nat) : List (List D) := l.map fun (n : Nat) => [.int .i64 (n : Int)]
def rowsB (l : List Bool) : List (List D) := l.map fun b => [.bool b]
def rowsS (l : List ByteArray) : List (List D) := l.map fun x => [.str x]
def rowsE (l : List Ed) : List (List D) := l.map Ed.row
theorem rowsB_len (l : List Bool) : ∀ r ∈ rowsB l, r.length = 1 := by intro r h; obtain ⟨b, _, rfl⟩ := List.mem_map.1 h; rfl
theorem rowsE_len (l : List Ed) : ∀ r ∈ rowsE l, r.length = 8 := by intro r h; obtain ⟨b, _, rfl⟩ := List.mem_map.1 h; rfl
@[simp] theorem rowsB_length (l : List Bool) : (rowsB l).length = l.length := by simp [rowsB]
@[simp] theorem rowsE_length (l : List Ed) : (rowsE l).length = l.length := by simp [rowsE]
theorem rowsB_append (a b : List Bool) : rowsB (a ++ b) = rowsB a ++ rowsB b := by simp [rowsB]
theorem rowsE_append (a b : List Ed) : rowsE (a ++ b) = rowsE a ++ rowsE b := by simp [rowsE]
structure PrD where
  dl : D
  dr : D
  de : D
  dn : D
  dv : D
def prRow (p : Pr) (x : PrD) : List D := [.str p.name, .int .i64 (p.copy : Int), x.dl, .int .i64 (p.places : Int), x.dr, x.de, x.dn, x.dv]
structure PrAt (s : Store) (p : Pr) (x : PrD) : Prop where
  l : SN s 1 x.dl (rowsN p.locals)
  r : SN s 1 x.dr (rowsB p.rest)
  e : SN s 8 x.de (rowsE p.edges)
  n : SN s 1 x.dn (rowsS p.names)
  v : SN s 1 x.dv (rowsN p.vars)
theorem PrAt.stay {s s' : Store} {p : Pr} {x : PrD} (h : PrAt s p x) (hf : Fr [] s s') : PrAt s' p x := ⟨h.l.stay hf, h.r.stay hf, h.e.stay hf, h.n.stay hf, h.v.stay hf⟩
theorem rowsN_len (l : List Nat) : ∀ r ∈ rowsN l, r.length = 1 := by intro r h; obtain ⟨b, _, rfl⟩ := List.mem_map.1 h; rfl
theorem rowsS_len (l : List ByteArray) : ∀ r ∈ rowsS l, r.length = 1 := by intro r h; obtain ⟨b, _, rfl⟩ := List.mem_map.1 h; rfl
@[simp] theorem rowsN_length (l : List Nat) : (rowsN l).length = l.length := by simp [rowsN]
@[simp] theorem rowsS_length (l : List ByteArray) : (rowsS l).length = l.length := by simp [rowsS]
def rowsC (l : List Ch) : List (List D) := l.map Ch.row
theorem rowsC_len (l : List Ch) : ∀ r ∈ rowsC l, r.length = 5 := by intro r h; obtain ⟨b, _, rfl⟩ := List.mem_map.1 h; rfl
@[simp] theorem rowsC_length (l : List Ch) : (rowsC l).length = l.length := by simp [rowsC]
structure MdX where
  dt : D
  dc : D
  dv : D
  dp : D
  ds : D
  g : Int
  b : Bool
def mdRow (m : MdX) : List D := [m.dt, .int .i64 m.g, m.dc, m.dv, m.dp, m.ds, .bool m.b]
structure MdAt (s : Store) (m : MdX) (t : List Nd) (ch : List Ch) : Prop where
  tr : TreeAt m.dt t
  c : SN s 5 m.dc (rowsC ch)
  ov : oneCell m.dv = true
  op : oneCell m.dp = true
  os : oneCell m.ds = true
theorem MdAt.stay {s s' : Store} {m : MdX} {t : List Nd} {ch : List Ch} (h : MdAt s m t ch) (hf : Fr [] s s') : MdAt s' m t ch := ⟨h.tr, h.c.stay hf, h.ov, h.op, h.os⟩
structure PrLe (p : Pr) (n : Nat) : Prop where
  pl : p.places ≤ n
  rl : p.rest.length ≤ n
  el : p.edges.length ≤ n
end Go.V
namespace Go.V
variable {fs : FuncId → Option VFunc}
def WQT (fs : FuncId → Option VFunc) (pairs : List (Nat × Nat)) (R : List Nat) (ops : List (Nat × VOper)) (env : Env) (s : Store) (Q : Env → Store → Prop) : Prop :=
  ∀ tr : List Tr, (∀ x ∈ tr, x.pre = x.post ∧ ∀ id, x.rd = some id → id ∈ R) → WO fs pairs ops tr env s Q
theorem vw_rgt {vars ops p pairs dr env s Q} (h : WQT fs (p :: pairs) [] ops env s fun env' s' => Q .normal (env'.keep vars) s') : WP fs vars (.region ⟨ops, p :: pairs, dr⟩) env s Q := vw_region (h [] (by simp))
theorem wt_tr {R : List Nat} {pairs : List (Nat × Nat)} {tr : List Tr} {t : Tr} (h : ∀ x ∈ tr, x.pre = x.post ∧ ∀ id, x.rd = some id → id ∈ R) (ht : t.pre = t.post ∧ ∀ id, t.rd = some id → id ∈ R) : ∀ x ∈ (if pairs.isEmpty then tr else t :: tr), x.pre = x.post ∧ ∀ id, x.rd = some id → id ∈ R := by
  split
  · exact h
  · intro x hx
    rcases List.mem_cons.1 hx with rfl | hx
    · exact ht
    · exact h x hx
theorem wt_p {pairs R i t o rest s Q} {env : Env} {d : D} (hr : evP env o = some d) (h : WQT fs pairs R rest ((t, d) :: env) s Q) : WQT fs pairs R ((i, ⟨some t, .p o, none⟩) :: rest) env s Q := by
  intro tr ht
  exact vo_op rfl 0 (d := d) (s' := s) (by simp only [runOp, hr, Option.map_some]) (pairsOk_quiet rfl fun t hm => (ht t hm).1) (h _ (wt_tr ht ⟨rfl, by simp [rdOf]⟩))
theorem wt_ld {pairs R i t n x rest s Q} {env : Env} {d : D} {id off : Nat} (hx : env.ev x = .ptr id off) (hr : evR env s.get (.load n x) = some d) (h : WQT fs pairs (id :: R) rest ((t, d) :: env) s Q) : WQT fs pairs R ((i, ⟨some t, .r (.load n x), none⟩) :: rest) env s Q := by
  intro tr ht
  refine vo_op rfl 0 (d := d) (s' := s) (by simp only [runOp, hr, Option.map_some]) (pairsOk_quiet rfl fun t hm => (ht t hm).1) (h _ (wt_tr (fun y hy => ⟨(ht y hy).1, fun id h => List.mem_cons_of_mem _ ((ht y hy).2 id h)⟩) ⟨rfl, fun j hj => ?_⟩))
  simp only [rdOf, rdR, hx, Option.some.injEq] at hj
  simp [hj]
theorem wt_w {pairs R i n a v rest s Q} {env : Env} {id : Nat} {ob : VObj} (hr : evW env s.get n a v = some (id, ob)) (hid : id ∉ R) (hp : (rest.all fun o => pairs.all fun p => p.2 != o.1) = true) (h : WQ fs [] rest env (s.set id (some ob)) Q) : WQT fs pairs R ((i, ⟨none, .w n a v, none⟩) :: rest) env s Q := by
  intro tr ht
  refine vo_op rfl 0 (d := .tup []) (s' := s.set id (some ob)) (by simp only [runOp, hr]) ?_ ?_
  · have key : ∀ {l : List Tr}, (∀ x ∈ l, x.pre = x.post ∧ ∀ j, x.rd = some j → j ∈ R) → pairsOk pairs ⟨i, rdOf env (.w n a v), s, s.set id (some ob)⟩ l = true := by
      intro l
      induction l with
      | nil => intro _; rfl
      | cons t r ih =>
        intro hl
        have h1 := hl t (by simp)
        have st1 : stable s (s.set id (some ob)) t.rd = true := by
          cases hrd : t.rd with
          | none => rfl
          | some j =>
            have hj := h1.2 j hrd
            have hne : j ≠ id := fun e => hid (e ▸ hj)
            simp only [stable]
            rw [get_set_ne hne]
            exact beqO_self _
        have st2 : stable t.pre t.post (rdOf env (.w n a v)) = true := by rw [h1.1]; exact stable_refl _ _
        simp only [pairsOk, st1, st2, Bool.and_self, ite_self, Bool.true_and]
        exact ih fun x hx => hl x (by simp [hx])
    exact key ht
  · obtain ⟨m, env', s', h1, h2⟩ := h [] quiet_nil
    exact ⟨m, env', s', runOps_free hp h1, h2⟩
theorem wt_ld0 {pairs R i t n x rest s Q} {env : Env} {d : D} {cs : List D} {off : Nat} (hx : env.ev x = .fp cs off) (hr : evR env s.get (.load n x) = some d) (h : WQT fs pairs R rest ((t, d) :: env) s Q) : WQT fs pairs R ((i, ⟨some t, .r (.load n x), none⟩) :: rest) env s Q := by
  intro tr ht
  refine vo_op rfl 0 (d := d) (s' := s) (by simp only [runOp, hr, Option.map_some]) (pairsOk_quiet rfl fun t hm => (ht t hm).1) (h _ (wt_tr ht ⟨rfl, fun j hj => ?_⟩))
  simp only [rdOf, rdR, hx] at hj
  cases hj
def idsOf : D → List Nat
  | .ptr id _ => [id]
  | _ => []
theorem mem_idsOf {p : D} {id : Nat} (h : id ∈ idsOf p) : ∃ off, p = .ptr id off := by
  cases p <;> simp [idsOf] at h
  subst h
  exact ⟨_, rfl⟩
theorem wt_ldv {pairs R i t n x rest s Q} {env : Env} {d p : D} (hl : ldV s.get n p = some d) (hx : env.ev x = p) (h : WQT fs pairs (idsOf p ++ R) rest ((t, d) :: env) s Q) : WQT fs pairs R ((i, ⟨some t, .r (.load n x), none⟩) :: rest) env s Q := by
  intro tr ht
  refine vo_op rfl 0 (d := d) (s' := s) (by simp only [runOp, evR_load, hx, hl, Option.map_some]) (pairsOk_quiet rfl fun t hm => (ht t hm).1) (h _ (wt_tr (fun y hy => ⟨(ht y hy).1, fun id h => List.mem_append_right _ ((ht y hy).2 id h)⟩) ⟨rfl, fun j hj => ?_⟩))
  simp only [rdOf, rdR, hx] at hj
  refine List.mem_append_left _ ?_
  cases p <;> simp_all [idsOf]
theorem wt_call {pairs R i t f args rest s Q} {env : Env} {l : List D} {d : D} (hr : Ev fs f l s d s) (ha : env.evL args = l) (h : WQT fs pairs R rest ((t, d) :: env) s Q) : WQT fs pairs R ((i, ⟨some t, .m (.call .raw (.cst (.fn f [])) args), none⟩) :: rest) env s Q := by
  subst ha
  obtain ⟨n, hn⟩ := hr
  intro tr ht
  exact vo_op rfl n (d := d) (s' := s) (by simp only [runOp, evM, callV, Env.ev, List.append_nil]; exact hn) (pairsOk_quiet rfl fun t hm => (ht t hm).1) (h _ (wt_tr ht ⟨rfl, by simp [rdOf]⟩))
theorem wt_evpf {pairs R i t f args rest s Q} {env : Env} {l : List D} {P : D → Store → Prop} (hr : EvP fs f l s P) (hP : ∀ d s', P d s' → Fr [] s s') (hR : ∀ id ∈ R, id < s.next) (hp : (rest.all fun o => pairs.all fun p => p.2 != o.1) = true) (ha : env.evL args = l)
    (h : ∀ d s', P d s' → WQ fs [] rest ((t, d) :: env) s' Q) : WQT fs pairs R ((i, ⟨some t, .m (.call .raw (.cst (.fn f [])) args), none⟩) :: rest) env s Q := by
  subst ha
  obtain ⟨d, s', ⟨n, hn⟩, hd⟩ := hr
  have hF := hP d s' hd
  intro tr ht
  refine vo_op rfl n (d := d) (s' := s') (by simp only [runOp, evM, callV, Env.ev, List.append_nil]; exact hn) ?_ ?_
  · have key : ∀ {l : List Tr}, (∀ x ∈ l, x.pre = x.post ∧ ∀ j, x.rd = some j → j ∈ R) → pairsOk pairs ⟨i, none, s, s'⟩ l = true := by
      intro l
      induction l with
      | nil => intro _; rfl
      | cons t r ih =>
        intro hl
        have h1 := hl t (by simp)
        have st1 : stable s s' t.rd = true := by
          cases hrd : t.rd with
          | none => rfl
          | some j =>
            have hj := hR j (h1.2 j hrd)
            simp only [stable]
            rw [hF.2 j hj (by simp)]
            exact beqO_self _
        have st2 : stable t.pre t.post none = true := rfl
        simp only [pairsOk, st1, st2, Bool.and_self, ite_self, Bool.true_and]
        exact ih fun x hx => hl x (by simp [hx])
    exact key ht
  · obtain ⟨m, env', s2, h1, h2⟩ := h d s' hd [] quiet_nil
    exact ⟨m, env', s2, runOps_free hp h1, h2⟩
theorem wq_gen {pairs ops env s Q} {Φ : Store → Prop} (h : Φ s) (k : ∀ s', Φ s' → WQ fs pairs ops env s' Q) : WQ fs pairs ops env s Q := k s h
theorem wt_gen {pairs R ops env s Q} {Φ : Store → Prop} (h : Φ s) (k : ∀ s', Φ s' → WQT fs pairs R ops env s' Q) : WQT fs pairs R ops env s Q := k s h
theorem wp_gen {vars c env s Q} {Φ : Store → Prop} (h : Φ s) (k : ∀ s', Φ s' → WP fs vars c env s' Q) : WP fs vars c env s Q := k s h
end Go.V
namespace Go.Proofs.Ytlaeblilmppodaa
open Go.V
set_option maxRecDepth 100000
set_option maxHeartbeats 4000000
set_option linter.unusedSimpArgs false
set_option linter.unusedVariables false
theorem place_ok {s : Store} {p : Pr} {x : PrD} (hp : PrAt s p x) (hl : PrLe p 1000000) :
    EvP vfs 83 [.agg (prRow p x)] s fun r s' => ∃ x', r = .tup [.agg (prRow p.place x'), .int .i64 (p.places : Int)] ∧ Fr [] s s' ∧ PrAt s' p.place x' := by
  have o1 := hp.l.one
  have o2 := hp.r.one
  have o3 := hp.e.one
  have o4 := hp.n.one
  have o5 := hp.v.one
  have hpl := hl.pl
  have hrl := hl.rl
  have e1 : IntKind.i64.wrap ((p.places : Int) + 1) = ((p.places + 1 : Nat) : Int) := by rw [i64_id (by omega) (by omega)]; omega
  have e2 : IntKind.i64.wrap (((p.places + 1 : Nat) : Int) - 1) = (p.places : Int) := by rw [i64_id (by omega) (by omega)]; omega
  unfold prRow
  refine evp_of (vf := vf83) rfl ?_
  simp only [vf83, xq, xg, xm, xmg, xc, xl, xlg, xf, xfg, xw, xa, xk, xi, xig, xo, xr, xrp, xn, List.map, List.getD, List.getElem?_cons_zero, List.getElem?_cons_succ, List.getElem?_nil, Option.getD]
  repeat first
   |with_reducible first|apply vA|apply vB|apply vC
   |((with_reducible apply vD); (focus rfl))
   |((with_reducible first|apply vE|apply vF|apply vG|apply vH); simp only [Env.keep, Env.get, Env.ev, List.map, Nat.reduceEqDiff, ↓reduceIte, Then, Out'])
   |((with_reducible first|apply vI|apply vJ|apply vK|apply vL|apply vM|apply vN); (focus (simp (disch := (first|with_reducible assumption|omega|((repeat (first|rw [nP]|rw [nS]))<;>omega)|fail)) only [go_sem, ↓reduceIte, o1, o2, o3, o4, o5, e1] <;> rfl)); (first|(with_reducible (first|apply vO|apply vP|apply vQ|apply vR|apply vS|apply vT|apply vU); try simp only [Env.put])|with_reducible refine (?_ : WQ _ _ _ _ _ _)))
   |fail
  refine vq_app (app_SN (old := []) (rows := rowsB p.rest) (sz := 1) (bytes := 1) (d := x.dr) ?_ (by simp) ?_ (rowsB_len _) (by decide) (by simp; omega)) rfl rfl ?_
  · exact get_push_new rfl
  · exact hp.r.stay ((((Fr.push _).thenPush _).thenSet _ (.inr (Nat.le_refl _))).thenPush _)
  rintro d1 s1 ⟨id1, rfl, k1, f1, g1⟩
  have fr1 : Fr [] s s1 := Fr.trans ((((Fr.push _).thenPush _).thenSet _ (.inr (Nat.le_refl _))).thenPush _) f1 (by simp; omega)
  have n1 := f1.1
  have kb := f1.2 s.next (by simp only [Store.next_push, Store.next_set]; omega) (by simp only [Store.next_push, Store.next_set, List.mem_singleton]; omega)
  have kz := f1.2 (s.next + 1) (by simp only [Store.next_push, Store.next_set]; omega) (by simp only [Store.next_push, Store.next_set, List.mem_singleton]; omega)
  simp only [Store.next_push, Store.next_set] at n1 g1
  rw [get_push_old (by simp only [Store.next_push, Store.next_set]; omega), get_set_eq (by simp only [Store.next_push]; omega)] at kb
  rw [get_push_old (by simp only [Store.next_push, Store.next_set]; omega), get_set_ne (by omega), get_push_new (by simp only [Store.next_push])] at kz
  have hid1 : s.next + 2 ≤ id1 := by omega
  clear f1 g1
  rw [List.nil_append] at k1
  simp only [List.nil_append, rowsB_length]
  have lid := get_lts k1
  repeat first
   |with_reducible first|apply vA|apply vB|apply vC
   |((with_reducible apply vD); (focus rfl))
   |((with_reducible first|apply vE|apply vF|apply vG|apply vH); simp only [Env.keep, Env.get, Env.ev, List.map, Nat.reduceEqDiff, ↓reduceIte, Then, Out'])
   |((with_reducible first|apply vI|apply vJ|apply vK|apply vL|apply vM|apply vN); (focus (simp (disch := (first|with_reducible assumption|omega|((repeat (first|rw [nP]|rw [nS]))<;>omega)|fail)) only [go_sem, ↓reduceIte] <;> rfl)); (first|(with_reducible (first|apply vO|apply vP|apply vQ|apply vR|apply vS|apply vT|apply vU); try simp only [Env.put])|with_reducible refine (?_ : WQ _ _ _ _ _ _)))
   |fail
  refine vq_app (app_SN (old := rowsB p.rest) (rows := rowsB [false]) (sz := 1) (bytes := 1) (d := .arr s1.next 0 1 1) ?_ (rowsB_len _) (SN.of (get_push_new rfl) rfl) (rowsB_len _) (by decide) (by simp; omega)) (by rw [rowsB_length]; rfl) rfl ?_
  · rw [get_push_old lid, k1]
  rintro d2 s2 ⟨id2, rfl, k2, f2, g2⟩
  have fr2 : Fr [] s s2 := (fr1.thenPush _).trans f2 (by simp; omega)
  have n2 := f2.1
  have kb2 := f2.2 s.next (by simp only [Store.next_push]; omega) (by simp only [List.mem_singleton]; omega)
  have kz2 := f2.2 (s.next + 1) (by simp only [Store.next_push]; omega) (by simp only [List.mem_singleton]; omega)
  simp only [Store.next_push] at n2 g2
  rw [get_push_old (by omega), kb] at kb2
  rw [get_push_old (by omega), kz] at kz2
  have hid2 : s.next + 2 ≤ id2 := by omega
  clear f2 g2 kb kz
  rw [← rowsB_append] at k2
  rw [← rowsB_append, rowsB_length]
  have lid2 := get_lts k2
  repeat first
   |(with_reducible refine vw_rgt ?_)
   |((with_reducible apply wt_p); (focus (simp (disch := (first|with_reducible assumption|omega|((repeat (first|rw [nP]|rw [nS]))<;>omega)|fail)) only [go_sem, ↓reduceIte, kb2, kz2, o1, o3, o4, o5, e2] <;> rfl)))
   |((with_reducible apply wt_ld); (focus (simp only [Env.ev, Env.get, Nat.reduceEqDiff, ↓reduceIte, Made.at, Nat.add_zero, Nat.zero_add, kb2, kz2, o1, o3, o4, o5, e2] <;> rfl)); (focus (simp (disch := (first|with_reducible assumption|omega|((repeat (first|rw [nP]|rw [nS]))<;>omega)|fail)) only [go_sem, ↓reduceIte, kb2, kz2, o1, o3, o4, o5, e2] <;> rfl)))
   |((with_reducible apply wt_ld0); (focus (simp only [Env.ev, Env.get, Nat.reduceEqDiff, ↓reduceIte, Made.at, Nat.add_zero, Nat.zero_add, kb2, kz2, o1, o3, o4, o5, e2] <;> rfl)); (focus (simp (disch := (first|with_reducible assumption|omega|((repeat (first|rw [nP]|rw [nS]))<;>omega)|fail)) only [go_sem, ↓reduceIte, kb2, kz2, o1, o3, o4, o5, e2] <;> rfl)))
   |with_reducible first|apply vA|apply vB|apply vC
   |((with_reducible apply vD); (focus rfl))
   |((with_reducible first|apply vE|apply vF|apply vG|apply vH); simp only [Env.keep, Env.get, Env.ev, List.map, Nat.reduceEqDiff, ↓reduceIte, Then, Out'])
   |((with_reducible first|apply vI|apply vJ|apply vK|apply vL|apply vM|apply vN); (focus (simp (disch := (first|with_reducible assumption|omega|((repeat (first|rw [nP]|rw [nS]))<;>omega)|fail)) only [go_sem, ↓reduceIte, kb2, kz2, o1, o3, o4, o5, e2] <;> rfl)); (first|(with_reducible (first|apply vO|apply vP|apply vQ|apply vR|apply vS|apply vT|apply vU); try simp only [Env.put])|with_reducible refine (?_ : WQ _ _ _ _ _ _)))
   |fail
  refine wt_w (id := s.next + 1) (ob := .cells [.str p.name, .int .i64 (p.copy : Int), x.dl, .int .i64 ((p.places + 1 : Nat) : Int), .arr id2 0 (p.rest ++ [false]).length 1, x.de, x.dn, x.dv]) ?_ (by simp) rfl ?_
  · simp (disch := (first|with_reducible assumption|omega|((repeat (first|rw [nP]|rw [nS]))<;>omega)|fail)) only [go_sem, ↓reduceIte, kz2, o1, o3, o4, o5]
  repeat first
   |with_reducible first|apply vA|apply vB|apply vC
   |((with_reducible apply vD); (focus rfl))
   |((with_reducible first|apply vE|apply vF|apply vG|apply vH); simp only [Env.keep, Env.get, Env.ev, List.map, Nat.reduceEqDiff, ↓reduceIte, Then, Out'])
   |((with_reducible first|apply vI|apply vJ|apply vK|apply vL|apply vM|apply vN); (focus (simp (disch := (first|with_reducible assumption|omega|((repeat (first|rw [nP]|rw [nS]))<;>omega)|fail)) only [go_sem, ↓reduceIte] <;> rfl)); (first|(with_reducible (first|apply vO|apply vP|apply vQ|apply vR|apply vS|apply vT|apply vU); try simp only [Env.put])|with_reducible refine (?_ : WQ _ _ _ _ _ _)))
   |fail
  have fr3 : Fr [] s ((s2.set s.next (some (.cells [.str p.name, .int .i64 (p.copy : Int), x.dl, .int .i64 ((p.places + 1 : Nat) : Int), .arr id2 0 (p.rest ++ [false]).length 1, x.de, x.dn, x.dv]))).set (s.next + 1) (some (.cells [.str p.name, .int .i64 (p.copy : Int), x.dl, .int .i64 ((p.places + 1 : Nat) : Int), .arr id2 0 (p.rest ++ [false]).length 1, x.de, x.dn, x.dv]))) := (fr2.thenSet _ (.inr (Nat.le_refl _))).thenSet _ (.inr (Nat.le_succ _))
  refine ⟨.inr trivial, _, ?_, ⟨x.dl, .arr id2 0 (p.rest ++ [false]).length 1, x.de, x.dn, x.dv⟩, rfl, fr3, ?_⟩
  · simp only [resOf, resAll, resOne, Env.get, Nat.reduceEqDiff, ↓reduceIte, Made.at, Store.next_push, get_set_eq (s := s2.set s.next _) (i := s.next + 1) (by simp only [Store.next_set]; omega)]
    rfl
  refine ⟨hp.l.stay fr3, SN.of ?_ (by simp [Pr.place]), hp.e.stay fr3, hp.n.stay fr3, hp.v.stay fr3⟩
  rw [get_set_ne (by omega), get_set_ne (by omega), k2]
  rfl
end Go.Proofs.Ytlaeblilmppodaa
namespace Go.Proofs.Ytlaeblilmppodaa
open Go.V
set_option maxRecDepth 100000
set_option maxHeartbeats 4000000
set_option linter.unusedSimpArgs false
set_option linter.unusedVariables false
theorem put_ok {s : Store} {p : Pr} {x : PrD} (hp : PrAt s p x) (hl : PrLe p 1000000) {frm to act node : Nat} {expr v c : Int} :
    EvP vfs 81 [.agg (prRow p x), .int .i64 (frm : Int), .int .i64 (to : Int), .int .i64 (act : Int), .int .i64 (node : Int), .int .i64 expr, .int .i64 v, .int .i64 c] s fun r s' => ∃ x', r = .agg (prRow (p.put frm to act node expr v c) x') ∧ Fr [] s s' ∧ PrAt s' (p.put frm to act node expr v c) x' ∧ ∃ id, x'.de = .arr id 0 (p.put frm to act node expr v c).edges.length 8 ∧ s.next ≤ id := by
  have o1 := hp.l.one
  have o2 := hp.r.one
  have o3 := hp.e.one
  have o4 := hp.n.one
  have o5 := hp.v.one
  have hel := hl.el
  unfold prRow
  refine evp_of (vf := vf81) rfl ?_
  simp only [vf81, xq, xg, xm, xmg, xc, xl, xlg, xf, xfg, xw, xa, xk, xi, xig, xo, xr, xrp, xn, List.map, List.getD, List.getElem?_cons_zero, List.getElem?_cons_succ, List.getElem?_nil, Option.getD]
  repeat first
   |with_reducible first|apply vA|apply vB|apply vC
   |((with_reducible apply vD); (focus rfl))
   |((with_reducible first|apply vE|apply vF|apply vG|apply vH); simp only [Env.keep, Env.get, Env.ev, List.map, Nat.reduceEqDiff, ↓reduceIte, Then, Out'])
   |((with_reducible first|apply vI|apply vJ|apply vK|apply vL|apply vM|apply vN); (focus (simp (disch := (first|with_reducible assumption|omega|((repeat (first|rw [nP]|rw [nS]))<;>omega)|fail)) only [go_sem, ↓reduceIte, o1, o2, o3, o4, o5] <;> rfl)); (first|(with_reducible (first|apply vO|apply vP|apply vQ|apply vR|apply vS|apply vT|apply vU); try simp only [Env.put])|with_reducible refine (?_ : WQ _ _ _ _ _ _)))
   |fail
  refine vq_app (app_SN (old := []) (rows := rowsE p.edges) (sz := 8) (bytes := 64) (d := x.de) ?_ (by simp) ?_ (rowsE_len _) (by decide) (by simp; omega)) rfl rfl ?_
  · exact get_push_new rfl
  · exact hp.e.stay (((Fr.push _).thenPush _).thenPush _)
  rintro d1 s1 ⟨id1, rfl, k1, f1, g1⟩
  have fr1 : Fr [] s s1 := Fr.trans (((Fr.push _).thenPush _).thenPush _) f1 (by simp; omega)
  have n1 := f1.1
  have kb := f1.2 s.next (by simp only [Store.next_push]; omega) (by simp only [Store.next_push, List.mem_singleton]; omega)
  have kz := f1.2 (s.next + 1) (by simp only [Store.next_push]; omega) (by simp only [Store.next_push, List.mem_singleton]; omega)
  simp only [Store.next_push] at n1 g1
  rw [get_push_old (by simp only [Store.next_push]; omega), get_push_old (by simp only [Store.next_push]; omega), get_push_new rfl] at kb
  rw [get_push_old (by simp only [Store.next_push]; omega), get_push_new (by simp only [Store.next_push])] at kz
  have hid1 : s.next + 2 ≤ id1 := by omega
  clear f1 g1
  rw [List.nil_append] at k1
  simp only [List.nil_append, rowsE_length]
  have lid := get_lts k1
  repeat first
   |with_reducible first|apply vA|apply vB|apply vC
   |((with_reducible apply vD); (focus rfl))
   |((with_reducible first|apply vE|apply vF|apply vG|apply vH); simp only [Env.keep, Env.get, Env.ev, List.map, Nat.reduceEqDiff, ↓reduceIte, Then, Out'])
   |((with_reducible first|apply vI|apply vJ|apply vK|apply vL|apply vM|apply vN); (focus (simp (disch := (first|with_reducible assumption|omega|((repeat (first|rw [nP]|rw [nS]))<;>omega)|fail)) only [go_sem, ↓reduceIte] <;> rfl)); (first|(with_reducible (first|apply vO|apply vP|apply vQ|apply vR|apply vS|apply vT|apply vU); try simp only [Env.put])|with_reducible refine (?_ : WQ _ _ _ _ _ _)))
   |fail
  refine vq_app (app_SN (old := rowsE p.edges) (rows := rowsE [⟨frm, to, act, expr, v, c, false, node⟩]) (sz := 8) (bytes := 64) (d := .arr s1.next 0 1 8) ?_ (rowsE_len _) (SN.of (get_push_new rfl) rfl) (rowsE_len _) (by decide) (by simp; omega)) (by rw [rowsE_length]; rfl) rfl ?_
  · rw [get_push_old lid, k1]
  rintro d2 s2 ⟨id2, rfl, k2, f2, g2⟩
  have fr2 : Fr [] s s2 := (fr1.thenPush _).trans f2 (by simp; omega)
  have n2 := f2.1
  have kb2 := f2.2 s.next (by simp only [Store.next_push]; omega) (by simp only [List.mem_singleton]; omega)
  have kz2 := f2.2 (s.next + 1) (by simp only [Store.next_push]; omega) (by simp only [List.mem_singleton]; omega)
  simp only [Store.next_push] at n2 g2
  rw [get_push_old (by omega), kb] at kb2
  rw [get_push_old (by omega), kz] at kz2
  have hid2 : s.next + 2 ≤ id2 := by omega
  clear f2 g2 kb kz
  rw [← rowsE_append] at k2
  rw [← rowsE_append, rowsE_length]
  have lid2 := get_lts k2
  repeat first
   |with_reducible first|apply vA|apply vB|apply vC
   |((with_reducible apply vD); (focus rfl))
   |((with_reducible first|apply vE|apply vF|apply vG|apply vH); simp only [Env.keep, Env.get, Env.ev, List.map, Nat.reduceEqDiff, ↓reduceIte, Then, Out'])
   |((with_reducible first|apply vI|apply vJ|apply vK|apply vL|apply vM|apply vN); (focus (simp (disch := (first|with_reducible assumption|omega|((repeat (first|rw [nP]|rw [nS]))<;>omega)|fail)) only [go_sem, ↓reduceIte, kb2, kz2, o1, o2, o4, o5] <;> rfl)); (first|(with_reducible (first|apply vO|apply vP|apply vQ|apply vR|apply vS|apply vT|apply vU); try simp only [Env.put])|with_reducible refine (?_ : WQ _ _ _ _ _ _)))
   |fail
  generalize hrow : [D.str p.name, .int .i64 (p.copy : Int), x.dl, .int .i64 (p.places : Int), x.dr, .arr id2 0 (p.edges ++ [(⟨frm, to, act, expr, v, c, false, node⟩ : Ed)]).length 8, x.dn, x.dv] = row
  have fr3 : Fr [] s ((s2.set s.next (some (.cells row))).set (s.next + 1) (some (.cells row))) := (fr2.thenSet _ (.inr (Nat.le_refl _))).thenSet _ (.inr (Nat.le_succ _))
  refine ⟨.inr trivial, _, ?_, ⟨x.dl, x.dr, .arr id2 0 (p.edges ++ [(⟨frm, to, act, expr, v, c, false, node⟩ : Ed)]).length 8, x.dn, x.dv⟩, rfl, fr3, ?_, id2, rfl, by omega⟩
  · simp only [resOf, resAll, resOne, Env.get, Nat.reduceEqDiff, ↓reduceIte, Made.at, Store.next_push, get_set_eq (s := s2.set s.next _) (i := s.next + 1) (by simp only [Store.next_set]; omega)]
    rw [← hrow]
    rfl
  refine ⟨hp.l.stay fr3, hp.r.stay fr3, SN.of ?_ (by simp [Pr.put]), hp.n.stay fr3, hp.v.stay fr3⟩
  rw [get_set_ne (by omega), get_set_ne (by omega), k2]
  rfl
theorem rowsB_set (l : List Bool) (i : Nat) (b : Bool) : (rowsB l).flatten.set i (.bool b) = (rowsB (l.set i b)).flatten := by
  have key : ∀ l : List Bool, (rowsB l).flatten = l.map .bool := by
    intro l
    induction l with
    | nil => rfl
    | cons a r ih => simp only [rowsB, List.map_cons, List.flatten_cons] at ih ⊢; rw [ih]; rfl
  rw [key, key, List.map_set]
theorem rowsB_flat (l : List Bool) : (rowsB l).flatten.length = l.length := by rw [flat_len (rowsB_len l), rowsB_length, Nat.mul_one]
theorem rest_ok {s : Store} {p : Pr} {x : PrD} (hp : PrAt s p x) (hl : PrLe p 1000000) {n : Nat} (hn : n < p.rest.length) {is : Int} :
    EvP vfs 108 [.agg (prRow p x), .int .i64 (n : Int), .int .i64 is] s fun r s' => ∃ x', r = .agg (prRow (p.idle n is) x') ∧ Fr [] s s' ∧ PrAt s' (p.idle n is) x' := by
  have o1 := hp.l.one
  have o2 := hp.r.one
  have o3 := hp.e.one
  have o4 := hp.n.one
  have o5 := hp.v.one
  have hrl := hl.rl
  unfold prRow
  refine evp_of (vf := vf108) rfl ?_
  simp only [vf108, xq, xg, xm, xmg, xc, xl, xlg, xf, xfg, xw, xa, xk, xi, xig, xo, xr, xrp, xn, List.map, List.getD, List.getElem?_cons_zero, List.getElem?_cons_succ, List.getElem?_nil, Option.getD]
  repeat first
   |with_reducible first|apply vA|apply vB|apply vC
   |((with_reducible apply vD); (focus rfl))
   |((with_reducible first|apply vE|apply vF|apply vG|apply vH); simp only [Env.keep, Env.get, Env.ev, List.map, Nat.reduceEqDiff, ↓reduceIte, Then, Out'])
   |((with_reducible first|apply vI|apply vJ|apply vK|apply vL|apply vM|apply vN); (focus (simp (disch := (first|with_reducible assumption|omega|((repeat (first|rw [nP]|rw [nS]))<;>omega)|fail)) only [go_sem, ↓reduceIte, o1, o2, o3, o4, o5] <;> rfl)); (first|(with_reducible (first|apply vO|apply vP|apply vQ|apply vR|apply vS|apply vT|apply vU); try simp only [Env.put])|with_reducible refine (?_ : WQ _ _ _ _ _ _)))
   |fail
  refine vq_app (app_SN (old := []) (rows := rowsB p.rest) (sz := 1) (bytes := 1) (d := x.dr) ?_ (by simp) ?_ (rowsB_len _) (by decide) (by simp; omega)) rfl rfl ?_
  · exact get_push_new rfl
  · exact hp.r.stay (((Fr.push _).thenPush _).thenPush _)
  rintro d1 s1 ⟨id1, rfl, k1, f1, g1⟩
  have fr1 : Fr [] s s1 := Fr.trans (((Fr.push _).thenPush _).thenPush _) f1 (by simp; omega)
  have n1 := f1.1
  have kb := f1.2 s.next (by simp only [Store.next_push]; omega) (by simp only [Store.next_push, List.mem_singleton]; omega)
  have kz := f1.2 (s.next + 1) (by simp only [Store.next_push]; omega) (by simp only [Store.next_push, List.mem_singleton]; omega)
  simp only [Store.next_push] at n1 g1
  rw [get_push_old (by simp only [Store.next_push]; omega), get_push_old (by simp only [Store.next_push]; omega), get_push_new rfl] at kb
  rw [get_push_old (by simp only [Store.next_push]; omega), get_push_new (by simp only [Store.next_push])] at kz
  have hid1 : s.next + 2 ≤ id1 := by omega
  clear f1 g1
  rw [List.nil_append] at k1
  simp only [List.nil_append, rowsB_length]
  have lid := get_lts k1
  by_cases c : is = 1
  · have c' : (is == 1) = true := by rw [c]; rfl
    have hnl : ((n : Int) < (p.rest.length : Int)) := by omega
    have hi : idxAV 1 (.arr id1 0 p.rest.length 1) (.int .i64 (n : Int)) = some (.ptr id1 n) := by
      simp only [idxAV]
      rw [if_pos ⟨trivial, by omega, by omega⟩]
      simp
    repeat first
     |(refine vq_w1 (x := .bool true) k1 (n := n) (by rw [rowsB_flat]; omega) rfl ?_ rfl ?_; (focus (simp only [Env.ev, Env.get, Nat.reduceEqDiff, ↓reduceIte])))
     |with_reducible first|apply vA|apply vB|apply vC
     |((with_reducible apply vD); (focus rfl))
     |((with_reducible first|apply vE|apply vF|apply vG|apply vH); simp only [Env.keep, Env.get, Env.ev, List.map, Nat.reduceEqDiff, ↓reduceIte, Then, Out'])
     |((with_reducible first|apply vI|apply vJ|apply vK|apply vL|apply vM|apply vN); (focus (simp (disch := (first|with_reducible assumption|omega|((repeat (first|rw [nP]|rw [nS]))<;>omega)|fail)) only [go_sem, ↓reduceIte, c', hi] <;> rfl)); (first|(with_reducible (first|apply vO|apply vP|apply vQ|apply vR|apply vS|apply vT|apply vU); try simp only [Env.put])|with_reducible refine (?_ : WQ _ _ _ _ _ _)))
     |fail
    have kb1 : (s1.set id1 (some (.cells ((rowsB p.rest).flatten.set n (.bool true))))).get s.next = some (.cells [.str p.name, .int .i64 (p.copy : Int), x.dl, .int .i64 (p.places : Int), x.dr, x.de, x.dn, x.dv]) := by rw [get_set_ne (by omega), kb]
    have kz1 := get_set_ne (s := s1) (o := some (.cells ((rowsB p.rest).flatten.set n (.bool true)))) (i := s.next + 1) (id := id1) (by omega)
    rw [kz] at kz1
    repeat first
     |with_reducible first|apply vA|apply vB|apply vC
     |((with_reducible apply vD); (focus rfl))
     |((with_reducible first|apply vE|apply vF|apply vG|apply vH); simp only [Env.keep, Env.get, Env.ev, List.map, Nat.reduceEqDiff, ↓reduceIte, Then, Out'])
     |((with_reducible first|apply vI|apply vJ|apply vK|apply vL|apply vM|apply vN); (focus (simp (disch := (first|with_reducible assumption|omega|((repeat (first|rw [nP]|rw [nS]))<;>omega)|fail)) only [go_sem, ↓reduceIte, kb1, kz1, o1, o3, o4, o5] <;> rfl)); (first|(with_reducible (first|apply vO|apply vP|apply vQ|apply vR|apply vS|apply vT|apply vU); try simp only [Env.put])|with_reducible refine (?_ : WQ _ _ _ _ _ _)))
     |fail
    generalize hrow : [D.str p.name, .int .i64 (p.copy : Int), x.dl, .int .i64 (p.places : Int), .arr id1 0 p.rest.length 1, x.de, x.dn, x.dv] = row
    have fr3 : Fr [] s (((s1.set id1 (some (.cells ((rowsB p.rest).flatten.set n (.bool true))))).set s.next (some (.cells row))).set (s.next + 1) (some (.cells row))) := ((fr1.thenSet _ (.inr (by omega))).thenSet _ (.inr (Nat.le_refl _))).thenSet _ (.inr (Nat.le_succ _))
    have hid : p.idle n is = { p with rest := p.rest.set n true } := by unfold Pr.idle; rw [if_pos c]
    rw [hid]
    refine ⟨.inr trivial, _, ?_, ⟨x.dl, .arr id1 0 p.rest.length 1, x.de, x.dn, x.dv⟩, rfl, fr3, ?_⟩
    · simp only [resOf, resAll, resOne, Env.get, Nat.reduceEqDiff, ↓reduceIte, Made.at, Store.next_push, get_set_eq (i := s.next + 1) (s := (s1.set id1 _).set s.next _) (by simp only [Store.next_set]; omega)]
      rw [← hrow]
      rfl
    refine ⟨hp.l.stay fr3, SN.of ?_ (by simp), hp.e.stay fr3, hp.n.stay fr3, hp.v.stay fr3⟩
    rw [get_set_ne (by omega), get_set_ne (by omega), get_set_eq lid, rowsB_set]
  · have c' : (is == 1) = false := by rw [beq_eq_false_iff_ne]; exact c
    repeat first
     |with_reducible first|apply vA|apply vB|apply vC
     |((with_reducible apply vD); (focus rfl))
     |((with_reducible first|apply vE|apply vF|apply vG|apply vH); simp only [Env.keep, Env.get, Env.ev, List.map, Nat.reduceEqDiff, ↓reduceIte, Then, Out'])
     |((with_reducible first|apply vI|apply vJ|apply vK|apply vL|apply vM|apply vN); (focus (simp (disch := (first|with_reducible assumption|omega|((repeat (first|rw [nP]|rw [nS]))<;>omega)|fail)) only [go_sem, ↓reduceIte, c', kb, kz, o1, o3, o4, o5] <;> rfl)); (first|(with_reducible (first|apply vO|apply vP|apply vQ|apply vR|apply vS|apply vT|apply vU); try simp only [Env.put])|with_reducible refine (?_ : WQ _ _ _ _ _ _)))
     |fail
    generalize hrow : [D.str p.name, .int .i64 (p.copy : Int), x.dl, .int .i64 (p.places : Int), .arr id1 0 p.rest.length 1, x.de, x.dn, x.dv] = row
    have fr3 : Fr [] s ((s1.set s.next (some (.cells row))).set (s.next + 1) (some (.cells row))) := (fr1.thenSet _ (.inr (Nat.le_refl _))).thenSet _ (.inr (Nat.le_succ _))
    have hid : p.idle n is = p := by unfold Pr.idle; rw [if_neg c]
    rw [hid]
    refine ⟨.inr trivial, _, ?_, ⟨x.dl, .arr id1 0 p.rest.length 1, x.de, x.dn, x.dv⟩, rfl, fr3, ?_⟩
    · simp only [resOf, resAll, resOne, Env.get, Nat.reduceEqDiff, ↓reduceIte, Made.at, Store.next_push, get_set_eq (i := s.next + 1) (s := s1.set s.next _) (by simp only [Store.next_set]; omega)]
      rw [← hrow]
      rfl
    refine ⟨hp.l.stay fr3, SN.of ?_ (by simp), hp.e.stay fr3, hp.n.stay fr3, hp.v.stay fr3⟩
    rw [get_set_ne (by omega), get_set_ne (by omega), k1]
end Go.Proofs.Ytlaeblilmppodaa
namespace Go.Proofs.Ytlaeblilmppodaa
open Go.V
set_option maxRecDepth 100000
set_option maxHeartbeats 4000000
set_option linter.unusedSimpArgs false
set_option linter.unusedVariables false
theorem findN_hit {l : List ByteArray} {x : ByteArray} {i : Nat} (h : i < l.length) (hx : l[i] = x) (hb : ∀ j (hj : j < l.length), j < i → l[j] ≠ x) : findN l x = i := by
  have : l.findIdx (fun y => decide (y = x)) = i := by
    rw [List.findIdx_eq h]
    exact ⟨by simpa using hx, fun j hj => by simpa using hb j (by omega) hj⟩
  unfold findN
  rw [this, if_pos h]
theorem findN_miss {l : List ByteArray} {x : ByteArray} (hb : ∀ j (hj : j < l.length), l[j] ≠ x) : findN l x = 0 := by
  unfold findN
  rw [if_neg]
  rw [List.findIdx_lt_length]
  rintro ⟨y, hy, e⟩
  obtain ⟨j, hj, rfl⟩ := List.getElem_of_mem hy
  exact hb j hj (by simpa using e)
theorem find_ok {s : Store} {d : D} {l : List ByteArray} {x : ByteArray} (hd : SN s 1 d (rowsS l)) (hl : l.length ≤ 1000000) : Ev vfs 106 [d, .str x] s (.int .i64 (findN l x : Int)) s := by
  have hlen := hd.len
  rw [rowsS_length] at hlen
  refine ev_of (vf := vf106) rfl ?_
  simp only [vf106, xq, xg, xm, xmg, xc, xl, xlg, xf, xfg, xw, xa, xk, xi, xig, xo, xr, xrp, xn, List.map, List.getD, List.getElem?_cons_zero, List.getElem?_cons_succ, List.getElem?_nil, Option.getD]
  repeat first
   |with_reducible first|apply vA|apply vB|apply vC
   |((with_reducible apply vD); (focus rfl))
   |((with_reducible first|apply vE|apply vF|apply vG|apply vH); simp only [Env.keep, Env.get, Env.ev, List.map, Nat.reduceEqDiff, ↓reduceIte, Then, Out'])
   |((with_reducible first|apply vI|apply vJ|apply vK|apply vL|apply vM|apply vN); (focus (simp (disch := (first|with_reducible assumption|omega|((repeat (first|rw [nP]|rw [nS]))<;>omega)|fail)) only [go_sem, ↓reduceIte] <;> rfl)); (first|(with_reducible (first|apply vO|apply vP|apply vQ|apply vR|apply vS|apply vT|apply vU); try simp only [Env.put])|with_reducible refine (?_ : WQ _ _ _ _ _ _)))
   |fail
  refine vw_loop_inv (Q := Out' 0 _) (fun n env s1 => ∃ i : Nat, i ≤ l.length ∧ n = l.length - i ∧ (∀ j (hj : j < l.length), j < i → l[j] ≠ x) ∧ s1 = s ∧ (env.get 0 = d ∧ env.get 1 = .str x ∧ env.get 5 = .int .i64 (i : Int))) ?_ l.length _ _ ⟨0, by omega, rfl, fun j _ h => by omega, rfl, by simp [Env.get]⟩
  rintro n env s1 ⟨i, hi, rfl, hno, rfl, hE⟩
  by_cases c1 : i < l.length
  · have c1' : ((i : Int) < (l.length : Int)) = True := eq_true (by omega)
    have hs : IntKind.i64.wrap ((i : Int) + 1) = ((i + 1 : Nat) : Int) := by rw [i64_id (by omega) (by omega)]; omega
    obtain ⟨pp, p1, p2, -⟩ := hd.get1 (rowsS_len l) (i := i) (c := .str l[i]) (by simpa using c1) (by simp [rowsS]) rfl (by decide)
    by_cases c2 : l[i] = x
    · have hf := findN_hit c1 c2 hno
      repeat first
       |with_reducible first|apply vA|apply vB|apply vC
       |((with_reducible apply vD); (focus rfl))
       |((with_reducible first|apply vE|apply vF|apply vG|apply vH); simp only [Env.keep, Env.get, Env.ev, List.map, Nat.reduceEqDiff, ↓reduceIte, Then, Out'])
       |((with_reducible first|apply vI|apply vJ|apply vK|apply vL|apply vM|apply vN); (focus (simp (disch := (first|with_reducible assumption|omega|((repeat (first|rw [nP]|rw [nS]))<;>omega)|fail)) only [go_sem, ↓reduceIte, hE, hlen, c1', p1, p2, c2] <;> rfl)); (first|(with_reducible (first|apply vO|apply vP|apply vQ|apply vR|apply vS|apply vT|apply vU); try simp only [Env.put])|with_reducible refine (?_ : WQ _ _ _ _ _ _)))
       |fail
      exact ⟨.inr trivial, trivial, by rw [hf]; simp only [resOf, resAll, resOne, Env.get, Nat.reduceEqDiff, ↓reduceIte, hE]⟩
    · repeat first
       |with_reducible first|apply vA|apply vB|apply vC
       |((with_reducible apply vD); (focus rfl))
       |((with_reducible first|apply vE|apply vF|apply vG|apply vH); simp only [Env.keep, Env.get, Env.ev, List.map, Nat.reduceEqDiff, ↓reduceIte, Then, Out'])
       |((with_reducible first|apply vI|apply vJ|apply vK|apply vL|apply vM|apply vN); (focus (simp (disch := (first|with_reducible assumption|omega|((repeat (first|rw [nP]|rw [nS]))<;>omega)|fail)) only [go_sem, ↓reduceIte, hE, hlen, c1', p1, p2, c2, hs] <;> rfl)); (first|(with_reducible (first|apply vO|apply vP|apply vQ|apply vR|apply vS|apply vT|apply vU); try simp only [Env.put])|with_reducible refine (?_ : WQ _ _ _ _ _ _)))
       |fail
      refine ⟨l.length - (i + 1), by omega, i + 1, by omega, rfl, fun j hj hji => ?_, trivial, (by simp only [Env.get, Nat.reduceEqDiff, ↓reduceIte, hE, and_self])⟩
      by_cases e : j = i
      · subst e; exact c2
      · exact hno j hj (by omega)
  · have c1' : ((i : Int) < (l.length : Int)) = False := eq_false (by omega)
    have hf := findN_miss (l := l) (x := x) fun j hj => hno j hj (by omega)
    repeat first
     |with_reducible first|apply vA|apply vB|apply vC
     |((with_reducible apply vD); (focus rfl))
     |((with_reducible first|apply vE|apply vF|apply vG|apply vH); simp only [Env.keep, Env.get, Env.ev, List.map, Nat.reduceEqDiff, ↓reduceIte, Then, Out'])
     |((with_reducible first|apply vI|apply vJ|apply vK|apply vL|apply vM|apply vN); (focus (simp (disch := (first|with_reducible assumption|omega|((repeat (first|rw [nP]|rw [nS]))<;>omega)|fail)) only [go_sem, ↓reduceIte, hE, hlen, c1'] <;> rfl)); (first|(with_reducible (first|apply vO|apply vP|apply vQ|apply vR|apply vS|apply vT|apply vU); try simp only [Env.put])|with_reducible refine (?_ : WQ _ _ _ _ _ _)))
     |fail
    exact ⟨.inr trivial, trivial, by rw [hf]; rfl⟩
theorem channel_ok {s : Store} {m : MdX} {t : List Nd} {ch : List Ch} {x : ByteArray} (hm : MdAt s m t ch) (hl : ch.length ≤ 1000000) :
    EvP vfs 107 [.agg (mdRow m), .str x] s fun r s' => r = .int .i64 (findN (ch.map Ch.name) x : Int) ∧ Fr [] s s' := by
  have hlen := hm.c.len
  rw [rowsC_length] at hlen
  have o0 := FL.one hm.tr.fl
  have o1 := hm.c.one
  have o2 := hm.ov
  have o3 := hm.op
  have o4 := hm.os
  unfold mdRow
  refine evp_of (vf := vf107) rfl ?_
  simp only [vf107, xq, xg, xm, xmg, xc, xl, xlg, xf, xfg, xw, xa, xk, xi, xig, xo, xr, xrp, xn, List.map, List.getD, List.getElem?_cons_zero, List.getElem?_cons_succ, List.getElem?_nil, Option.getD]
  repeat first
   |with_reducible first|apply vA|apply vB|apply vC
   |((with_reducible apply vD); (focus rfl))
   |((with_reducible first|apply vE|apply vF|apply vG|apply vH); simp only [Env.keep, Env.get, Env.ev, List.map, Nat.reduceEqDiff, ↓reduceIte, Then, Out'])
   |((with_reducible first|apply vI|apply vJ|apply vK|apply vL|apply vM|apply vN); (focus (simp (disch := (first|with_reducible assumption|omega|((repeat (first|rw [nP]|rw [nS]))<;>omega)|fail)) only [go_sem, ↓reduceIte, o0, o1, o2, o3, o4] <;> rfl)); (first|(with_reducible (first|apply vO|apply vP|apply vQ|apply vR|apply vS|apply vT|apply vU); try simp only [Env.put])|with_reducible refine (?_ : WQ _ _ _ _ _ _)))
   |fail
  have hg0 : (s.push (.cells [m.dt, .int .i64 m.g, m.dc, m.dv, m.dp, m.ds, .bool m.b])).get s.next = some (.cells [m.dt, .int .i64 m.g, m.dc, m.dv, m.dp, m.ds, .bool m.b]) := get_push_new rfl
  have hc := hm.c.stay (Fr.push (ids := []) (s := s) (.cells [m.dt, .int .i64 m.g, m.dc, m.dv, m.dp, m.ds, .bool m.b]))
  have fr := Fr.push (ids := []) (s := s) (.cells [m.dt, .int .i64 m.g, m.dc, m.dv, m.dp, m.ds, .bool m.b])
  generalize s.push (.cells [m.dt, .int .i64 m.g, m.dc, m.dv, m.dp, m.ds, .bool m.b]) = s1 at *
  refine vw_loop_inv (Q := Out' 0 _) (fun n env s2 => ∃ i : Nat, i ≤ ch.length ∧ n = ch.length - i ∧ (∀ j (hj : j < (ch.map Ch.name).length), j < i → (ch.map Ch.name)[j] ≠ x) ∧ s2 = s1 ∧ (env.get 1 = .str x ∧ env.get 2 = .ptr s.next 0 ∧ env.get 5 = .int .i64 (i : Int))) ?_ ch.length _ _ ⟨0, by omega, rfl, fun j _ h => by omega, rfl, by simp [Env.get, Made.at]⟩
  rintro n env s2 ⟨i, hi, rfl, hno, rfl, hE⟩
  by_cases c1 : i < ch.length
  · have c1' : ((i : Int) < (ch.length : Int)) = True := eq_true (by omega)
    have hs : IntKind.i64.wrap ((i : Int) + 1) = ((i + 1 : Nat) : Int) := by rw [i64_id (by omega) (by omega)]; omega
    rcases hc with ⟨_, h0⟩ | ⟨id, hdc, hg⟩ | hdc
    · have := congrArg List.length h0
      rw [rowsC_length, List.length_nil] at this
      omega
    · have hq : (rowsC ch).flatten[i * 5]? = some (.str ch[i].name) := by
        have := flat_get (rowsC_len ch) (i := i) (f := 0) (by simpa using c1) (by decide)
        rw [Nat.add_zero] at this
        rw [this]
        simp [rowsC, Ch.row]
      rw [rowsC_length] at hdc
      have hnm : (ch.map Ch.name)[i]'(by simpa using c1) = ch[i].name := by simp
      rw [hdc] at hg0 hlen o1
      by_cases c2 : ch[i].name = x
      · have hf := findN_hit (l := ch.map Ch.name) (i := i) (by simpa using c1) (by rw [hnm]; exact c2) hno
        repeat first
         |with_reducible first|apply vA|apply vB|apply vC
         |((with_reducible apply vD); (focus rfl))
         |((with_reducible first|apply vE|apply vF|apply vG|apply vH); simp only [Env.keep, Env.get, Env.ev, List.map, Nat.reduceEqDiff, ↓reduceIte, Then, Out'])
         |((with_reducible first|apply vI|apply vJ|apply vK|apply vL|apply vM|apply vN); (focus (simp (disch := (first|with_reducible assumption|omega|((repeat (first|rw [nP]|rw [nS]))<;>omega)|fail)) only [go_sem, ↓reduceIte, hE, hg0, o0, o1, o2, o3, o4, hlen, c1', hg, hq, c2] <;> rfl)); (first|(with_reducible (first|apply vO|apply vP|apply vQ|apply vR|apply vS|apply vT|apply vU); try simp only [Env.put])|with_reducible refine (?_ : WQ _ _ _ _ _ _)))
         |fail
        exact ⟨.inr trivial, _, (by simp only [resOf, resAll, resOne, Env.get, Nat.reduceEqDiff, ↓reduceIte] <;> rfl), by rw [hf], fr⟩
      · repeat first
         |with_reducible first|apply vA|apply vB|apply vC
         |((with_reducible apply vD); (focus rfl))
         |((with_reducible first|apply vE|apply vF|apply vG|apply vH); simp only [Env.keep, Env.get, Env.ev, List.map, Nat.reduceEqDiff, ↓reduceIte, Then, Out'])
         |((with_reducible first|apply vI|apply vJ|apply vK|apply vL|apply vM|apply vN); (focus (simp (disch := (first|with_reducible assumption|omega|((repeat (first|rw [nP]|rw [nS]))<;>omega)|fail)) only [go_sem, ↓reduceIte, hE, hg0, o0, o1, o2, o3, o4, hlen, c1', hg, hq, c2, hs] <;> rfl)); (first|(with_reducible (first|apply vO|apply vP|apply vQ|apply vR|apply vS|apply vT|apply vU); try simp only [Env.put])|with_reducible refine (?_ : WQ _ _ _ _ _ _)))
         |fail
        refine ⟨ch.length - (i + 1), by omega, i + 1, by omega, rfl, fun j hj hji => ?_, trivial, (by simp only [Env.get, Nat.reduceEqDiff, ↓reduceIte, hE, and_self])⟩
        by_cases e : j = i
        · subst e; rw [hnm]; exact c2
        · exact hno j hj (by omega)
    · have hnm : (ch.map Ch.name)[i]'(by simpa using c1) = ch[i].name := by simp
      have hix : idxAV 5 m.dc (.int .i64 (i : Int)) = some (.fp [.str ch[i].name, .int .i64 ch[i].room, .int .i64 ch[i].width, .bool ch[i].lossy, .bool ch[i].copying] 0) := by
        rw [hdc]
        simp [idxAV, rowsC, c1, Ch.row]
      by_cases c2 : ch[i].name = x
      · have hf := findN_hit (l := ch.map Ch.name) (i := i) (by simpa using c1) (by rw [hnm]; exact c2) hno
        repeat first
         |with_reducible first|apply vA|apply vB|apply vC
         |((with_reducible apply vD); (focus rfl))
         |((with_reducible first|apply vE|apply vF|apply vG|apply vH); simp only [Env.keep, Env.get, Env.ev, List.map, Nat.reduceEqDiff, ↓reduceIte, Then, Out'])
         |((with_reducible first|apply vI|apply vJ|apply vK|apply vL|apply vM|apply vN); (focus (simp (disch := (first|with_reducible assumption|omega|((repeat (first|rw [nP]|rw [nS]))<;>omega)|fail)) only [go_sem, ↓reduceIte, hE, hg0, o0, o1, o2, o3, o4, hlen, c1', hix, c2] <;> rfl)); (first|(with_reducible (first|apply vO|apply vP|apply vQ|apply vR|apply vS|apply vT|apply vU); try simp only [Env.put])|with_reducible refine (?_ : WQ _ _ _ _ _ _)))
         |fail
        exact ⟨.inr trivial, _, (by simp only [resOf, resAll, resOne, Env.get, Nat.reduceEqDiff, ↓reduceIte] <;> rfl), by rw [hf], fr⟩
      · repeat first
         |with_reducible first|apply vA|apply vB|apply vC
         |((with_reducible apply vD); (focus rfl))
         |((with_reducible first|apply vE|apply vF|apply vG|apply vH); simp only [Env.keep, Env.get, Env.ev, List.map, Nat.reduceEqDiff, ↓reduceIte, Then, Out'])
         |((with_reducible first|apply vI|apply vJ|apply vK|apply vL|apply vM|apply vN); (focus (simp (disch := (first|with_reducible assumption|omega|((repeat (first|rw [nP]|rw [nS]))<;>omega)|fail)) only [go_sem, ↓reduceIte, hE, hg0, o0, o1, o2, o3, o4, hlen, c1', hix, c2, hs] <;> rfl)); (first|(with_reducible (first|apply vO|apply vP|apply vQ|apply vR|apply vS|apply vT|apply vU); try simp only [Env.put])|with_reducible refine (?_ : WQ _ _ _ _ _ _)))
         |fail
        refine ⟨ch.length - (i + 1), by omega, i + 1, by omega, rfl, fun j hj hji => ?_, trivial, (by simp only [Env.get, Nat.reduceEqDiff, ↓reduceIte, hE, and_self])⟩
        by_cases e : j = i
        · subst e; rw [hnm]; exact c2
        · exact hno j hj (by omega)
  · have c1' : ((i : Int) < (ch.length : Int)) = False := eq_false (by omega)
    have hf := findN_miss (l := ch.map Ch.name) (x := x) fun j hj => hno j hj (by simp at hj; omega)
    repeat first
     |with_reducible first|apply vA|apply vB|apply vC
     |((with_reducible apply vD); (focus rfl))
     |((with_reducible first|apply vE|apply vF|apply vG|apply vH); simp only [Env.keep, Env.get, Env.ev, List.map, Nat.reduceEqDiff, ↓reduceIte, Then, Out'])
     |((with_reducible first|apply vI|apply vJ|apply vK|apply vL|apply vM|apply vN); (focus (simp (disch := (first|with_reducible assumption|omega|((repeat (first|rw [nP]|rw [nS]))<;>omega)|fail)) only [go_sem, ↓reduceIte, hE, hg0, o0, o1, o2, o3, o4, hlen, c1'] <;> rfl)); (first|(with_reducible (first|apply vO|apply vP|apply vQ|apply vR|apply vS|apply vT|apply vU); try simp only [Env.put])|with_reducible refine (?_ : WQ _ _ _ _ _ _)))
     |fail
    exact ⟨.inr trivial, _, (by simp only [resOf, resAll, resOne, Env.get, Nat.reduceEqDiff, ↓reduceIte] <;> rfl), by rw [hf]; rfl, fr⟩
end Go.Proofs.Ytlaeblilmppodaa
namespace Go.V
def KF (t : List Nd) (g : Nat) (ks : List Int) (a n : Nat) : Prop := kidsF (walkF t g) t.length ks a = (n, true)
theorem KF.cons {t : List Nd} {g : Nat} {z : Int} {zs : List Int} {a n : Nat} (h : KF t g (z :: zs) a n) : z = (a : Int) ∧ a < t.length ∧ ∃ b, walkF t g a = (b, true) ∧ a < b ∧ b ≤ t.length ∧ KF t g zs b n := by
  unfold KF kidsF at h
  split at h
  · simp at h
  · rename_i hc
    split at h
    · rename_i ht
      have ha : a < t.length := by omega
      have hw : walkF t g a = ((walkF t g a).1, true) := by rw [← ht]
      have hs := (walk_ok g ha hw).1
      exact ⟨by omega, ha, (walkF t g a).1, hw, hs.lt, hs.le, h⟩
    · simp at h
theorem KF.nil {t : List Nd} {g : Nat} {a n : Nat} (h : KF t g [] a n) : n = a := by
  simp only [KF, kidsF, Prod.mk.injEq, and_true] at h
  exact h.symm
theorem KF.le {t : List Nd} {g : Nat} : ∀ {ks : List Int} {a n : Nat}, KF t g ks a n → a ≤ n
  | [], a, n, h => by have := h.nil; omega
  | z :: zs, a, n, h => by
    obtain ⟨_, _, b, _, h1, _, h2⟩ := h.cons
    have := h2.le
    omega
theorem walk_kf {t : List Nd} {g k n : Nat} (h : walkF t g k = (n, true)) : ∃ g', g = g' + 1 ∧ KF t g' (nd t k).kids (k + 1) n := by
  cases g with
  | zero => simp [walkF] at h
  | succ g => exact ⟨g, rfl, h⟩
structure Gw (p q : Pr) (n : Nat) : Prop where
  pl : q.places ≤ p.places + n
  rl : q.rest.length ≤ p.rest.length + n
  el : q.edges.length ≤ p.edges.length + n
theorem Gw.refl (p : Pr) : Gw p p 0 := ⟨Nat.le_refl _, Nat.le_refl _, Nat.le_refl _⟩
theorem Gw.trans {p q r : Pr} {a b : Nat} (h : Gw p q a) (k : Gw q r b) : Gw p r (a + b) := ⟨by have := h.pl; have := k.pl; omega, by have := h.rl; have := k.rl; omega, by have := h.el; have := k.el; omega⟩
theorem Gw.le {p q : Pr} {a b : Nat} (h : Gw p q a) (k : a ≤ b) : Gw p q b := ⟨by have := h.pl; omega, by have := h.rl; omega, by have := h.el; omega⟩
theorem gw_put (p : Pr) (frm to act node : Nat) (expr v c : Int) : Gw p (p.put frm to act node expr v c) 1 := ⟨by simp [Pr.put], by simp [Pr.put], by simp [Pr.put]⟩
theorem gw_place (p : Pr) : Gw p p.place 1 := ⟨by simp [Pr.place], by simp [Pr.place], by simp [Pr.place]⟩
theorem gw_idle (p : Pr) (n : Nat) (is : Int) : Gw p (p.idle n is) 0 := by
  unfold Pr.idle
  split
  · exact ⟨Nat.le_refl _, by simp, Nat.le_refl _⟩
  · exact Gw.refl p
def StG (t : List Nd) (st : Pr → Nat → Nat → Nat → Pr) (k : Nat) : Prop := ∀ g n, walkF t g k = (n, true) → ∀ p frm to, Gw p (st p k frm to) (4 * (n - k) - 1)
theorem sev_gw {t : List Nd} {st : Pr → Nat → Nat → Nat → Pr} {node g : Nat} : ∀ {ks : List Int} {a n : Nat} {p : Pr} {frm to : Nat}, KF t g ks a n → (∀ k ∈ ks.map Int.toNat, StG t st k) → Gw p (sevF st node p (ks.map Int.toNat) frm to) (4 * (n - a) + 1)
  | [], a, n, p, frm, to, h, _ => (gw_put _ _ _ _ _ _ _ _).le (by omega)
  | [z], a, n, p, frm, to, h, hs => by
    obtain ⟨rfl, h1, b, h2, h3, h4, h5⟩ := h.cons
    obtain rfl := h5.nil
    exact (hs _ (by simp) g n (by simpa using h2) p frm to).le (by simp; omega)
  | z :: z' :: zs, a, n, p, frm, to, h, hs => by
    obtain ⟨rfl, h1, b, h2, h3, h4, h5⟩ := h.cons
    have hle := h5.le
    have s1 := hs ((a : Int).toNat) (by simp) g b (by simpa using h2) p.place frm p.places
    have s2 := sev_gw (st := st) (node := node) (p := st p.place (a : Int).toNat frm p.places) (frm := p.places) (to := to) h5 (fun k hk => hs k (by simp only [List.map_cons, List.mem_cons] at hk ⊢; right; exact hk))
    exact (((gw_place p).trans s1).trans s2).le (by simp; omega)
theorem blk_gw {t : List Nd} {st : Pr → Nat → Nat → Nat → Pr} {g b n : Nat} {p : Pr} {frm to : Nat} (hb : b < t.length) (h : walkF t g b = (n, true)) (hs : ∀ k ∈ (nd t b).ks, StG t st k) : Gw p (blkF t st p b frm to) (4 * (n - b) - 3) := by
  obtain ⟨g', rfl, hk⟩ := walk_kf h
  have := hk.le
  exact (sev_gw hk hs).le (by omega)
theorem choose_gw {t : List Nd} {st : Pr → Nat → Nat → Nat → Pr} {frm to g : Nat} : ∀ {ks : List Int} {a n : Nat} {p : Pr}, KF t g ks a n → (∀ b ∈ ks.map Int.toNat, ∀ k ∈ (nd t b).ks, StG t st k) → Gw p (chooseF t st frm to p (ks.map Int.toNat)) (4 * (n - a))
  | [], a, n, p, h, _ => (Gw.refl p).le (by omega)
  | z :: zs, a, n, p, h, hs => by
    obtain ⟨rfl, h1, b, h2, h3, h4, h5⟩ := h.cons
    have hle := h5.le
    have hsa : ∀ k ∈ (nd t a).ks, StG t st k := by simpa using hs (a : Int).toNat (by simp)
    rw [List.map_cons, chooseF]
    simp only [Int.toNat_natCast]
    have key : ∀ q, Gw p q (4 * (b - a) - 1) → Gw p (chooseF t st frm to q (zs.map Int.toNat)) (4 * (n - a)) := fun q hq => (hq.trans (choose_gw h5 fun b hb => hs b (by simp only [List.map_cons, List.mem_cons]; right; exact hb))).le (by omega)
    split
    · exact key _ ((((gw_place p).trans (gw_put p.place frm p.places 0 a (-1) (-1) (-1))).trans (blk_gw h1 h2 hsa)).le (by omega))
    · exact key _ ((blk_gw h1 h2 hsa).le (by omega))
theorem stat_gw {t : List Nd} (ht : TreeOk t) (ch : List ByteArray) : ∀ (f k : Nat), k < t.length → statK (nd t k).kind → t.length - k < f → StG t (statF t ch f) k
  | 0, k, _, _, h => by omega
  | f + 1, k, hk, hst, hf => by
    intro g n hw p frm to
    have hsub := (walk_ok g hk hw).1
    have hlt := hsub.lt
    have hle := hsub.le
    obtain ⟨g', rfl, hkf⟩ := walk_kf hw
    have hno := ht.node k hk
    have hks := ht.ks hk
    have bl : ∀ b ∈ (nd t k).ks, (nd t b).kind = 16 → ∀ x ∈ (nd t b).ks, StG t (statF t ch f) x := fun b hb hb16 x hx => by
      have h1 := hks b hb
      have h2 := ht.ks h1.2 x hx
      exact stat_gw ht ch f x h2.2 ((ht.node b h1.2).block hb16 x hx) (by omega)
    have one : ∀ q : Pr, Gw p q 1 → Gw p q (4 * (n - k) - 1) := fun q h => h.le (by omega)
    unfold statF
    simp only
    by_cases c6 : (nd t k).kind = 6
    · rw [if_pos c6]; exact one _ (gw_put _ _ _ _ _ _ _ _)
    rw [if_neg c6]
    by_cases c7 : (nd t k).kind = 7
    · rw [if_pos c7]; exact one _ (gw_put _ _ _ _ _ _ _ _)
    rw [if_neg c7]
    by_cases c8 : (nd t k).kind = 8
    · rw [if_pos c8]; exact one _ (((gw_idle _ _ _).trans (gw_put _ _ _ _ _ _ _ _)).le (by omega))
    rw [if_neg c8]
    by_cases c9 : (nd t k).kind = 9
    · rw [if_pos c9]; exact one _ (((gw_idle _ _ _).trans (gw_put _ _ _ _ _ _ _ _)).le (by omega))
    rw [if_neg c9]
    by_cases c10 : (nd t k).kind = 10
    · rw [if_pos c10]
      have h1 := hno.choose c10
      exact ((gw_idle _ _ _).trans (choose_gw hkf fun b hb => bl b hb (h1.2 b hb))).le (by omega)
    rw [if_neg c10]
    by_cases c11 : (nd t k).kind = 11
    · rw [if_pos c11]
      obtain ⟨l1, l2, l3, l4⟩ := hno.cond c11
      match hkk : (nd t k).kids, l1, hkf with
      | [z0, z1], _, hkf =>
        obtain ⟨e0, _, b0, _, s0, _, hkf⟩ := hkf.cons
        obtain ⟨e1, q1, b1, w1, s1, _, hkf⟩ := hkf.cons
        have := hkf.nil
        have k1 : (nd t k).kid 1 = b0 := by simp [Nd.kid, hkk, e1]
        have m1 : b0 ∈ (nd t k).ks := by simp [Nd.ks, hkk, e1]
        rw [k1] at l3 ⊢
        rw [if_pos (by simp)]
        exact ((((gw_place p).trans (gw_put _ _ _ _ _ _ _ _)).trans (blk_gw q1 w1 (bl _ m1 l3))).trans (gw_put _ _ _ _ _ _ _ _)).le (by omega)
      | [z0, z1, z2], _, hkf =>
        obtain ⟨e0, _, b0, _, s0, _, hkf⟩ := hkf.cons
        obtain ⟨e1, q1, b1, w1, s1, _, hkf⟩ := hkf.cons
        obtain ⟨e2, q2, b2, w2, s2, _, hkf⟩ := hkf.cons
        have := hkf.nil
        have k1 : (nd t k).kid 1 = b0 := by simp [Nd.kid, hkk, e1]
        have k2 : (nd t k).kid 2 = b1 := by simp [Nd.kid, hkk, e2]
        have m1 : b0 ∈ (nd t k).ks := by simp [Nd.ks, hkk, e1]
        have m2 : b1 ∈ (nd t k).ks := by simp [Nd.ks, hkk, e2]
        have l4 := l4 (by rw [hkk]; rfl)
        rw [k1] at l3 ⊢
        rw [k2] at l4 ⊢
        rw [if_neg (by simp)]
        exact ((((((gw_place p).trans (gw_put _ _ _ _ _ _ _ _)).trans (blk_gw q1 w1 (bl _ m1 l3))).trans (gw_place _)).trans (gw_put _ _ _ _ _ _ _ _)).trans (blk_gw q2 w2 (bl _ m2 l4))).le (by omega)
    rw [if_neg c11]
    by_cases c12 : (nd t k).kind = 12
    · rw [if_pos c12]
      obtain ⟨l1, l2, l3⟩ := hno.loop c12
      match hkk : (nd t k).kids, l1, hkf with
      | [z0, z1], _, hkf =>
        obtain ⟨e0, _, b0, _, s0, _, hkf⟩ := hkf.cons
        obtain ⟨e1, q1, b1, w1, s1, _, hkf⟩ := hkf.cons
        have := hkf.nil
        have k1 : (nd t k).kid 1 = b0 := by simp [Nd.kid, hkk, e1]
        have m1 : b0 ∈ (nd t k).ks := by simp [Nd.ks, hkk, e1]
        rw [k1] at l3 ⊢
        exact ((((gw_place p).trans (gw_put _ _ _ _ _ _ _ _)).trans (gw_put _ _ _ _ _ _ _ _)).trans (blk_gw q1 w1 (bl _ m1 l3))).le (by omega)
    rw [if_neg c12]
    by_cases c13 : (nd t k).kind = 13
    · rw [if_pos c13]
      obtain ⟨l1, l2⟩ := hno.atom c13
      match hkk : (nd t k).kids, l1, hkf with
      | [z0], _, hkf =>
        obtain ⟨e0, q0, b0, w0, s0, _, hkf⟩ := hkf.cons
        have := hkf.nil
        have k0 : (nd t k).kid 0 = k + 1 := by simp [Nd.kid, hkk, e0]
        have m0 : k + 1 ∈ (nd t k).ks := by simp [Nd.ks, hkk, e0]
        rw [k0] at l2 ⊢
        have h := blk_gw (p := p) (frm := frm) (to := to) q0 w0 (bl _ m0 l2)
        refine ⟨Nat.le_trans h.pl (by omega), Nat.le_trans h.rl (by omega), ?_⟩
        have hl : ∀ (n to : Nat) (l : List Ed), (markK n to l).length = l.length := fun n to l => by
          unfold markK
          rw [List.length_append, List.length_map, ← List.length_append, List.take_append_drop]
        show (markK _ _ _).length ≤ _
        rw [hl]
        exact Nat.le_trans h.el (by omega)
    rw [if_neg c13]
    by_cases c15 : (nd t k).kind = 15
    · rw [if_pos c15]; exact one _ (gw_put _ _ _ _ _ _ _ _)
    rw [if_neg c15]
    exact one _ (gw_put _ _ _ _ _ _ _ _)
end Go.V
namespace Go.V
structure SF (s0 : Store) (m : MdX) (nr : List D) (pr : List D) (s : Store) : Prop where
  fr : Fr [] s0 s
  nx : s0.next + 4 ≤ s.next
  m : s.get s0.next = some (.cells (mdRow m))
  p : s.get (s0.next + 1) = some (.cells pr)
  r : s.get (s0.next + 2) = some (.cells [.str (bs []), .int .i64 0, .nils, .int .i64 0, .nils, .nils, .nils, .nils])
  n : s.get (s0.next + 3) = some (.cells nr)
theorem SF.call {s0 : Store} {m : MdX} {nr pr : List D} {s s' : Store} (h : SF s0 m nr pr s) (hf : Fr [] s s') : SF s0 m nr pr s' := by
  have := h.nx
  have := hf.1
  refine ⟨h.fr.trans hf (by simp), by omega, ?_, ?_, ?_, ?_⟩
  · rw [hf.2 _ (by omega) (by simp), h.m]
  · rw [hf.2 _ (by omega) (by simp), h.p]
  · rw [hf.2 _ (by omega) (by simp), h.r]
  · rw [hf.2 _ (by omega) (by simp), h.n]
theorem SF.setP {s0 : Store} {m : MdX} {nr pr pr' : List D} {s : Store} (h : SF s0 m nr pr s) : SF s0 m nr pr' (s.set (s0.next + 1) (some (.cells pr'))) := by
  have := h.nx
  refine ⟨h.fr.thenSet _ (.inr (by omega)), by simp only [Store.next_set]; omega, ?_, ?_, ?_, ?_⟩
  · rw [get_set_ne (by omega), h.m]
  · rw [get_set_eq (by omega)]
  · rw [get_set_ne (by omega), h.r]
  · rw [get_set_ne (by omega), h.n]
def NewS (s : Store) (d : D) : Prop := ∃ id n z, d = .arr id 0 n z ∧ s.next ≤ id
theorem fresh_of {s s' : Store} {d : D} {id n z : Nat} (h : d = .arr id 0 n z) (h1 : s'.next ≤ id) (h2 : s.next ≤ s'.next) : NewS s d := ⟨id, n, z, h, Nat.le_trans h2 h1⟩
theorem NewS.mono {s s' : Store} {d : D} (h : NewS s' d) (h2 : s.next ≤ s'.next) : NewS s d := by
  obtain ⟨id, n, z, h, h1⟩ := h
  exact ⟨id, n, z, h, Nat.le_trans h2 h1⟩
def StR (s : Store) (p q : Pr) (r : D) (s' : Store) : Prop := ∃ x', r = .agg (prRow q x') ∧ Fr [] s s' ∧ PrAt s' q x' ∧ NewS s x'.de
theorem nd_one {t : List Nd} {d : D} (hT : TreeAt d t) {k : Nat} (hk : k < t.length) : oneCell (nd t k).dw = true ∧ oneCell (nd t k).dn = true ∧ oneCell (nd t k).dk = true := ⟨FL.one (hT.nd hk).w, FL.one (hT.nd hk).n, FL.one (hT.nd hk).k⟩
theorem kid_idx {t : List Nd} {d : D} (hT : TreeAt d t) (ht : TreeOk t) {k : Nat} (hk : k < t.length) {i : Nat} (hi : i < (nd t k).kids.length) : idxAV 1 (nd t k).dk (.int .i64 (i : Int)) = some (.fp [.int .i64 ((nd t k).kid i : Int)] 0) := by
  have := FI.idx (hT.nd hk).k hi (k := .i64)
  have hr := ht.kids k hk _ (List.getElem_mem hi)
  rw [this, kid_get hi, Int.toNat_of_nonneg (by omega)]
theorem word_idx {t : List Nd} {d : D} (hT : TreeAt d t) {k : Nat} (hk : k < t.length) {i : Nat} (hi : i < (nd t k).words.length) : idxAV 1 (nd t k).dw (.int .i64 (i : Int)) = some (.fp [.str ((nd t k).word i)] 0) := by
  rw [word_get hi]; exact FS.idx (hT.nd hk).w hi
theorem PrAt.ones {s : Store} {p : Pr} {x : PrD} (h : PrAt s p x) : oneCell x.dl = true ∧ oneCell x.dr = true ∧ oneCell x.de = true ∧ oneCell x.dn = true ∧ oneCell x.dv = true := ⟨h.l.one, h.r.one, h.e.one, h.n.one, h.v.one⟩
theorem MdAt.ones {s : Store} {m : MdX} {t : List Nd} {ch : List Ch} (h : MdAt s m t ch) : oneCell m.dt = true ∧ oneCell m.dc = true ∧ oneCell m.dv = true ∧ oneCell m.dp = true ∧ oneCell m.ds = true := ⟨FL.one h.tr.fl, h.c.one, h.ov, h.op, h.os⟩
theorem SN.set {s : Store} {sz id : Nat} {d : D} {rows : List (List D)} {cs : List D} {o : Option VObj} (h : SN s sz d rows) (hg : s.get id = some (.cells cs)) (hne : rows.flatten ≠ cs) : SN (s.set id o) sz d rows := by
  rcases h with h | ⟨j, rfl, h⟩ | h
  · exact .inl h
  rotate_left
  · exact .inr (.inr h)
  · refine .inr (.inl ⟨j, rfl, ?_⟩)
    rw [get_set_ne, h]
    rintro rfl
    rw [hg] at h
    simp only [Option.some.injEq, VObj.cells.injEq] at h
    exact hne h.symm
theorem PrAt.set {s : Store} {p : Pr} {x : PrD} {id : Nat} {a : ByteArray} {k : IntKind} {n : Int} {rest : List D} {o : Option VObj} (h : PrAt s p x) (hg : s.get id = some (.cells (.str a :: .int k n :: rest))) : PrAt (s.set id o) p x := by
  refine ⟨h.l.set hg ?_, h.r.set hg ?_, h.e.set hg ?_, h.n.set hg ?_, h.v.set hg ?_⟩
  · cases p.locals <;> simp [rowsN]
  · cases p.rest <;> simp [rowsB]
  · cases p.edges <;> simp [rowsE, Ed.row]
  · match p.names with
    | [] => simp [rowsS]
    | [y] => simp [rowsS]
    | y :: z :: r => simp [rowsS]
  · cases p.vars <;> simp [rowsN]
theorem SF.fin {s0 s : Store} {m : MdX} {nr pr : List D} {p q : Pr} {x : PrD} (h : SF s0 m nr pr s) (hq : PrAt s q x) (hz : NewS s0 x.de) : StR s0 p q (.agg (prRow q x)) (s.set (s0.next + 2) (some (.cells (prRow q x)))) :=
  ⟨x, rfl, h.fr.thenSet _ (.inr (by omega)), hq.set h.r, hz⟩
theorem SF.res {s0 s : Store} {m : MdX} {nr pr : List D} {q : Pr} {x : PrD} {env : Env} (h : SF s0 m nr pr s) (hE : env.get 10 = .ptr (s0.next + 2) 0) : resOf env (s.set (s0.next + 2) (some (.cells (prRow q x)))) [(10, some (some 8))] = some (.agg (prRow q x)) := by
  have := h.nx
  simp only [resOf, resAll, resOne, hE, get_set_eq (s := s) (i := s0.next + 2) (by omega)]
  rfl
structure SL (s0 : Store) (m : MdX) (nr pr : List D) (B : Nat) (lr : List D) (s : Store) : Prop where
  sf : SF s0 m nr pr s
  lo : s0.next + 4 ≤ B
  l : s.get B = some (.cells lr)
theorem SL.call {s0 : Store} {m : MdX} {nr pr lr : List D} {B : Nat} {s s' : Store} (h : SL s0 m nr pr B lr s) (hf : Fr [] s s') : SL s0 m nr pr B lr s' :=
  ⟨h.sf.call hf, h.lo, by rw [hf.2 _ (get_lts h.l) (by simp), h.l]⟩
theorem SL.setL {s0 : Store} {m : MdX} {nr pr lr lr' : List D} {B : Nat} {s : Store} (h : SL s0 m nr pr B lr s) : SL s0 m nr pr B lr' (s.set B (some (.cells lr'))) := by
  have := h.lo
  have hf := h.sf
  refine ⟨⟨hf.fr.thenSet _ (.inr (by omega)), by simp only [Store.next_set]; exact hf.nx, ?_, ?_, ?_, ?_⟩, h.lo, by rw [get_set_eq (get_lts h.l)]⟩
  · rw [get_set_ne (by omega), hf.m]
  · rw [get_set_ne (by omega), hf.p]
  · rw [get_set_ne (by omega), hf.r]
  · rw [get_set_ne (by omega), hf.n]
theorem SL.new {s0 : Store} {m : MdX} {nr pr lr : List D} {s : Store} {z : List D} (h : SF s0 m nr pr s) : SL s0 m nr pr s.next lr ((s.push (.cells z)).set s.next (some (.cells lr))) := by
  have h1 := h.call (Fr.push (ids := []) (s := s) (.cells z))
  have := h.nx
  exact SL.setL (lr := z) ⟨h1, by omega, get_push_new rfl⟩
theorem PrAt.new {s : Store} {q : Pr} {x : PrD} {a : ByteArray} {k : IntKind} {n : Int} {rest : List D} {o : Option VObj} (h : PrAt s q x) : PrAt ((s.push (.cells (.str a :: .int k n :: rest))).set s.next o) q x :=
  (h.stay (Fr.push (ids := []) _)).set (get_push_new rfl)
def BlkEv (fs : FuncId → Option VFunc) (fn : Nat) (t : List Nd) (ch : List Ch) (names : List ByteArray) (vars : List Nat) (f b : Nat) : Prop :=
  ∀ g n, walkF t g b = (n, true) → ∀ (s : Store) (m : MdX) (p : Pr) (x : PrD) (frm to : Nat), MdAt s m t ch → PrAt s p x → PInv t ch.length p → p.names = names → p.vars = vars → frm < p.places → to < p.places → ∀ N, PrLe p N → N + 4 * (n - b) ≤ 900000 →
    EvP fs fn [.agg (mdRow m), .agg (prRow p x), .int .i64 (b : Int), .int .i64 (frm : Int), .int .i64 (to : Int)] s (StR s p (blkF t (statF t (ch.map Ch.name) f) p b frm to))
theorem rowsE_get {l : List Ed} {i f : Nat} (hi : i < l.length) (hf : f < 8) : (rowsE l).flatten[i * 8 + f]? = (l[i].row)[f]? := by
  rw [flat_get (rowsE_len l) (by simpa using hi) hf]
  simp [rowsE]
theorem rowsE_keep : ∀ {l : List Ed} {i : Nat} (hi : i < l.length) (b : Bool), (rowsE l).flatten.set (i * 8 + 6) (.bool b) = (rowsE (l.set i { l[i] with keep := b })).flatten
  | [], i, hi, _ => by simp at hi
  | e :: r, 0, hi, b => by simp [rowsE, Ed.row]
  | e :: r, i + 1, hi, b => by
    have ih := rowsE_keep (l := r) (i := i) (by simpa using hi) b
    simp only [rowsE, List.map_cons, List.flatten_cons, List.set_cons_succ, List.getElem_cons_succ] at ih ⊢
    have hl : e.row.length = 8 := rfl
    rw [List.set_append_right _ _ (by omega), hl, show (i + 1) * 8 + 6 - 8 = i * 8 + 6 by omega, ih]
theorem PrAt.edge {s : Store} {p : Pr} {x : PrD} {id n i : Nat} {b : Bool} (h : PrAt s p x) (hd : x.de = .arr id 0 n 8) (hi : i < p.edges.length) : PrAt (s.set id (some (.cells ((rowsE p.edges).flatten.set (i * 8 + 6) (.bool b))))) { p with edges := p.edges.set i { p.edges[i] with keep := b } } x := by
  have he := h.e
  rcases he with ⟨h0, _⟩ | ⟨j, hj, hg⟩ | h0
  · rw [hd] at h0; cases h0
  rotate_left
  · rw [hd] at h0; cases h0
  · rw [hd] at hj
    cases hj
    have ne : ∀ (rows : List (List D)), rows.flatten[6]? ≠ some (.bool p.edges[0].keep) → rows.flatten ≠ (rowsE p.edges).flatten := fun rows h e => by
      apply h
      rw [e]
      have := rowsE_get (l := p.edges) (i := 0) (f := 6) (by omega) (by decide)
      rw [Nat.zero_mul, Nat.zero_add] at this
      rw [this]
      rfl
    have kN : ∀ l : List Nat, (rowsN l).flatten = l.map fun (n : Nat) => D.int .i64 (n : Int) := by
      intro l
      induction l with
      | nil => rfl
      | cons a r ih => simp only [rowsN, List.map_cons, List.flatten_cons] at ih ⊢; rw [ih]; rfl
    refine ⟨h.l.set hg (ne _ ?_), h.r.set hg ?_, .inr (.inl ⟨id, ?_, ?_⟩), h.n.set hg ?_, h.v.set hg (ne _ ?_)⟩
    · rw [kN, List.getElem?_map]; cases p.locals[6]? <;> simp
    · intro e
      have h1 := congrArg List.head? e
      revert h1
      match hpe : p.edges, hi with
      | a :: r, _ => cases p.rest <;> simp [rowsB, rowsE, Ed.row]
    · rw [hd]; simp
    · rw [get_set_eq (get_lts hg), rowsE_keep hi]
    · intro e
      have h1 := congrArg List.head? e
      revert h1
      match hpe : p.edges, hi with
      | a :: r, _ => cases p.names <;> simp [rowsS, rowsE, Ed.row]
    · rw [kN, List.getElem?_map]; cases p.vars[6]? <;> simp
theorem SF.setO {s0 : Store} {m : MdX} {nr pr : List D} {s : Store} {id : Nat} {o : Option VObj} (h : SF s0 m nr pr s) (hid : s0.next + 4 ≤ id) : SF s0 m nr pr (s.set id o) := by
  refine ⟨h.fr.thenSet _ (.inr (by omega)), by simp only [Store.next_set]; exact h.nx, ?_, ?_, ?_, ?_⟩
  · rw [get_set_ne (by omega), h.m]
  · rw [get_set_ne (by omega), h.p]
  · rw [get_set_ne (by omega), h.r]
  · rw [get_set_ne (by omega), h.n]
def mixE (A E : List Ed) (i : Nat) : List Ed := A.take i ++ E.drop i
theorem mixE_len {A E : List Ed} {i : Nat} (h : A.length = E.length) : (mixE A E i).length = E.length := by simp [mixE]; omega
theorem mixE_get {A E : List Ed} {i : Nat} (h : A.length = E.length) (hi : i < E.length) : (mixE A E i)[i]'(by rw [mixE_len h]; exact hi) = E[i] := by
  have hl : (A.take i).length = i := by simp; omega
  unfold mixE
  rw [List.getElem_append_right (by omega)]
  simp only [List.getElem_drop, hl]
  congr 1
  omega
theorem mixE_set {A E : List Ed} {i : Nat} (h : A.length = E.length) (hi : i < E.length) : (mixE A E i).set i A[i] = mixE A E (i + 1) := by
  have hl : (A.take i).length = i := by simp; omega
  unfold mixE
  rw [List.set_append_right _ _ (by omega), hl, Nat.sub_self, List.drop_eq_getElem_cons hi, List.set_cons_zero, List.take_succ_eq_append_getElem (by omega), List.append_assoc, List.singleton_append]
theorem markK_len (n to : Nat) (l : List Ed) : (markK n to l).length = l.length := by
  unfold markK
  rw [List.length_append, List.length_map, ← List.length_append, List.take_append_drop]
theorem markK_get {n to : Nat} {l : List Ed} {i : Nat} (hi : i < l.length) (hn : n ≤ i) : (markK n to l)[i]'(by rw [markK_len]; exact hi) = { l[i] with keep := l[i].to != to && l[i].to != 1 } := by
  unfold markK
  have hl : (l.take n).length = n := by simp; omega
  rw [List.getElem_append_right (by omega)]
  simp only [List.getElem_map, List.getElem_drop, hl]
  have e : n + (i - n) = i := by omega
  simp only [e]
theorem mix_first {n to : Nat} {l : List Ed} (h : n ≤ l.length) : mixE (markK n to l) l n = l := by
  unfold mixE markK
  rw [List.take_append_of_le_length (by simp; omega), List.take_take, Nat.min_self, List.take_append_drop]
theorem mix_last {A E : List Ed} (h : A.length = E.length) : mixE A E E.length = A := by
  unfold mixE
  rw [List.drop_length, List.append_nil, ← h, List.take_length]
structure S3 (s0 : Store) (m : MdX) (pr : List D) (s : Store) : Prop where
  fr : Fr [] s0 s
  nx : s0.next + 3 ≤ s.next
  m : s.get s0.next = some (.cells (mdRow m))
  p : s.get (s0.next + 1) = some (.cells pr)
  r : s.get (s0.next + 2) = some (.cells [.str (bs []), .int .i64 0, .nils, .int .i64 0, .nils, .nils, .nils, .nils])
theorem S3.call {s0 : Store} {m : MdX} {pr : List D} {s s' : Store} (h : S3 s0 m pr s) (hf : Fr [] s s') : S3 s0 m pr s' := by
  have := h.nx
  have := hf.1
  refine ⟨h.fr.trans hf (by simp), by omega, ?_, ?_, ?_⟩
  · rw [hf.2 _ (by omega) (by simp), h.m]
  · rw [hf.2 _ (by omega) (by simp), h.p]
  · rw [hf.2 _ (by omega) (by simp), h.r]
theorem S3.setP {s0 : Store} {m : MdX} {pr pr' : List D} {s : Store} (h : S3 s0 m pr s) : S3 s0 m pr' (s.set (s0.next + 1) (some (.cells pr'))) := by
  have := h.nx
  refine ⟨h.fr.thenSet _ (.inr (by omega)), by simp only [Store.next_set]; omega, ?_, ?_, ?_⟩
  · rw [get_set_ne (by omega), h.m]
  · rw [get_set_eq (by omega)]
  · rw [get_set_ne (by omega), h.r]
theorem S3.fin {s0 s : Store} {m : MdX} {pr : List D} {p q : Pr} {x : PrD} (h : S3 s0 m pr s) (hq : PrAt s q x) (hz : NewS s0 x.de) : StR s0 p q (.agg (prRow q x)) (s.set (s0.next + 2) (some (.cells (prRow q x)))) :=
  ⟨x, rfl, h.fr.thenSet _ (.inr (by omega)), hq.set h.r, hz⟩
theorem S3.res {s0 s : Store} {m : MdX} {pr : List D} {q : Pr} {x : PrD} {env : Env} {sl : Nat} (h : S3 s0 m pr s) (hE : env.get sl = .ptr (s0.next + 2) 0) : resOf env (s.set (s0.next + 2) (some (.cells (prRow q x)))) [(sl, some (some 8))] = some (.agg (prRow q x)) := by
  have := h.nx
  simp only [resOf, resAll, resOne, hE, get_set_eq (s := s) (i := s0.next + 2) (by omega)]
  rfl
def StEv (fs : FuncId → Option VFunc) (fn : Nat) (t : List Nd) (ch : List Ch) (names : List ByteArray) (vars : List Nat) (f k : Nat) : Prop :=
  ∀ g n, walkF t g k = (n, true) → ∀ (s : Store) (m : MdX) (p : Pr) (x : PrD) (frm to : Nat), MdAt s m t ch → PrAt s p x → PInv t ch.length p → p.names = names → p.vars = vars → frm < p.places → to < p.places → ∀ N, PrLe p N → N + 4 * (n - k) ≤ 900000 →
    EvP fs fn [.agg (mdRow m), .agg (prRow p x), .int .i64 (k : Int), .int .i64 (frm : Int), .int .i64 (to : Int)] s (StR s p (statF t (ch.map Ch.name) f p k frm to))
end Go.V
namespace Go.Proofs.Ytlaeblilmppodaa
open Go.V
set_option maxRecDepth 100000
set_option maxHeartbeats 4000000
set_option linter.unusedSimpArgs false
set_option linter.unusedVariables false
theorem varAt {s : Store} {d : D} {l : List Nat} {i : Nat} (h : SN s 1 d (rowsN l)) (hi : i < l.length) : ∃ p, idxAV 1 d (.int .i64 (i : Int)) = some p ∧ ldV s.get none p = some (.int .i64 ((l.getD i 0 : Nat) : Int)) ∧ ∀ id off, p = .ptr id off → id < s.next :=
  h.get1 (rowsN_len l) (by simpa using hi) (by simp [rowsN, List.getD, hi]) rfl (by decide)
theorem prLe {p : Pr} {a b : Nat} (h : PrLe p a) (k : a ≤ b) : PrLe p b := ⟨by have := h.pl; omega, by have := h.rl; omega, by have := h.el; omega⟩
theorem prLe_idle {p : Pr} {a n : Nat} {is : Int} (h : PrLe p a) : PrLe (p.idle n is) a := by
  have g := gw_idle p n is
  exact ⟨by have := h.pl; have := g.pl; omega, by have := h.rl; have := g.rl; omega, by have := h.el; have := g.el; omega⟩
theorem prLe_gw {p q : Pr} {a b n : Nat} (h : PrLe p a) (g : Gw p q n) (k : a + n ≤ b) : PrLe q b := ⟨by have := h.pl; have := g.pl; omega, by have := h.rl; have := g.rl; omega, by have := h.el; have := g.el; omega⟩
theorem stat_14 {s : Store} {m : MdX} {t : List Nd} {ch : List Ch} (hm : MdAt s m t ch) (ht : TreeOk t) {p : Pr} {x : PrD} (hp : PrAt s p x) (hl : PrLe p 900000) {k frm to : Nat} (hk : k < t.length) (hK : (nd t k).kind = 14) {f : Nat} :
    EvP vfs 82 [.agg (mdRow m), .agg (prRow p x), .int .i64 (k : Int), .int .i64 (frm : Int), .int .i64 (to : Int)] s (StR s p (statF t (ch.map Ch.name) (f + 1) p k frm to)) := by
  have hF : statF t (ch.map Ch.name) (f + 1) p k frm to = p.put frm to 0 k (-1) (-1) (-1) := by simp [statF, hK]
  rw [hF]
  have hidx := hm.tr.at (z := (k : Int)) (by omega) (by omega) (k := .i64)
  rw [Int.toNat_natCast, hK] at hidx
  have on := nd_one hm.tr hk
  have op := hp.ones
  have om := hm.ones
  have hl' : PrLe p 1000000 := ⟨by have := hl.pl; omega, by have := hl.rl; omega, by have := hl.el; omega⟩
  have hno := ht.node k hk
  unfold mdRow prRow
  refine evp_of (vf := vf82) rfl ?_
  simp only [vf82, xq, xg, xm, xmg, xc, xl, xlg, xf, xfg, xw, xa, xk, xi, xig, xo, xr, xrp, xn, List.map, List.getD, List.getElem?_cons_zero, List.getElem?_cons_succ, List.getElem?_nil, Option.getD]
  repeat first
   |with_reducible first|apply vA|apply vB|apply vC
   |((with_reducible apply vD); (focus rfl))
   |((with_reducible first|apply vE|apply vF|apply vG|apply vH); simp only [Env.keep, Env.get, Env.ev, List.map, Nat.reduceEqDiff, ↓reduceIte, Then, Out'])
   |((with_reducible first|apply vI|apply vJ|apply vK|apply vL|apply vM|apply vN); (focus (simp (disch := (first|with_reducible assumption|omega|((repeat (first|rw [nP]|rw [nS]))<;>omega)|fail)) only [go_sem, ↓reduceIte, hidx, on, op, om] <;> rfl)); (first|(with_reducible (first|apply vO|apply vP|apply vQ|apply vR|apply vS|apply vT|apply vU); try simp only [Env.put])|with_reducible refine (?_ : WQ _ _ _ _ _ _)))
   |fail
  refine wq_gen (Φ := SF s m [.int .i64 14, (nd t k).dw, (nd t k).dn, (nd t k).dk, .int .i64 (nd t k).pos] (prRow p x)) ?_ ?_
  · refine ⟨(((((Fr.push _).thenPush _).thenPush _).thenPush _).thenSet _ (.inr (by first | omega | (simp only [Store.next_push]; omega)))), by simp only [Store.next_push, Store.next_set]; omega, ?_, ?_, ?_, ?_⟩ <;> (simp (disch := (first|with_reducible assumption|omega|((repeat (first|rw [nP]|rw [nS]))<;>omega)|fail)) only [get_push_old, get_push_new, get_set_ne, get_set_eq, Store.next_push, Store.next_set]) <;> rfl
  intro s4 h4
  simp only [Made.at, Store.next_push, Store.next_set]
  apply vq_evpf (put_ok (to := to) (act := 0) (hp.stay h4.fr) hl')
  · rfl
  rintro r s9 ⟨x9, rfl, f9, hp9, id9, e9, z9⟩
  have h9 := h4.call f9
  have hz9 : NewS s x9.de := fresh_of e9 z9 h4.fr.1
  have op9 := hp9.ones
  have r9 := h9.r
  repeat first
   |with_reducible first|apply vA|apply vB|apply vC
   |((with_reducible apply vD); (focus rfl))
   |((with_reducible first|apply vE|apply vF|apply vG|apply vH); simp only [Env.keep, Env.get, Env.ev, List.map, Nat.reduceEqDiff, ↓reduceIte, Then, Out'])
   |((with_reducible first|apply vI|apply vJ|apply vK|apply vL|apply vM|apply vN); (focus (simp (disch := (first|with_reducible assumption|omega|((repeat (first|rw [nP]|rw [nS]))<;>omega)|fail)) only [go_sem, ↓reduceIte, r9, op9, prRow] <;> rfl)); (first|(with_reducible (first|apply vO|apply vP|apply vQ|apply vR|apply vS|apply vT|apply vU); try simp only [Env.put])|with_reducible refine (?_ : WQ _ _ _ _ _ _)))
   |fail
  exact ⟨.inr trivial, _, h9.res rfl, h9.fin hp9 hz9⟩
theorem stat_15 {s : Store} {m : MdX} {t : List Nd} {ch : List Ch} (hm : MdAt s m t ch) (ht : TreeOk t) {p : Pr} {x : PrD} (hp : PrAt s p x) (hl : PrLe p 900000) {k frm to : Nat} (hk : k < t.length) (hK : (nd t k).kind = 15) {f : Nat} :
    EvP vfs 82 [.agg (mdRow m), .agg (prRow p x), .int .i64 (k : Int), .int .i64 (frm : Int), .int .i64 (to : Int)] s (StR s p (statF t (ch.map Ch.name) (f + 1) p k frm to)) := by
  have hF : statF t (ch.map Ch.name) (f + 1) p k frm to = p.put frm 1 0 k (-1) (-1) (-1) := by simp [statF, hK]
  rw [hF]
  have hidx := hm.tr.at (z := (k : Int)) (by omega) (by omega) (k := .i64)
  rw [Int.toNat_natCast, hK] at hidx
  have on := nd_one hm.tr hk
  have op := hp.ones
  have om := hm.ones
  have hl' : PrLe p 1000000 := ⟨by have := hl.pl; omega, by have := hl.rl; omega, by have := hl.el; omega⟩
  have hno := ht.node k hk
  unfold mdRow prRow
  refine evp_of (vf := vf82) rfl ?_
  simp only [vf82, xq, xg, xm, xmg, xc, xl, xlg, xf, xfg, xw, xa, xk, xi, xig, xo, xr, xrp, xn, List.map, List.getD, List.getElem?_cons_zero, List.getElem?_cons_succ, List.getElem?_nil, Option.getD]
  repeat first
   |with_reducible first|apply vA|apply vB|apply vC
   |((with_reducible apply vD); (focus rfl))
   |((with_reducible first|apply vE|apply vF|apply vG|apply vH); simp only [Env.keep, Env.get, Env.ev, List.map, Nat.reduceEqDiff, ↓reduceIte, Then, Out'])
   |((with_reducible first|apply vI|apply vJ|apply vK|apply vL|apply vM|apply vN); (focus (simp (disch := (first|with_reducible assumption|omega|((repeat (first|rw [nP]|rw [nS]))<;>omega)|fail)) only [go_sem, ↓reduceIte, hidx, on, op, om] <;> rfl)); (first|(with_reducible (first|apply vO|apply vP|apply vQ|apply vR|apply vS|apply vT|apply vU); try simp only [Env.put])|with_reducible refine (?_ : WQ _ _ _ _ _ _)))
   |fail
  refine wq_gen (Φ := SF s m [.int .i64 15, (nd t k).dw, (nd t k).dn, (nd t k).dk, .int .i64 (nd t k).pos] (prRow p x)) ?_ ?_
  · refine ⟨(((((Fr.push _).thenPush _).thenPush _).thenPush _).thenSet _ (.inr (by first | omega | (simp only [Store.next_push]; omega)))), by simp only [Store.next_push, Store.next_set]; omega, ?_, ?_, ?_, ?_⟩ <;> (simp (disch := (first|with_reducible assumption|omega|((repeat (first|rw [nP]|rw [nS]))<;>omega)|fail)) only [get_push_old, get_push_new, get_set_ne, get_set_eq, Store.next_push, Store.next_set]) <;> rfl
  intro s4 h4
  simp only [Made.at, Store.next_push, Store.next_set]
  apply vq_evpf (put_ok (to := 1) (act := 0) (hp.stay h4.fr) hl')
  · rfl
  rintro r s9 ⟨x9, rfl, f9, hp9, id9, e9, z9⟩
  have h9 := h4.call f9
  have hz9 : NewS s x9.de := fresh_of e9 z9 h4.fr.1
  have op9 := hp9.ones
  have r9 := h9.r
  repeat first
   |with_reducible first|apply vA|apply vB|apply vC
   |((with_reducible apply vD); (focus rfl))
   |((with_reducible first|apply vE|apply vF|apply vG|apply vH); simp only [Env.keep, Env.get, Env.ev, List.map, Nat.reduceEqDiff, ↓reduceIte, Then, Out'])
   |((with_reducible first|apply vI|apply vJ|apply vK|apply vL|apply vM|apply vN); (focus (simp (disch := (first|with_reducible assumption|omega|((repeat (first|rw [nP]|rw [nS]))<;>omega)|fail)) only [go_sem, ↓reduceIte, r9, op9, prRow] <;> rfl)); (first|(with_reducible (first|apply vO|apply vP|apply vQ|apply vR|apply vS|apply vT|apply vU); try simp only [Env.put])|with_reducible refine (?_ : WQ _ _ _ _ _ _)))
   |fail
  exact ⟨.inr trivial, _, h9.res rfl, h9.fin hp9 hz9⟩
theorem stat_6 {s : Store} {m : MdX} {t : List Nd} {ch : List Ch} (hm : MdAt s m t ch) (ht : TreeOk t) {p : Pr} {x : PrD} (hp : PrAt s p x) (hl : PrLe p 900000) (hnv : p.names.length = p.vars.length) (hn0 : 0 < p.names.length) (hnb : p.names.length ≤ 1000000) {k frm to : Nat} (hk : k < t.length) (hK : (nd t k).kind = 6) {f : Nat} :
    EvP vfs 82 [.agg (mdRow m), .agg (prRow p x), .int .i64 (k : Int), .int .i64 (frm : Int), .int .i64 (to : Int)] s (StR s p (statF t (ch.map Ch.name) (f + 1) p k frm to)) := by
  have hF : statF t (ch.map Ch.name) (f + 1) p k frm to = p.put frm to 1 k ((nd t k).kid 0) (p.vars.getD (findN p.names ((nd t k).word 0)) 0 : Nat) (-1) := by simp [statF, hK]
  rw [hF]
  have hidx := hm.tr.at (z := (k : Int)) (by omega) (by omega) (k := .i64)
  rw [Int.toNat_natCast, hK] at hidx
  have on := nd_one hm.tr hk
  have op := hp.ones
  have om := hm.ones
  have hl' : PrLe p 1000000 := ⟨by have := hl.pl; omega, by have := hl.rl; omega, by have := hl.el; omega⟩
  have hno := ht.node k hk
  have hk1 := hno.one (by omega)
  have k0 : idxAV 1 (nd t k).dk (.int .i64 0) = some (.fp [.int .i64 ((nd t k).kid 0 : Int)] 0) := kid_idx hm.tr ht hk (i := 0) (by omega)
  have hwl : (nd t k).words.length = 1 := by rw [hno.wl, hK]; rfl
  have w0 : idxAV 1 (nd t k).dw (.int .i64 0) = some (.fp [.str ((nd t k).word 0)] 0) := word_idx hm.tr hk (i := 0) (by omega)
  have hfl := findN_lt (s := (nd t k).word 0) hn0
  unfold mdRow prRow
  refine evp_of (vf := vf82) rfl ?_
  simp only [vf82, xq, xg, xm, xmg, xc, xl, xlg, xf, xfg, xw, xa, xk, xi, xig, xo, xr, xrp, xn, List.map, List.getD, List.getElem?_cons_zero, List.getElem?_cons_succ, List.getElem?_nil, Option.getD]
  repeat first
   |with_reducible first|apply vA|apply vB|apply vC
   |((with_reducible apply vD); (focus rfl))
   |((with_reducible first|apply vE|apply vF|apply vG|apply vH); simp only [Env.keep, Env.get, Env.ev, List.map, Nat.reduceEqDiff, ↓reduceIte, Then, Out'])
   |((with_reducible first|apply vI|apply vJ|apply vK|apply vL|apply vM|apply vN); (focus (simp (disch := (first|with_reducible assumption|omega|((repeat (first|rw [nP]|rw [nS]))<;>omega)|fail)) only [go_sem, ↓reduceIte, hidx, on, op, om, k0, w0] <;> rfl)); (first|(with_reducible (first|apply vO|apply vP|apply vQ|apply vR|apply vS|apply vT|apply vU); try simp only [Env.put])|with_reducible refine (?_ : WQ _ _ _ _ _ _)))
   |fail
  refine wq_gen (Φ := SF s m [.int .i64 6, (nd t k).dw, (nd t k).dn, (nd t k).dk, .int .i64 (nd t k).pos] (prRow p x)) ?_ ?_
  · refine ⟨(((((Fr.push _).thenPush _).thenPush _).thenPush _).thenSet _ (.inr (by first | omega | (simp only [Store.next_push]; omega)))), by simp only [Store.next_push, Store.next_set]; omega, ?_, ?_, ?_, ?_⟩ <;> (simp (disch := (first|with_reducible assumption|omega|((repeat (first|rw [nP]|rw [nS]))<;>omega)|fail)) only [get_push_old, get_push_new, get_set_ne, get_set_eq, Store.next_push, Store.next_set]) <;> rfl
  intro s4 h4
  simp only [Made.at, Store.next_push, Store.next_set]
  refine vq_call' (l := [x.dn, .str ((nd t k).word 0)]) rfl (find_ok (hp.stay h4.fr).n hnb) ?_
  obtain ⟨id, v1, v2, v3⟩ := varAt (hp.stay h4.fr).v (i := findN p.names ((nd t k).word 0)) (by omega)
  repeat first
   |with_reducible first|apply vA|apply vB|apply vC
   |((with_reducible apply vD); (focus rfl))
   |((with_reducible first|apply vE|apply vF|apply vG|apply vH); simp only [Env.keep, Env.get, Env.ev, List.map, Nat.reduceEqDiff, ↓reduceIte, Then, Out'])
   |((with_reducible first|apply vI|apply vJ|apply vK|apply vL|apply vM|apply vN); (focus (simp (disch := (first|with_reducible assumption|omega|((repeat (first|rw [nP]|rw [nS]))<;>omega)|fail)) only [go_sem, ↓reduceIte, v1, v2] <;> rfl)); (first|(with_reducible (first|apply vO|apply vP|apply vQ|apply vR|apply vS|apply vT|apply vU); try simp only [Env.put])|with_reducible refine (?_ : WQ _ _ _ _ _ _)))
   |fail
  apply vq_evpf (put_ok (act := 1) (hp.stay h4.fr) hl')
  · rfl
  rintro r s9 ⟨x9, rfl, f9, hp9, id9, e9, z9⟩
  have h9 := h4.call f9
  have hz9 : NewS s x9.de := fresh_of e9 z9 h4.fr.1
  have op9 := hp9.ones
  have r9 := h9.r
  repeat first
   |with_reducible first|apply vA|apply vB|apply vC
   |((with_reducible apply vD); (focus rfl))
   |((with_reducible first|apply vE|apply vF|apply vG|apply vH); simp only [Env.keep, Env.get, Env.ev, List.map, Nat.reduceEqDiff, ↓reduceIte, Then, Out'])
   |((with_reducible first|apply vI|apply vJ|apply vK|apply vL|apply vM|apply vN); (focus (simp (disch := (first|with_reducible assumption|omega|((repeat (first|rw [nP]|rw [nS]))<;>omega)|fail)) only [go_sem, ↓reduceIte, r9, op9, prRow] <;> rfl)); (first|(with_reducible (first|apply vO|apply vP|apply vQ|apply vR|apply vS|apply vT|apply vU); try simp only [Env.put])|with_reducible refine (?_ : WQ _ _ _ _ _ _)))
   |fail
  exact ⟨.inr trivial, _, h9.res rfl, h9.fin hp9 hz9⟩
theorem stat_7 {s : Store} {m : MdX} {t : List Nd} {ch : List Ch} (hm : MdAt s m t ch) (ht : TreeOk t) {p : Pr} {x : PrD} (hp : PrAt s p x) (hl : PrLe p 900000) (hcb : ch.length ≤ 1000000) {k frm to : Nat} (hk : k < t.length) (hK : (nd t k).kind = 7) {f : Nat} :
    EvP vfs 82 [.agg (mdRow m), .agg (prRow p x), .int .i64 (k : Int), .int .i64 (frm : Int), .int .i64 (to : Int)] s (StR s p (statF t (ch.map Ch.name) (f + 1) p k frm to)) := by
  have hF : statF t (ch.map Ch.name) (f + 1) p k frm to = p.put frm to 2 k ((nd t k).kid 0) (-1) (findN (ch.map Ch.name) ((nd t k).word 0) : Nat) := by simp [statF, hK]
  rw [hF]
  have hidx := hm.tr.at (z := (k : Int)) (by omega) (by omega) (k := .i64)
  rw [Int.toNat_natCast, hK] at hidx
  have on := nd_one hm.tr hk
  have op := hp.ones
  have om := hm.ones
  have hl' : PrLe p 1000000 := ⟨by have := hl.pl; omega, by have := hl.rl; omega, by have := hl.el; omega⟩
  have hno := ht.node k hk
  have hk1 := hno.one (by omega)
  have k0 : idxAV 1 (nd t k).dk (.int .i64 0) = some (.fp [.int .i64 ((nd t k).kid 0 : Int)] 0) := kid_idx hm.tr ht hk (i := 0) (by omega)
  have hwl : (nd t k).words.length = 1 := by rw [hno.wl, hK]; rfl
  have w0 : idxAV 1 (nd t k).dw (.int .i64 0) = some (.fp [.str ((nd t k).word 0)] 0) := word_idx hm.tr hk (i := 0) (by omega)
  unfold mdRow prRow
  refine evp_of (vf := vf82) rfl ?_
  simp only [vf82, xq, xg, xm, xmg, xc, xl, xlg, xf, xfg, xw, xa, xk, xi, xig, xo, xr, xrp, xn, List.map, List.getD, List.getElem?_cons_zero, List.getElem?_cons_succ, List.getElem?_nil, Option.getD]
  repeat first
   |(with_reducible refine vw_rgt ?_)
   |((with_reducible apply wt_p); (focus (simp (disch := (first|with_reducible assumption|omega|((repeat (first|rw [nP]|rw [nS]))<;>omega)|fail)) only [go_sem, ↓reduceIte, hidx, on, op, om, k0, w0] <;> rfl)))
   |((with_reducible apply wt_ld); (focus (simp only [Env.ev, Env.get, Nat.reduceEqDiff, ↓reduceIte, Made.at, Nat.add_zero, Nat.zero_add, hidx, on, op, om, k0, w0] <;> rfl)); (focus (simp (disch := (first|with_reducible assumption|omega|((repeat (first|rw [nP]|rw [nS]))<;>omega)|fail)) only [go_sem, ↓reduceIte, hidx, on, op, om, k0, w0] <;> rfl)))
   |((with_reducible apply wt_ld0); (focus (simp only [Env.ev, Env.get, Nat.reduceEqDiff, ↓reduceIte, Made.at, Nat.add_zero, Nat.zero_add, hidx, on, op, om, k0, w0] <;> rfl)); (focus (simp (disch := (first|with_reducible assumption|omega|((repeat (first|rw [nP]|rw [nS]))<;>omega)|fail)) only [go_sem, ↓reduceIte, hidx, on, op, om, k0, w0] <;> rfl)))
   |with_reducible first|apply vA|apply vB|apply vC
   |((with_reducible apply vD); (focus rfl))
   |((with_reducible first|apply vE|apply vF|apply vG|apply vH); simp only [Env.keep, Env.get, Env.ev, List.map, Nat.reduceEqDiff, ↓reduceIte, Then, Out'])
   |((with_reducible first|apply vI|apply vJ|apply vK|apply vL|apply vM|apply vN); (focus (simp (disch := (first|with_reducible assumption|omega|((repeat (first|rw [nP]|rw [nS]))<;>omega)|fail)) only [go_sem, ↓reduceIte, hidx, on, op, om, k0, w0] <;> rfl)); (first|(with_reducible (first|apply vO|apply vP|apply vQ|apply vR|apply vS|apply vT|apply vU); try simp only [Env.put])|with_reducible refine (?_ : WQ _ _ _ _ _ _)))
   |fail
  refine wt_gen (Φ := SF s m [.int .i64 7, (nd t k).dw, (nd t k).dn, (nd t k).dk, .int .i64 (nd t k).pos] (prRow p x)) ?_ ?_
  · refine ⟨(((((Fr.push _).thenPush _).thenPush _).thenPush _).thenSet _ (.inr (by first | omega | (simp only [Store.next_push]; omega)))), by simp only [Store.next_push, Store.next_set]; omega, ?_, ?_, ?_, ?_⟩ <;> (simp (disch := (first|with_reducible assumption|omega|((repeat (first|rw [nP]|rw [nS]))<;>omega)|fail)) only [get_push_old, get_push_new, get_set_ne, get_set_eq, Store.next_push, Store.next_set]) <;> rfl
  intro s4 h4
  simp only [Made.at, Store.next_push, Store.next_set]
  refine wt_evpf (channel_ok (hm.stay h4.fr) hcb) (fun d s' h => h.2) (by
    intro id hid
    have := h4.nx
    simp only [List.mem_cons, List.not_mem_nil, or_false] at hid
    omega) rfl rfl ?_
  rintro r s5 ⟨rfl, f5⟩
  have h5 := h4.call f5
  repeat first
   |with_reducible first|apply vA|apply vB|apply vC
   |((with_reducible apply vD); (focus rfl))
   |((with_reducible first|apply vE|apply vF|apply vG|apply vH); simp only [Env.keep, Env.get, Env.ev, List.map, Nat.reduceEqDiff, ↓reduceIte, Then, Out'])
   |((with_reducible first|apply vI|apply vJ|apply vK|apply vL|apply vM|apply vN); (focus (simp (disch := (first|with_reducible assumption|omega|((repeat (first|rw [nP]|rw [nS]))<;>omega)|fail)) only [go_sem, ↓reduceIte] <;> rfl)); (first|(with_reducible (first|apply vO|apply vP|apply vQ|apply vR|apply vS|apply vT|apply vU); try simp only [Env.put])|with_reducible refine (?_ : WQ _ _ _ _ _ _)))
   |fail
  apply vq_evpf (put_ok (act := 2) (hp.stay h5.fr) hl')
  · rfl
  rintro r s9 ⟨x9, rfl, f9, hp9, id9, e9, z9⟩
  have h9 := h5.call f9
  have hz9 : NewS s x9.de := fresh_of e9 z9 h5.fr.1
  have op9 := hp9.ones
  have r9 := h9.r
  repeat first
   |with_reducible first|apply vA|apply vB|apply vC
   |((with_reducible apply vD); (focus rfl))
   |((with_reducible first|apply vE|apply vF|apply vG|apply vH); simp only [Env.keep, Env.get, Env.ev, List.map, Nat.reduceEqDiff, ↓reduceIte, Then, Out'])
   |((with_reducible first|apply vI|apply vJ|apply vK|apply vL|apply vM|apply vN); (focus (simp (disch := (first|with_reducible assumption|omega|((repeat (first|rw [nP]|rw [nS]))<;>omega)|fail)) only [go_sem, ↓reduceIte, r9, op9, prRow] <;> rfl)); (first|(with_reducible (first|apply vO|apply vP|apply vQ|apply vR|apply vS|apply vT|apply vU); try simp only [Env.put])|with_reducible refine (?_ : WQ _ _ _ _ _ _)))
   |fail
  exact ⟨.inr trivial, _, h9.res rfl, h9.fin hp9 hz9⟩
theorem stat_9 {s : Store} {m : MdX} {t : List Nd} {ch : List Ch} (hm : MdAt s m t ch) (ht : TreeOk t) {p : Pr} {x : PrD} (hp : PrAt s p x) (hl : PrLe p 900000) {k frm to : Nat} (hfr : frm < p.rest.length) (hk : k < t.length) (hK : (nd t k).kind = 9) {f : Nat} :
    EvP vfs 82 [.agg (mdRow m), .agg (prRow p x), .int .i64 (k : Int), .int .i64 (frm : Int), .int .i64 (to : Int)] s (StR s p (statF t (ch.map Ch.name) (f + 1) p k frm to)) := by
  have hF : statF t (ch.map Ch.name) (f + 1) p k frm to = (p.idle frm ((nd t k).num 0)).put frm to 4 k ((nd t k).kid 0) (-1) (-1) := by simp [statF, hK]
  rw [hF]
  have hidx := hm.tr.at (z := (k : Int)) (by omega) (by omega) (k := .i64)
  rw [Int.toNat_natCast, hK] at hidx
  have on := nd_one hm.tr hk
  have op := hp.ones
  have om := hm.ones
  have hl' : PrLe p 1000000 := ⟨by have := hl.pl; omega, by have := hl.rl; omega, by have := hl.el; omega⟩
  have hno := ht.node k hk
  have hk1 := hno.one (by omega)
  have k0 : idxAV 1 (nd t k).dk (.int .i64 0) = some (.fp [.int .i64 ((nd t k).kid 0 : Int)] 0) := kid_idx hm.tr ht hk (i := 0) (by omega)
  have hnl : (nd t k).nums.length = 1 := by rw [hno.nl, hK]; rfl
  have n0 : idxAV 1 (nd t k).dn (.int .i64 0) = some (.fp [.int .i64 ((nd t k).num 0)] 0) := num_idx (hm.tr.nd hk) (i := 0) (by omega)
  unfold mdRow prRow
  refine evp_of (vf := vf82) rfl ?_
  simp only [vf82, xq, xg, xm, xmg, xc, xl, xlg, xf, xfg, xw, xa, xk, xi, xig, xo, xr, xrp, xn, List.map, List.getD, List.getElem?_cons_zero, List.getElem?_cons_succ, List.getElem?_nil, Option.getD]
  repeat first
   |with_reducible first|apply vA|apply vB|apply vC
   |((with_reducible apply vD); (focus rfl))
   |((with_reducible first|apply vE|apply vF|apply vG|apply vH); simp only [Env.keep, Env.get, Env.ev, List.map, Nat.reduceEqDiff, ↓reduceIte, Then, Out'])
   |((with_reducible first|apply vI|apply vJ|apply vK|apply vL|apply vM|apply vN); (focus (simp (disch := (first|with_reducible assumption|omega|((repeat (first|rw [nP]|rw [nS]))<;>omega)|fail)) only [go_sem, ↓reduceIte, hidx, on, op, om, n0] <;> rfl)); (first|(with_reducible (first|apply vO|apply vP|apply vQ|apply vR|apply vS|apply vT|apply vU); try simp only [Env.put])|with_reducible refine (?_ : WQ _ _ _ _ _ _)))
   |fail
  refine wq_gen (Φ := SF s m [.int .i64 9, (nd t k).dw, (nd t k).dn, (nd t k).dk, .int .i64 (nd t k).pos] (prRow p x)) ?_ ?_
  · refine ⟨(((((Fr.push _).thenPush _).thenPush _).thenPush _).thenSet _ (.inr (by first | omega | (simp only [Store.next_push]; omega)))), by simp only [Store.next_push, Store.next_set]; omega, ?_, ?_, ?_, ?_⟩ <;> (simp (disch := (first|with_reducible assumption|omega|((repeat (first|rw [nP]|rw [nS]))<;>omega)|fail)) only [get_push_old, get_push_new, get_set_ne, get_set_eq, Store.next_push, Store.next_set]) <;> rfl
  intro s4 h4
  simp only [Made.at, Store.next_push, Store.next_set]
  apply vq_evpf (rest_ok (hp.stay h4.fr) hl' hfr)
  · rfl
  rintro r s5 ⟨x5, rfl, f5, hp5⟩
  have h5 := h4.call f5
  have op5 := hp5.ones
  have p5 := h5.p
  unfold prRow at p5
  have hp6 : PrAt (s5.set (s.next + 1) (some (.cells (prRow (p.idle frm ((nd t k).num 0)) x5)))) (p.idle frm ((nd t k).num 0)) x5 := hp5.set p5
  have h6 : SF s m _ (prRow (p.idle frm ((nd t k).num 0)) x5) (s5.set (s.next + 1) (some (.cells (prRow (p.idle frm ((nd t k).num 0)) x5)))) := h5.setP
  have ip := idle_places p frm ((nd t k).num 0)
  have hl6 : PrLe (p.idle frm ((nd t k).num 0)) 1000000 := prLe_idle hl'
  generalize p.idle frm ((nd t k).num 0) = q at *
  repeat first
   |with_reducible first|apply vA|apply vB|apply vC
   |((with_reducible apply vD); (focus rfl))
   |((with_reducible first|apply vE|apply vF|apply vG|apply vH); simp only [Env.keep, Env.get, Env.ev, List.map, Nat.reduceEqDiff, ↓reduceIte, Then, Out'])
   |((with_reducible first|apply vI|apply vJ|apply vK|apply vL|apply vM|apply vN); (focus (simp (disch := (first|with_reducible assumption|omega|((repeat (first|rw [nP]|rw [nS]))<;>omega)|fail)) only [go_sem, ↓reduceIte, p5, op5, prRow] <;> rfl)); (first|(with_reducible (first|apply vO|apply vP|apply vQ|apply vR|apply vS|apply vT|apply vU); try simp only [Env.put])|with_reducible refine (?_ : WQ _ _ _ _ _ _)))
   |fail
  refine wq_gen (Φ := fun s' => SF s m _ (prRow q x5) s' ∧ PrAt s' q x5) ⟨h6, hp6⟩ ?_
  rintro s6 ⟨h6, hp6⟩
  have p6 := h6.p
  have n6 := h6.n
  unfold prRow at p6
  repeat first
   |with_reducible first|apply vA|apply vB|apply vC
   |((with_reducible apply vD); (focus rfl))
   |((with_reducible first|apply vE|apply vF|apply vG|apply vH); simp only [Env.keep, Env.get, Env.ev, List.map, Nat.reduceEqDiff, ↓reduceIte, Then, Out'])
   |((with_reducible first|apply vI|apply vJ|apply vK|apply vL|apply vM|apply vN); (focus (simp (disch := (first|with_reducible assumption|omega|((repeat (first|rw [nP]|rw [nS]))<;>omega)|fail)) only [go_sem, ↓reduceIte, p6, n6, op5, on, k0] <;> rfl)); (first|(with_reducible (first|apply vO|apply vP|apply vQ|apply vR|apply vS|apply vT|apply vU); try simp only [Env.put])|with_reducible refine (?_ : WQ _ _ _ _ _ _)))
   |fail
  apply vq_evpf (put_ok (act := 4) hp6 hl6)
  · rfl
  rintro r s9 ⟨x9, rfl, f9, hp9, id9, e9, z9⟩
  have h9 := h6.call f9
  have hz9 : NewS s x9.de := fresh_of e9 z9 h6.fr.1
  have op9 := hp9.ones
  have r9 := h9.r
  repeat first
   |with_reducible first|apply vA|apply vB|apply vC
   |((with_reducible apply vD); (focus rfl))
   |((with_reducible first|apply vE|apply vF|apply vG|apply vH); simp only [Env.keep, Env.get, Env.ev, List.map, Nat.reduceEqDiff, ↓reduceIte, Then, Out'])
   |((with_reducible first|apply vI|apply vJ|apply vK|apply vL|apply vM|apply vN); (focus (simp (disch := (first|with_reducible assumption|omega|((repeat (first|rw [nP]|rw [nS]))<;>omega)|fail)) only [go_sem, ↓reduceIte, r9, op9, prRow] <;> rfl)); (first|(with_reducible (first|apply vO|apply vP|apply vQ|apply vR|apply vS|apply vT|apply vU); try simp only [Env.put])|with_reducible refine (?_ : WQ _ _ _ _ _ _)))
   |fail
  exact ⟨.inr trivial, _, h9.res rfl, h9.fin hp9 hz9⟩
theorem stat_8 {s : Store} {m : MdX} {t : List Nd} {ch : List Ch} (hm : MdAt s m t ch) (ht : TreeOk t) {p : Pr} {x : PrD} (hp : PrAt s p x) (hl : PrLe p 900000) (hnv : p.names.length = p.vars.length) (hn0 : 0 < p.names.length) (hnb : p.names.length ≤ 1000000) (hcb : ch.length ≤ 1000000) {k frm to : Nat} (hfr : frm < p.rest.length) (hk : k < t.length) (hK : (nd t k).kind = 8) {f : Nat} :
    EvP vfs 82 [.agg (mdRow m), .agg (prRow p x), .int .i64 (k : Int), .int .i64 (frm : Int), .int .i64 (to : Int)] s (StR s p (statF t (ch.map Ch.name) (f + 1) p k frm to)) := by
  have hF : statF t (ch.map Ch.name) (f + 1) p k frm to = (p.idle frm ((nd t k).num 0)).put frm to 3 k (-1) (p.vars.getD (findN p.names ((nd t k).word 1)) 0 : Nat) (findN (ch.map Ch.name) ((nd t k).word 0) : Nat) := by simp [statF, hK]
  rw [hF]
  have hidx := hm.tr.at (z := (k : Int)) (by omega) (by omega) (k := .i64)
  rw [Int.toNat_natCast, hK] at hidx
  have on := nd_one hm.tr hk
  have op := hp.ones
  have om := hm.ones
  have hl' : PrLe p 1000000 := ⟨by have := hl.pl; omega, by have := hl.rl; omega, by have := hl.el; omega⟩
  have hno := ht.node k hk
  have hwl : (nd t k).words.length = 2 := by rw [hno.wl, hK]; rfl
  have w0 : idxAV 1 (nd t k).dw (.int .i64 0) = some (.fp [.str ((nd t k).word 0)] 0) := word_idx hm.tr hk (i := 0) (by omega)
  have w1 : idxAV 1 (nd t k).dw (.int .i64 1) = some (.fp [.str ((nd t k).word 1)] 0) := word_idx hm.tr hk (i := 1) (by omega)
  have hnl : (nd t k).nums.length = 1 := by rw [hno.nl, hK]; rfl
  have n0 : idxAV 1 (nd t k).dn (.int .i64 0) = some (.fp [.int .i64 ((nd t k).num 0)] 0) := num_idx (hm.tr.nd hk) (i := 0) (by omega)
  have hfl := findN_lt (s := (nd t k).word 1) hn0
  unfold mdRow prRow
  refine evp_of (vf := vf82) rfl ?_
  simp only [vf82, xq, xg, xm, xmg, xc, xl, xlg, xf, xfg, xw, xa, xk, xi, xig, xo, xr, xrp, xn, List.map, List.getD, List.getElem?_cons_zero, List.getElem?_cons_succ, List.getElem?_nil, Option.getD]
  repeat first
   |with_reducible first|apply vA|apply vB|apply vC
   |((with_reducible apply vD); (focus rfl))
   |((with_reducible first|apply vE|apply vF|apply vG|apply vH); simp only [Env.keep, Env.get, Env.ev, List.map, Nat.reduceEqDiff, ↓reduceIte, Then, Out'])
   |((with_reducible first|apply vI|apply vJ|apply vK|apply vL|apply vM|apply vN); (focus (simp (disch := (first|with_reducible assumption|omega|((repeat (first|rw [nP]|rw [nS]))<;>omega)|fail)) only [go_sem, ↓reduceIte, hidx, on, op, om, n0] <;> rfl)); (first|(with_reducible (first|apply vO|apply vP|apply vQ|apply vR|apply vS|apply vT|apply vU); try simp only [Env.put])|with_reducible refine (?_ : WQ _ _ _ _ _ _)))
   |fail
  refine wq_gen (Φ := SF s m [.int .i64 8, (nd t k).dw, (nd t k).dn, (nd t k).dk, .int .i64 (nd t k).pos] (prRow p x)) ?_ ?_
  · refine ⟨(((((Fr.push _).thenPush _).thenPush _).thenPush _).thenSet _ (.inr (by first | omega | (simp only [Store.next_push]; omega)))), by simp only [Store.next_push, Store.next_set]; omega, ?_, ?_, ?_, ?_⟩ <;> (simp (disch := (first|with_reducible assumption|omega|((repeat (first|rw [nP]|rw [nS]))<;>omega)|fail)) only [get_push_old, get_push_new, get_set_ne, get_set_eq, Store.next_push, Store.next_set]) <;> rfl
  intro s4 h4
  simp only [Made.at, Store.next_push, Store.next_set]
  apply vq_evpf (rest_ok (hp.stay h4.fr) hl' hfr)
  · rfl
  rintro r s5 ⟨x5, rfl, f5, hp5⟩
  have h5 := h4.call f5
  have op5 := hp5.ones
  have p5 := h5.p
  unfold prRow at p5
  have hp6 : PrAt (s5.set (s.next + 1) (some (.cells (prRow (p.idle frm ((nd t k).num 0)) x5)))) (p.idle frm ((nd t k).num 0)) x5 := hp5.set p5
  have h6 : SF s m _ (prRow (p.idle frm ((nd t k).num 0)) x5) (s5.set (s.next + 1) (some (.cells (prRow (p.idle frm ((nd t k).num 0)) x5)))) := h5.setP
  have ip := idle_places p frm ((nd t k).num 0)
  have hl6 : PrLe (p.idle frm ((nd t k).num 0)) 1000000 := prLe_idle hl'
  generalize p.idle frm ((nd t k).num 0) = q at *
  have hnb' : q.names.length ≤ 1000000 := by rw [ip.2.2.2]; exact hnb
  have hfl' : findN q.names ((nd t k).word 1) < q.vars.length := by rw [ip.2.2.2, ip.2.2.1]; omega
  rw [← ip.2.2.1, ← ip.2.2.2]
  repeat first
   |(with_reducible refine vw_rgt ?_)
   |((with_reducible apply wt_p); (focus (simp (disch := (first|with_reducible assumption|omega|((repeat (first|rw [nP]|rw [nS]))<;>omega)|fail)) only [go_sem, ↓reduceIte, p5, op5, prRow] <;> rfl)))
   |((with_reducible apply wt_ld); (focus (simp only [Env.ev, Env.get, Nat.reduceEqDiff, ↓reduceIte, Made.at, Nat.add_zero, Nat.zero_add, p5, op5, prRow] <;> rfl)); (focus (simp (disch := (first|with_reducible assumption|omega|((repeat (first|rw [nP]|rw [nS]))<;>omega)|fail)) only [go_sem, ↓reduceIte, p5, op5, prRow] <;> rfl)))
   |((with_reducible apply wt_ld0); (focus (simp only [Env.ev, Env.get, Nat.reduceEqDiff, ↓reduceIte, Made.at, Nat.add_zero, Nat.zero_add, p5, op5, prRow] <;> rfl)); (focus (simp (disch := (first|with_reducible assumption|omega|((repeat (first|rw [nP]|rw [nS]))<;>omega)|fail)) only [go_sem, ↓reduceIte, p5, op5, prRow] <;> rfl)))
   |with_reducible first|apply vA|apply vB|apply vC
   |((with_reducible apply vD); (focus rfl))
   |((with_reducible first|apply vE|apply vF|apply vG|apply vH); simp only [Env.keep, Env.get, Env.ev, List.map, Nat.reduceEqDiff, ↓reduceIte, Then, Out'])
   |((with_reducible first|apply vI|apply vJ|apply vK|apply vL|apply vM|apply vN); (focus (simp (disch := (first|with_reducible assumption|omega|((repeat (first|rw [nP]|rw [nS]))<;>omega)|fail)) only [go_sem, ↓reduceIte, p5, op5, prRow] <;> rfl)); (first|(with_reducible (first|apply vO|apply vP|apply vQ|apply vR|apply vS|apply vT|apply vU); try simp only [Env.put])|with_reducible refine (?_ : WQ _ _ _ _ _ _)))
   |fail
  refine wt_gen (Φ := fun s' => SF s m _ (prRow q x5) s' ∧ PrAt s' q x5) ⟨h6, hp6⟩ ?_
  rintro s6 ⟨h6, hp6⟩
  have p6 := h6.p
  have n6 := h6.n
  have m6 := h6.m
  unfold prRow at p6
  unfold mdRow at m6
  repeat first
   |(with_reducible refine vw_rgt ?_)
   |((with_reducible apply wt_p); (focus (simp (disch := (first|with_reducible assumption|omega|((repeat (first|rw [nP]|rw [nS]))<;>omega)|fail)) only [go_sem, ↓reduceIte, p6, n6, m6, op5, on, om, w0, w1] <;> rfl)))
   |((with_reducible apply wt_ld); (focus (simp only [Env.ev, Env.get, Nat.reduceEqDiff, ↓reduceIte, Made.at, Nat.add_zero, Nat.zero_add, p6, n6, m6, op5, on, om, w0, w1] <;> rfl)); (focus (simp (disch := (first|with_reducible assumption|omega|((repeat (first|rw [nP]|rw [nS]))<;>omega)|fail)) only [go_sem, ↓reduceIte, p6, n6, m6, op5, on, om, w0, w1] <;> rfl)))
   |((with_reducible apply wt_ld0); (focus (simp only [Env.ev, Env.get, Nat.reduceEqDiff, ↓reduceIte, Made.at, Nat.add_zero, Nat.zero_add, p6, n6, m6, op5, on, om, w0, w1] <;> rfl)); (focus (simp (disch := (first|with_reducible assumption|omega|((repeat (first|rw [nP]|rw [nS]))<;>omega)|fail)) only [go_sem, ↓reduceIte, p6, n6, m6, op5, on, om, w0, w1] <;> rfl)))
   |with_reducible first|apply vA|apply vB|apply vC
   |((with_reducible apply vD); (focus rfl))
   |((with_reducible first|apply vE|apply vF|apply vG|apply vH); simp only [Env.keep, Env.get, Env.ev, List.map, Nat.reduceEqDiff, ↓reduceIte, Then, Out'])
   |((with_reducible first|apply vI|apply vJ|apply vK|apply vL|apply vM|apply vN); (focus (simp (disch := (first|with_reducible assumption|omega|((repeat (first|rw [nP]|rw [nS]))<;>omega)|fail)) only [go_sem, ↓reduceIte, p6, n6, m6, op5, on, om, w0, w1] <;> rfl)); (first|(with_reducible (first|apply vO|apply vP|apply vQ|apply vR|apply vS|apply vT|apply vU); try simp only [Env.put])|with_reducible refine (?_ : WQ _ _ _ _ _ _)))
   |fail
  refine wt_call (find_ok hp6.n hnb') rfl ?_
  obtain ⟨id, v1, v2, v3⟩ := varAt hp6.v (i := findN q.names ((nd t k).word 1)) (by omega)
  repeat first
   |(with_reducible refine vw_rgt ?_)
   |((with_reducible apply wt_p); (focus (simp (disch := (first|with_reducible assumption|omega|((repeat (first|rw [nP]|rw [nS]))<;>omega)|fail)) only [go_sem, ↓reduceIte, v1, p6, n6, m6, op5, on, om, w0, w1] <;> rfl)))
   |((with_reducible apply wt_ld); (focus (simp only [Env.ev, Env.get, Nat.reduceEqDiff, ↓reduceIte, Made.at, Nat.add_zero, Nat.zero_add, v1, p6, n6, m6, op5, on, om, w0, w1] <;> rfl)); (focus (simp (disch := (first|with_reducible assumption|omega|((repeat (first|rw [nP]|rw [nS]))<;>omega)|fail)) only [go_sem, ↓reduceIte, v1, p6, n6, m6, op5, on, om, w0, w1] <;> rfl)))
   |((with_reducible apply wt_ld0); (focus (simp only [Env.ev, Env.get, Nat.reduceEqDiff, ↓reduceIte, Made.at, Nat.add_zero, Nat.zero_add, v1, p6, n6, m6, op5, on, om, w0, w1] <;> rfl)); (focus (simp (disch := (first|with_reducible assumption|omega|((repeat (first|rw [nP]|rw [nS]))<;>omega)|fail)) only [go_sem, ↓reduceIte, v1, p6, n6, m6, op5, on, om, w0, w1] <;> rfl)))
   |(apply wt_ldv v2; (focus (simp only [Env.ev, Env.get, Nat.reduceEqDiff, ↓reduceIte])))
   |with_reducible first|apply vA|apply vB|apply vC
   |((with_reducible apply vD); (focus rfl))
   |((with_reducible first|apply vE|apply vF|apply vG|apply vH); simp only [Env.keep, Env.get, Env.ev, List.map, Nat.reduceEqDiff, ↓reduceIte, Then, Out'])
   |((with_reducible first|apply vI|apply vJ|apply vK|apply vL|apply vM|apply vN); (focus (simp (disch := (first|with_reducible assumption|omega|((repeat (first|rw [nP]|rw [nS]))<;>omega)|fail)) only [go_sem, ↓reduceIte, v1, p6, n6, m6, op5, on, om, w0, w1] <;> rfl)); (first|(with_reducible (first|apply vO|apply vP|apply vQ|apply vR|apply vS|apply vT|apply vU); try simp only [Env.put])|with_reducible refine (?_ : WQ _ _ _ _ _ _)))
   |fail
  refine wt_evpf (channel_ok (hm.stay h6.fr) hcb) (fun d s' h => h.2) (by
    intro i hid
    have := h6.nx
    simp only [List.mem_cons, List.mem_append, List.not_mem_nil, or_false] at hid
    by_cases hv : i ∈ idsOf id
    · obtain ⟨off, e⟩ := mem_idsOf hv
      exact v3 _ _ e
    · simp only [hv, false_or, or_false] at hid
      omega) rfl rfl ?_
  rintro r s7 ⟨rfl, f7⟩
  have h7 := h6.call f7
  repeat first
   |with_reducible first|apply vA|apply vB|apply vC
   |((with_reducible apply vD); (focus rfl))
   |((with_reducible first|apply vE|apply vF|apply vG|apply vH); simp only [Env.keep, Env.get, Env.ev, List.map, Nat.reduceEqDiff, ↓reduceIte, Then, Out'])
   |((with_reducible first|apply vI|apply vJ|apply vK|apply vL|apply vM|apply vN); (focus (simp (disch := (first|with_reducible assumption|omega|((repeat (first|rw [nP]|rw [nS]))<;>omega)|fail)) only [go_sem, ↓reduceIte] <;> rfl)); (first|(with_reducible (first|apply vO|apply vP|apply vQ|apply vR|apply vS|apply vT|apply vU); try simp only [Env.put])|with_reducible refine (?_ : WQ _ _ _ _ _ _)))
   |fail
  apply vq_evpf (put_ok (act := 3) (hp6.stay f7) hl6)
  · rfl
  rintro r s9 ⟨x9, rfl, f9, hp9, id9, e9, z9⟩
  have h9 := h7.call f9
  have hz9 : NewS s x9.de := fresh_of e9 z9 h7.fr.1
  have op9 := hp9.ones
  have r9 := h9.r
  repeat first
   |with_reducible first|apply vA|apply vB|apply vC
   |((with_reducible apply vD); (focus rfl))
   |((with_reducible first|apply vE|apply vF|apply vG|apply vH); simp only [Env.keep, Env.get, Env.ev, List.map, Nat.reduceEqDiff, ↓reduceIte, Then, Out'])
   |((with_reducible first|apply vI|apply vJ|apply vK|apply vL|apply vM|apply vN); (focus (simp (disch := (first|with_reducible assumption|omega|((repeat (first|rw [nP]|rw [nS]))<;>omega)|fail)) only [go_sem, ↓reduceIte, r9, op9, prRow] <;> rfl)); (first|(with_reducible (first|apply vO|apply vP|apply vQ|apply vR|apply vS|apply vT|apply vU); try simp only [Env.put])|with_reducible refine (?_ : WQ _ _ _ _ _ _)))
   |fail
  exact ⟨.inr trivial, _, h9.res rfl, h9.fin hp9 hz9⟩
end Go.Proofs.Ytlaeblilmppodaa
