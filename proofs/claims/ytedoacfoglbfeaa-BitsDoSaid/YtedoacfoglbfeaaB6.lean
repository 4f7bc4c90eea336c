/- Vectors of the graph's own edges. -/
import Derived.Test.YtedoacfoglbfeaaB5
namespace Go.Proofs.Ytedoacfoglbfeaa
open Go.V
set_option maxRecDepth 100000
set_option maxHeartbeats 4000000
set_option linter.unusedSimpArgs false
set_option linter.unusedVariables false

theorem ownV {s : Store} {g : Nat} {G : Gr} {ids : List Nat} {dv : D} {A : List Nat} {w : Nat} (hG : GA s g G ids) (hw : G.WF) (hA : VI s ids G dv A) (hAl : A.length = w) (hw1 : 1 ≤ w) (hwl : w ≤ 16) (hL : G.nodes.length + 200 < 200000) :
    EvP vfs 63 [.ptr g 0, dv] s fun d s' => ∃ id ids', d = .arr id 0 w 1 ∧ s'.get id = some (.cells (cellsI A)) ∧ id ∉ ids' ∧ s.next ≤ id ∧ GrStep s g ids s' G ids' := by
  have hla := hA.rd.1.lenI
  rw [hAl] at hla
  have hGl := hw.len
  have hlt := hG.lt
  have a1 : ((0 : Int) ≤ (w : Int)) = True := eq_true (by omega)
  have a2 : ((((8 : Nat) : Int) * (w : Int)) ≤ 2 ^ 47) = True := eq_true (by omega)
  have a3 : ((w : Int) < 2 ^ 62) = True := eq_true (by omega)
  have a4 : ((w : Int) < 1) = False := eq_false (by omega)
  have a5 : ((16 : Int) < (w : Int)) = False := eq_false (by omega)
  refine evp_of (vf := vf63) rfl ?_
  simp only [vf63, List.map, List.getD, List.getElem?_cons_zero, List.getElem?_cons_succ, List.getElem?_nil, Option.getD]
  repeat first
    | with_reducible (first | refine vw_seq ?_ | refine vw_block ?_ | refine vw_rg ?_)
    | ((with_reducible apply vq_free'); (focus rfl))
    | ((with_reducible (first | refine vq_nil ?_ | refine vw_skip ?_ | refine vw_exit ?_ | refine vw_ret ?_)); simp only [Env.keep, Env.get, Env.ev, List.map, Nat.reduceEqDiff, ↓reduceIte, Then, Out'])
    | ((with_reducible (first | apply vq_p | apply vq_r | apply vq_a | apply vq_w | apply vq_g | apply vw_condm)); (focus (simp (disch := (first | with_reducible assumption | omega | ((repeat (first | rw [Store.next_push] | rw [Store.next_set])) <;> omega) | fail)) only [go_sem, Nat.reduceEqDiff, Nat.reduceAdd, Nat.reduceMul, Nat.reduceLeDiff, ↓reduceIte, reduceCtorEq, Int.reduceEq, Int.reduceLT, Int.reduceLE, Int.reduceAdd, Int.reduceSub, Int.reduceMul, Int.reduceNeg, Int.reduceToNat, hla, a1, a2, a3, a4, a5, zerosI, Int.le_refl] <;> rfl)); (first | (with_reducible (first | refine way_tt ?_ | refine way_ff ?_ | refine wayc_t ?_ | refine wayc_f ?_ | refine way_tf ?_ | refine way_ft ?_ | refine way_t ?_); try simp only [Env.put]) | with_reducible refine (?_ : WQ _ _ _ _ _ _)))
    | fail
  refine vw_loop_inv (fun k env s1 => ∃ (i : Nat) (ids1 : List Nat), i ≤ w ∧ k = w - i ∧ GrStep s g ids s1 G ids1 ∧ s1.get s.next = some (.cells (cellsI (fillL (A.take i) w))) ∧ s.next ∉ ids1 ∧
    (env.get 0 = .ptr g 0 ∧ env.get 5 = .arr s.next 0 w 1 ∧ env.get 20 = dv ∧ env.get 21 = .int .i64 (w : Int) ∧ env.get 22 = .int .i64 (i : Int))) ?_ w _ _
    ⟨0, ids, Nat.zero_le _, by omega, hG.newer (Fr.push _), by rw [List.take_zero, fillL_nil]; exact get_push_new rfl, fun h => by have := hlt _ h; omega, by simp [Env.get, Made.at]⟩
  rintro k env s1 ⟨i, ids1, hi, rfl, hst, hg, hn, hE⟩
  by_cases hci : i < w
  · have hci' : (i : Int) < (w : Int) := by omega
    have hs := i64_succ (i := i) (by omega)
    have hAi : i < A.length := by omega
    obtain ⟨pa, pa1, pa2⟩ := (hA.step hst (Gr.Ext.refl _)).rd.1.idxI hAi
    have hai := hA.lt _ (List.getElem_mem hAi)
    have htk := List.take_succ_eq_append_getElem hAi
    have hll : (A.take i).length = i := by simp; omega
    generalize A[i] = x at *
    have hand := andE (a := x) (b := 1) hst.1 hw hai (by omega) (by omega)
    rw [and_one] at hand
    repeat first
      | (apply vq_ld; (focus (simp only [Env.ev, Env.get, Nat.reduceEqDiff, ↓reduceIte]; rfl)); (focus exact pa2))
      | with_reducible (first | refine vw_seq ?_ | refine vw_block ?_ | refine vw_rg ?_)
      | ((with_reducible apply vq_free'); (focus rfl))
      | ((with_reducible (first | refine vq_nil ?_ | refine vw_skip ?_ | refine vw_exit ?_ | refine vw_ret ?_)); simp only [Env.keep, Env.get, Env.ev, List.map, Nat.reduceEqDiff, ↓reduceIte, Then, Out'])
      | ((with_reducible (first | apply vq_p | apply vq_r | apply vq_a | apply vq_w | apply vq_g | apply vw_condm)); (focus (simp (disch := (first | with_reducible assumption | omega | ((repeat (first | rw [Store.next_push] | rw [Store.next_set])) <;> omega) | fail)) only [go_sem, Nat.reduceEqDiff, Nat.reduceAdd, Nat.reduceMul, Nat.reduceLeDiff, ↓reduceIte, reduceCtorEq, Int.reduceEq, Int.reduceLT, Int.reduceLE, Int.reduceAdd, Int.reduceSub, Int.reduceMul, Int.reduceNeg, Int.reduceToNat, hE, hci', pa1] <;> rfl)); (first | (with_reducible (first | refine way_tt ?_ | refine way_ff ?_ | refine wayc_t ?_ | refine wayc_f ?_ | refine way_tf ?_ | refine way_ft ?_ | refine way_t ?_); try simp only [Env.put]) | with_reducible refine (?_ : WQ _ _ _ _ _ _)))
      | fail
    apply vq_evpf hand
    · simp only [Env.evL, Env.ev, Env.get, Nat.reduceEqDiff, ↓reduceIte, hE]; rfl
    rintro q s2 ⟨rfl, ids2, j2⟩
    have hsl := get_lts hg
    have hn2 : s.next ∉ ids2 := fun h => by
      rcases j2.2.2 _ h with h | h
      · exact hn h
      · omega
    have hg2 : s2.get s.next = some (.cells (cellsI (fillL (A.take i) w))) := by rw [j2.2.1.2 _ hsl hn, hg]
    have hfl := fillL_len (l := A.take i) (w := w) (by omega)
    have hfs : (fillL (A.take i) w).set i x = fillL (A.take (i + 1)) w := by
      rw [htk]
      have := fillL_set (l := A.take i) (w := w) (e := x) (by omega)
      rwa [hll] at this
    repeat first
      | (apply vq_wI hg2 (by omega : i < (fillL (A.take i) w).length); (focus rfl); (focus rfl))
      | with_reducible (first | refine vw_seq ?_ | refine vw_block ?_ | refine vw_rg ?_)
      | ((with_reducible apply vq_free'); (focus rfl))
      | ((with_reducible (first | refine vq_nil ?_ | refine vw_skip ?_ | refine vw_exit ?_ | refine vw_ret ?_)); simp only [Env.keep, Env.get, Env.ev, List.map, Nat.reduceEqDiff, ↓reduceIte, Then, Out'])
      | ((with_reducible (first | apply vq_p | apply vq_r | apply vq_a | apply vq_w | apply vq_g | apply vw_condm)); (focus (simp (disch := (first | with_reducible assumption | omega | ((repeat (first | rw [Store.next_push] | rw [Store.next_set])) <;> omega) | fail)) only [go_sem, Nat.reduceEqDiff, Nat.reduceAdd, Nat.reduceMul, Nat.reduceLeDiff, ↓reduceIte, reduceCtorEq, Int.reduceEq, Int.reduceLT, Int.reduceLE, Int.reduceAdd, Int.reduceSub, Int.reduceMul, Int.reduceNeg, Int.reduceToNat, hE, hs] <;> rfl)); (first | (with_reducible (first | refine way_tt ?_ | refine way_ff ?_ | refine wayc_t ?_ | refine wayc_f ?_ | refine way_tf ?_ | refine way_ft ?_ | refine way_t ?_); try simp only [Env.put]) | with_reducible refine (?_ : WQ _ _ _ _ _ _)))
      | fail
    exact ⟨w - (i + 1), by omega, i + 1, ids2, by omega, rfl, (hst.trans j2).wr _ hn2 (Nat.le_refl _), by rw [get_set_eq (get_lts hg2), hfs], hn2, (by simp only [Env.get, Nat.reduceEqDiff, ↓reduceIte, hE, and_self])⟩
  · have hci' : ¬ (i : Int) < (w : Int) := by omega
    obtain rfl : i = w := by omega
    rw [List.take_of_length_le (by omega), fillL_all hAl] at hg
    repeat first
      | with_reducible (first | refine vw_seq ?_ | refine vw_block ?_ | refine vw_rg ?_)
      | ((with_reducible apply vq_free'); (focus rfl))
      | ((with_reducible (first | refine vq_nil ?_ | refine vw_skip ?_ | refine vw_exit ?_ | refine vw_ret ?_)); simp only [Env.keep, Env.get, Env.ev, List.map, Nat.reduceEqDiff, ↓reduceIte, Then, Out'])
      | ((with_reducible (first | apply vq_p | apply vq_r | apply vq_a | apply vq_w | apply vq_g | apply vw_condm)); (focus (simp (disch := (first | with_reducible assumption | omega | ((repeat (first | rw [Store.next_push] | rw [Store.next_set])) <;> omega) | fail)) only [go_sem, Nat.reduceEqDiff, Nat.reduceAdd, Nat.reduceMul, Nat.reduceLeDiff, ↓reduceIte, reduceCtorEq, Int.reduceEq, Int.reduceLT, Int.reduceLE, Int.reduceAdd, Int.reduceSub, Int.reduceMul, Int.reduceNeg, Int.reduceToNat, hE, hci'] <;> rfl)); (first | (with_reducible (first | refine way_tt ?_ | refine way_ff ?_ | refine wayc_t ?_ | refine wayc_f ?_ | refine way_tf ?_ | refine way_ft ?_ | refine way_t ?_); try simp only [Env.put]) | with_reducible refine (?_ : WQ _ _ _ _ _ _)))
      | fail
    exact ⟨.inr trivial, _, (by simp only [resOf, resAll, resOne, Env.get, Nat.reduceEqDiff, ↓reduceIte] <;> rfl), s.next, ids1, rfl, hg, hn, Nat.le_refl _, hst⟩
end Go.Proofs.Ytedoacfoglbfeaa
