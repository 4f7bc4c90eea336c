/- Vectors of edges: not, mux, under, walked. -/
import Derived.Test.YtedoacfoglbfeaaB1
namespace Go.Proofs.Ytedoacfoglbfeaa
open Go.V
set_option maxRecDepth 100000
set_option maxHeartbeats 4000000
set_option linter.unusedSimpArgs false
set_option linter.unusedVariables false

theorem notV {s : Store} {da : D} {A : List Nat} {w : Nat} (hA : Rd s da (cellsI A)) (hAl : A.length = w) (hwl : w ≤ 16) (hlt : ∀ e ∈ A, e < 1000000) :
    EvP vfs 65 [da] s fun d s' => ∃ id, d = .arr id 0 w 1 ∧ s'.get id = some (.cells (cellsI (A.map notN))) ∧ Fr [] s s' ∧ s.next ≤ id := by
  have hla := hA.lenI
  rw [hAl] at hla
  have a1 : ((0 : Int) ≤ (w : Int)) = True := eq_true (by omega)
  have a2 : ((((8 : Nat) : Int) * (w : Int)) ≤ 2 ^ 47) = True := eq_true (by omega)
  have a3 : ((w : Int) < 2 ^ 62) = True := eq_true (by omega)
  refine evp_of (vf := vf65) rfl ?_
  simp only [vf65, List.map, List.getD, List.getElem?_cons_zero, List.getElem?_cons_succ, List.getElem?_nil, Option.getD]
  repeat first
    | with_reducible (first | refine vw_seq ?_ | refine vw_block ?_ | refine vw_rg ?_)
    | ((with_reducible apply vq_free'); (focus rfl))
    | ((with_reducible (first | refine vq_nil ?_ | refine vw_skip ?_ | refine vw_exit ?_ | refine vw_ret ?_)); simp only [Env.keep, Env.get, Env.ev, List.map, Nat.reduceEqDiff, ↓reduceIte, Then, Out'])
    | ((with_reducible (first | apply vq_p | apply vq_r | apply vq_a | apply vq_w | apply vq_g | apply vw_condm)); (focus (simp (disch := (first | with_reducible assumption | omega | ((repeat (first | rw [Store.next_push] | rw [Store.next_set])) <;> omega) | fail)) only [go_sem, Nat.reduceEqDiff, Nat.reduceAdd, Nat.reduceMul, Nat.reduceLeDiff, ↓reduceIte, reduceCtorEq, Int.reduceEq, Int.reduceLT, Int.reduceLE, Int.reduceAdd, Int.reduceSub, Int.reduceMul, Int.reduceNeg, Int.reduceToNat, hla, a1, a2, a3, zerosI, Int.le_refl] <;> rfl)); (first | (with_reducible (first | refine way_tt ?_ | refine way_ff ?_ | refine wayc_t ?_ | refine wayc_f ?_ | refine way_tf ?_ | refine way_ft ?_ | refine way_t ?_); try simp only [Env.put]) | with_reducible refine (?_ : WQ _ _ _ _ _ _)))
    | fail
  refine vw_loop_inv (fun k env s1 => ∃ (i : Nat), i ≤ w ∧ k = w - i ∧ Fr [] s s1 ∧ s1.get s.next = some (.cells (cellsI (fillL ((A.take i).map notN) w))) ∧
    (env.get 0 = da ∧ env.get 3 = .arr s.next 0 w 1 ∧ env.get 9 = .int .i64 (w : Int) ∧ env.get 10 = .int .i64 (i : Int))) ?_ w _ _
    ⟨0, Nat.zero_le _, by omega, Fr.push _, by rw [List.take_zero, List.map_nil, fillL_nil]; exact get_push_new rfl, by simp [Env.get, Made.at]⟩
  rintro k env s1 ⟨i, hi, rfl, f1, hg, hE⟩
  by_cases hci : i < w
  · have hci' : (i : Int) < (w : Int) := by omega
    have hs := i64_succ (i := i) (by omega)
    have hAi : i < A.length := by omega
    have hrd1 : Rd s1 da (cellsI A) := hA.stay fun id off n hd => by
      rcases hA with ⟨h, _⟩ | h | ⟨id', off', cs, h, hgg, _⟩
      · rw [h] at hd; cases hd
      · rw [h] at hd; cases hd
      · rw [h] at hd; cases hd; exact f1.2 _ (get_lts hgg) (by simp)
    obtain ⟨p, p1, p2⟩ := hrd1.idxI hAi
    have hx := hlt _ (List.getElem_mem hAi)
    have htk : (A.take (i + 1)).map notN = (A.take i).map notN ++ [notN A[i]] := by
      rw [List.take_succ_eq_append_getElem hAi, List.map_append]; rfl
    have hll : ((A.take i).map notN).length = i := by simp; omega
    generalize A[i] = x at *
    have hnot := not_ok (s := s1) (e := x) (by omega)
    have hfl := fillL_len (l := (A.take i).map notN) (w := w) (by omega)
    have hfs : (fillL ((A.take i).map notN) w).set i (notN x) = fillL ((A.take (i + 1)).map notN) w := by
      rw [htk]
      have := fillL_set (l := (A.take i).map notN) (w := w) (e := notN x) (by omega)
      rwa [hll] at this
    repeat first
      | (apply vq_ld; (focus (simp only [Env.ev, Env.get, Nat.reduceEqDiff, ↓reduceIte]; rfl)); (focus exact p2))
      | (apply vq_call'; (focus (simp only [Env.evL, Env.ev, Env.get, Nat.reduceEqDiff, ↓reduceIte, Made.at]; rfl)); (focus (exact hnot)))
      | (apply vq_wI hg (by omega : i < (fillL ((A.take i).map notN) w).length); (focus rfl); (focus rfl))
      | with_reducible (first | refine vw_seq ?_ | refine vw_block ?_ | refine vw_rg ?_)
      | ((with_reducible apply vq_free'); (focus rfl))
      | ((with_reducible (first | refine vq_nil ?_ | refine vw_skip ?_ | refine vw_exit ?_ | refine vw_ret ?_)); simp only [Env.keep, Env.get, Env.ev, List.map, Nat.reduceEqDiff, ↓reduceIte, Then, Out'])
      | ((with_reducible (first | apply vq_p | apply vq_r | apply vq_a | apply vq_w | apply vq_g | apply vw_condm)); (focus (simp (disch := (first | with_reducible assumption | omega | ((repeat (first | rw [Store.next_push] | rw [Store.next_set])) <;> omega) | fail)) only [go_sem, Nat.reduceEqDiff, Nat.reduceAdd, Nat.reduceMul, Nat.reduceLeDiff, ↓reduceIte, reduceCtorEq, Int.reduceEq, Int.reduceLT, Int.reduceLE, Int.reduceAdd, Int.reduceSub, Int.reduceMul, Int.reduceNeg, Int.reduceToNat, hE, hci', p1, hs] <;> rfl)); (first | (with_reducible (first | refine way_tt ?_ | refine way_ff ?_ | refine wayc_t ?_ | refine wayc_f ?_ | refine way_tf ?_ | refine way_ft ?_ | refine way_t ?_); try simp only [Env.put]) | with_reducible refine (?_ : WQ _ _ _ _ _ _)))
      | fail
    refine ⟨w - (i + 1), by omega, i + 1, by omega, rfl, f1.thenSet _ (.inr (Nat.le_refl _)), ?_, (by simp only [Env.get, Nat.reduceEqDiff, ↓reduceIte, hE, and_self])⟩
    rw [get_set_eq (get_lts hg), hfs]
  · have hci' : ¬ (i : Int) < (w : Int) := by omega
    obtain rfl : i = w := by omega
    rw [List.take_of_length_le (by omega), fillL_all (by simp; omega)] at hg
    repeat first
      | with_reducible (first | refine vw_seq ?_ | refine vw_block ?_ | refine vw_rg ?_)
      | ((with_reducible apply vq_free'); (focus rfl))
      | ((with_reducible (first | refine vq_nil ?_ | refine vw_skip ?_ | refine vw_exit ?_ | refine vw_ret ?_)); simp only [Env.keep, Env.get, Env.ev, List.map, Nat.reduceEqDiff, ↓reduceIte, Then, Out'])
      | ((with_reducible (first | apply vq_p | apply vq_r | apply vq_a | apply vq_w | apply vq_g | apply vw_condm)); (focus (simp (disch := (first | with_reducible assumption | omega | ((repeat (first | rw [Store.next_push] | rw [Store.next_set])) <;> omega) | fail)) only [go_sem, Nat.reduceEqDiff, Nat.reduceAdd, Nat.reduceMul, Nat.reduceLeDiff, ↓reduceIte, reduceCtorEq, Int.reduceEq, Int.reduceLT, Int.reduceLE, Int.reduceAdd, Int.reduceSub, Int.reduceMul, Int.reduceNeg, Int.reduceToNat, hE, hci'] <;> rfl)); (first | (with_reducible (first | refine way_tt ?_ | refine way_ff ?_ | refine wayc_t ?_ | refine wayc_f ?_ | refine way_tf ?_ | refine way_ft ?_ | refine way_t ?_); try simp only [Env.put]) | with_reducible refine (?_ : WQ _ _ _ _ _ _)))
      | fail
    exact ⟨.inr trivial, _, (by simp only [resOf, resAll, resOne, Env.get, Nat.reduceEqDiff, ↓reduceIte] <;> rfl), s.next, rfl, hg, f1, Nat.le_refl _⟩

theorem muxV {s : Store} {g : Nat} {G : Gr} {ids : List Nat} {da db : D} {A B : List Nat} {c w : Nat} (hG : GA s g G ids) (hw : G.WF) (hA : VI s ids G da A) (hB : VI s ids G db B) (hAl : A.length = w) (hBl : B.length = w) (hwl : w ≤ 16) (hc : c < 2 * G.nodes.length) (hL : G.nodes.length + 200 < 200000) :
    EvP vfs 61 [.ptr g 0, .int .i64 (c : Int), da, db] s (GV s g ids G 48 w fun m i => ifAt (G.ev m c) (bitsOf G m A) (bitsOf G m B) i) := by
  have hla := hA.rd.1.lenI
  rw [hAl] at hla
  have hGl := hw.len
  have hlt := hG.lt
  have a1 : ((0 : Int) ≤ (w : Int)) = True := eq_true (by omega)
  have a2 : ((((8 : Nat) : Int) * (w : Int)) ≤ 2 ^ 47) = True := eq_true (by omega)
  have a3 : ((w : Int) < 2 ^ 62) = True := eq_true (by omega)
  refine evp_of (vf := vf61) rfl ?_
  simp only [vf61, List.map, List.getD, List.getElem?_cons_zero, List.getElem?_cons_succ, List.getElem?_nil, Option.getD]
  repeat first
    | with_reducible (first | refine vw_seq ?_ | refine vw_block ?_ | refine vw_rg ?_)
    | ((with_reducible apply vq_free'); (focus rfl))
    | ((with_reducible (first | refine vq_nil ?_ | refine vw_skip ?_ | refine vw_exit ?_ | refine vw_ret ?_)); simp only [Env.keep, Env.get, Env.ev, List.map, Nat.reduceEqDiff, ↓reduceIte, Then, Out'])
    | ((with_reducible (first | apply vq_p | apply vq_r | apply vq_a | apply vq_w | apply vq_g | apply vw_condm)); (focus (simp (disch := (first | with_reducible assumption | omega | ((repeat (first | rw [Store.next_push] | rw [Store.next_set])) <;> omega) | fail)) only [go_sem, Nat.reduceEqDiff, Nat.reduceAdd, Nat.reduceMul, Nat.reduceLeDiff, ↓reduceIte, reduceCtorEq, Int.reduceEq, Int.reduceLT, Int.reduceLE, Int.reduceAdd, Int.reduceSub, Int.reduceMul, Int.reduceNeg, Int.reduceToNat, hla, a1, a2, a3, zerosI, Int.le_refl] <;> rfl)); (first | (with_reducible (first | refine way_tt ?_ | refine way_ff ?_ | refine wayc_t ?_ | refine wayc_f ?_ | refine way_tf ?_ | refine way_ft ?_ | refine way_t ?_); try simp only [Env.put]) | with_reducible refine (?_ : WQ _ _ _ _ _ _)))
    | fail
  refine vw_loop_inv (fun k env s1 => ∃ (i : Nat) (L : List Nat) (G1 : Gr) (ids1 : List Nat), i ≤ w ∧ k = w - i ∧ L.length = i ∧ GrStep s g ids s1 G1 ids1 ∧ Gr.Ok G G1 (3 * i) ∧ s1.get s.next = some (.cells (cellsI (fillL L w))) ∧ s.next ∉ ids1 ∧ (∀ e ∈ L, e < 2 * G1.nodes.length) ∧
    (∀ m j, j < i → bitsOf G1 m L j = ifAt (G.ev m c) (bitsOf G m A) (bitsOf G m B) j) ∧
    (env.get 0 = .ptr g 0 ∧ env.get 1 = .int .i64 (c : Int) ∧ env.get 2 = da ∧ env.get 3 = db ∧ env.get 9 = .arr s.next 0 w 1 ∧ env.get 15 = .int .i64 (w : Int) ∧ env.get 16 = .int .i64 (i : Int))) ?_ w _ _
    ⟨0, [], G, ids, Nat.zero_le _, by omega, rfl, hG.newer (Fr.push _), Gr.Ok.refl hw, by rw [fillL_nil]; exact get_push_new rfl, fun h => by have := hlt _ h; omega, by simp, fun m j hj => by omega, by simp [Env.get, Made.at]⟩
  rintro k env s1 ⟨i, L, G1, ids1, hi, rfl, hLl, hst, hok, hg, hn, hLt, hLv, hE⟩
  have hle := hok.ext.le
  have hlen := hok.len
  by_cases hci : i < w
  · have hci' : (i : Int) < (w : Int) := by omega
    have hs := i64_succ (i := i) (by omega)
    obtain ⟨pa, pa1, pa2⟩ := (hA.step hst hok.ext).rd.1.idxI (i := i) (by omega)
    obtain ⟨pb, pb1, pb2⟩ := (hB.step hst hok.ext).rd.1.idxI (i := i) (by omega)
    have hai := hA.lt _ (List.getElem_mem (show i < A.length by omega))
    have hbi := hB.lt _ (List.getElem_mem (show i < B.length by omega))
    have eA : ∀ m, bitsOf G m A i = G.ev m A[i] := fun m => by unfold bitsOf; rw [getD_el]
    have eB : ∀ m, bitsOf G m B i = G.ev m B[i] := fun m => by unfold bitsOf; rw [getD_el]
    generalize hxa : A[i] = x at *
    generalize hxb : B[i] = y at *
    repeat first
      | (apply vq_ld; (focus (simp only [Env.ev, Env.get, Nat.reduceEqDiff, ↓reduceIte]; rfl)); (focus (first | exact pa2 | exact pb2)))
      | with_reducible (first | refine vw_seq ?_ | refine vw_block ?_ | refine vw_rg ?_)
      | ((with_reducible apply vq_free'); (focus rfl))
      | ((with_reducible (first | refine vq_nil ?_ | refine vw_skip ?_ | refine vw_exit ?_ | refine vw_ret ?_)); simp only [Env.keep, Env.get, Env.ev, List.map, Nat.reduceEqDiff, ↓reduceIte, Then, Out'])
      | ((with_reducible (first | apply vq_p | apply vq_r | apply vq_a | apply vq_w | apply vq_g | apply vw_condm)); (focus (simp (disch := (first | with_reducible assumption | omega | ((repeat (first | rw [Store.next_push] | rw [Store.next_set])) <;> omega) | fail)) only [go_sem, Nat.reduceEqDiff, Nat.reduceAdd, Nat.reduceMul, Nat.reduceLeDiff, ↓reduceIte, reduceCtorEq, Int.reduceEq, Int.reduceLT, Int.reduceLE, Int.reduceAdd, Int.reduceSub, Int.reduceMul, Int.reduceNeg, Int.reduceToNat, hE, hci', pa1, pb1] <;> rfl)); (first | (with_reducible (first | refine way_tt ?_ | refine way_ff ?_ | refine wayc_t ?_ | refine wayc_f ?_ | refine way_tf ?_ | refine way_ft ?_ | refine way_t ?_); try simp only [Env.put]) | with_reducible refine (?_ : WQ _ _ _ _ _ _)))
      | fail
    apply vq_evpf (muxS hst.1 hok.wf (c := c) (a := x) (b := y) (by omega) (by omega) (by omega) (by omega))
    · simp only [Env.evL, Env.ev, Env.get, Nat.reduceEqDiff, ↓reduceIte, hE]
    rintro q s2 ⟨e1, G2, ids2, rfl, j2, o2, l2, v2⟩
    have n2 := o2.ext.le
    have m2 := o2.len
    have hst2 := hst.trans j2
    have hsl := get_lts hg
    have hn2 : s.next ∉ ids2 := fun h => by
      rcases j2.2.2 _ h with h | h
      · exact hn h
      · omega
    have hg2 : s2.get s.next = some (.cells (cellsI (fillL L w))) := by rw [j2.2.1.2 _ hsl hn, hg]
    have hfl := fillL_len (l := L) (w := w) (by omega)
    have hfs : (fillL L w).set i e1 = fillL (L ++ [e1]) w := by rw [← hLl]; exact fillL_set (by omega)
    repeat first
      | (apply vq_wI hg2 (by omega : i < (fillL L w).length); (focus rfl); (focus rfl))
      | with_reducible (first | refine vw_seq ?_ | refine vw_block ?_ | refine vw_rg ?_)
      | ((with_reducible apply vq_free'); (focus rfl))
      | ((with_reducible (first | refine vq_nil ?_ | refine vw_skip ?_ | refine vw_exit ?_ | refine vw_ret ?_)); simp only [Env.keep, Env.get, Env.ev, List.map, Nat.reduceEqDiff, ↓reduceIte, Then, Out'])
      | ((with_reducible (first | apply vq_p | apply vq_r | apply vq_a | apply vq_w | apply vq_g | apply vw_condm)); (focus (simp (disch := (first | with_reducible assumption | omega | ((repeat (first | rw [Store.next_push] | rw [Store.next_set])) <;> omega) | fail)) only [go_sem, Nat.reduceEqDiff, Nat.reduceAdd, Nat.reduceMul, Nat.reduceLeDiff, ↓reduceIte, reduceCtorEq, Int.reduceEq, Int.reduceLT, Int.reduceLE, Int.reduceAdd, Int.reduceSub, Int.reduceMul, Int.reduceNeg, Int.reduceToNat, hE, hs] <;> rfl)); (first | (with_reducible (first | refine way_tt ?_ | refine way_ff ?_ | refine wayc_t ?_ | refine wayc_f ?_ | refine way_tf ?_ | refine way_ft ?_ | refine way_t ?_); try simp only [Env.put]) | with_reducible refine (?_ : WQ _ _ _ _ _ _)))
      | fail
    refine ⟨w - (i + 1), by omega, i + 1, L ++ [e1], G2, ids2, by omega, rfl, by simp; omega, hst2.wr _ hn2 (Nat.le_refl _), (hok.trans o2).weaken (by omega), by rw [get_set_eq (get_lts hg2), hfs], hn2, ?_, ?_, (by simp only [Env.get, Nat.reduceEqDiff, ↓reduceIte, hE, and_self])⟩
    · intro e he
      rcases List.mem_append.1 he with he | he
      · have := hLt e he; omega
      · simp at he; subst he; omega
    · intro m j hj
      unfold bitsOf
      rw [getD_snoc]
      by_cases hji : j < i
      · rw [if_pos (by omega)]
        have h1 := hLv m j hji
        unfold bitsOf at h1
        rw [← h1]
        exact o2.ext.ev (getD_lt hLt (by omega) j)
      · have : j = i := by omega
        subst this
        rw [if_neg (by omega), if_pos (by omega)]
        have c1 := hok.get (m := m) (e := c) (by omega)
        have x1 := hok.get (m := m) (e := x) (by omega)
        have y1 := hok.get (m := m) (e := y) (by omega)
        simp only [v2, c1, x1, y1]
        show _ = ifAt (G.ev m c) (bitsOf G m A) (bitsOf G m B) j
        rw [ifAt, eA, eB]
  · have hci' : ¬ (i : Int) < (w : Int) := by omega
    obtain rfl : i = w := by omega
    rw [fillL_all hLl] at hg
    repeat first
      | with_reducible (first | refine vw_seq ?_ | refine vw_block ?_ | refine vw_rg ?_)
      | ((with_reducible apply vq_free'); (focus rfl))
      | ((with_reducible (first | refine vq_nil ?_ | refine vw_skip ?_ | refine vw_exit ?_ | refine vw_ret ?_)); simp only [Env.keep, Env.get, Env.ev, List.map, Nat.reduceEqDiff, ↓reduceIte, Then, Out'])
      | ((with_reducible (first | apply vq_p | apply vq_r | apply vq_a | apply vq_w | apply vq_g | apply vw_condm)); (focus (simp (disch := (first | with_reducible assumption | omega | ((repeat (first | rw [Store.next_push] | rw [Store.next_set])) <;> omega) | fail)) only [go_sem, Nat.reduceEqDiff, Nat.reduceAdd, Nat.reduceMul, Nat.reduceLeDiff, ↓reduceIte, reduceCtorEq, Int.reduceEq, Int.reduceLT, Int.reduceLE, Int.reduceAdd, Int.reduceSub, Int.reduceMul, Int.reduceNeg, Int.reduceToNat, hE, hci'] <;> rfl)); (first | (with_reducible (first | refine way_tt ?_ | refine way_ff ?_ | refine wayc_t ?_ | refine wayc_f ?_ | refine way_tf ?_ | refine way_ft ?_ | refine way_t ?_); try simp only [Env.put]) | with_reducible refine (?_ : WQ _ _ _ _ _ _)))
      | fail
    refine ⟨.inr trivial, _, (by simp only [resOf, resAll, resOne, Env.get, Nat.reduceEqDiff, ↓reduceIte] <;> rfl), L, G1, ids1, s.next, rfl, hg, hLl, hn, Nat.le_refl _, hst, hok.weaken (by omega), hLt, hLv⟩
end Go.Proofs.Ytedoacfoglbfeaa
