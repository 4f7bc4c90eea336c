/- Vectors of edges: sum, not, mux, walked. -/
import Derived.Test.YtedoacfoglbfeaaG5
import Derived.Test.YtedoacfoglbfeaaVkVec
namespace Go.Proofs.Ytedoacfoglbfeaa
open Go.V
set_option maxRecDepth 100000
set_option maxHeartbeats 4000000
set_option linter.unusedSimpArgs false
set_option linter.unusedVariables false

theorem getD_el {l : List Nat} {i : Nat} (h : i < l.length) : l[i] = l.getD i 0 := by simp [List.getD, h]

theorem sumS {s : Store} {g : Nat} {G : Gr} {ids : List Nat} {da db : D} {A B : List Nat} {c w : Nat} (hG : GA s g G ids) (hw : G.WF) (hA : VI s ids G da A) (hB : VI s ids G db B) (hAl : A.length = w) (hBl : B.length = w) (hwl : w ≤ 16) (hc : c < 2 * G.nodes.length) (hL : G.nodes.length + 200 < 200000) :
    EvP vfs 62 [.ptr g 0, da, db, .int .i64 (c : Int)] s (GV s g ids G 144 w fun m i => sumAt (bitsOf G m A) (bitsOf G m B) (G.ev m c) i) := by
  have hla := hA.rd.1.lenI
  rw [hAl] at hla
  have hGl := hw.len
  have hlt := hG.lt
  have a1 : ((0 : Int) ≤ (w : Int)) = True := eq_true (by omega)
  have a2 : ((((8 : Nat) : Int) * (w : Int)) ≤ 2 ^ 47) = True := eq_true (by omega)
  have a3 : ((w : Int) < 2 ^ 62) = True := eq_true (by omega)
  refine evp_of (vf := vf62) rfl ?_
  simp only [vf62, List.map, List.getD, List.getElem?_cons_zero, List.getElem?_cons_succ, List.getElem?_nil, Option.getD]
  repeat first
    | with_reducible (first | refine vw_seq ?_ | refine vw_block ?_ | refine vw_rg ?_)
    | ((with_reducible apply vq_free'); (focus rfl))
    | ((with_reducible (first | refine vq_nil ?_ | refine vw_skip ?_ | refine vw_exit ?_ | refine vw_ret ?_)); simp only [Env.keep, Env.get, Env.ev, List.map, Nat.reduceEqDiff, ↓reduceIte, Then, Out'])
    | ((with_reducible (first | apply vq_p | apply vq_r | apply vq_a | apply vq_w | apply vq_g | apply vw_condm)); (focus (simp (disch := (first | with_reducible assumption | omega | ((repeat (first | rw [Store.next_push] | rw [Store.next_set])) <;> omega) | fail)) only [go_sem, Nat.reduceEqDiff, Nat.reduceAdd, Nat.reduceMul, Nat.reduceLeDiff, ↓reduceIte, reduceCtorEq, Int.reduceEq, Int.reduceLT, Int.reduceLE, Int.reduceAdd, Int.reduceSub, Int.reduceMul, Int.reduceNeg, Int.reduceToNat, hla, a1, a2, a3, zerosI, Int.le_refl] <;> rfl)); (first | (with_reducible (first | refine way_tt ?_ | refine way_ff ?_ | refine wayc_t ?_ | refine wayc_f ?_ | refine way_tf ?_ | refine way_ft ?_ | refine way_t ?_); try simp only [Env.put]) | with_reducible refine (?_ : WQ _ _ _ _ _ _)))
    | fail
  refine vw_loop_inv (fun k env s1 => ∃ (i c1 : Nat) (L : List Nat) (G1 : Gr) (ids1 : List Nat), i ≤ w ∧ k = w - i ∧ L.length = i ∧ GrStep s g ids s1 G1 ids1 ∧ Gr.Ok G G1 (9 * i) ∧ s1.get s.next = some (.cells (cellsI (fillL L w))) ∧ s.next ∉ ids1 ∧ c1 < 2 * G1.nodes.length ∧ (∀ e ∈ L, e < 2 * G1.nodes.length) ∧
    (∀ m, G1.ev m c1 = carryAt (bitsOf G m A) (bitsOf G m B) (G.ev m c) i) ∧ (∀ m j, j < i → bitsOf G1 m L j = sumAt (bitsOf G m A) (bitsOf G m B) (G.ev m c) j) ∧
    (env.get 0 = .ptr g 0 ∧ env.get 1 = da ∧ env.get 2 = db ∧ env.get 3 = .int .i64 (c1 : Int) ∧ env.get 9 = .arr s.next 0 w 1 ∧ env.get 16 = .int .i64 (w : Int) ∧ env.get 17 = .int .i64 (i : Int))) ?_ w _ _
    ⟨0, c, [], G, ids, Nat.zero_le _, by omega, rfl, hG.newer (Fr.push _), Gr.Ok.refl hw, by rw [fillL_nil]; exact get_push_new rfl, fun h => by have := hlt _ h; omega, hc, by simp, fun m => rfl, fun m j hj => by omega, by simp [Env.get, Made.at]⟩
  rintro k env s1 ⟨i, c1, L, G1, ids1, hi, rfl, hLl, hst, hok, hg, hn, hc1, hLt, hcv, hLv, hE⟩
  have hle := hok.ext.le
  have hlen := hok.len
  by_cases hci : i < w
  · have hci' : (i : Int) < (w : Int) := by omega
    have hs := i64_succ (i := i) (by omega)
    obtain ⟨pa, pa1, pa2⟩ := (hA.step hst hok.ext).rd.1.idxI (i := i) (by omega)
    obtain ⟨pb, pb1, pb2⟩ := (hB.step hst hok.ext).rd.1.idxI (i := i) (by omega)
    have hai := hA.lt _ (List.getElem_mem (show i < A.length by omega))
    have hbi := hB.lt _ (List.getElem_mem (show i < B.length by omega))
    have eA : ∀ m, bitsOf G m A i = G.ev m A[i] := fun m => by unfold bitsOf; rw [getD_el]
    have eB : ∀ m, bitsOf G m B i = G.ev m B[i] := fun m => by unfold bitsOf; rw [getD_el]
    generalize hxa : A[i] = x at *
    generalize hxb : B[i] = y at *
    repeat first
      | (apply vq_ld; (focus (simp only [Env.ev, Env.get, Nat.reduceEqDiff, ↓reduceIte]; rfl)); (focus (first | exact pa2 | exact pb2)))
      | with_reducible (first | refine vw_seq ?_ | refine vw_block ?_ | refine vw_rg ?_)
      | ((with_reducible apply vq_free'); (focus rfl))
      | ((with_reducible (first | refine vq_nil ?_ | refine vw_skip ?_ | refine vw_exit ?_ | refine vw_ret ?_)); simp only [Env.keep, Env.get, Env.ev, List.map, Nat.reduceEqDiff, ↓reduceIte, Then, Out'])
      | ((with_reducible (first | apply vq_p | apply vq_r | apply vq_a | apply vq_w | apply vq_g | apply vw_condm)); (focus (simp (disch := (first | with_reducible assumption | omega | ((repeat (first | rw [Store.next_push] | rw [Store.next_set])) <;> omega) | fail)) only [go_sem, Nat.reduceEqDiff, Nat.reduceAdd, Nat.reduceMul, Nat.reduceLeDiff, ↓reduceIte, reduceCtorEq, Int.reduceEq, Int.reduceLT, Int.reduceLE, Int.reduceAdd, Int.reduceSub, Int.reduceMul, Int.reduceNeg, Int.reduceToNat, hE, hci', pa1, pb1] <;> rfl)); (first | (with_reducible (first | refine way_tt ?_ | refine way_ff ?_ | refine wayc_t ?_ | refine wayc_f ?_ | refine way_tf ?_ | refine way_ft ?_ | refine way_t ?_); try simp only [Env.put]) | with_reducible refine (?_ : WQ _ _ _ _ _ _)))
      | fail
    apply vq_evpf (xorS hst.1 hok.wf (a := x) (b := y) (by omega) (by omega) (by omega))
    · simp only [Env.evL, Env.ev, Env.get, Nat.reduceEqDiff, ↓reduceIte, hE]
    rintro q s2 ⟨e1, G2, ids2, rfl, j2, o2, l2, v2⟩
    have n2 := o2.ext.le
    have m2 := o2.len
    have hst2 := hst.trans j2
    repeat first
      | with_reducible (first | refine vw_seq ?_ | refine vw_block ?_ | refine vw_rg ?_)
      | ((with_reducible apply vq_free'); (focus rfl))
      | ((with_reducible (first | refine vq_nil ?_ | refine vw_skip ?_ | refine vw_exit ?_ | refine vw_ret ?_)); simp only [Env.keep, Env.get, Env.ev, List.map, Nat.reduceEqDiff, ↓reduceIte, Then, Out'])
      | ((with_reducible (first | apply vq_p | apply vq_r | apply vq_a | apply vq_w | apply vq_g | apply vw_condm)); (focus (simp (disch := (first | with_reducible assumption | omega | ((repeat (first | rw [Store.next_push] | rw [Store.next_set])) <;> omega) | fail)) only [go_sem, Nat.reduceEqDiff, Nat.reduceAdd, Nat.reduceMul, Nat.reduceLeDiff, ↓reduceIte, reduceCtorEq, Int.reduceEq, Int.reduceLT, Int.reduceLE, Int.reduceAdd, Int.reduceSub, Int.reduceMul, Int.reduceNeg, Int.reduceToNat, hE] <;> rfl)); (first | (with_reducible (first | refine way_tt ?_ | refine way_ff ?_ | refine wayc_t ?_ | refine wayc_f ?_ | refine way_tf ?_ | refine way_ft ?_ | refine way_t ?_); try simp only [Env.put]) | with_reducible refine (?_ : WQ _ _ _ _ _ _)))
      | fail
    apply vq_evpf (xorS j2.1 o2.wf (a := e1) (b := c1) l2 (by omega) (by omega))
    · simp only [Env.evL, Env.ev, Env.get, Nat.reduceEqDiff, ↓reduceIte, hE]
    rintro q s3 ⟨e2, G3, ids3, rfl, j3, o3, l3, v3⟩
    have n3 := o3.ext.le
    have m3 := o3.len
    have hst3 := hst2.trans j3
    have hsl := get_lts hg
    have hn2 : s.next ∉ ids2 := fun h => by
      rcases j2.2.2 _ h with h | h
      · exact hn h
      · omega
    have hg2 : s2.get s.next = some (.cells (cellsI (fillL L w))) := by rw [j2.2.1.2 _ hsl hn, hg]
    have hn3 : s.next ∉ ids3 := fun h => by
      rcases j3.2.2 _ h with h | h
      · exact hn2 h
      · have := get_lts hg2; omega
    have hg3 : s3.get s.next = some (.cells (cellsI (fillL L w))) := by rw [j3.2.1.2 _ (get_lts hg2) hn2, hg2]
    have hfl := fillL_len (l := L) (w := w) (by omega)
    have hfs : (fillL L w).set i e2 = fillL (L ++ [e2]) w := by rw [← hLl]; exact fillL_set (by omega)
    repeat first
      | (apply vq_wI hg3 (by omega : i < (fillL L w).length); (focus rfl); (focus rfl))
      | with_reducible (first | refine vw_seq ?_ | refine vw_block ?_ | refine vw_rg ?_)
      | ((with_reducible apply vq_free'); (focus rfl))
      | ((with_reducible (first | refine vq_nil ?_ | refine vw_skip ?_ | refine vw_exit ?_ | refine vw_ret ?_)); simp only [Env.keep, Env.get, Env.ev, List.map, Nat.reduceEqDiff, ↓reduceIte, Then, Out'])
      | ((with_reducible (first | apply vq_p | apply vq_r | apply vq_a | apply vq_w | apply vq_g | apply vw_condm)); (focus (simp (disch := (first | with_reducible assumption | omega | ((repeat (first | rw [Store.next_push] | rw [Store.next_set])) <;> omega) | fail)) only [go_sem, Nat.reduceEqDiff, Nat.reduceAdd, Nat.reduceMul, Nat.reduceLeDiff, ↓reduceIte, reduceCtorEq, Int.reduceEq, Int.reduceLT, Int.reduceLE, Int.reduceAdd, Int.reduceSub, Int.reduceMul, Int.reduceNeg, Int.reduceToNat, hE] <;> rfl)); (first | (with_reducible (first | refine way_tt ?_ | refine way_ff ?_ | refine wayc_t ?_ | refine wayc_f ?_ | refine way_tf ?_ | refine way_ft ?_ | refine way_t ?_); try simp only [Env.put]) | with_reducible refine (?_ : WQ _ _ _ _ _ _)))
      | fail
    rw [hfs]
    generalize hs4 : s3.set s.next (some (.cells (cellsI (fillL (L ++ [e2]) w)))) = s4
    have hst4 : GrStep s g ids s4 G3 ids3 := by rw [← hs4]; exact hst3.wr _ hn3 (Nat.le_refl _)
    have hg4 : s4.get s.next = some (.cells (cellsI (fillL (L ++ [e2]) w))) := by rw [← hs4]; exact get_set_eq (get_lts hg3)
    have hok3 : Gr.Ok G G3 (9 * i + 3 + 3) := (hok.trans o2).trans o3
    obtain ⟨qa, qa1, qa2⟩ := (hA.step hst4 hok3.ext).rd.1.idxI (i := i) (by omega)
    obtain ⟨qb, qb1, qb2⟩ := (hB.step hst4 hok3.ext).rd.1.idxI (i := i) (by omega)
    rw [hxa] at qa2
    rw [hxb] at qb2
    repeat first
      | (apply vq_ld; (focus (simp only [Env.ev, Env.get, Nat.reduceEqDiff, ↓reduceIte]; rfl)); (focus (first | exact qa2 | exact qb2)))
      | with_reducible (first | refine vw_seq ?_ | refine vw_block ?_ | refine vw_rg ?_)
      | ((with_reducible apply vq_free'); (focus rfl))
      | ((with_reducible (first | refine vq_nil ?_ | refine vw_skip ?_ | refine vw_exit ?_ | refine vw_ret ?_)); simp only [Env.keep, Env.get, Env.ev, List.map, Nat.reduceEqDiff, ↓reduceIte, Then, Out'])
      | ((with_reducible (first | apply vq_p | apply vq_r | apply vq_a | apply vq_w | apply vq_g | apply vw_condm)); (focus (simp (disch := (first | with_reducible assumption | omega | ((repeat (first | rw [Store.next_push] | rw [Store.next_set])) <;> omega) | fail)) only [go_sem, Nat.reduceEqDiff, Nat.reduceAdd, Nat.reduceMul, Nat.reduceLeDiff, ↓reduceIte, reduceCtorEq, Int.reduceEq, Int.reduceLT, Int.reduceLE, Int.reduceAdd, Int.reduceSub, Int.reduceMul, Int.reduceNeg, Int.reduceToNat, hE, qa1, qb1] <;> rfl)); (first | (with_reducible (first | refine way_tt ?_ | refine way_ff ?_ | refine wayc_t ?_ | refine wayc_f ?_ | refine way_tf ?_ | refine way_ft ?_ | refine way_t ?_); try simp only [Env.put]) | with_reducible refine (?_ : WQ _ _ _ _ _ _)))
      | fail
    apply vq_evpf (andS hst4.1 hok3.wf (a := x) (b := y) (by omega) (by omega) (by omega))
    · simp only [Env.evL, Env.ev, Env.get, Nat.reduceEqDiff, ↓reduceIte, hE]
    rintro q s5 ⟨e3, G5, ids5, rfl, j5, o5, l5, v5⟩
    have n5 := o5.ext.le
    have m5 := o5.len
    repeat first
      | with_reducible (first | refine vw_seq ?_ | refine vw_block ?_ | refine vw_rg ?_)
      | ((with_reducible apply vq_free'); (focus rfl))
      | ((with_reducible (first | refine vq_nil ?_ | refine vw_skip ?_ | refine vw_exit ?_ | refine vw_ret ?_)); simp only [Env.keep, Env.get, Env.ev, List.map, Nat.reduceEqDiff, ↓reduceIte, Then, Out'])
      | ((with_reducible (first | apply vq_p | apply vq_r | apply vq_a | apply vq_w | apply vq_g | apply vw_condm)); (focus (simp (disch := (first | with_reducible assumption | omega | ((repeat (first | rw [Store.next_push] | rw [Store.next_set])) <;> omega) | fail)) only [go_sem, Nat.reduceEqDiff, Nat.reduceAdd, Nat.reduceMul, Nat.reduceLeDiff, ↓reduceIte, reduceCtorEq, Int.reduceEq, Int.reduceLT, Int.reduceLE, Int.reduceAdd, Int.reduceSub, Int.reduceMul, Int.reduceNeg, Int.reduceToNat, hE] <;> rfl)); (first | (with_reducible (first | refine way_tt ?_ | refine way_ff ?_ | refine wayc_t ?_ | refine wayc_f ?_ | refine way_tf ?_ | refine way_ft ?_ | refine way_t ?_); try simp only [Env.put]) | with_reducible refine (?_ : WQ _ _ _ _ _ _)))
      | fail
    apply vq_evpf (andS j5.1 o5.wf (a := e1) (b := c1) (by omega) (by omega) (by omega))
    · simp only [Env.evL, Env.ev, Env.get, Nat.reduceEqDiff, ↓reduceIte, hE]
    rintro q s6 ⟨e4, G6, ids6, rfl, j6, o6, l6, v6⟩
    have n6 := o6.ext.le
    have m6 := o6.len
    repeat first
      | with_reducible (first | refine vw_seq ?_ | refine vw_block ?_ | refine vw_rg ?_)
      | ((with_reducible apply vq_free'); (focus rfl))
      | ((with_reducible (first | refine vq_nil ?_ | refine vw_skip ?_ | refine vw_exit ?_ | refine vw_ret ?_)); simp only [Env.keep, Env.get, Env.ev, List.map, Nat.reduceEqDiff, ↓reduceIte, Then, Out'])
      | ((with_reducible (first | apply vq_p | apply vq_r | apply vq_a | apply vq_w | apply vq_g | apply vw_condm)); (focus (simp (disch := (first | with_reducible assumption | omega | ((repeat (first | rw [Store.next_push] | rw [Store.next_set])) <;> omega) | fail)) only [go_sem, Nat.reduceEqDiff, Nat.reduceAdd, Nat.reduceMul, Nat.reduceLeDiff, ↓reduceIte, reduceCtorEq, Int.reduceEq, Int.reduceLT, Int.reduceLE, Int.reduceAdd, Int.reduceSub, Int.reduceMul, Int.reduceNeg, Int.reduceToNat, hE] <;> rfl)); (first | (with_reducible (first | refine way_tt ?_ | refine way_ff ?_ | refine wayc_t ?_ | refine wayc_f ?_ | refine way_tf ?_ | refine way_ft ?_ | refine way_t ?_); try simp only [Env.put]) | with_reducible refine (?_ : WQ _ _ _ _ _ _)))
      | fail
    apply vq_evpf (orS j6.1 o6.wf (a := e3) (b := e4) (by omega) l6 (by omega))
    · simp only [Env.evL, Env.ev, Env.get, Nat.reduceEqDiff, ↓reduceIte, hE]
    rintro q s7 ⟨e5, G7, ids7, rfl, j7, o7, l7, v7⟩
    have n7 := o7.ext.le
    have hst7 := ((hst4.trans j5).trans j6).trans j7
    have hs4n := get_lts hg4
    have hk5 : s.next ∉ ids5 ∧ s5.get s.next = some (.cells (cellsI (fillL (L ++ [e2]) w))) := by
      refine ⟨fun h => ?_, by rw [j5.2.1.2 _ hs4n hn3, hg4]⟩
      rcases j5.2.2 _ h with h | h
      · exact hn3 h
      · omega
    have hk6 : s.next ∉ ids6 ∧ s6.get s.next = some (.cells (cellsI (fillL (L ++ [e2]) w))) := by
      refine ⟨fun h => ?_, by rw [j6.2.1.2 _ (get_lts hk5.2) hk5.1, hk5.2]⟩
      rcases j6.2.2 _ h with h | h
      · exact hk5.1 h
      · have := get_lts hk5.2; omega
    have hk7 : s.next ∉ ids7 ∧ s7.get s.next = some (.cells (cellsI (fillL (L ++ [e2]) w))) := by
      refine ⟨fun h => ?_, by rw [j7.2.1.2 _ (get_lts hk6.2) hk6.1, hk6.2]⟩
      rcases j7.2.2 _ h with h | h
      · exact hk6.1 h
      · have := get_lts hk6.2; omega
    repeat first
      | with_reducible (first | refine vw_seq ?_ | refine vw_block ?_ | refine vw_rg ?_)
      | ((with_reducible apply vq_free'); (focus rfl))
      | ((with_reducible (first | refine vq_nil ?_ | refine vw_skip ?_ | refine vw_exit ?_ | refine vw_ret ?_)); simp only [Env.keep, Env.get, Env.ev, List.map, Nat.reduceEqDiff, ↓reduceIte, Then, Out'])
      | ((with_reducible (first | apply vq_p | apply vq_r | apply vq_a | apply vq_w | apply vq_g | apply vw_condm)); (focus (simp (disch := (first | with_reducible assumption | omega | ((repeat (first | rw [Store.next_push] | rw [Store.next_set])) <;> omega) | fail)) only [go_sem, Nat.reduceEqDiff, Nat.reduceAdd, Nat.reduceMul, Nat.reduceLeDiff, ↓reduceIte, reduceCtorEq, Int.reduceEq, Int.reduceLT, Int.reduceLE, Int.reduceAdd, Int.reduceSub, Int.reduceMul, Int.reduceNeg, Int.reduceToNat, hE, hs] <;> rfl)); (first | (with_reducible (first | refine way_tt ?_ | refine way_ff ?_ | refine wayc_t ?_ | refine wayc_f ?_ | refine way_tf ?_ | refine way_ft ?_ | refine way_t ?_); try simp only [Env.put]) | with_reducible refine (?_ : WQ _ _ _ _ _ _)))
      | fail
    refine ⟨w - (i + 1), by omega, i + 1, e5, L ++ [e2], G7, ids7, by omega, rfl, by simp; omega, hst7, (((hok3.trans o5).trans o6).trans o7).weaken (by omega), hk7.2, hk7.1, l7, ?_, ?_, ?_, (by simp only [Env.get, Nat.reduceEqDiff, ↓reduceIte, hE, and_self])⟩
    · intro e he
      rcases List.mem_append.1 he with he | he
      · have := hLt e he; omega
      · simp at he; subst he; omega
    · intro m
      have x13 := hok3.get (m := m) (e := x) (by omega)
      have y13 := hok3.get (m := m) (e := y) (by omega)
      have q1 : G5.ev m e1 = G2.ev m e1 := (o3.ext.trans o5.ext).ev l2
      have q2 : G5.ev m c1 = G1.ev m c1 := ((o2.ext.trans o3.ext).trans o5.ext).ev hc1
      have q3 : G6.ev m e3 = G5.ev m e3 := o6.ext.ev l5
      have x1 := hok.get (m := m) (e := x) (by omega)
      have y1 := hok.get (m := m) (e := y) (by omega)
      simp only [v7, q3, v5, v6, q1, v2, q2, hcv, x13, y13, x1, y1, carryAt, eA, eB]
    · intro m j hj
      have hx37 : G3.Ext G7 := (o5.ext.trans o6.ext).trans o7.ext
      unfold bitsOf
      rw [getD_snoc]
      by_cases hji : j < i
      · rw [if_pos (by omega)]
        have h1 := hLv m j hji
        unfold bitsOf at h1
        rw [← h1]
        exact ((o2.ext.trans o3.ext).trans hx37).ev (getD_lt hLt (by omega) j)
      · have : j = i := by omega
        subst this
        rw [if_neg (by omega), if_pos (by omega), hx37.ev l3]
        have x1 := hok.get (m := m) (e := x) (by omega)
        have y1 := hok.get (m := m) (e := y) (by omega)
        simp only [v3, v2, o2.ext.ev hc1, hcv, x1, y1]
        show _ = sumAt (bitsOf G m A) (bitsOf G m B) (G.ev m c) j
        rw [sumAt, eA, eB]
  · have hci' : ¬ (i : Int) < (w : Int) := by omega
    obtain rfl : i = w := by omega
    rw [fillL_all hLl] at hg
    repeat first
      | with_reducible (first | refine vw_seq ?_ | refine vw_block ?_ | refine vw_rg ?_)
      | ((with_reducible apply vq_free'); (focus rfl))
      | ((with_reducible (first | refine vq_nil ?_ | refine vw_skip ?_ | refine vw_exit ?_ | refine vw_ret ?_)); simp only [Env.keep, Env.get, Env.ev, List.map, Nat.reduceEqDiff, ↓reduceIte, Then, Out'])
      | ((with_reducible (first | apply vq_p | apply vq_r | apply vq_a | apply vq_w | apply vq_g | apply vw_condm)); (focus (simp (disch := (first | with_reducible assumption | omega | ((repeat (first | rw [Store.next_push] | rw [Store.next_set])) <;> omega) | fail)) only [go_sem, Nat.reduceEqDiff, Nat.reduceAdd, Nat.reduceMul, Nat.reduceLeDiff, ↓reduceIte, reduceCtorEq, Int.reduceEq, Int.reduceLT, Int.reduceLE, Int.reduceAdd, Int.reduceSub, Int.reduceMul, Int.reduceNeg, Int.reduceToNat, hE, hci'] <;> rfl)); (first | (with_reducible (first | refine way_tt ?_ | refine way_ff ?_ | refine wayc_t ?_ | refine wayc_f ?_ | refine way_tf ?_ | refine way_ft ?_ | refine way_t ?_); try simp only [Env.put]) | with_reducible refine (?_ : WQ _ _ _ _ _ _)))
      | fail
    refine ⟨.inr trivial, _, (by simp only [resOf, resAll, resOne, Env.get, Nat.reduceEqDiff, ↓reduceIte] <;> rfl), L, G1, ids1, s.next, rfl, hg, hLl, hn, Nat.le_refl _, hst, hok.weaken (by omega), hLt, hLv⟩
end Go.Proofs.Ytedoacfoglbfeaa
