/- The graph's Eval. -/
import Derived.Test.YtedoacfoglbfeaaG4
namespace Go.Proofs.Ytedoacfoglbfeaa
open Go.V
set_option maxRecDepth 100000
set_option maxHeartbeats 4000000
set_option linter.unusedSimpArgs false
set_option linter.unusedVariables false

theorem of_ok {s : Store} {vp vid e : Nat} {W : List Bool} (kv : s.get vp = some (.cells [.arr vid 0 W.length 1])) (kw : s.get vid = some (.cells (cellsB W))) (he : e / 2 < W.length) (hs : e < 1000000000) :
    Ev vfs 56 [.int .i64 (e : Int), .ptr vp 0] s (.bool (evL W e)) s := by
  have hq : (e : Int).tdiv 2 = ((e / 2 : Nat) : Int) := by rw [tdiv2 (by omega)]; omega
  have hr : (e : Int).tmod 2 = ((e % 2 : Nat) : Int) := by rw [Int.tmod_eq_emod_of_nonneg (by omega)]; omega
  have hw : IntKind.i64.wrap ((e / 2 : Nat) : Int) = ((e / 2 : Nat) : Int) := i64_id (by omega) (by omega)
  obtain ⟨p, p1, p2⟩ := (rdB_arr kw).idxB he
  refine ev_of (vf := vf56) rfl ?_
  simp only [vf56, List.map, List.getD, List.getElem?_cons_zero, List.getElem?_cons_succ, List.getElem?_nil, Option.getD]
  repeat first
    | (apply vq_p; (focus exact p1))
    | (apply vq_ld; (focus rfl); (focus exact p2))
    | with_reducible (first | refine vw_seq ?_ | refine vw_block ?_ | refine vw_rg ?_)
    | ((with_reducible apply vq_free'); (focus rfl))
    | ((with_reducible (first | refine vq_nil ?_ | refine vw_skip ?_ | refine vw_exit ?_ | refine vw_ret ?_)); simp only [Env.keep, Env.get, Env.ev, List.map, Nat.reduceEqDiff, ↓reduceIte, Then, Out'])
    | ((with_reducible (first | apply vq_p | apply vq_r | apply vq_a | apply vq_w | apply vq_g | apply vw_condm)); (focus (simp (disch := (first | with_reducible assumption | omega | ((repeat (first | rw [Store.next_push] | rw [Store.next_set])) <;> omega) | fail)) only [go_sem, Nat.reduceEqDiff, Nat.reduceAdd, Nat.reduceMul, Nat.reduceLeDiff, ↓reduceIte, reduceCtorEq, Int.reduceEq, Int.reduceLT, Int.reduceLE, Int.reduceAdd, Int.reduceSub, Int.reduceMul, Int.reduceNeg, Int.reduceToNat, kv, hq, hr, hw] <;> rfl)); (first | (with_reducible (first | refine way_tt ?_ | refine way_ff ?_ | refine wayc_t ?_ | refine wayc_f ?_ | refine way_tf ?_ | refine way_ft ?_ | refine way_t ?_); try simp only [Env.put]) | with_reducible refine (?_ : WQ _ _ _ _ _ _)))
    | fail
  refine ⟨.inr trivial, trivial, ?_⟩
  simp only [resOf, resAll, resOne, Env.get, Nat.reduceEqDiff, ↓reduceIte, evL, List.getD, List.getElem?_eq_getElem he, Option.getD_some, if_true]
  congr 2

theorem maxN {a b : Nat} : max (a : Int) (b : Int) = ((max a b : Nat) : Int) := by omega

theorem evalS {s : Store} {g : Nat} {G : Gr} {ids : List Nat} {dm d : D} {m : List Bool} {es : List Nat} (hG : GA s g G ids) (hw : G.WF) (hm : RdF s ids dm (cellsB m)) (hd : RdF s ids d (cellsI es))
    (he : ∀ e ∈ es, e < 2 * G.nodes.length) (hL : G.nodes.length ≤ 200000) (hml : m.length < 1000000) (hel : es.length < 1000000) :
    EvP vfs 24 [.ptr g 0, dm, d] s fun r s' => ∃ id, r = .arr id 0 es.length 1 ∧ s'.get id = some (.cells (cellsB (es.map (G.ev m)))) ∧ Fr [] s s' ∧ s.next ≤ id := by
  have hlen := hd.1.lenI
  have hmlen := hm.1.lenB
  have hGl := hw.len
  refine evp_of (vf := vf24) rfl ?_
  simp only [vf24, List.map, List.getD, List.getElem?_cons_zero, List.getElem?_cons_succ, List.getElem?_nil, Option.getD]
  repeat first
    | with_reducible (first | refine vw_seq ?_ | refine vw_block ?_ | refine vw_rg ?_)
    | ((with_reducible apply vq_free'); (focus rfl))
    | ((with_reducible (first | refine vq_nil ?_ | refine vw_skip ?_ | refine vw_exit ?_ | refine vw_ret ?_)); simp only [Env.keep, Env.get, Env.ev, List.map, Nat.reduceEqDiff, ↓reduceIte, Then, Out'])
    | ((with_reducible (first | apply vq_p | apply vq_r | apply vq_a | apply vq_w | apply vq_g | apply vw_condm)); (focus (simp (disch := (first | with_reducible assumption | omega | ((repeat (first | rw [Store.next_push] | rw [Store.next_set])) <;> omega) | fail)) only [go_sem, Nat.reduceEqDiff, Nat.reduceAdd, Nat.reduceMul, Nat.reduceLeDiff, ↓reduceIte, reduceCtorEq, Int.reduceEq, Int.reduceLT, Int.reduceLE, Int.reduceAdd, Int.reduceSub, Int.reduceMul, Int.reduceNeg, Int.reduceToNat, hlen] <;> rfl)); (first | (with_reducible (first | refine way_tt ?_ | refine way_ff ?_ | refine wayc_t ?_ | refine wayc_f ?_ | refine way_tf ?_ | refine way_ft ?_ | refine way_t ?_); try simp only [Env.put]) | with_reducible refine (?_ : WQ _ _ _ _ _ _)))
    | fail
  refine vw_loop_inv (fun n env s1 => s1 = s ∧ ∃ (i top : Nat), i ≤ es.length ∧ n = es.length - i ∧ top < G.nodes.length ∧ (∀ e ∈ es.take i, e / 2 ≤ top) ∧
    (env.get 0 = .ptr g 0 ∧ env.get 1 = dm ∧ env.get 2 = d ∧ env.get 7 = .int .i64 (top : Int) ∧ env.get 19 = d ∧ env.get 20 = .int .i64 (es.length : Int) ∧ env.get 21 = .int .i64 (i : Int))) ?_ es.length _ _
    ⟨rfl, 0, 0, Nat.zero_le _, by omega, hGl, by simp, by simp [Env.get]⟩
  rintro n env s1 ⟨rfl, i, top, hi, rfl, ht, hte, hE⟩
  by_cases hc : i < es.length
  · have hc' : (i : Int) < (es.length : Int) := by omega
    obtain ⟨p, p1, p2⟩ := hd.1.idxI hc
    have hei := he _ (List.getElem_mem hc)
    generalize hev : es[i] = e at *
    have hs := i64_succ (i := i) (by omega)
    have hq : (e : Int).tdiv 2 = ((e / 2 : Nat) : Int) := by rw [tdiv2 (by omega)]; omega
    have hwq : IntKind.i64.wrap ((e / 2 : Nat) : Int) = ((e / 2 : Nat) : Int) := i64_id (by omega) (by omega)
    have how : Ev vfs 55 [.ptr g 0, .int .i64 (e : Int)] s1 (.int .i64 (e : Int)) s1 := by
      have := own_ok (e := (e : Int)) hG (by omega) (by omega)
      rwa [own_nat hei] at this
    repeat first
      | (apply vq_call'; (focus (simp only [Env.evL, Env.ev, Env.get, Nat.reduceEqDiff, ↓reduceIte, hE]; rfl)); (focus exact how))
      | with_reducible (first | refine vw_seq ?_ | refine vw_block ?_ | refine vw_rg ?_)
      | ((with_reducible apply vq_free'); (focus rfl))
      | ((with_reducible (first | refine vq_nil ?_ | refine vw_skip ?_ | refine vw_exit ?_ | refine vw_ret ?_)); simp only [Env.keep, Env.get, Env.ev, List.map, Nat.reduceEqDiff, ↓reduceIte, Then, Out'])
      | ((with_reducible (first | apply vq_p | apply vq_r | apply vq_a | apply vq_w | apply vq_g | apply vw_condm)); (focus (simp (disch := (first | with_reducible assumption | omega | ((repeat (first | rw [Store.next_push] | rw [Store.next_set])) <;> omega) | fail)) only [go_sem, Nat.reduceEqDiff, Nat.reduceAdd, Nat.reduceMul, Nat.reduceLeDiff, ↓reduceIte, reduceCtorEq, Int.reduceEq, Int.reduceLT, Int.reduceLE, Int.reduceAdd, Int.reduceSub, Int.reduceMul, Int.reduceNeg, Int.reduceToNat, hE, hc', p1, p2, hs, hq, hwq, maxN] <;> rfl)); (first | (with_reducible (first | refine way_tt ?_ | refine way_ff ?_ | refine wayc_t ?_ | refine wayc_f ?_ | refine way_tf ?_ | refine way_ft ?_ | refine way_t ?_); try simp only [Env.put]) | with_reducible refine (?_ : WQ _ _ _ _ _ _)))
      | fail
    refine ⟨es.length - (i + 1), by omega, trivial, i + 1, max top (e / 2), by omega, rfl, by omega, ?_, (by simp only [Env.get, Nat.reduceEqDiff, ↓reduceIte, hE, and_self])⟩
    intro x hx
    rw [List.take_succ_eq_append_getElem hc, List.mem_append] at hx
    rcases hx with hx | hx
    · have := hte x hx; omega
    · simp at hx; subst hx; rw [hev]; omega
  have hc' : ¬ (i : Int) < (es.length : Int) := by omega
  obtain rfl : i = es.length := by omega
  rw [List.take_length] at hte
  clear hc
  have a1 : IntKind.i64.wrap ((top : Int) + 1) = ((top + 1 : Nat) : Int) := i64_succ (by omega)
  have a2 : ((0 : Int) ≤ ((top + 1 : Nat) : Int)) = True := eq_true (by omega)
  have a3 : ((((1 : Nat) : Int) * ((top + 1 : Nat) : Int)) ≤ 2 ^ 47) = True := eq_true (by omega)
  have a4 : (((top + 1 : Nat) : Int) < 2 ^ 62) = True := eq_true (by omega)
  repeat first
    | with_reducible (first | refine vw_seq ?_ | refine vw_block ?_ | refine vw_rg ?_)
    | ((with_reducible apply vq_free'); (focus rfl))
    | ((with_reducible (first | refine vq_nil ?_ | refine vw_skip ?_ | refine vw_exit ?_ | refine vw_ret ?_)); simp only [Env.keep, Env.get, Env.ev, List.map, Nat.reduceEqDiff, ↓reduceIte, Then, Out'])
    | ((with_reducible (first | apply vq_p | apply vq_r | apply vq_a | apply vq_w | apply vq_g | apply vw_condm)); (focus (simp (disch := (first | with_reducible assumption | omega | ((repeat (first | rw [Store.next_push] | rw [Store.next_set])) <;> omega) | fail)) only [go_sem, Nat.reduceEqDiff, Nat.reduceAdd, Nat.reduceMul, Nat.reduceLeDiff, ↓reduceIte, reduceCtorEq, Int.reduceEq, Int.reduceLT, Int.reduceLE, Int.reduceAdd, Int.reduceSub, Int.reduceMul, Int.reduceNeg, Int.reduceToNat, hE, hc', a1, a2, a3, a4, zerosB, Int.le_refl] <;> rfl)); (first | (with_reducible (first | refine way_tt ?_ | refine way_ff ?_ | refine wayc_t ?_ | refine wayc_f ?_ | refine way_tf ?_ | refine way_ft ?_ | refine way_t ?_); try simp only [Env.put]) | with_reducible refine (?_ : WQ _ _ _ _ _ _)))
    | fail
  generalize hs2 : Store.set _ _ _ = s2
  have f2 : Fr [] s1 s2 := by rw [← hs2]; exact (((Fr.refl _ _).thenPush _).thenPush _).thenSet _ (.inr (by omega))
  have kv : s2.get (s1.next + 1) = some (.cells [.arr s1.next 0 (top + 1) 1]) := by rw [← hs2, get_set_eq (by simp)]
  have kw : s2.get s1.next = some (.cells (cellsB (List.replicate (top + 1) false))) := by rw [← hs2, get_set_ne (by omega), get_push_old (by simp), get_push_new rfl]
  clear hs2 a1 a2 a3 a4
  have hG0 := hG
  obtain ⟨nid, mid, dins, iids, hg, rfl⟩ := hG
  have hg2 := (hG0.newer f2).1
  have hobj := hg.obj
  have hobj2 : s2.get g = some (.cells [.arr nid 0 G.nodes.length 2, dins, .map mid]) := by rw [f2.2 _ (get_lts hobj) (by simp), hobj]
  have hone := hg.ins.one
  have hilen := hg.ins.rd.lenI
  have hinsw := hw.ins
  have hil : G.ins.length ≤ G.nodes.length := by
    have h1 := ins_sorted G.nodes
    have h2 := ins_lt G.nodes
    rw [← hinsw] at h1 h2
    exact sorted_len h1 h2
  repeat first
    | with_reducible (first | refine vw_seq ?_ | refine vw_block ?_ | refine vw_rg ?_)
    | ((with_reducible apply vq_free'); (focus rfl))
    | ((with_reducible (first | refine vq_nil ?_ | refine vw_skip ?_ | refine vw_exit ?_ | refine vw_ret ?_)); simp only [Env.keep, Env.get, Env.ev, List.map, Nat.reduceEqDiff, ↓reduceIte, Then, Out'])
    | ((with_reducible (first | apply vq_p | apply vq_r | apply vq_a | apply vq_w | apply vq_g | apply vw_condm)); (focus (simp (disch := (first | with_reducible assumption | omega | ((repeat (first | rw [Store.next_push] | rw [Store.next_set])) <;> omega) | fail)) only [go_sem, Nat.reduceEqDiff, Nat.reduceAdd, Nat.reduceMul, Nat.reduceLeDiff, ↓reduceIte, reduceCtorEq, Int.reduceEq, Int.reduceLT, Int.reduceLE, Int.reduceAdd, Int.reduceSub, Int.reduceMul, Int.reduceNeg, Int.reduceToNat, hE, hobj2, hone, hilen] <;> rfl)); (first | (with_reducible (first | refine way_tt ?_ | refine way_ff ?_ | refine wayc_t ?_ | refine wayc_f ?_ | refine way_tf ?_ | refine way_ft ?_ | refine way_t ?_); try simp only [Env.put]) | with_reducible refine (?_ : WQ _ _ _ _ _ _)))
    | fail
  refine vw_loop_inv (fun n env s3 => ∃ (i : Nat) (W : List Bool), i ≤ G.ins.length ∧ n = G.ins.length - i ∧ Fr [] s1 s3 ∧ s3.get (s1.next + 1) = some (.cells [.arr s1.next 0 (top + 1) 1]) ∧ s3.get s1.next = some (.cells (cellsB W)) ∧ InW (vals m G.nodes) G.ins top i W ∧
    (env.get 0 = .ptr g 0 ∧ env.get 1 = dm ∧ env.get 2 = d ∧ env.get 7 = .int .i64 (top : Int) ∧ env.get 10 = .ptr (s1.next + 1) 0 ∧ env.get 11 = .fn 56 [.ptr (s1.next + 1) 0] ∧ env.get 39 = dins ∧ env.get 40 = .int .i64 (G.ins.length : Int) ∧ env.get 41 = .int .i64 (i : Int))) ?_ G.ins.length _ _
    ⟨0, _, Nat.zero_le _, by omega, f2, kv, kw, InW.zero, by simp [Env.get, hE, Made.at]⟩
  clear kv kw hobj2 f2 hg2 hE
  rintro n env s3 ⟨i, W, hi, rfl, f3, kv, kw, hI, hE⟩
  by_cases hc : i < G.ins.length
  · have hc' : (i : Int) < (G.ins.length : Int) := by omega
    have hins3 : Sl s3 dins (cellsI G.ins) iids := hg.ins.stay f3 (by simp)
    obtain ⟨p, p1, p2⟩ := hins3.rd.idxI hc
    have hgi : G.ins[i]? = some G.ins[i] := List.getElem?_eq_getElem hc
    have hvi : (vals m G.nodes)[G.ins[i]]? = some (m.getD i false) := vals_in G.nodes (by rw [← hinsw]; exact hgi)
    have hlt := ins_lt G.nodes G.ins[i] (by rw [← hinsw]; exact List.getElem_mem hc)
    have hnew : ∀ j, j < i → G.ins[j]? ≠ some G.ins[i] := fun j hj => sorted_ne (by rw [hinsw]; exact ins_sorted _) hgi hj
    generalize hnv : G.ins[i] = nn at *
    have hs := i64_succ (i := i) (by omega)
    by_cases ht1 : nn ≤ top
    · have ht1' : ((nn : Int) ≤ (top : Int)) = True := eq_true (by omega)
      by_cases hm1 : i < m.length
      · have hm1' : ((i : Int) < (m.length : Int)) = True := eq_true (by omega)
        obtain ⟨q, q1, q2⟩ := (hm.newer f3).1.idxB hm1
        have hgd : m.getD i false = m[i] := by simp [List.getD, hm1]
        have hWl : nn < W.length := by have := hI.len; omega
        repeat first
          | (apply vq_ld; (focus (simp only [Env.ev, Env.get, Nat.reduceEqDiff, ↓reduceIte]; rfl)); (focus (first | exact p2 | exact q2)))
          | (apply vq_wB kw hWl; (focus rfl); (focus rfl))
          | with_reducible (first | refine vw_seq ?_ | refine vw_block ?_ | refine vw_rg ?_)
          | ((with_reducible apply vq_free'); (focus rfl))
          | ((with_reducible (first | refine vq_nil ?_ | refine vw_skip ?_ | refine vw_exit ?_ | refine vw_ret ?_)); simp only [Env.keep, Env.get, Env.ev, List.map, Nat.reduceEqDiff, ↓reduceIte, Then, Out'])
          | ((with_reducible (first | apply vq_p | apply vq_r | apply vq_a | apply vq_w | apply vq_g | apply vw_condm)); (focus (simp (disch := (first | with_reducible assumption | omega | ((repeat (first | rw [Store.next_push] | rw [Store.next_set])) <;> omega) | fail)) only [go_sem, Nat.reduceEqDiff, Nat.reduceAdd, Nat.reduceMul, Nat.reduceLeDiff, ↓reduceIte, reduceCtorEq, Int.reduceEq, Int.reduceLT, Int.reduceLE, Int.reduceAdd, Int.reduceSub, Int.reduceMul, Int.reduceNeg, Int.reduceToNat, hE, hc', p1, p2, hs, ht1', hm1', hmlen, q1, kv] <;> rfl)); (first | (with_reducible (first | refine way_tt ?_ | refine way_ff ?_ | refine wayc_t ?_ | refine wayc_f ?_ | refine way_tf ?_ | refine way_ft ?_ | refine way_t ?_); try simp only [Env.put]) | with_reducible refine (?_ : WQ _ _ _ _ _ _)))
          | fail
        refine ⟨G.ins.length - (i + 1), by omega, i + 1, W.set nn m[i], by omega, rfl, f3.thenSet _ (.inr (by omega)), ?_, ?_, ?_, (by simp only [Env.get, Nat.reduceEqDiff, ↓reduceIte, hE, and_self])⟩
        · rw [get_set_ne (by omega)]; exact kv
        · rw [get_set_eq (get_lts kw)]
        · exact hI.set hgi ht1 (by rw [hvi, hgd])
      · have hm1' : ((i : Int) < (m.length : Int)) = False := eq_false (by omega)
        repeat first
          | with_reducible (first | refine vw_seq ?_ | refine vw_block ?_ | refine vw_rg ?_)
          | ((with_reducible apply vq_free'); (focus rfl))
          | ((with_reducible (first | refine vq_nil ?_ | refine vw_skip ?_ | refine vw_exit ?_ | refine vw_ret ?_)); simp only [Env.keep, Env.get, Env.ev, List.map, Nat.reduceEqDiff, ↓reduceIte, Then, Out'])
          | ((with_reducible (first | apply vq_p | apply vq_r | apply vq_a | apply vq_w | apply vq_g | apply vw_condm)); (focus (simp (disch := (first | with_reducible assumption | omega | ((repeat (first | rw [Store.next_push] | rw [Store.next_set])) <;> omega) | fail)) only [go_sem, Nat.reduceEqDiff, Nat.reduceAdd, Nat.reduceMul, Nat.reduceLeDiff, ↓reduceIte, reduceCtorEq, Int.reduceEq, Int.reduceLT, Int.reduceLE, Int.reduceAdd, Int.reduceSub, Int.reduceMul, Int.reduceNeg, Int.reduceToNat, hE, hc', p1, p2, hs, ht1', hm1', hmlen, kv] <;> rfl)); (first | (with_reducible (first | refine way_tt ?_ | refine way_ff ?_ | refine wayc_t ?_ | refine wayc_f ?_ | refine way_tf ?_ | refine way_ft ?_ | refine way_t ?_); try simp only [Env.put]) | with_reducible refine (?_ : WQ _ _ _ _ _ _)))
          | fail
        refine ⟨G.ins.length - (i + 1), by omega, i + 1, W, by omega, rfl, f3, kv, kw, hI.same hgi ht1 ?_ hnew, (by simp only [Env.get, Nat.reduceEqDiff, ↓reduceIte, hE, and_self])⟩
        rw [hvi]; simp [List.getD, hm1]
    · have ht1' : ((nn : Int) ≤ (top : Int)) = False := eq_false (by omega)
      repeat first
        | with_reducible (first | refine vw_seq ?_ | refine vw_block ?_ | refine vw_rg ?_)
        | ((with_reducible apply vq_free'); (focus rfl))
        | ((with_reducible (first | refine vq_nil ?_ | refine vw_skip ?_ | refine vw_exit ?_ | refine vw_ret ?_)); simp only [Env.keep, Env.get, Env.ev, List.map, Nat.reduceEqDiff, ↓reduceIte, Then, Out'])
        | ((with_reducible (first | apply vq_p | apply vq_r | apply vq_a | apply vq_w | apply vq_g | apply vw_condm)); (focus (simp (disch := (first | with_reducible assumption | omega | ((repeat (first | rw [Store.next_push] | rw [Store.next_set])) <;> omega) | fail)) only [go_sem, Nat.reduceEqDiff, Nat.reduceAdd, Nat.reduceMul, Nat.reduceLeDiff, ↓reduceIte, reduceCtorEq, Int.reduceEq, Int.reduceLT, Int.reduceLE, Int.reduceAdd, Int.reduceSub, Int.reduceMul, Int.reduceNeg, Int.reduceToNat, hE, hc', p1, p2, hs, ht1', hmlen, kv] <;> rfl)); (first | (with_reducible (first | refine way_tt ?_ | refine way_ff ?_ | refine wayc_t ?_ | refine wayc_f ?_ | refine way_tf ?_ | refine way_ft ?_ | refine way_t ?_); try simp only [Env.put]) | with_reducible refine (?_ : WQ _ _ _ _ _ _)))
        | fail
      exact ⟨G.ins.length - (i + 1), by omega, i + 1, W, by omega, rfl, f3, kv, kw, hI.big hgi ht1, (by simp only [Env.get, Nat.reduceEqDiff, ↓reduceIte, hE, and_self])⟩
  have hc' : ¬ (i : Int) < (G.ins.length : Int) := by omega
  obtain rfl : i = G.ins.length := by omega
  clear hc
  have hobj3 : s3.get g = some (.cells [.arr nid 0 G.nodes.length 2, dins, .map mid]) := by rw [f3.2 _ (get_lts hobj) (by simp), hobj]
  have a1 : IntKind.i64.wrap ((top : Int) + 1) = ((top + 1 : Nat) : Int) := i64_succ (by omega)
  have a2 : ((0 : Int) ≤ ((top + 1 : Nat) : Int)) = True := eq_true (by omega)
  have a5 : (top + 1 ≤ G.nodes.length) = True := eq_true (by omega)
  have a6 : (0 < G.nodes.length) = True := eq_true (by omega)
  repeat first
    | with_reducible (first | refine vw_seq ?_ | refine vw_block ?_ | refine vw_rg ?_)
    | ((with_reducible apply vq_free'); (focus rfl))
    | ((with_reducible (first | refine vq_nil ?_ | refine vw_skip ?_ | refine vw_exit ?_ | refine vw_ret ?_)); simp only [Env.keep, Env.get, Env.ev, List.map, Nat.reduceEqDiff, ↓reduceIte, Then, Out'])
    | ((with_reducible (first | apply vq_p | apply vq_r | apply vq_a | apply vq_w | apply vq_g | apply vw_condm)); (focus (simp (disch := (first | with_reducible assumption | omega | ((repeat (first | rw [Store.next_push] | rw [Store.next_set])) <;> omega) | fail)) only [go_sem, Nat.reduceEqDiff, Nat.reduceAdd, Nat.reduceMul, Nat.reduceLeDiff, ↓reduceIte, reduceCtorEq, Int.reduceEq, Int.reduceLT, Int.reduceLE, Int.reduceAdd, Int.reduceSub, Int.reduceMul, Int.reduceNeg, Int.reduceToNat, hE, hc', hobj3, a1, a2, a5, a6, Nat.sub_zero] <;> rfl)); (first | (with_reducible (first | refine way_tt ?_ | refine way_ff ?_ | refine wayc_t ?_ | refine wayc_f ?_ | refine way_tf ?_ | refine way_ft ?_ | refine way_t ?_); try simp only [Env.put]) | with_reducible refine (?_ : WQ _ _ _ _ _ _)))
    | fail
  have hVl := vals_length m G.nodes
  have hWl := hI.len
  have hWV : ∀ n, n ≤ top → G.nodes[n]? = some (0, 0) → W[n]? = (vals m G.nodes)[n]? := by
    intro n hn h0
    rcases Nat.eq_zero_or_pos n with rfl | hp
    · rw [vals_zero hw.pos]
      refine hI.no 0 hn fun j hj he => ?_
      have := (ins_mem G.nodes 0).1 (by rw [← hinsw]; exact List.mem_of_getElem? he)
      omega
    · exact hI.all (by rw [hinsw]; exact (ins_mem G.nodes n).2 ⟨hp, h0⟩) hn
  have hvand := fun {n : Nat} {p : Nat × Nat} => vals_and (m := m) (l := G.nodes) hw.nodes (n := n) (p := p)
  generalize hV : vals m G.nodes = V at *
  have hev : G.ev m = evL V := by funext e; simp only [Gr.ev, hV]
  rw [hev]
  refine vw_loop_inv (fun k env s4 => ∃ (n : Nat), n ≤ top + 1 ∧ k = top + 1 - n ∧ Fr [] s1 s4 ∧ s4.get (s1.next + 1) = some (.cells [.arr s1.next 0 (top + 1) 1]) ∧ s4.get s1.next = some (.cells (cellsB (V.take n ++ W.drop n))) ∧
    (env.get 0 = .ptr g 0 ∧ env.get 2 = d ∧ env.get 10 = .ptr (s1.next + 1) 0 ∧ env.get 11 = .fn 56 [.ptr (s1.next + 1) 0] ∧ env.get 69 = .arr nid 0 (top + 1) 2 ∧ env.get 70 = .int .i64 ((top + 1 : Nat) : Int) ∧ env.get 71 = .int .i64 (n : Int))) ?_ (top + 1) _ _
    ⟨0, Nat.zero_le _, by omega, f3, kv, by simpa using kw, by simp [Env.get, hE, Made.at]⟩
  clear kv kw hobj3 f3 hE hI hi hinsw
  rintro n env s4 ⟨n, hi, rfl, f4, kv, kw, hE⟩
  have hXl : (V.take n ++ W.drop n).length = top + 1 := by simp; omega
  by_cases hc : n < top + 1
  · have hc1' : (n : Int) < ((top + 1 : Nat) : Int) := by omega
    have hnl : n < G.nodes.length := by omega
    have hgn : G.nodes[n]? = some G.nodes[n] := List.getElem?_eq_getElem hnl
    have hnodes4 : s4.get nid = some (.cells (cellsN G.nodes)) := by rw [f4.2 _ (get_lts hg.nodes) (by simp), hg.nodes]
    have hpn : ldV s4.get (some 2) (.ptr nid (n * 2)) = some (.agg [.int .i64 (G.nodes[n].1 : Int), .int .i64 (G.nodes[n].2 : Int)]) := by rw [ld_ptr, hnodes4]; exact cellsN_pull hnl
    have hbd := hw.nodes n _ hgn
    have hVn : n < V.length := by omega
    have hand := hvand (p := G.nodes[n]) hgn
    have hWVn := hWV n (by omega)
    rw [hgn] at hWVn
    generalize hab : G.nodes[n] = ab at *
    obtain ⟨a, b⟩ := ab
    have hz : sameScalars [.i, .i] [.int .i64 (a : Int), .int .i64 (b : Int)] [.int .i64 0, .int .i64 0] = some (decide ((a, b) = (0, 0))) := sameScalars2 a b 0 0
    have hs := i64_succ (i := n) (by omega)
    have hl4 := get_lts kv
    by_cases h0 : (a, b) = (0, 0)
    · have d0 : decide ((a, b) = (0, 0)) = true := decide_eq_true h0
      repeat first
        | (apply vq_ld; (focus (simp only [Env.ev, Env.get, Nat.reduceEqDiff, ↓reduceIte]; rfl)); (focus exact hpn))
        | with_reducible (first | refine vw_seq ?_ | refine vw_block ?_ | refine vw_rg ?_)
        | ((with_reducible apply vq_free'); (focus rfl))
        | ((with_reducible (first | refine vq_nil ?_ | refine vw_skip ?_ | refine vw_exit ?_ | refine vw_ret ?_)); simp only [Env.keep, Env.get, Env.ev, List.map, Nat.reduceEqDiff, ↓reduceIte, Then, Out'])
        | ((with_reducible (first | apply vq_p | apply vq_r | apply vq_a | apply vq_w | apply vq_g | apply vw_condm)); (focus (simp (disch := (first | with_reducible assumption | omega | ((repeat (first | rw [Store.next_push] | rw [Store.next_set])) <;> omega) | fail)) only [go_sem, Nat.reduceEqDiff, Nat.reduceAdd, Nat.reduceMul, Nat.reduceLeDiff, ↓reduceIte, reduceCtorEq, Int.reduceEq, Int.reduceLT, Int.reduceLE, Int.reduceAdd, Int.reduceSub, Int.reduceMul, Int.reduceNeg, Int.reduceToNat, hE, hc1', hz, d0, hs] <;> rfl)); (first | (with_reducible (first | refine way_tt ?_ | refine way_ff ?_ | refine wayc_t ?_ | refine wayc_f ?_ | refine way_tf ?_ | refine way_ft ?_ | refine way_t ?_); try simp only [Env.put]) | with_reducible refine (?_ : WQ _ _ _ _ _ _)))
        | fail
      have hsame : V.take n ++ W.drop n = V.take (n + 1) ++ W.drop (n + 1) := by
        refine mix_same (by omega) hVn ?_
        have := hWVn (by rw [h0])
        rw [List.getElem?_eq_getElem (by omega), List.getElem?_eq_getElem hVn] at this
        exact Option.some.inj this
      refine ⟨top + 1 - (n + 1), by omega, n + 1, by omega, rfl, (f4.thenPush _).thenSet _ (.inr (by have := f4.1; omega)), ?_, ?_, (by simp only [Env.get, Nat.reduceEqDiff, ↓reduceIte, hE, and_self])⟩
      · rw [get_set_ne (by omega), get_push_old (by omega)]; exact kv
      · rw [← hsame, get_set_ne (by have := get_lts kw; omega), get_push_old (get_lts kw)]; exact kw
    · have d0 : decide ((a, b) = (0, 0)) = false := decide_eq_false h0
      rcases hbd with hbd | ⟨b1, b2, b3⟩
      · exact absurd hbd h0
      have hand := hand h0
      simp only at b1 b2 b3 hand
      have kv5 : ((s4.push (.cells [.int .i64 0, .int .i64 0])).set s4.next (some (.cells [.int .i64 (a : Int), .int .i64 (b : Int)]))).get (s1.next + 1) = some (.cells [.arr s1.next 0 (V.take n ++ W.drop n).length 1]) := by
        rw [get_set_ne (by omega), get_push_old (by omega), hXl]; exact kv
      have kw5 : ((s4.push (.cells [.int .i64 0, .int .i64 0])).set s4.next (some (.cells [.int .i64 (a : Int), .int .i64 (b : Int)]))).get s1.next = some (.cells (cellsB (V.take n ++ W.drop n))) := by
        rw [get_set_ne (by have := get_lts kw; omega), get_push_old (get_lts kw)]; exact kw
      have ofa := of_ok (e := a) kv5 kw5 (by omega) (by omega)
      have ofb := of_ok (e := b) kv5 kw5 (by omega) (by omega)
      rw [mix_ev (by omega) (by omega)] at ofa ofb
      rw [hXl] at kv5
      have hset : (V.take n ++ W.drop n).set n (evL V a && evL V b) = V.take (n + 1) ++ W.drop (n + 1) := by
        rw [← mix_set (by omega) hVn]
        congr 1
        rw [List.getElem?_eq_getElem hVn] at hand
        exact (Option.some.inj hand).symm
      cases ha : evL V a with
      | true =>
        rw [ha] at ofa hset
        rw [Bool.true_and] at hset
        repeat first
          | (apply vq_ld; (focus (simp only [Env.ev, Env.get, Nat.reduceEqDiff, ↓reduceIte]; rfl)); (focus exact hpn))
          | (apply vq_callv; (focus (simp only [Env.ev, Env.get, Nat.reduceEqDiff, ↓reduceIte, hE]; rfl)); (focus (first | exact ofa | exact ofb)))
          | (apply vq_wB kw5 (by omega : n < (V.take n ++ W.drop n).length); (focus rfl); (focus rfl))
          | with_reducible (first | refine vw_seq ?_ | refine vw_block ?_ | refine vw_rg ?_)
          | ((with_reducible apply vq_free'); (focus rfl))
          | ((with_reducible (first | refine vq_nil ?_ | refine vw_skip ?_ | refine vw_exit ?_ | refine vw_ret ?_)); simp only [Env.keep, Env.get, Env.ev, List.map, Nat.reduceEqDiff, ↓reduceIte, Then, Out'])
          | ((with_reducible (first | apply vq_p | apply vq_r | apply vq_a | apply vq_w | apply vq_g | apply vw_condm)); (focus (simp (disch := (first | with_reducible assumption | omega | ((repeat (first | rw [Store.next_push] | rw [Store.next_set])) <;> omega) | fail)) only [go_sem, Nat.reduceEqDiff, Nat.reduceAdd, Nat.reduceMul, Nat.reduceLeDiff, ↓reduceIte, reduceCtorEq, Int.reduceEq, Int.reduceLT, Int.reduceLE, Int.reduceAdd, Int.reduceSub, Int.reduceMul, Int.reduceNeg, Int.reduceToNat, hE, hc1', hz, d0, hs, kv5] <;> rfl)); (first | (with_reducible (first | refine way_tt ?_ | refine way_ff ?_ | refine wayc_t ?_ | refine wayc_f ?_ | refine way_tf ?_ | refine way_ft ?_ | refine way_t ?_); try simp only [Env.put]) | with_reducible refine (?_ : WQ _ _ _ _ _ _)))
          | fail
        refine ⟨top + 1 - (n + 1), by omega, n + 1, by omega, rfl, ((f4.thenPush _).thenSet _ (.inr (by have := f4.1; omega))).thenSet _ (.inr (by omega)), ?_, ?_, (by simp only [Env.get, Nat.reduceEqDiff, ↓reduceIte, hE, and_self])⟩
        · rw [get_set_ne (by omega)]; exact kv5
        · rw [get_set_eq (get_lts kw5), hset]
      | false =>
        rw [ha] at ofa hset
        rw [Bool.false_and] at hset
        repeat first
          | (apply vq_ld; (focus (simp only [Env.ev, Env.get, Nat.reduceEqDiff, ↓reduceIte]; rfl)); (focus exact hpn))
          | (apply vq_callv; (focus (simp only [Env.ev, Env.get, Nat.reduceEqDiff, ↓reduceIte, hE]; rfl)); (focus (first | exact ofa | exact ofb)))
          | (apply vq_wB kw5 (by omega : n < (V.take n ++ W.drop n).length); (focus rfl); (focus rfl))
          | with_reducible (first | refine vw_seq ?_ | refine vw_block ?_ | refine vw_rg ?_)
          | ((with_reducible apply vq_free'); (focus rfl))
          | ((with_reducible (first | refine vq_nil ?_ | refine vw_skip ?_ | refine vw_exit ?_ | refine vw_ret ?_)); simp only [Env.keep, Env.get, Env.ev, List.map, Nat.reduceEqDiff, ↓reduceIte, Then, Out'])
          | ((with_reducible (first | apply vq_p | apply vq_r | apply vq_a | apply vq_w | apply vq_g | apply vw_condm)); (focus (simp (disch := (first | with_reducible assumption | omega | ((repeat (first | rw [Store.next_push] | rw [Store.next_set])) <;> omega) | fail)) only [go_sem, Nat.reduceEqDiff, Nat.reduceAdd, Nat.reduceMul, Nat.reduceLeDiff, ↓reduceIte, reduceCtorEq, Int.reduceEq, Int.reduceLT, Int.reduceLE, Int.reduceAdd, Int.reduceSub, Int.reduceMul, Int.reduceNeg, Int.reduceToNat, hE, hc1', hz, d0, hs, kv5] <;> rfl)); (first | (with_reducible (first | refine way_tt ?_ | refine way_ff ?_ | refine wayc_t ?_ | refine wayc_f ?_ | refine way_tf ?_ | refine way_ft ?_ | refine way_t ?_); try simp only [Env.put]) | with_reducible refine (?_ : WQ _ _ _ _ _ _)))
          | fail
        refine ⟨top + 1 - (n + 1), by omega, n + 1, by omega, rfl, ((f4.thenPush _).thenSet _ (.inr (by have := f4.1; omega))).thenSet _ (.inr (by omega)), ?_, ?_, (by simp only [Env.get, Nat.reduceEqDiff, ↓reduceIte, hE, and_self])⟩
        · rw [get_set_ne (by omega)]; exact kv5
        · rw [get_set_eq (get_lts kw5), hset]
  have hc1' : ¬ (n : Int) < ((top + 1 : Nat) : Int) := by omega
  obtain rfl : n = top + 1 := by omega
  have kw : s4.get s1.next = some (.cells (cellsB (V.take (top + 1)))) := by rw [kw, List.drop_of_length_le (by omega), List.append_nil]
  have hTl : (V.take (top + 1)).length = top + 1 := by simp; omega
  have a3 : ((((1 : Nat) : Int) * (es.length : Int)) ≤ 2 ^ 47) = True := eq_true (by omega)
  have a4 : ((es.length : Int) < 2 ^ 62) = True := eq_true (by omega)
  have a7 : ((0 : Int) ≤ (es.length : Int)) = True := eq_true (by omega)
  repeat first
    | with_reducible (first | refine vw_seq ?_ | refine vw_block ?_ | refine vw_rg ?_)
    | ((with_reducible apply vq_free'); (focus rfl))
    | ((with_reducible (first | refine vq_nil ?_ | refine vw_skip ?_ | refine vw_exit ?_ | refine vw_ret ?_)); simp only [Env.keep, Env.get, Env.ev, List.map, Nat.reduceEqDiff, ↓reduceIte, Then, Out'])
    | ((with_reducible (first | apply vq_p | apply vq_r | apply vq_a | apply vq_w | apply vq_g | apply vw_condm)); (focus (simp (disch := (first | with_reducible assumption | omega | ((repeat (first | rw [Store.next_push] | rw [Store.next_set])) <;> omega) | fail)) only [go_sem, Nat.reduceEqDiff, Nat.reduceAdd, Nat.reduceMul, Nat.reduceLeDiff, ↓reduceIte, reduceCtorEq, Int.reduceEq, Int.reduceLT, Int.reduceLE, Int.reduceAdd, Int.reduceSub, Int.reduceMul, Int.reduceNeg, Int.reduceToNat, hE, hc1', hlen, a3, a4, a7, Int.le_refl] <;> rfl)); (first | (with_reducible (first | refine way_tt ?_ | refine way_ff ?_ | refine wayc_t ?_ | refine wayc_f ?_ | refine way_tf ?_ | refine way_ft ?_ | refine way_t ?_); try simp only [Env.put]) | with_reducible refine (?_ : WQ _ _ _ _ _ _)))
    | fail
  have hl4 := get_lts kv
  refine vw_loop_inv (fun k env s5 => ∃ (i rid : Nat), i ≤ es.length ∧ k = es.length - i ∧ Fr [] s1 s5 ∧ s5.get (s1.next + 1) = some (.cells [.arr s1.next 0 (top + 1) 1]) ∧ s5.get s1.next = some (.cells (cellsB (V.take (top + 1)))) ∧
    s5.get rid = some (.cells (cellsB ((es.take i).map (evL V)))) ∧ s1.next + 1 < rid ∧
    (env.get 0 = .ptr g 0 ∧ env.get 11 = .fn 56 [.ptr (s1.next + 1) 0] ∧ env.get 16 = .arr rid 0 i 1 ∧ env.get 96 = d ∧ env.get 97 = .int .i64 (es.length : Int) ∧ env.get 98 = .int .i64 (i : Int))) ?_ es.length _ _
    ⟨0, s4.next, Nat.zero_le _, by omega, f4.thenPush _, by rw [get_push_old hl4]; exact kv, by rw [get_push_old (get_lts kw)]; exact kw, by rw [get_push_new rfl]; rfl, hl4, by simp [Env.get, hE, Made.at]⟩
  clear kv kw f4 hE hl4
  rintro n env s5 ⟨i, rid, hi, rfl, f5, kv, kw, kr, hrid, hE⟩
  by_cases hc : i < es.length
  · have hc2' : (i : Int) < (es.length : Int) := by omega
    obtain ⟨p, p1, p2⟩ := (hd.newer f5).1.idxI hc
    have hei := he _ (List.getElem_mem hc)
    have hti := hte _ (List.getElem_mem hc)
    generalize hev2 : es[i] = e at *
    have hs := i64_succ (i := i) (by omega)
    have how : Ev vfs 55 [.ptr g 0, .int .i64 (e : Int)] s5 (.int .i64 (e : Int)) s5 := by
      have := own_ok (e := (e : Int)) (hG0.newer f5).1 (by omega) (by omega)
      rwa [own_nat hei] at this
    have ofe := of_ok (e := e) (by rw [hTl]; exact kv) kw (by omega) (by omega)
    rw [take_ev (by omega)] at ofe
    have hrl := get_lts kr
    have hS : Sl s5 (.arr rid 0 i 1) (cellsB ((es.take i).map (evL V))) [rid] := .inr ⟨rid, by simp; omega, kr, rfl⟩
    obtain ⟨s6, d6, e1, e2, e3, e4⟩ := hS.push1 (.bool (evL V e)) (bytes := 1) (by decide) (by simp; omega)
    have hl6 : cellsB ((es.take i).map (evL V)) ++ [.bool (evL V e)] = cellsB ((es.take (i + 1)).map (evL V)) := by
      rw [List.take_succ_eq_append_getElem hc, hev2]; simp [cellsB]
    rw [hl6] at e2
    repeat first
      | (apply vq_ld; (focus (simp only [Env.ev, Env.get, Nat.reduceEqDiff, ↓reduceIte]; rfl)); (focus exact p2))
      | (apply vq_call'; (focus (simp only [Env.evL, Env.ev, Env.get, Nat.reduceEqDiff, ↓reduceIte, hE]; rfl)); (focus exact how))
      | (apply vq_callv; (focus (simp only [Env.ev, Env.get, Nat.reduceEqDiff, ↓reduceIte, hE]; rfl)); (focus exact ofe))
      | (apply vq_append'; (focus (simp only [Env.ev, Env.get, Nat.reduceEqDiff, ↓reduceIte, hE]; rfl)); (focus rfl); (focus exact e1))
      | with_reducible (first | refine vw_seq ?_ | refine vw_block ?_ | refine vw_rg ?_)
      | ((with_reducible apply vq_free'); (focus rfl))
      | ((with_reducible (first | refine vq_nil ?_ | refine vw_skip ?_ | refine vw_exit ?_ | refine vw_ret ?_)); simp only [Env.keep, Env.get, Env.ev, List.map, Nat.reduceEqDiff, ↓reduceIte, Then, Out'])
      | ((with_reducible (first | apply vq_p | apply vq_r | apply vq_a | apply vq_w | apply vq_g | apply vw_condm)); (focus (simp (disch := (first | with_reducible assumption | omega | ((repeat (first | rw [Store.next_push] | rw [Store.next_set])) <;> omega) | fail)) only [go_sem, Nat.reduceEqDiff, Nat.reduceAdd, Nat.reduceMul, Nat.reduceLeDiff, ↓reduceIte, reduceCtorEq, Int.reduceEq, Int.reduceLT, Int.reduceLE, Int.reduceAdd, Int.reduceSub, Int.reduceMul, Int.reduceNeg, Int.reduceToNat, hE, hc2', p1, hs] <;> rfl)); (first | (with_reducible (first | refine way_tt ?_ | refine way_ff ?_ | refine wayc_t ?_ | refine wayc_f ?_ | refine way_tf ?_ | refine way_ft ?_ | refine way_t ?_); try simp only [Env.put]) | with_reducible refine (?_ : WQ _ _ _ _ _ _)))
      | fail
    rcases e2 with ⟨_, hnil, _⟩ | ⟨id6, rfl, k6, hid⟩
    · exfalso
      have := congrArg List.length hnil
      rw [cellsB_length, List.length_map, List.length_take, List.length_nil] at this
      omega
    simp at hid
    subst hid
    have hlen6 : (cellsB ((es.take (i + 1)).map (evL V))).length = i + 1 := by simp; omega
    rw [hlen6]
    have n5 := f5.1
    refine ⟨es.length - (i + 1), by omega, i + 1, s5.next + 1, by omega, rfl, f5.trans e4 (by simp; omega), ?_, ?_, k6, by omega, (by simp only [Env.get, Nat.reduceEqDiff, ↓reduceIte, hE, and_self])⟩
    · rw [e4.2 _ (get_lts kv) (by simp; omega)]; exact kv
    · rw [e4.2 _ (get_lts kw) (by simp; omega)]; exact kw
  · have hc2' : ¬ (i : Int) < (es.length : Int) := by omega
    obtain rfl : i = es.length := by omega
    repeat first
      | with_reducible (first | refine vw_seq ?_ | refine vw_block ?_ | refine vw_rg ?_)
      | ((with_reducible apply vq_free'); (focus rfl))
      | ((with_reducible (first | refine vq_nil ?_ | refine vw_skip ?_ | refine vw_exit ?_ | refine vw_ret ?_)); simp only [Env.keep, Env.get, Env.ev, List.map, Nat.reduceEqDiff, ↓reduceIte, Then, Out'])
      | ((with_reducible (first | apply vq_p | apply vq_r | apply vq_a | apply vq_w | apply vq_g | apply vw_condm)); (focus (simp (disch := (first | with_reducible assumption | omega | ((repeat (first | rw [Store.next_push] | rw [Store.next_set])) <;> omega) | fail)) only [go_sem, Nat.reduceEqDiff, Nat.reduceAdd, Nat.reduceMul, Nat.reduceLeDiff, ↓reduceIte, reduceCtorEq, Int.reduceEq, Int.reduceLT, Int.reduceLE, Int.reduceAdd, Int.reduceSub, Int.reduceMul, Int.reduceNeg, Int.reduceToNat, hE, hc2'] <;> rfl)); (first | (with_reducible (first | refine way_tt ?_ | refine way_ff ?_ | refine wayc_t ?_ | refine wayc_f ?_ | refine way_tf ?_ | refine way_ft ?_ | refine way_t ?_); try simp only [Env.put]) | with_reducible refine (?_ : WQ _ _ _ _ _ _)))
      | fail
    refine ⟨.inr trivial, _, (by simp only [resOf, resAll, resOne, Env.get, Nat.reduceEqDiff, ↓reduceIte] <;> rfl), rid, rfl, ?_, f5, by omega⟩
    rw [kr, List.take_length]
end Go.Proofs.Ytedoacfoglbfeaa
