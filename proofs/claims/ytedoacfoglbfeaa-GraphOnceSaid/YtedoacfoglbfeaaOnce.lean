/- GraphOnce, walked. -/
import Derived.Test.YtedoacfoglbfeaaG3
namespace Go.Proofs.Ytedoacfoglbfeaa
open Go.V
set_option maxRecDepth 100000
set_option linter.unusedSimpArgs false
set_option linter.unusedVariables false

def actN (n : Int) : Nat := (max n 0).toNat
structure P1 (acts : List (Int × Int × Int × Int)) (i : Nat) (es : List Nat) (G : Gr) : Prop where
  wf : G.WF
  len : G.nodes.length ≤ 3 + i
  esl : es.length = 3 + i
  three : es.take 3 = [0, 2, 4]
  lt : ∀ e ∈ es, e < 2 * G.nodes.length
  laid : ∀ j (h : j < i) (ha : j < acts.length) (he : 3 + j < es.length), Gr.Laid G (pickE (es.take (3 + j)) (actN acts[j].2.1)) (pickE (es.take (3 + j)) (actN acts[j].2.2.1)) es[3 + j]

theorem P1.step {acts : List (Int × Int × Int × Int)} {i : Nat} {es : List Nat} {G : Gr} (h : P1 acts i es G) (hi : i < acts.length) :
    P1 acts (i + 1) (es ++ [(G.and (pickE es (actN acts[i].2.1)) (pickE es (actN acts[i].2.2.1))).1]) (G.and (pickE es (actN acts[i].2.1)) (pickE es (actN acts[i].2.2.1))).2 := by
  have hlen := h.wf.len
  have ha := pickE_lt (n := actN acts[i].2.1) h.lt hlen
  have hb := pickE_lt (n := actN acts[i].2.2.1) h.lt hlen
  obtain ⟨ok, lt, _⟩ := Gr.and_ok h.wf ha hb
  have hl := Gr.laid h.wf (pickE es (actN acts[i].2.1)) (pickE es (actN acts[i].2.2.1))
  have hee := h.esl
  refine ⟨ok.wf, by have := ok.len; have := h.len; omega, by simp [h.esl]; omega, ?_, ?_, ?_⟩
  · rw [List.take_append_of_le_length (by omega)]; exact h.three
  · intro e he
    rcases List.mem_append.1 he with he | he
    · have := h.lt e he
      have := ok.ext.le
      omega
    · simp at he; subst he; exact lt
  · intro j hj hja he
    rw [List.take_append_of_le_length (by omega)]
    by_cases hji : j < i
    · rw [List.getElem_append_left (by omega)]
      exact (h.laid j hji hja (by omega)).mono ok.ext
    · have : j = i := by omega
      subst this
      rw [List.getElem_append_right (by omega), List.take_of_length_le (by omega)]
      simpa using hl

theorem i64_succ {i : Nat} (h : i < 1000000000) : IntKind.i64.wrap ((i : Int) + 1) = ((i + 1 : Nat) : Int) := by rw [i64_id (by omega) (by omega)]; omega

theorem iso_edge {s : Store} {d : D} {es : List Nat} {n : Int} {ids : List Nat} (hr : Sl s d (cellsI es) ids) (hp : 0 < es.length) (hl : es.length < 1000000) (hn : 0 ≤ n) (hn' : n < 9223372036854775808) (he : ∀ e ∈ es, e < 1000000) :
    ∃ d', Ev vfs 20 [d', .int .i64 n] Store.empty (.int .i64 (pickE es n.toNat : Nat)) Store.empty ∧ mapO (ice s.get 20) [d, .int .i64 n] = some [d', .int .i64 n] := by
  obtain ⟨d', h1, h2⟩ := hr.rd.ice (scal_cellsI es)
  exact ⟨d', edge_ok h2 hp hl hn hn' he, by simp only [mapO, h1]; rfl⟩

theorem graphOnce_v {acts : List (Int × Int × Int × Int)} {d : D} (hd : RdA d acts) : EvP vfs 3 [d] Store.empty fun r _ => r = .bool true := by
  obtain ⟨sa, hawake⟩ := awake5
  have hlen := hd.len
  refine evp_of (vf := vf3) rfl ?_
  simp only [vf3, List.map, List.getD, List.getElem?_cons_zero, List.getElem?_cons_succ, List.getElem?_nil, Option.getD]
  by_cases hbig : (40 : Int) < (acts.length : Int)
  · repeat first
      | (apply vq_isoL hawake rfl; (focus rfl); (focus rfl))
      | refine vw_seq ?_
      | refine vw_block ?_
      | refine vw_rg ?_
      | refine vq_free' (by rfl) ?_
      | ((first | refine vq_nil ?_ | refine vw_skip ?_ | refine vw_exit ?_ | refine vw_ret ?_); simp only [Env.keep, Env.get, Env.ev, List.map, Nat.reduceEqDiff, ↓reduceIte, Then, Out'])
      | ((first | apply vq_p | apply vq_r | apply vq_a | apply vq_w); (focus (simp (disch := (first | assumption | omega | (simp only [Store.next_push, Store.next_set] <;> omega) | fail)) only [evP, evR_load, evR.eq_2, evR.eq_3, ld_ptr, keyOfV, ld_fp, one_int, cells_int, one_bool, cells_bool, one_str, cells_str, one_nilp, cells_nilp, one_ptr, cells_ptr, one_fp, cells_fp, one_nils, cells_nils, one_lst, cells_lst, one_arr, cells_arr, one_fn, cells_fn, one_nilf, cells_nilf, one_nilm, cells_nilm, one_map, cells_map, one_agg, cells_agg, cellsOf_one, len_nils, len_lst, len_arr, len_str, nil_0, nil_1, nil_2, nil_3, nil_4, nil_5, nil_6, nil_7, nil_8, nil_9, evA, evW, Env.ev, Env.get, Env.evL, Env.evO, binV, binInt, unV, pull, idx_arr, idxSV, sliceV, boundOf, mm_min, mm_max, beq_nat, beq_nat0, beq_nat1, wantV, fillV, splice, zeros, Made.at, Option.map_some, Option.map, List.getElem?_cons_zero, List.getElem?_cons_succ, List.getElem?_nil, List.all_cons, List.all_nil, List.length_cons, List.length_nil, List.take, List.drop, List.map, List.append, List.cons_append, List.nil_append, List.append_nil, Nat.reduceEqDiff, Nat.reduceAdd, Nat.reduceMul, Nat.reduceLeDiff, Nat.zero_add, Nat.add_zero, Nat.zero_mul, ↓reduceIte, decide_true, decide_false, Bool.not_true, Bool.not_false, Bool.and_true, Bool.true_and, Bool.and_self, and_self, and_true, true_and, Bool.false_eq_true, reduceCtorEq, Int.reduceEq, Int.reduceLT, Int.reduceLE, Int.reduceAdd, Int.reduceSub, Int.reduceMul, Int.reduceNeg, Int.reduceToNat, ge_iff_le, gt_iff_lt, beq_self_eq_true, Nat.zero_le, Nat.le_refl, Nat.lt_irrefl, Store.next_push, Store.next_set, get_push_old, get_push_new, get_set_ne, get_set_eq, i64_id, hlen, hbig] <;> rfl)))
      | ((first | apply vq_g | apply vw_condm); (focus (simp (disch := (first | assumption | omega | (simp only [Store.next_push, Store.next_set] <;> omega) | fail)) only [evP, evR_load, evR.eq_2, evR.eq_3, ld_ptr, keyOfV, ld_fp, one_int, cells_int, one_bool, cells_bool, one_str, cells_str, one_nilp, cells_nilp, one_ptr, cells_ptr, one_fp, cells_fp, one_nils, cells_nils, one_lst, cells_lst, one_arr, cells_arr, one_fn, cells_fn, one_nilf, cells_nilf, one_nilm, cells_nilm, one_map, cells_map, one_agg, cells_agg, cellsOf_one, len_nils, len_lst, len_arr, len_str, nil_0, nil_1, nil_2, nil_3, nil_4, nil_5, nil_6, nil_7, nil_8, nil_9, evA, evW, Env.ev, Env.get, Env.evL, Env.evO, binV, binInt, unV, pull, idx_arr, idxSV, sliceV, boundOf, mm_min, mm_max, beq_nat, beq_nat0, beq_nat1, wantV, fillV, splice, zeros, Made.at, Option.map_some, Option.map, List.getElem?_cons_zero, List.getElem?_cons_succ, List.getElem?_nil, List.all_cons, List.all_nil, List.length_cons, List.length_nil, List.take, List.drop, List.map, List.append, List.cons_append, List.nil_append, List.append_nil, Nat.reduceEqDiff, Nat.reduceAdd, Nat.reduceMul, Nat.reduceLeDiff, Nat.zero_add, Nat.add_zero, Nat.zero_mul, ↓reduceIte, decide_true, decide_false, Bool.not_true, Bool.not_false, Bool.and_true, Bool.true_and, Bool.and_self, and_self, and_true, true_and, Bool.false_eq_true, reduceCtorEq, Int.reduceEq, Int.reduceLT, Int.reduceLE, Int.reduceAdd, Int.reduceSub, Int.reduceMul, Int.reduceNeg, Int.reduceToNat, ge_iff_le, gt_iff_lt, beq_self_eq_true, Nat.zero_le, Nat.le_refl, Nat.lt_irrefl, Store.next_push, Store.next_set, get_push_old, get_push_new, get_set_ne, get_set_eq, i64_id, hlen, hbig] <;> rfl)); (first | refine way_tt ?_ | refine way_ff ?_ | refine wayc_t ?_ | refine wayc_f ?_ | ((first | refine way_tf ?_ | refine way_ft ?_ | refine way_t ?_); simp only [Env.put])))
      | fail
    exact ⟨.inr trivial, _, (by simp only [resOf, resAll, resOne, Env.get, Nat.reduceEqDiff, ↓reduceIte] <;> rfl), rfl⟩
  · repeat first
      | (apply vq_isoL hawake rfl; (focus rfl); (focus rfl))
      | refine vw_seq ?_
      | refine vw_block ?_
      | refine vw_rg ?_
      | refine vq_free' (by rfl) ?_
      | ((first | refine vq_nil ?_ | refine vw_skip ?_ | refine vw_exit ?_ | refine vw_ret ?_); simp only [Env.keep, Env.get, Env.ev, List.map, Nat.reduceEqDiff, ↓reduceIte, Then, Out'])
      | ((first | apply vq_p | apply vq_r | apply vq_a | apply vq_w); (focus (simp (disch := (first | assumption | omega | (simp only [Store.next_push, Store.next_set] <;> omega) | fail)) only [evP, evR_load, evR.eq_2, evR.eq_3, ld_ptr, keyOfV, ld_fp, one_int, cells_int, one_bool, cells_bool, one_str, cells_str, one_nilp, cells_nilp, one_ptr, cells_ptr, one_fp, cells_fp, one_nils, cells_nils, one_lst, cells_lst, one_arr, cells_arr, one_fn, cells_fn, one_nilf, cells_nilf, one_nilm, cells_nilm, one_map, cells_map, one_agg, cells_agg, cellsOf_one, len_nils, len_lst, len_arr, len_str, nil_0, nil_1, nil_2, nil_3, nil_4, nil_5, nil_6, nil_7, nil_8, nil_9, evA, evW, Env.ev, Env.get, Env.evL, Env.evO, binV, binInt, unV, pull, idx_arr, idxSV, sliceV, boundOf, mm_min, mm_max, beq_nat, beq_nat0, beq_nat1, wantV, fillV, splice, zeros, Made.at, Option.map_some, Option.map, List.getElem?_cons_zero, List.getElem?_cons_succ, List.getElem?_nil, List.all_cons, List.all_nil, List.length_cons, List.length_nil, List.take, List.drop, List.map, List.append, List.cons_append, List.nil_append, List.append_nil, Nat.reduceEqDiff, Nat.reduceAdd, Nat.reduceMul, Nat.reduceLeDiff, Nat.zero_add, Nat.add_zero, Nat.zero_mul, ↓reduceIte, decide_true, decide_false, Bool.not_true, Bool.not_false, Bool.and_true, Bool.true_and, Bool.and_self, and_self, and_true, true_and, Bool.false_eq_true, reduceCtorEq, Int.reduceEq, Int.reduceLT, Int.reduceLE, Int.reduceAdd, Int.reduceSub, Int.reduceMul, Int.reduceNeg, Int.reduceToNat, ge_iff_le, gt_iff_lt, beq_self_eq_true, Nat.zero_le, Nat.le_refl, Nat.lt_irrefl, Store.next_push, Store.next_set, get_push_old, get_push_new, get_set_ne, get_set_eq, i64_id, hlen, hbig] <;> rfl)))
      | ((first | apply vq_g | apply vw_condm); (focus (simp (disch := (first | assumption | omega | (simp only [Store.next_push, Store.next_set] <;> omega) | fail)) only [evP, evR_load, evR.eq_2, evR.eq_3, ld_ptr, keyOfV, ld_fp, one_int, cells_int, one_bool, cells_bool, one_str, cells_str, one_nilp, cells_nilp, one_ptr, cells_ptr, one_fp, cells_fp, one_nils, cells_nils, one_lst, cells_lst, one_arr, cells_arr, one_fn, cells_fn, one_nilf, cells_nilf, one_nilm, cells_nilm, one_map, cells_map, one_agg, cells_agg, cellsOf_one, len_nils, len_lst, len_arr, len_str, nil_0, nil_1, nil_2, nil_3, nil_4, nil_5, nil_6, nil_7, nil_8, nil_9, evA, evW, Env.ev, Env.get, Env.evL, Env.evO, binV, binInt, unV, pull, idx_arr, idxSV, sliceV, boundOf, mm_min, mm_max, beq_nat, beq_nat0, beq_nat1, wantV, fillV, splice, zeros, Made.at, Option.map_some, Option.map, List.getElem?_cons_zero, List.getElem?_cons_succ, List.getElem?_nil, List.all_cons, List.all_nil, List.length_cons, List.length_nil, List.take, List.drop, List.map, List.append, List.cons_append, List.nil_append, List.append_nil, Nat.reduceEqDiff, Nat.reduceAdd, Nat.reduceMul, Nat.reduceLeDiff, Nat.zero_add, Nat.add_zero, Nat.zero_mul, ↓reduceIte, decide_true, decide_false, Bool.not_true, Bool.not_false, Bool.and_true, Bool.true_and, Bool.and_self, and_self, and_true, true_and, Bool.false_eq_true, reduceCtorEq, Int.reduceEq, Int.reduceLT, Int.reduceLE, Int.reduceAdd, Int.reduceSub, Int.reduceMul, Int.reduceNeg, Int.reduceToNat, ge_iff_le, gt_iff_lt, beq_self_eq_true, Nat.zero_le, Nat.le_refl, Nat.lt_irrefl, Store.next_push, Store.next_set, get_push_old, get_push_new, get_set_ne, get_set_eq, i64_id, hlen, hbig] <;> rfl)); (first | refine way_tt ?_ | refine way_ff ?_ | refine wayc_t ?_ | refine wayc_f ?_ | ((first | refine way_tf ?_ | refine way_ft ?_ | refine way_t ?_); simp only [Env.put])))
      | fail
    apply vq_evpf new_ok
    · rfl
    rintro d1 s1 ⟨g, ids, rfl, hG, f1, m1⟩
    repeat first
      | refine vw_seq ?_
      | refine vw_block ?_
      | refine vw_rg ?_
      | refine vq_free' (by rfl) ?_
      | ((first | refine vq_nil ?_ | refine vw_skip ?_ | refine vw_exit ?_ | refine vw_ret ?_); simp only [Env.keep, Env.get, Env.ev, List.map, Nat.reduceEqDiff, ↓reduceIte, Then, Out'])
      | ((first | apply vq_p | apply vq_r | apply vq_a | apply vq_w); (focus (simp (disch := (first | assumption | omega | (simp only [Store.next_push, Store.next_set] <;> omega) | fail)) only [evP, evR_load, evR.eq_2, evR.eq_3, ld_ptr, keyOfV, ld_fp, one_int, cells_int, one_bool, cells_bool, one_str, cells_str, one_nilp, cells_nilp, one_ptr, cells_ptr, one_fp, cells_fp, one_nils, cells_nils, one_lst, cells_lst, one_arr, cells_arr, one_fn, cells_fn, one_nilf, cells_nilf, one_nilm, cells_nilm, one_map, cells_map, one_agg, cells_agg, cellsOf_one, len_nils, len_lst, len_arr, len_str, nil_0, nil_1, nil_2, nil_3, nil_4, nil_5, nil_6, nil_7, nil_8, nil_9, evA, evW, Env.ev, Env.get, Env.evL, Env.evO, binV, binInt, unV, pull, idx_arr, idxSV, sliceV, boundOf, mm_min, mm_max, beq_nat, beq_nat0, beq_nat1, wantV, fillV, splice, zeros, Made.at, Option.map_some, Option.map, List.getElem?_cons_zero, List.getElem?_cons_succ, List.getElem?_nil, List.all_cons, List.all_nil, List.length_cons, List.length_nil, List.take, List.drop, List.map, List.append, List.cons_append, List.nil_append, List.append_nil, Nat.reduceEqDiff, Nat.reduceAdd, Nat.reduceMul, Nat.reduceLeDiff, Nat.zero_add, Nat.add_zero, Nat.zero_mul, ↓reduceIte, decide_true, decide_false, Bool.not_true, Bool.not_false, Bool.and_true, Bool.true_and, Bool.and_self, and_self, and_true, true_and, Bool.false_eq_true, reduceCtorEq, Int.reduceEq, Int.reduceLT, Int.reduceLE, Int.reduceAdd, Int.reduceSub, Int.reduceMul, Int.reduceNeg, Int.reduceToNat, ge_iff_le, gt_iff_lt, beq_self_eq_true, Nat.zero_le, Nat.le_refl, Nat.lt_irrefl, Store.next_push, Store.next_set, get_push_old, get_push_new, get_set_ne, get_set_eq, i64_id] <;> rfl)))
      | ((first | apply vq_g | apply vw_condm); (focus (simp (disch := (first | assumption | omega | (simp only [Store.next_push, Store.next_set] <;> omega) | fail)) only [evP, evR_load, evR.eq_2, evR.eq_3, ld_ptr, keyOfV, ld_fp, one_int, cells_int, one_bool, cells_bool, one_str, cells_str, one_nilp, cells_nilp, one_ptr, cells_ptr, one_fp, cells_fp, one_nils, cells_nils, one_lst, cells_lst, one_arr, cells_arr, one_fn, cells_fn, one_nilf, cells_nilf, one_nilm, cells_nilm, one_map, cells_map, one_agg, cells_agg, cellsOf_one, len_nils, len_lst, len_arr, len_str, nil_0, nil_1, nil_2, nil_3, nil_4, nil_5, nil_6, nil_7, nil_8, nil_9, evA, evW, Env.ev, Env.get, Env.evL, Env.evO, binV, binInt, unV, pull, idx_arr, idxSV, sliceV, boundOf, mm_min, mm_max, beq_nat, beq_nat0, beq_nat1, wantV, fillV, splice, zeros, Made.at, Option.map_some, Option.map, List.getElem?_cons_zero, List.getElem?_cons_succ, List.getElem?_nil, List.all_cons, List.all_nil, List.length_cons, List.length_nil, List.take, List.drop, List.map, List.append, List.cons_append, List.nil_append, List.append_nil, Nat.reduceEqDiff, Nat.reduceAdd, Nat.reduceMul, Nat.reduceLeDiff, Nat.zero_add, Nat.add_zero, Nat.zero_mul, ↓reduceIte, decide_true, decide_false, Bool.not_true, Bool.not_false, Bool.and_true, Bool.true_and, Bool.and_self, and_self, and_true, true_and, Bool.false_eq_true, reduceCtorEq, Int.reduceEq, Int.reduceLT, Int.reduceLE, Int.reduceAdd, Int.reduceSub, Int.reduceMul, Int.reduceNeg, Int.reduceToNat, ge_iff_le, gt_iff_lt, beq_self_eq_true, Nat.zero_le, Nat.le_refl, Nat.lt_irrefl, Store.next_push, Store.next_set, get_push_old, get_push_new, get_set_ne, get_set_eq, i64_id] <;> rfl)); (first | refine way_tt ?_ | refine way_ff ?_ | refine wayc_t ?_ | refine wayc_f ?_ | ((first | refine way_tf ?_ | refine way_ft ?_ | refine way_t ?_); simp only [Env.put])))
      | fail
    apply vq_evpf (input_ok hG Gr.new_wf.len (by decide) (by decide))
    · rfl
    rintro d2 s2 ⟨rfl, ids2, h2⟩
    repeat first
      | refine vw_seq ?_
      | refine vw_block ?_
      | refine vw_rg ?_
      | refine vq_free' (by rfl) ?_
      | ((first | refine vq_nil ?_ | refine vw_skip ?_ | refine vw_exit ?_ | refine vw_ret ?_); simp only [Env.keep, Env.get, Env.ev, List.map, Nat.reduceEqDiff, ↓reduceIte, Then, Out'])
      | ((first | apply vq_p | apply vq_r | apply vq_a | apply vq_w); (focus (simp (disch := (first | assumption | omega | (simp only [Store.next_push, Store.next_set] <;> omega) | fail)) only [evP, evR_load, evR.eq_2, evR.eq_3, ld_ptr, keyOfV, ld_fp, one_int, cells_int, one_bool, cells_bool, one_str, cells_str, one_nilp, cells_nilp, one_ptr, cells_ptr, one_fp, cells_fp, one_nils, cells_nils, one_lst, cells_lst, one_arr, cells_arr, one_fn, cells_fn, one_nilf, cells_nilf, one_nilm, cells_nilm, one_map, cells_map, one_agg, cells_agg, cellsOf_one, len_nils, len_lst, len_arr, len_str, nil_0, nil_1, nil_2, nil_3, nil_4, nil_5, nil_6, nil_7, nil_8, nil_9, evA, evW, Env.ev, Env.get, Env.evL, Env.evO, binV, binInt, unV, pull, idx_arr, idxSV, sliceV, boundOf, mm_min, mm_max, beq_nat, beq_nat0, beq_nat1, wantV, fillV, splice, zeros, Made.at, Option.map_some, Option.map, List.getElem?_cons_zero, List.getElem?_cons_succ, List.getElem?_nil, List.all_cons, List.all_nil, List.length_cons, List.length_nil, List.take, List.drop, List.map, List.append, List.cons_append, List.nil_append, List.append_nil, Nat.reduceEqDiff, Nat.reduceAdd, Nat.reduceMul, Nat.reduceLeDiff, Nat.zero_add, Nat.add_zero, Nat.zero_mul, ↓reduceIte, decide_true, decide_false, Bool.not_true, Bool.not_false, Bool.and_true, Bool.true_and, Bool.and_self, and_self, and_true, true_and, Bool.false_eq_true, reduceCtorEq, Int.reduceEq, Int.reduceLT, Int.reduceLE, Int.reduceAdd, Int.reduceSub, Int.reduceMul, Int.reduceNeg, Int.reduceToNat, ge_iff_le, gt_iff_lt, beq_self_eq_true, Nat.zero_le, Nat.le_refl, Nat.lt_irrefl, Store.next_push, Store.next_set, get_push_old, get_push_new, get_set_ne, get_set_eq, i64_id] <;> rfl)))
      | ((first | apply vq_g | apply vw_condm); (focus (simp (disch := (first | assumption | omega | (simp only [Store.next_push, Store.next_set] <;> omega) | fail)) only [evP, evR_load, evR.eq_2, evR.eq_3, ld_ptr, keyOfV, ld_fp, one_int, cells_int, one_bool, cells_bool, one_str, cells_str, one_nilp, cells_nilp, one_ptr, cells_ptr, one_fp, cells_fp, one_nils, cells_nils, one_lst, cells_lst, one_arr, cells_arr, one_fn, cells_fn, one_nilf, cells_nilf, one_nilm, cells_nilm, one_map, cells_map, one_agg, cells_agg, cellsOf_one, len_nils, len_lst, len_arr, len_str, nil_0, nil_1, nil_2, nil_3, nil_4, nil_5, nil_6, nil_7, nil_8, nil_9, evA, evW, Env.ev, Env.get, Env.evL, Env.evO, binV, binInt, unV, pull, idx_arr, idxSV, sliceV, boundOf, mm_min, mm_max, beq_nat, beq_nat0, beq_nat1, wantV, fillV, splice, zeros, Made.at, Option.map_some, Option.map, List.getElem?_cons_zero, List.getElem?_cons_succ, List.getElem?_nil, List.all_cons, List.all_nil, List.length_cons, List.length_nil, List.take, List.drop, List.map, List.append, List.cons_append, List.nil_append, List.append_nil, Nat.reduceEqDiff, Nat.reduceAdd, Nat.reduceMul, Nat.reduceLeDiff, Nat.zero_add, Nat.add_zero, Nat.zero_mul, ↓reduceIte, decide_true, decide_false, Bool.not_true, Bool.not_false, Bool.and_true, Bool.true_and, Bool.and_self, and_self, and_true, true_and, Bool.false_eq_true, reduceCtorEq, Int.reduceEq, Int.reduceLT, Int.reduceLE, Int.reduceAdd, Int.reduceSub, Int.reduceMul, Int.reduceNeg, Int.reduceToNat, ge_iff_le, gt_iff_lt, beq_self_eq_true, Nat.zero_le, Nat.le_refl, Nat.lt_irrefl, Store.next_push, Store.next_set, get_push_old, get_push_new, get_set_ne, get_set_eq, i64_id] <;> rfl)); (first | refine way_tt ?_ | refine way_ff ?_ | refine wayc_t ?_ | refine wayc_f ?_ | ((first | refine way_tf ?_ | refine way_ft ?_ | refine way_t ?_); simp only [Env.put])))
      | fail
    have w1 := (Gr.input_ok Gr.new_wf)
    apply vq_evpf (input_ok h2.1 w1.1.len (by decide) (by decide))
    · rfl
    rintro d3 s3 ⟨rfl, ids3, h3⟩
    repeat first
      | refine vw_seq ?_
      | refine vw_block ?_
      | refine vw_rg ?_
      | refine vq_free' (by rfl) ?_
      | ((first | refine vq_nil ?_ | refine vw_skip ?_ | refine vw_exit ?_ | refine vw_ret ?_); simp only [Env.keep, Env.get, Env.ev, List.map, Nat.reduceEqDiff, ↓reduceIte, Then, Out'])
      | ((first | apply vq_p | apply vq_r | apply vq_a | apply vq_w); (focus (simp (disch := (first | assumption | omega | (simp only [Store.next_push, Store.next_set] <;> omega) | fail)) only [evP, evR_load, evR.eq_2, evR.eq_3, ld_ptr, keyOfV, ld_fp, one_int, cells_int, one_bool, cells_bool, one_str, cells_str, one_nilp, cells_nilp, one_ptr, cells_ptr, one_fp, cells_fp, one_nils, cells_nils, one_lst, cells_lst, one_arr, cells_arr, one_fn, cells_fn, one_nilf, cells_nilf, one_nilm, cells_nilm, one_map, cells_map, one_agg, cells_agg, cellsOf_one, len_nils, len_lst, len_arr, len_str, nil_0, nil_1, nil_2, nil_3, nil_4, nil_5, nil_6, nil_7, nil_8, nil_9, evA, evW, Env.ev, Env.get, Env.evL, Env.evO, binV, binInt, unV, pull, idx_arr, idxSV, sliceV, boundOf, mm_min, mm_max, beq_nat, beq_nat0, beq_nat1, wantV, fillV, splice, zeros, Made.at, Option.map_some, Option.map, List.getElem?_cons_zero, List.getElem?_cons_succ, List.getElem?_nil, List.all_cons, List.all_nil, List.length_cons, List.length_nil, List.take, List.drop, List.map, List.append, List.cons_append, List.nil_append, List.append_nil, Nat.reduceEqDiff, Nat.reduceAdd, Nat.reduceMul, Nat.reduceLeDiff, Nat.zero_add, Nat.add_zero, Nat.zero_mul, ↓reduceIte, decide_true, decide_false, Bool.not_true, Bool.not_false, Bool.and_true, Bool.true_and, Bool.and_self, and_self, and_true, true_and, Bool.false_eq_true, reduceCtorEq, Int.reduceEq, Int.reduceLT, Int.reduceLE, Int.reduceAdd, Int.reduceSub, Int.reduceMul, Int.reduceNeg, Int.reduceToNat, ge_iff_le, gt_iff_lt, beq_self_eq_true, Nat.zero_le, Nat.le_refl, Nat.lt_irrefl, Store.next_push, Store.next_set, get_push_old, get_push_new, get_set_ne, get_set_eq, i64_id] <;> rfl)))
      | ((first | apply vq_g | apply vw_condm); (focus (simp (disch := (first | assumption | omega | (simp only [Store.next_push, Store.next_set] <;> omega) | fail)) only [evP, evR_load, evR.eq_2, evR.eq_3, ld_ptr, keyOfV, ld_fp, one_int, cells_int, one_bool, cells_bool, one_str, cells_str, one_nilp, cells_nilp, one_ptr, cells_ptr, one_fp, cells_fp, one_nils, cells_nils, one_lst, cells_lst, one_arr, cells_arr, one_fn, cells_fn, one_nilf, cells_nilf, one_nilm, cells_nilm, one_map, cells_map, one_agg, cells_agg, cellsOf_one, len_nils, len_lst, len_arr, len_str, nil_0, nil_1, nil_2, nil_3, nil_4, nil_5, nil_6, nil_7, nil_8, nil_9, evA, evW, Env.ev, Env.get, Env.evL, Env.evO, binV, binInt, unV, pull, idx_arr, idxSV, sliceV, boundOf, mm_min, mm_max, beq_nat, beq_nat0, beq_nat1, wantV, fillV, splice, zeros, Made.at, Option.map_some, Option.map, List.getElem?_cons_zero, List.getElem?_cons_succ, List.getElem?_nil, List.all_cons, List.all_nil, List.length_cons, List.length_nil, List.take, List.drop, List.map, List.append, List.cons_append, List.nil_append, List.append_nil, Nat.reduceEqDiff, Nat.reduceAdd, Nat.reduceMul, Nat.reduceLeDiff, Nat.zero_add, Nat.add_zero, Nat.zero_mul, ↓reduceIte, decide_true, decide_false, Bool.not_true, Bool.not_false, Bool.and_true, Bool.true_and, Bool.and_self, and_self, and_true, true_and, Bool.false_eq_true, reduceCtorEq, Int.reduceEq, Int.reduceLT, Int.reduceLE, Int.reduceAdd, Int.reduceSub, Int.reduceMul, Int.reduceNeg, Int.reduceToNat, ge_iff_le, gt_iff_lt, beq_self_eq_true, Nat.zero_le, Nat.le_refl, Nat.lt_irrefl, Store.next_push, Store.next_set, get_push_old, get_push_new, get_set_ne, get_set_eq, i64_id] <;> rfl)); (first | refine way_tt ?_ | refine way_ff ?_ | refine wayc_t ?_ | refine wayc_f ?_ | ((first | refine way_tf ?_ | refine way_ft ?_ | refine way_t ?_); simp only [Env.put])))
      | fail
    have w2 := Gr.input_ok w1.1
    have hP0 : P1 acts 0 [0, 2, 4] Gr.new.input.input := ⟨w2.1, by decide, rfl, rfl, by decide, fun j h => by omega⟩
    have l3 := h3.1.lt
    refine vw_loop_inv (fun n env s => ∃ (i : Nat) (es : List Nat) (G : Gr) (ids : List Nat) (des : D) (eid : Nat) (x : D), P1 acts i es G ∧ i ≤ acts.length ∧ n = acts.length - i ∧ GA s g G ids ∧ Sl s des (cellsI es) [eid] ∧ eid ∉ ids ∧
      env = [(0, d), (2, .bool false), (3, .ptr g 0), (4, des), (5, .int .i64 (i : Int)), (6, .undef), (7, .undef), (8, .undef), (15, .bool false), (26, x), (56, .undef)]) ?_ acts.length _ _
      ⟨0, [0, 2, 4], Gr.new.input.input, ids3, _, s3.next, _, hP0, Nat.zero_le _, by omega, GA.push h3.1 _, .inr ⟨s3.next, rfl, get_push_new rfl, rfl⟩, fun h => by have := l3 _ h; omega, rfl⟩
    clear l3 hP0 h3 h2 f1 m1 hG
    rintro n env s ⟨i, es, G, ids, des, eid, x, hP, hi, rfl, hG, hS, hE, rfl⟩
    have hGl := hP.wf.len
    by_cases hc : i < acts.length
    · have hc' : (i : Int) < (acts.length : Int) := by omega
      have ix := hd.idx i hc
      obtain ⟨_, ra, rb, _⟩ := hd.rng _ (List.getElem_mem hc)
      generalize ha : acts[i].2.1 = a at *
      generalize hb : acts[i].2.2.1 = b at *
      have hw := i64_succ (i := i) (by omega)
      have hel := hP.esl
      have hlen3 := hP.len
      have hes : ∀ e ∈ es, e < 1000000 := fun e he => by have := hP.lt e he; omega
      obtain ⟨da, ea, ea'⟩ := iso_edge (n := max a 0) hS (by omega) (by omega) (by omega) (by have := ra.2; omega) hes
      obtain ⟨db, eb, eb'⟩ := iso_edge (n := max b 0) hS (by omega) (by omega) (by omega) (by have := rb.2; omega) hes
      have hpa := pickE_lt (n := actN a) hP.lt hGl
      have hpb := pickE_lt (n := actN b) hP.lt hGl
      repeat first
        | (apply vq_isoL ea rfl; (focus rfl); (focus exact ea'))
        | (apply vq_isoL eb rfl; (focus rfl); (focus exact eb'))
        | refine vw_seq ?_
        | refine vw_block ?_
        | refine vw_rg ?_
        | refine vq_free' (by rfl) ?_
        | ((first | refine vq_nil ?_ | refine vw_skip ?_ | refine vw_exit ?_ | refine vw_ret ?_); simp only [Env.keep, Env.get, Env.ev, List.map, Nat.reduceEqDiff, ↓reduceIte, Then, Out'])
        | ((first | apply vq_p | apply vq_r | apply vq_a | apply vq_w); (focus (simp (disch := (first | assumption | omega | (simp only [Store.next_push, Store.next_set] <;> omega) | fail)) only [evP, evR_load, evR.eq_2, evR.eq_3, ld_ptr, keyOfV, ld_fp, one_int, cells_int, one_bool, cells_bool, one_str, cells_str, one_nilp, cells_nilp, one_ptr, cells_ptr, one_fp, cells_fp, one_nils, cells_nils, one_lst, cells_lst, one_arr, cells_arr, one_fn, cells_fn, one_nilf, cells_nilf, one_nilm, cells_nilm, one_map, cells_map, one_agg, cells_agg, cellsOf_one, len_nils, len_lst, len_arr, len_str, nil_0, nil_1, nil_2, nil_3, nil_4, nil_5, nil_6, nil_7, nil_8, nil_9, evA, evW, Env.ev, Env.get, Env.evL, Env.evO, binV, binInt, unV, pull, idx_arr, idxSV, sliceV, boundOf, mm_min, mm_max, beq_nat, beq_nat0, beq_nat1, wantV, fillV, splice, zeros, Made.at, Option.map_some, Option.map, List.getElem?_cons_zero, List.getElem?_cons_succ, List.getElem?_nil, List.all_cons, List.all_nil, List.length_cons, List.length_nil, List.take, List.drop, List.map, List.append, List.cons_append, List.nil_append, List.append_nil, Nat.reduceEqDiff, Nat.reduceAdd, Nat.reduceMul, Nat.reduceLeDiff, Nat.zero_add, Nat.add_zero, Nat.zero_mul, ↓reduceIte, decide_true, decide_false, Bool.not_true, Bool.not_false, Bool.and_true, Bool.true_and, Bool.and_self, and_self, and_true, true_and, Bool.false_eq_true, reduceCtorEq, Int.reduceEq, Int.reduceLT, Int.reduceLE, Int.reduceAdd, Int.reduceSub, Int.reduceMul, Int.reduceNeg, Int.reduceToNat, ge_iff_le, gt_iff_lt, beq_self_eq_true, Nat.zero_le, Nat.le_refl, Nat.lt_irrefl, Store.next_push, Store.next_set, get_push_old, get_push_new, get_set_ne, get_set_eq, i64_id, hlen, hc', ix] <;> rfl)))
        | ((first | apply vq_g | apply vw_condm); (focus (simp (disch := (first | assumption | omega | (simp only [Store.next_push, Store.next_set] <;> omega) | fail)) only [evP, evR_load, evR.eq_2, evR.eq_3, ld_ptr, keyOfV, ld_fp, one_int, cells_int, one_bool, cells_bool, one_str, cells_str, one_nilp, cells_nilp, one_ptr, cells_ptr, one_fp, cells_fp, one_nils, cells_nils, one_lst, cells_lst, one_arr, cells_arr, one_fn, cells_fn, one_nilf, cells_nilf, one_nilm, cells_nilm, one_map, cells_map, one_agg, cells_agg, cellsOf_one, len_nils, len_lst, len_arr, len_str, nil_0, nil_1, nil_2, nil_3, nil_4, nil_5, nil_6, nil_7, nil_8, nil_9, evA, evW, Env.ev, Env.get, Env.evL, Env.evO, binV, binInt, unV, pull, idx_arr, idxSV, sliceV, boundOf, mm_min, mm_max, beq_nat, beq_nat0, beq_nat1, wantV, fillV, splice, zeros, Made.at, Option.map_some, Option.map, List.getElem?_cons_zero, List.getElem?_cons_succ, List.getElem?_nil, List.all_cons, List.all_nil, List.length_cons, List.length_nil, List.take, List.drop, List.map, List.append, List.cons_append, List.nil_append, List.append_nil, Nat.reduceEqDiff, Nat.reduceAdd, Nat.reduceMul, Nat.reduceLeDiff, Nat.zero_add, Nat.add_zero, Nat.zero_mul, ↓reduceIte, decide_true, decide_false, Bool.not_true, Bool.not_false, Bool.and_true, Bool.true_and, Bool.and_self, and_self, and_true, true_and, Bool.false_eq_true, reduceCtorEq, Int.reduceEq, Int.reduceLT, Int.reduceLE, Int.reduceAdd, Int.reduceSub, Int.reduceMul, Int.reduceNeg, Int.reduceToNat, ge_iff_le, gt_iff_lt, beq_self_eq_true, Nat.zero_le, Nat.le_refl, Nat.lt_irrefl, Store.next_push, Store.next_set, get_push_old, get_push_new, get_set_ne, get_set_eq, i64_id, hlen, hc', ix] <;> rfl)); (first | refine way_tt ?_ | refine way_ff ?_ | refine wayc_t ?_ | refine wayc_f ?_ | ((first | refine way_tf ?_ | refine way_ft ?_ | refine way_t ?_); simp only [Env.put])))
        | fail
      apply vq_evpf (andE hG hP.wf hpa hpb (by omega))
      · rfl
      rintro d1 s1 ⟨rfl, ids1, hG1, f1, m1⟩
      have hS1 := hS.stay f1 (by simpa using hE)
      have hlt := hS.lt eid (by simp)
      have hE1 : eid ∉ ids1 := fun h => by
        rcases m1 _ h with h | h
        · exact hE h
        · omega
      repeat first
        | refine vw_seq ?_
        | refine vw_block ?_
        | refine vw_rg ?_
        | refine vq_free' (by rfl) ?_
        | ((first | refine vq_nil ?_ | refine vw_skip ?_ | refine vw_exit ?_ | refine vw_ret ?_); simp only [Env.keep, Env.get, Env.ev, List.map, Nat.reduceEqDiff, ↓reduceIte, Then, Out'])
        | ((first | apply vq_p | apply vq_r | apply vq_a | apply vq_w); (focus (simp (disch := (first | assumption | omega | (simp only [Store.next_push, Store.next_set] <;> omega) | fail)) only [evP, evR_load, evR.eq_2, evR.eq_3, ld_ptr, keyOfV, ld_fp, one_int, cells_int, one_bool, cells_bool, one_str, cells_str, one_nilp, cells_nilp, one_ptr, cells_ptr, one_fp, cells_fp, one_nils, cells_nils, one_lst, cells_lst, one_arr, cells_arr, one_fn, cells_fn, one_nilf, cells_nilf, one_nilm, cells_nilm, one_map, cells_map, one_agg, cells_agg, cellsOf_one, len_nils, len_lst, len_arr, len_str, nil_0, nil_1, nil_2, nil_3, nil_4, nil_5, nil_6, nil_7, nil_8, nil_9, evA, evW, Env.ev, Env.get, Env.evL, Env.evO, binV, binInt, unV, pull, idx_arr, idxSV, sliceV, boundOf, mm_min, mm_max, beq_nat, beq_nat0, beq_nat1, wantV, fillV, splice, zeros, Made.at, Option.map_some, Option.map, List.getElem?_cons_zero, List.getElem?_cons_succ, List.getElem?_nil, List.all_cons, List.all_nil, List.length_cons, List.length_nil, List.take, List.drop, List.map, List.append, List.cons_append, List.nil_append, List.append_nil, Nat.reduceEqDiff, Nat.reduceAdd, Nat.reduceMul, Nat.reduceLeDiff, Nat.zero_add, Nat.add_zero, Nat.zero_mul, ↓reduceIte, decide_true, decide_false, Bool.not_true, Bool.not_false, Bool.and_true, Bool.true_and, Bool.and_self, and_self, and_true, true_and, Bool.false_eq_true, reduceCtorEq, Int.reduceEq, Int.reduceLT, Int.reduceLE, Int.reduceAdd, Int.reduceSub, Int.reduceMul, Int.reduceNeg, Int.reduceToNat, ge_iff_le, gt_iff_lt, beq_self_eq_true, Nat.zero_le, Nat.le_refl, Nat.lt_irrefl, Store.next_push, Store.next_set, get_push_old, get_push_new, get_set_ne, get_set_eq, i64_id] <;> rfl)))
        | ((first | apply vq_g | apply vw_condm); (focus (simp (disch := (first | assumption | omega | (simp only [Store.next_push, Store.next_set] <;> omega) | fail)) only [evP, evR_load, evR.eq_2, evR.eq_3, ld_ptr, keyOfV, ld_fp, one_int, cells_int, one_bool, cells_bool, one_str, cells_str, one_nilp, cells_nilp, one_ptr, cells_ptr, one_fp, cells_fp, one_nils, cells_nils, one_lst, cells_lst, one_arr, cells_arr, one_fn, cells_fn, one_nilf, cells_nilf, one_nilm, cells_nilm, one_map, cells_map, one_agg, cells_agg, cellsOf_one, len_nils, len_lst, len_arr, len_str, nil_0, nil_1, nil_2, nil_3, nil_4, nil_5, nil_6, nil_7, nil_8, nil_9, evA, evW, Env.ev, Env.get, Env.evL, Env.evO, binV, binInt, unV, pull, idx_arr, idxSV, sliceV, boundOf, mm_min, mm_max, beq_nat, beq_nat0, beq_nat1, wantV, fillV, splice, zeros, Made.at, Option.map_some, Option.map, List.getElem?_cons_zero, List.getElem?_cons_succ, List.getElem?_nil, List.all_cons, List.all_nil, List.length_cons, List.length_nil, List.take, List.drop, List.map, List.append, List.cons_append, List.nil_append, List.append_nil, Nat.reduceEqDiff, Nat.reduceAdd, Nat.reduceMul, Nat.reduceLeDiff, Nat.zero_add, Nat.add_zero, Nat.zero_mul, ↓reduceIte, decide_true, decide_false, Bool.not_true, Bool.not_false, Bool.and_true, Bool.true_and, Bool.and_self, and_self, and_true, true_and, Bool.false_eq_true, reduceCtorEq, Int.reduceEq, Int.reduceLT, Int.reduceLE, Int.reduceAdd, Int.reduceSub, Int.reduceMul, Int.reduceNeg, Int.reduceToNat, ge_iff_le, gt_iff_lt, beq_self_eq_true, Nat.zero_le, Nat.le_refl, Nat.lt_irrefl, Store.next_push, Store.next_set, get_push_old, get_push_new, get_set_ne, get_set_eq, i64_id] <;> rfl)); (first | refine way_tt ?_ | refine way_ff ?_ | refine wayc_t ?_ | refine wayc_f ?_ | ((first | refine way_tf ?_ | refine way_ft ?_ | refine way_t ?_); simp only [Env.put])))
        | fail
      obtain ⟨s2, d2, e1, e2, e3, e4⟩ := hS1.push1 (.int .i64 ((G.and (pickE es (actN a)) (pickE es (actN b))).1 : Nat)) (bytes := 8) (by decide) (by simp; omega)
      apply vq_append'
      · rfl
      · rfl
      · exact e1
      have hP' := hP.step hc
      rw [ha, hb] at hP'
      have hl1 := hG1.lt
      have n1 := f1.1
      repeat first
        | refine vw_seq ?_
        | refine vw_block ?_
        | refine vw_rg ?_
        | refine vq_free' (by rfl) ?_
        | ((first | refine vq_nil ?_ | refine vw_skip ?_ | refine vw_exit ?_ | refine vw_ret ?_); simp only [Env.keep, Env.get, Env.ev, List.map, Nat.reduceEqDiff, ↓reduceIte, Then, Out'])
        | ((first | apply vq_p | apply vq_r | apply vq_a | apply vq_w); (focus (simp (disch := (first | assumption | omega | (simp only [Store.next_push, Store.next_set] <;> omega) | fail)) only [evP, evR_load, evR.eq_2, evR.eq_3, ld_ptr, keyOfV, ld_fp, one_int, cells_int, one_bool, cells_bool, one_str, cells_str, one_nilp, cells_nilp, one_ptr, cells_ptr, one_fp, cells_fp, one_nils, cells_nils, one_lst, cells_lst, one_arr, cells_arr, one_fn, cells_fn, one_nilf, cells_nilf, one_nilm, cells_nilm, one_map, cells_map, one_agg, cells_agg, cellsOf_one, len_nils, len_lst, len_arr, len_str, nil_0, nil_1, nil_2, nil_3, nil_4, nil_5, nil_6, nil_7, nil_8, nil_9, evA, evW, Env.ev, Env.get, Env.evL, Env.evO, binV, binInt, unV, pull, idx_arr, idxSV, sliceV, boundOf, mm_min, mm_max, beq_nat, beq_nat0, beq_nat1, wantV, fillV, splice, zeros, Made.at, Option.map_some, Option.map, List.getElem?_cons_zero, List.getElem?_cons_succ, List.getElem?_nil, List.all_cons, List.all_nil, List.length_cons, List.length_nil, List.take, List.drop, List.map, List.append, List.cons_append, List.nil_append, List.append_nil, Nat.reduceEqDiff, Nat.reduceAdd, Nat.reduceMul, Nat.reduceLeDiff, Nat.zero_add, Nat.add_zero, Nat.zero_mul, ↓reduceIte, decide_true, decide_false, Bool.not_true, Bool.not_false, Bool.and_true, Bool.true_and, Bool.and_self, and_self, and_true, true_and, Bool.false_eq_true, reduceCtorEq, Int.reduceEq, Int.reduceLT, Int.reduceLE, Int.reduceAdd, Int.reduceSub, Int.reduceMul, Int.reduceNeg, Int.reduceToNat, ge_iff_le, gt_iff_lt, beq_self_eq_true, Nat.zero_le, Nat.le_refl, Nat.lt_irrefl, Store.next_push, Store.next_set, get_push_old, get_push_new, get_set_ne, get_set_eq, i64_id, hw] <;> rfl)))
        | ((first | apply vq_g | apply vw_condm); (focus (simp (disch := (first | assumption | omega | (simp only [Store.next_push, Store.next_set] <;> omega) | fail)) only [evP, evR_load, evR.eq_2, evR.eq_3, ld_ptr, keyOfV, ld_fp, one_int, cells_int, one_bool, cells_bool, one_str, cells_str, one_nilp, cells_nilp, one_ptr, cells_ptr, one_fp, cells_fp, one_nils, cells_nils, one_lst, cells_lst, one_arr, cells_arr, one_fn, cells_fn, one_nilf, cells_nilf, one_nilm, cells_nilm, one_map, cells_map, one_agg, cells_agg, cellsOf_one, len_nils, len_lst, len_arr, len_str, nil_0, nil_1, nil_2, nil_3, nil_4, nil_5, nil_6, nil_7, nil_8, nil_9, evA, evW, Env.ev, Env.get, Env.evL, Env.evO, binV, binInt, unV, pull, idx_arr, idxSV, sliceV, boundOf, mm_min, mm_max, beq_nat, beq_nat0, beq_nat1, wantV, fillV, splice, zeros, Made.at, Option.map_some, Option.map, List.getElem?_cons_zero, List.getElem?_cons_succ, List.getElem?_nil, List.all_cons, List.all_nil, List.length_cons, List.length_nil, List.take, List.drop, List.map, List.append, List.cons_append, List.nil_append, List.append_nil, Nat.reduceEqDiff, Nat.reduceAdd, Nat.reduceMul, Nat.reduceLeDiff, Nat.zero_add, Nat.add_zero, Nat.zero_mul, ↓reduceIte, decide_true, decide_false, Bool.not_true, Bool.not_false, Bool.and_true, Bool.true_and, Bool.and_self, and_self, and_true, true_and, Bool.false_eq_true, reduceCtorEq, Int.reduceEq, Int.reduceLT, Int.reduceLE, Int.reduceAdd, Int.reduceSub, Int.reduceMul, Int.reduceNeg, Int.reduceToNat, ge_iff_le, gt_iff_lt, beq_self_eq_true, Nat.zero_le, Nat.le_refl, Nat.lt_irrefl, Store.next_push, Store.next_set, get_push_old, get_push_new, get_set_ne, get_set_eq, i64_id, hw] <;> rfl)); (first | refine way_tt ?_ | refine way_ff ?_ | refine wayc_t ?_ | refine wayc_f ?_ | ((first | refine way_tf ?_ | refine way_ft ?_ | refine way_t ?_); simp only [Env.put])))
        | fail
      refine ⟨acts.length - (i + 1), by omega, i + 1, _, _, ids1, _, s1.next + 1, _, hP', by omega, rfl, hG1.stay e4 ?_, ?_, ?_, rfl⟩
      · intro j hj hc
        simp at hc
        subst hc
        exact hE1 hj
      · rw [cellsI_append]; exact e2
      · intro h
        have := hl1 _ h
        omega
    · have hc' : ¬ (i : Int) < (acts.length : Int) := by omega
      obtain rfl : i = acts.length := by omega
      have hlen3 := hP.len
      have hel := hP.esl
      have hn := nodes_ok hG
      have hGlt := hG.lt
      have hSlt := hS.lt eid (by simp)
      repeat first
        | (apply vq_call'; (focus (simp only [Env.evL, Env.ev, Env.get, Nat.reduceEqDiff, ↓reduceIte, Made.at]; rfl)); (focus (exact hn)))
        | refine vw_seq ?_
        | refine vw_block ?_
        | refine vw_rg ?_
        | refine vq_free' (by rfl) ?_
        | ((first | refine vq_nil ?_ | refine vw_skip ?_ | refine vw_exit ?_ | refine vw_ret ?_); simp only [Env.keep, Env.get, Env.ev, List.map, Nat.reduceEqDiff, ↓reduceIte, Then, Out'])
        | ((first | apply vq_p | apply vq_r | apply vq_a | apply vq_w); (focus (simp (disch := (first | assumption | omega | (simp only [Store.next_push, Store.next_set] <;> omega) | fail)) only [evP, evR_load, evR.eq_2, evR.eq_3, ld_ptr, keyOfV, ld_fp, one_int, cells_int, one_bool, cells_bool, one_str, cells_str, one_nilp, cells_nilp, one_ptr, cells_ptr, one_fp, cells_fp, one_nils, cells_nils, one_lst, cells_lst, one_arr, cells_arr, one_fn, cells_fn, one_nilf, cells_nilf, one_nilm, cells_nilm, one_map, cells_map, one_agg, cells_agg, cellsOf_one, len_nils, len_lst, len_arr, len_str, nil_0, nil_1, nil_2, nil_3, nil_4, nil_5, nil_6, nil_7, nil_8, nil_9, evA, evW, Env.ev, Env.get, Env.evL, Env.evO, binV, binInt, unV, pull, idx_arr, idxSV, sliceV, boundOf, mm_min, mm_max, beq_nat, beq_nat0, beq_nat1, wantV, fillV, splice, zeros, Made.at, Option.map_some, Option.map, List.getElem?_cons_zero, List.getElem?_cons_succ, List.getElem?_nil, List.all_cons, List.all_nil, List.length_cons, List.length_nil, List.take, List.drop, List.map, List.append, List.cons_append, List.nil_append, List.append_nil, Nat.reduceEqDiff, Nat.reduceAdd, Nat.reduceMul, Nat.reduceLeDiff, Nat.zero_add, Nat.add_zero, Nat.zero_mul, ↓reduceIte, decide_true, decide_false, Bool.not_true, Bool.not_false, Bool.and_true, Bool.true_and, Bool.and_self, and_self, and_true, true_and, Bool.false_eq_true, reduceCtorEq, Int.reduceEq, Int.reduceLT, Int.reduceLE, Int.reduceAdd, Int.reduceSub, Int.reduceMul, Int.reduceNeg, Int.reduceToNat, ge_iff_le, gt_iff_lt, beq_self_eq_true, Nat.zero_le, Nat.le_refl, Nat.lt_irrefl, Store.next_push, Store.next_set, get_push_old, get_push_new, get_set_ne, get_set_eq, i64_id, hlen, hc'] <;> rfl)))
        | ((first | apply vq_g | apply vw_condm); (focus (simp (disch := (first | assumption | omega | (simp only [Store.next_push, Store.next_set] <;> omega) | fail)) only [evP, evR_load, evR.eq_2, evR.eq_3, ld_ptr, keyOfV, ld_fp, one_int, cells_int, one_bool, cells_bool, one_str, cells_str, one_nilp, cells_nilp, one_ptr, cells_ptr, one_fp, cells_fp, one_nils, cells_nils, one_lst, cells_lst, one_arr, cells_arr, one_fn, cells_fn, one_nilf, cells_nilf, one_nilm, cells_nilm, one_map, cells_map, one_agg, cells_agg, cellsOf_one, len_nils, len_lst, len_arr, len_str, nil_0, nil_1, nil_2, nil_3, nil_4, nil_5, nil_6, nil_7, nil_8, nil_9, evA, evW, Env.ev, Env.get, Env.evL, Env.evO, binV, binInt, unV, pull, idx_arr, idxSV, sliceV, boundOf, mm_min, mm_max, beq_nat, beq_nat0, beq_nat1, wantV, fillV, splice, zeros, Made.at, Option.map_some, Option.map, List.getElem?_cons_zero, List.getElem?_cons_succ, List.getElem?_nil, List.all_cons, List.all_nil, List.length_cons, List.length_nil, List.take, List.drop, List.map, List.append, List.cons_append, List.nil_append, List.append_nil, Nat.reduceEqDiff, Nat.reduceAdd, Nat.reduceMul, Nat.reduceLeDiff, Nat.zero_add, Nat.add_zero, Nat.zero_mul, ↓reduceIte, decide_true, decide_false, Bool.not_true, Bool.not_false, Bool.and_true, Bool.true_and, Bool.and_self, and_self, and_true, true_and, Bool.false_eq_true, reduceCtorEq, Int.reduceEq, Int.reduceLT, Int.reduceLE, Int.reduceAdd, Int.reduceSub, Int.reduceMul, Int.reduceNeg, Int.reduceToNat, ge_iff_le, gt_iff_lt, beq_self_eq_true, Nat.zero_le, Nat.le_refl, Nat.lt_irrefl, Store.next_push, Store.next_set, get_push_old, get_push_new, get_set_ne, get_set_eq, i64_id, hlen, hc'] <;> rfl)); (first | refine way_tt ?_ | refine way_ff ?_ | refine wayc_t ?_ | refine wayc_f ?_ | ((first | refine way_tf ?_ | refine way_ft ?_ | refine way_t ?_); simp only [Env.put])))
        | fail
      refine vw_loop_inv (fun n env s => ∃ (i : Nat) (des' : D) (eid' : Nat) (ids : List Nat) (x y : D), i ≤ acts.length ∧ n = acts.length - i ∧ GA s g G ids ∧ Sl s des (cellsI es) [eid] ∧ Sl s des' (cellsI (es.take (3 + i))) [eid'] ∧ eid ∉ ids ∧ eid' ∉ ids ∧ eid ≠ eid' ∧
        env = [(0, d), (2, .bool false), (3, .ptr g 0), (4, des), (5, .int .i64 (acts.length : Int)), (6, .int .i64 (G.nodes.length : Int)), (7, des'), (8, .int .i64 (i : Int)), (15, .bool false), (26, x), (56, y)]) ?_ acts.length _ _
        ⟨0, _, s.next, ids, _, _, Nat.zero_le _, by omega, GA.push hG _, hS.stay (ids2 := []) (Fr.push _) (by simp), .inr ⟨s.next, ?_, ?_, rfl⟩, hE, fun h => by have := hGlt _ h; omega, by omega, rfl⟩
      rotate_left
      · rw [hP.three]; rfl
      · rw [hP.three]; exact get_push_new rfl
      clear hGlt hSlt hS hE hn hG hi hc hc'
      rintro n env s ⟨i, des', eid', ids, x, y, hi, rfl, hG, hS, hS', hE, hE', hne, rfl⟩
      by_cases hc : i < acts.length
      · have hc' : (i : Int) < (acts.length : Int) := by omega
        have ix := hd.idx i hc
        obtain ⟨_, ra, rb, _⟩ := hd.rng _ (List.getElem_mem hc)
        have hlaid := hP.laid i hc hc (by omega) G (Gr.Ext.refl _) hP.wf
        generalize ha : acts[i].2.1 = a at *
        generalize hb : acts[i].2.2.1 = b at *
        have hw := i64_succ (i := i) (by omega)
        have htl : (es.take (3 + i)).length = 3 + i := by simp; omega
        have hlt' : ∀ e ∈ es.take (3 + i), e < 2 * G.nodes.length := fun e he => hP.lt e (List.mem_of_mem_take he)
        have hes : ∀ e ∈ es.take (3 + i), e < 1000000 := fun e he => by have := hlt' e he; omega
        obtain ⟨da, ea, ea'⟩ := iso_edge (n := max a 0) hS' (by omega) (by omega) (by omega) (by have := ra.2; omega) hes
        obtain ⟨db, eb, eb'⟩ := iso_edge (n := max b 0) hS' (by omega) (by omega) (by omega) (by have := rb.2; omega) hes
        have hpa := pickE_lt (n := actN a) hlt' hGl
        have hpb := pickE_lt (n := actN b) hlt' hGl
        repeat first
          | (apply vq_isoL ea rfl; (focus rfl); (focus exact ea'))
          | (apply vq_isoL eb rfl; (focus rfl); (focus exact eb'))
          | refine vw_seq ?_
          | refine vw_block ?_
          | refine vw_rg ?_
          | refine vq_free' (by rfl) ?_
          | ((first | refine vq_nil ?_ | refine vw_skip ?_ | refine vw_exit ?_ | refine vw_ret ?_); simp only [Env.keep, Env.get, Env.ev, List.map, Nat.reduceEqDiff, ↓reduceIte, Then, Out'])
          | ((first | apply vq_p | apply vq_r | apply vq_a | apply vq_w); (focus (simp (disch := (first | assumption | omega | (simp only [Store.next_push, Store.next_set] <;> omega) | fail)) only [evP, evR_load, evR.eq_2, evR.eq_3, ld_ptr, keyOfV, ld_fp, one_int, cells_int, one_bool, cells_bool, one_str, cells_str, one_nilp, cells_nilp, one_ptr, cells_ptr, one_fp, cells_fp, one_nils, cells_nils, one_lst, cells_lst, one_arr, cells_arr, one_fn, cells_fn, one_nilf, cells_nilf, one_nilm, cells_nilm, one_map, cells_map, one_agg, cells_agg, cellsOf_one, len_nils, len_lst, len_arr, len_str, nil_0, nil_1, nil_2, nil_3, nil_4, nil_5, nil_6, nil_7, nil_8, nil_9, evA, evW, Env.ev, Env.get, Env.evL, Env.evO, binV, binInt, unV, pull, idx_arr, idxSV, sliceV, boundOf, mm_min, mm_max, beq_nat, beq_nat0, beq_nat1, wantV, fillV, splice, zeros, Made.at, Option.map_some, Option.map, List.getElem?_cons_zero, List.getElem?_cons_succ, List.getElem?_nil, List.all_cons, List.all_nil, List.length_cons, List.length_nil, List.take, List.drop, List.map, List.append, List.cons_append, List.nil_append, List.append_nil, Nat.reduceEqDiff, Nat.reduceAdd, Nat.reduceMul, Nat.reduceLeDiff, Nat.zero_add, Nat.add_zero, Nat.zero_mul, ↓reduceIte, decide_true, decide_false, Bool.not_true, Bool.not_false, Bool.and_true, Bool.true_and, Bool.and_self, and_self, and_true, true_and, Bool.false_eq_true, reduceCtorEq, Int.reduceEq, Int.reduceLT, Int.reduceLE, Int.reduceAdd, Int.reduceSub, Int.reduceMul, Int.reduceNeg, Int.reduceToNat, ge_iff_le, gt_iff_lt, beq_self_eq_true, Nat.zero_le, Nat.le_refl, Nat.lt_irrefl, Store.next_push, Store.next_set, get_push_old, get_push_new, get_set_ne, get_set_eq, i64_id, hlen, hc', ix] <;> rfl)))
          | ((first | apply vq_g | apply vw_condm); (focus (simp (disch := (first | assumption | omega | (simp only [Store.next_push, Store.next_set] <;> omega) | fail)) only [evP, evR_load, evR.eq_2, evR.eq_3, ld_ptr, keyOfV, ld_fp, one_int, cells_int, one_bool, cells_bool, one_str, cells_str, one_nilp, cells_nilp, one_ptr, cells_ptr, one_fp, cells_fp, one_nils, cells_nils, one_lst, cells_lst, one_arr, cells_arr, one_fn, cells_fn, one_nilf, cells_nilf, one_nilm, cells_nilm, one_map, cells_map, one_agg, cells_agg, cellsOf_one, len_nils, len_lst, len_arr, len_str, nil_0, nil_1, nil_2, nil_3, nil_4, nil_5, nil_6, nil_7, nil_8, nil_9, evA, evW, Env.ev, Env.get, Env.evL, Env.evO, binV, binInt, unV, pull, idx_arr, idxSV, sliceV, boundOf, mm_min, mm_max, beq_nat, beq_nat0, beq_nat1, wantV, fillV, splice, zeros, Made.at, Option.map_some, Option.map, List.getElem?_cons_zero, List.getElem?_cons_succ, List.getElem?_nil, List.all_cons, List.all_nil, List.length_cons, List.length_nil, List.take, List.drop, List.map, List.append, List.cons_append, List.nil_append, List.append_nil, Nat.reduceEqDiff, Nat.reduceAdd, Nat.reduceMul, Nat.reduceLeDiff, Nat.zero_add, Nat.add_zero, Nat.zero_mul, ↓reduceIte, decide_true, decide_false, Bool.not_true, Bool.not_false, Bool.and_true, Bool.true_and, Bool.and_self, and_self, and_true, true_and, Bool.false_eq_true, reduceCtorEq, Int.reduceEq, Int.reduceLT, Int.reduceLE, Int.reduceAdd, Int.reduceSub, Int.reduceMul, Int.reduceNeg, Int.reduceToNat, ge_iff_le, gt_iff_lt, beq_self_eq_true, Nat.zero_le, Nat.le_refl, Nat.lt_irrefl, Store.next_push, Store.next_set, get_push_old, get_push_new, get_set_ne, get_set_eq, i64_id, hlen, hc', ix] <;> rfl)); (first | refine way_tt ?_ | refine way_ff ?_ | refine wayc_t ?_ | refine wayc_f ?_ | ((first | refine way_tf ?_ | refine way_ft ?_ | refine way_t ?_); simp only [Env.put])))
          | fail
        apply vq_evpf (andE hG hP.wf hpb hpa (by omega))
        · rfl
        rw [hlaid]
        rintro d1 s1 ⟨rfl, ids1, hG1, f1, m1⟩
        have hS1 := hS.stay f1 (by simpa using hE)
        have hS1' := hS'.stay f1 (by simpa using hE')
        have hlt := hS.lt eid (by simp)
        have hlt2 := hS'.lt eid' (by simp)
        have hE1 : eid ∉ ids1 := fun h => by
          rcases m1 _ h with h | h
          · exact hE h
          · omega
        have hE1' : eid' ∉ ids1 := fun h => by
          rcases m1 _ h with h | h
          · exact hE' h
          · omega
        repeat first
          | refine vw_seq ?_
          | refine vw_block ?_
          | refine vw_rg ?_
          | refine vq_free' (by rfl) ?_
          | ((first | refine vq_nil ?_ | refine vw_skip ?_ | refine vw_exit ?_ | refine vw_ret ?_); simp only [Env.keep, Env.get, Env.ev, List.map, Nat.reduceEqDiff, ↓reduceIte, Then, Out'])
          | ((first | apply vq_p | apply vq_r | apply vq_a | apply vq_w); (focus (simp (disch := (first | assumption | omega | (simp only [Store.next_push, Store.next_set] <;> omega) | fail)) only [evP, evR_load, evR.eq_2, evR.eq_3, ld_ptr, keyOfV, ld_fp, one_int, cells_int, one_bool, cells_bool, one_str, cells_str, one_nilp, cells_nilp, one_ptr, cells_ptr, one_fp, cells_fp, one_nils, cells_nils, one_lst, cells_lst, one_arr, cells_arr, one_fn, cells_fn, one_nilf, cells_nilf, one_nilm, cells_nilm, one_map, cells_map, one_agg, cells_agg, cellsOf_one, len_nils, len_lst, len_arr, len_str, nil_0, nil_1, nil_2, nil_3, nil_4, nil_5, nil_6, nil_7, nil_8, nil_9, evA, evW, Env.ev, Env.get, Env.evL, Env.evO, binV, binInt, unV, pull, idx_arr, idxSV, sliceV, boundOf, mm_min, mm_max, beq_nat, beq_nat0, beq_nat1, wantV, fillV, splice, zeros, Made.at, Option.map_some, Option.map, List.getElem?_cons_zero, List.getElem?_cons_succ, List.getElem?_nil, List.all_cons, List.all_nil, List.length_cons, List.length_nil, List.take, List.drop, List.map, List.append, List.cons_append, List.nil_append, List.append_nil, Nat.reduceEqDiff, Nat.reduceAdd, Nat.reduceMul, Nat.reduceLeDiff, Nat.zero_add, Nat.add_zero, Nat.zero_mul, ↓reduceIte, decide_true, decide_false, Bool.not_true, Bool.not_false, Bool.and_true, Bool.true_and, Bool.and_self, and_self, and_true, true_and, Bool.false_eq_true, reduceCtorEq, Int.reduceEq, Int.reduceLT, Int.reduceLE, Int.reduceAdd, Int.reduceSub, Int.reduceMul, Int.reduceNeg, Int.reduceToNat, ge_iff_le, gt_iff_lt, beq_self_eq_true, Nat.zero_le, Nat.le_refl, Nat.lt_irrefl, Store.next_push, Store.next_set, get_push_old, get_push_new, get_set_ne, get_set_eq, i64_id] <;> rfl)))
          | ((first | apply vq_g | apply vw_condm); (focus (simp (disch := (first | assumption | omega | (simp only [Store.next_push, Store.next_set] <;> omega) | fail)) only [evP, evR_load, evR.eq_2, evR.eq_3, ld_ptr, keyOfV, ld_fp, one_int, cells_int, one_bool, cells_bool, one_str, cells_str, one_nilp, cells_nilp, one_ptr, cells_ptr, one_fp, cells_fp, one_nils, cells_nils, one_lst, cells_lst, one_arr, cells_arr, one_fn, cells_fn, one_nilf, cells_nilf, one_nilm, cells_nilm, one_map, cells_map, one_agg, cells_agg, cellsOf_one, len_nils, len_lst, len_arr, len_str, nil_0, nil_1, nil_2, nil_3, nil_4, nil_5, nil_6, nil_7, nil_8, nil_9, evA, evW, Env.ev, Env.get, Env.evL, Env.evO, binV, binInt, unV, pull, idx_arr, idxSV, sliceV, boundOf, mm_min, mm_max, beq_nat, beq_nat0, beq_nat1, wantV, fillV, splice, zeros, Made.at, Option.map_some, Option.map, List.getElem?_cons_zero, List.getElem?_cons_succ, List.getElem?_nil, List.all_cons, List.all_nil, List.length_cons, List.length_nil, List.take, List.drop, List.map, List.append, List.cons_append, List.nil_append, List.append_nil, Nat.reduceEqDiff, Nat.reduceAdd, Nat.reduceMul, Nat.reduceLeDiff, Nat.zero_add, Nat.add_zero, Nat.zero_mul, ↓reduceIte, decide_true, decide_false, Bool.not_true, Bool.not_false, Bool.and_true, Bool.true_and, Bool.and_self, and_self, and_true, true_and, Bool.false_eq_true, reduceCtorEq, Int.reduceEq, Int.reduceLT, Int.reduceLE, Int.reduceAdd, Int.reduceSub, Int.reduceMul, Int.reduceNeg, Int.reduceToNat, ge_iff_le, gt_iff_lt, beq_self_eq_true, Nat.zero_le, Nat.le_refl, Nat.lt_irrefl, Store.next_push, Store.next_set, get_push_old, get_push_new, get_set_ne, get_set_eq, i64_id] <;> rfl)); (first | refine way_tt ?_ | refine way_ff ?_ | refine wayc_t ?_ | refine wayc_f ?_ | ((first | refine way_tf ?_ | refine way_ft ?_ | refine way_t ?_); simp only [Env.put])))
          | fail
        obtain ⟨s2, d2, e1, e2, e3, e4⟩ := hS1'.push1 (.int .i64 ((es[3 + i] : Nat) : Int)) (bytes := 8) (by decide) (by simp; omega)
        apply vq_append'
        · rfl
        · rfl
        · exact e1
        have hl1 := hG1.lt
        have n1 := f1.1
        repeat first
          | refine vw_seq ?_
          | refine vw_block ?_
          | refine vw_rg ?_
          | refine vq_free' (by rfl) ?_
          | ((first | refine vq_nil ?_ | refine vw_skip ?_ | refine vw_exit ?_ | refine vw_ret ?_); simp only [Env.keep, Env.get, Env.ev, List.map, Nat.reduceEqDiff, ↓reduceIte, Then, Out'])
          | ((first | apply vq_p | apply vq_r | apply vq_a | apply vq_w); (focus (simp (disch := (first | assumption | omega | (simp only [Store.next_push, Store.next_set] <;> omega) | fail)) only [evP, evR_load, evR.eq_2, evR.eq_3, ld_ptr, keyOfV, ld_fp, one_int, cells_int, one_bool, cells_bool, one_str, cells_str, one_nilp, cells_nilp, one_ptr, cells_ptr, one_fp, cells_fp, one_nils, cells_nils, one_lst, cells_lst, one_arr, cells_arr, one_fn, cells_fn, one_nilf, cells_nilf, one_nilm, cells_nilm, one_map, cells_map, one_agg, cells_agg, cellsOf_one, len_nils, len_lst, len_arr, len_str, nil_0, nil_1, nil_2, nil_3, nil_4, nil_5, nil_6, nil_7, nil_8, nil_9, evA, evW, Env.ev, Env.get, Env.evL, Env.evO, binV, binInt, unV, pull, idx_arr, idxSV, sliceV, boundOf, mm_min, mm_max, beq_nat, beq_nat0, beq_nat1, wantV, fillV, splice, zeros, Made.at, Option.map_some, Option.map, List.getElem?_cons_zero, List.getElem?_cons_succ, List.getElem?_nil, List.all_cons, List.all_nil, List.length_cons, List.length_nil, List.take, List.drop, List.map, List.append, List.cons_append, List.nil_append, List.append_nil, Nat.reduceEqDiff, Nat.reduceAdd, Nat.reduceMul, Nat.reduceLeDiff, Nat.zero_add, Nat.add_zero, Nat.zero_mul, ↓reduceIte, decide_true, decide_false, Bool.not_true, Bool.not_false, Bool.and_true, Bool.true_and, Bool.and_self, and_self, and_true, true_and, Bool.false_eq_true, reduceCtorEq, Int.reduceEq, Int.reduceLT, Int.reduceLE, Int.reduceAdd, Int.reduceSub, Int.reduceMul, Int.reduceNeg, Int.reduceToNat, ge_iff_le, gt_iff_lt, beq_self_eq_true, Nat.zero_le, Nat.le_refl, Nat.lt_irrefl, Store.next_push, Store.next_set, get_push_old, get_push_new, get_set_ne, get_set_eq, i64_id, hw] <;> rfl)))
          | ((first | apply vq_g | apply vw_condm); (focus (simp (disch := (first | assumption | omega | (simp only [Store.next_push, Store.next_set] <;> omega) | fail)) only [evP, evR_load, evR.eq_2, evR.eq_3, ld_ptr, keyOfV, ld_fp, one_int, cells_int, one_bool, cells_bool, one_str, cells_str, one_nilp, cells_nilp, one_ptr, cells_ptr, one_fp, cells_fp, one_nils, cells_nils, one_lst, cells_lst, one_arr, cells_arr, one_fn, cells_fn, one_nilf, cells_nilf, one_nilm, cells_nilm, one_map, cells_map, one_agg, cells_agg, cellsOf_one, len_nils, len_lst, len_arr, len_str, nil_0, nil_1, nil_2, nil_3, nil_4, nil_5, nil_6, nil_7, nil_8, nil_9, evA, evW, Env.ev, Env.get, Env.evL, Env.evO, binV, binInt, unV, pull, idx_arr, idxSV, sliceV, boundOf, mm_min, mm_max, beq_nat, beq_nat0, beq_nat1, wantV, fillV, splice, zeros, Made.at, Option.map_some, Option.map, List.getElem?_cons_zero, List.getElem?_cons_succ, List.getElem?_nil, List.all_cons, List.all_nil, List.length_cons, List.length_nil, List.take, List.drop, List.map, List.append, List.cons_append, List.nil_append, List.append_nil, Nat.reduceEqDiff, Nat.reduceAdd, Nat.reduceMul, Nat.reduceLeDiff, Nat.zero_add, Nat.add_zero, Nat.zero_mul, ↓reduceIte, decide_true, decide_false, Bool.not_true, Bool.not_false, Bool.and_true, Bool.true_and, Bool.and_self, and_self, and_true, true_and, Bool.false_eq_true, reduceCtorEq, Int.reduceEq, Int.reduceLT, Int.reduceLE, Int.reduceAdd, Int.reduceSub, Int.reduceMul, Int.reduceNeg, Int.reduceToNat, ge_iff_le, gt_iff_lt, beq_self_eq_true, Nat.zero_le, Nat.le_refl, Nat.lt_irrefl, Store.next_push, Store.next_set, get_push_old, get_push_new, get_set_ne, get_set_eq, i64_id, hw] <;> rfl)); (first | refine way_tt ?_ | refine way_ff ?_ | refine wayc_t ?_ | refine wayc_f ?_ | ((first | refine way_tf ?_ | refine way_ft ?_ | refine way_t ?_); simp only [Env.put])))
          | fail
        refine ⟨acts.length - (i + 1), by omega, i + 1, _, s1.next + 1, ids1, _, _, by omega, rfl, hG1.stay e4 ?_, hS1.stay e4 (by simpa using hne), ?_, hE1, ?_, by omega, rfl⟩
        · intro j hj hc
          simp at hc
          subst hc
          exact hE1' hj
        · have : es.take (3 + (i + 1)) = es.take (3 + i) ++ [es[3 + i]] := by
            rw [show 3 + (i + 1) = 3 + i + 1 by omega, List.take_succ_eq_append_getElem (by omega)]
          rw [this, cellsI_append]; exact e2
        · intro h
          have := hl1 _ h
          omega
      · have hc' : ¬ (i : Int) < (acts.length : Int) := by omega
        obtain rfl : i = acts.length := by omega
        rw [List.take_of_length_le (by omega)] at hS'
        have hn := nodes_ok hG
        obtain ⟨x1, i1, r1⟩ := hS.rd.ice (scal_cellsI es)
        obtain ⟨x2, i2, r2⟩ := hS'.rd.ice (scal_cellsI es)
        have hints := ints_ok r1 r2 (by omega)
        have hice : mapO (ice s.get 20) [des, des'] = some [x1, x2] := by simp only [mapO, i1, i2]
        repeat first
          | (apply vq_call'; (focus (simp only [Env.evL, Env.ev, Env.get, Nat.reduceEqDiff, ↓reduceIte, Made.at]; rfl)); (focus (exact hn)))
          | (apply vq_isoL hints rfl; (focus rfl); (focus exact hice))
          | refine vw_seq ?_
          | refine vw_block ?_
          | refine vw_rg ?_
          | refine vq_free' (by rfl) ?_
          | ((first | refine vq_nil ?_ | refine vw_skip ?_ | refine vw_exit ?_ | refine vw_ret ?_); simp only [Env.keep, Env.get, Env.ev, List.map, Nat.reduceEqDiff, ↓reduceIte, Then, Out'])
          | ((first | apply vq_p | apply vq_r | apply vq_a | apply vq_w); (focus (simp (disch := (first | assumption | omega | (simp only [Store.next_push, Store.next_set] <;> omega) | fail)) only [evP, evR_load, evR.eq_2, evR.eq_3, ld_ptr, keyOfV, ld_fp, one_int, cells_int, one_bool, cells_bool, one_str, cells_str, one_nilp, cells_nilp, one_ptr, cells_ptr, one_fp, cells_fp, one_nils, cells_nils, one_lst, cells_lst, one_arr, cells_arr, one_fn, cells_fn, one_nilf, cells_nilf, one_nilm, cells_nilm, one_map, cells_map, one_agg, cells_agg, cellsOf_one, len_nils, len_lst, len_arr, len_str, nil_0, nil_1, nil_2, nil_3, nil_4, nil_5, nil_6, nil_7, nil_8, nil_9, evA, evW, Env.ev, Env.get, Env.evL, Env.evO, binV, binInt, unV, pull, idx_arr, idxSV, sliceV, boundOf, mm_min, mm_max, beq_nat, beq_nat0, beq_nat1, wantV, fillV, splice, zeros, Made.at, Option.map_some, Option.map, List.getElem?_cons_zero, List.getElem?_cons_succ, List.getElem?_nil, List.all_cons, List.all_nil, List.length_cons, List.length_nil, List.take, List.drop, List.map, List.append, List.cons_append, List.nil_append, List.append_nil, Nat.reduceEqDiff, Nat.reduceAdd, Nat.reduceMul, Nat.reduceLeDiff, Nat.zero_add, Nat.add_zero, Nat.zero_mul, ↓reduceIte, decide_true, decide_false, Bool.not_true, Bool.not_false, Bool.and_true, Bool.true_and, Bool.and_self, and_self, and_true, true_and, Bool.false_eq_true, reduceCtorEq, Int.reduceEq, Int.reduceLT, Int.reduceLE, Int.reduceAdd, Int.reduceSub, Int.reduceMul, Int.reduceNeg, Int.reduceToNat, ge_iff_le, gt_iff_lt, beq_self_eq_true, Nat.zero_le, Nat.le_refl, Nat.lt_irrefl, Store.next_push, Store.next_set, get_push_old, get_push_new, get_set_ne, get_set_eq, i64_id, hlen, hc'] <;> rfl)))
          | ((first | apply vq_g | apply vw_condm); (focus (simp (disch := (first | assumption | omega | (simp only [Store.next_push, Store.next_set] <;> omega) | fail)) only [evP, evR_load, evR.eq_2, evR.eq_3, ld_ptr, keyOfV, ld_fp, one_int, cells_int, one_bool, cells_bool, one_str, cells_str, one_nilp, cells_nilp, one_ptr, cells_ptr, one_fp, cells_fp, one_nils, cells_nils, one_lst, cells_lst, one_arr, cells_arr, one_fn, cells_fn, one_nilf, cells_nilf, one_nilm, cells_nilm, one_map, cells_map, one_agg, cells_agg, cellsOf_one, len_nils, len_lst, len_arr, len_str, nil_0, nil_1, nil_2, nil_3, nil_4, nil_5, nil_6, nil_7, nil_8, nil_9, evA, evW, Env.ev, Env.get, Env.evL, Env.evO, binV, binInt, unV, pull, idx_arr, idxSV, sliceV, boundOf, mm_min, mm_max, beq_nat, beq_nat0, beq_nat1, wantV, fillV, splice, zeros, Made.at, Option.map_some, Option.map, List.getElem?_cons_zero, List.getElem?_cons_succ, List.getElem?_nil, List.all_cons, List.all_nil, List.length_cons, List.length_nil, List.take, List.drop, List.map, List.append, List.cons_append, List.nil_append, List.append_nil, Nat.reduceEqDiff, Nat.reduceAdd, Nat.reduceMul, Nat.reduceLeDiff, Nat.zero_add, Nat.add_zero, Nat.zero_mul, ↓reduceIte, decide_true, decide_false, Bool.not_true, Bool.not_false, Bool.and_true, Bool.true_and, Bool.and_self, and_self, and_true, true_and, Bool.false_eq_true, reduceCtorEq, Int.reduceEq, Int.reduceLT, Int.reduceLE, Int.reduceAdd, Int.reduceSub, Int.reduceMul, Int.reduceNeg, Int.reduceToNat, ge_iff_le, gt_iff_lt, beq_self_eq_true, Nat.zero_le, Nat.le_refl, Nat.lt_irrefl, Store.next_push, Store.next_set, get_push_old, get_push_new, get_set_ne, get_set_eq, i64_id, hlen, hc'] <;> rfl)); (first | refine way_tt ?_ | refine way_ff ?_ | refine wayc_t ?_ | refine wayc_f ?_ | ((first | refine way_tf ?_ | refine way_ft ?_ | refine way_t ?_); simp only [Env.put])))
          | fail
        exact ⟨.inr trivial, _, (by simp only [resOf, resAll, resOne, Env.get, Nat.reduceEqDiff, ↓reduceIte] <;> rfl), rfl⟩
end Go.Proofs.Ytedoacfoglbfeaa
