/- Numbers: constants, bits, inputs, values. -/
import Derived.Test.YtedoacfoglbfeaaB9
namespace Go.Proofs.Ytedoacfoglbfeaa
open Go.V
set_option maxRecDepth 100000
set_option maxHeartbeats 4000000
set_option linter.unusedSimpArgs false
set_option linter.unusedVariables false

theorem pow_i64 {i : Nat} (h : i ≤ 16) : IntKind.i64.wrap (1 * 2 ^ min (i : Int).toNat IntKind.i64.bits) = (2 : Int) ^ i := by
  rw [Int.toNat_natCast, show IntKind.i64.bits = 64 from rfl, Nat.min_eq_left (by omega), Int.one_mul]
  have h1 := pow_le' (w := i) (v := 16) h
  have h2 := pow_pos' i
  exact i64_id (by omega) (by omega)
theorem shr_i64 {x : Int} {i : Nat} (h : i ≤ 16) : x.fdiv (2 ^ min (i : Int).toNat IntKind.i64.bits) = x / 2 ^ i := by
  rw [Int.toNat_natCast, show IntKind.i64.bits = 64 from rfl, Nat.min_eq_left (by omega), Int.fdiv_eq_ediv_of_nonneg _ (by have := pow_pos' i; omega)]

/-- The edges of a number's bits. -/
def constL (n : Int) (w : Nat) : List Nat := (List.range w).map fun i => (n / 2 ^ i % 2).toNat
theorem constL_len (n : Int) (w : Nat) : (constL n w).length = w := by simp [constL]
theorem constL_succ (n : Int) (i : Nat) : constL n (i + 1) = constL n i ++ [(n / 2 ^ i % 2).toNat] := by simp [constL, List.range_succ]
theorem constL_getD {n : Int} {w i : Nat} (h : i < w) : (constL n w).getD i 0 = (n / 2 ^ i % 2).toNat := by simp [constL, List.getD, h]
theorem constL_lt {n : Int} {w k : Nat} (hk : 0 < k) : ∀ e ∈ constL n w, e < 2 * k := by
  intro e he
  obtain ⟨i, _, rfl⟩ := List.mem_map.1 he
  have := Int.emod_two_eq (n / 2 ^ i)
  omega
theorem constL_bits {G : Gr} (hw : G.WF) {n : Int} {w i : Nat} (m : List Bool) (h : i < w) : bitsOf G m (constL n w) i = bitZ n i := by
  unfold bitsOf bitZ
  rw [constL_getD h]
  rcases Int.emod_two_eq (n / 2 ^ i) with e | e <;> rw [e]
  · exact hw.ev_zero m
  · exact hw.ev_one m
theorem constL_val {G : Gr} (hw : G.WF) {n : Int} {w : Nat} (h1 : 1 ≤ w) (h2 : w ≤ 16) (m : List Bool) : valE G m (constL n w) = trimZ n w := by
  rw [valE_id (constL_len n w) h1 h2, ← bit_val h1]
  exact valZ_cong h1 fun i hi => constL_bits hw m hi
def bitL (n : Int) (w : Nat) : List Bool := (List.range w).map (bitZ n)
theorem bitL_len (n : Int) (w : Nat) : (bitL n w).length = w := by simp [bitL]
theorem bitL_succ (n : Int) (i : Nat) : bitL n (i + 1) = bitL n i ++ [bitZ n i] := by simp [bitL, List.range_succ]
theorem bitL_getD {n : Int} {w i : Nat} (h : i < w) : (bitL n w).getD i false = bitZ n i := by simp [bitL, List.getD, h]

def fillB (l : List Bool) (w : Nat) : List Bool := l ++ List.replicate (w - l.length) false
theorem fillB_nil (w : Nat) : fillB [] w = List.replicate w false := by simp [fillB]
theorem fillB_len {l : List Bool} {w : Nat} (h : l.length ≤ w) : (fillB l w).length = w := by simp [fillB]; omega
theorem fillB_set {l : List Bool} {w : Nat} {e : Bool} (h : l.length < w) : (fillB l w).set l.length e = fillB (l ++ [e]) w := by
  unfold fillB
  rw [List.set_append_right _ _ (Nat.le_refl _), Nat.sub_self]
  obtain ⟨n, hn⟩ : ∃ n, w - l.length = n + 1 := ⟨w - l.length - 1, by omega⟩
  rw [hn, List.replicate_succ, List.set_cons_zero, List.append_assoc]
  congr 1
  simp
  omega
theorem fillB_all {l : List Bool} {w : Nat} (h : l.length = w) : fillB l w = l := by simp [fillB, h]

theorem constV {s : Store} {x n : Int} {w : Nat} (hn : (w : Int) = min (max n 1) 16) :
    EvP vfs 37 [.int .i64 x, .int .i64 n] s fun d s' => ∃ id, d = .arr id 0 w 1 ∧ s'.get id = some (.cells (cellsI (constL x w))) ∧ Fr [] s s' ∧ s.next ≤ id := by
  have hwd := width_ok (s := Store.empty) (n := n)
  rw [← hn] at hwd
  have hwl : w ≤ 16 := by omega
  have a1 : ((0 : Int) ≤ (w : Int)) = True := eq_true (by omega)
  have a2 : ((((8 : Nat) : Int) * (w : Int)) ≤ 2 ^ 47) = True := eq_true (by omega)
  have a3 : ((w : Int) < 2 ^ 62) = True := eq_true (by omega)
  refine evp_of (vf := vf37) rfl ?_
  simp only [vf37, List.map, List.getD, List.getElem?_cons_zero, List.getElem?_cons_succ, List.getElem?_nil, Option.getD]
  repeat first
    | (apply vq_isoL hwd rfl; (focus rfl); (focus rfl))
    | with_reducible (first | refine vw_seq ?_ | refine vw_block ?_ | refine vw_rg ?_)
    | ((with_reducible apply vq_free'); (focus rfl))
    | ((with_reducible (first | refine vq_nil ?_ | refine vw_skip ?_ | refine vw_exit ?_ | refine vw_ret ?_)); simp only [Env.keep, Env.get, Env.ev, List.map, Nat.reduceEqDiff, ↓reduceIte, Then, Out'])
    | ((with_reducible (first | apply vq_p | apply vq_r | apply vq_a | apply vq_w | apply vq_g | apply vw_condm)); (focus (simp (disch := (first | with_reducible assumption | omega | ((repeat (first | rw [Store.next_push] | rw [Store.next_set])) <;> omega) | fail)) only [go_sem, Nat.reduceEqDiff, Nat.reduceAdd, Nat.reduceMul, Nat.reduceLeDiff, ↓reduceIte, reduceCtorEq, Int.reduceEq, Int.reduceLT, Int.reduceLE, Int.reduceAdd, Int.reduceSub, Int.reduceMul, Int.reduceNeg, Int.reduceToNat, a1, a2, a3, zerosI, Int.le_refl] <;> rfl)); (first | (with_reducible (first | refine way_tt ?_ | refine way_ff ?_ | refine wayc_t ?_ | refine wayc_f ?_ | refine way_tf ?_ | refine way_ft ?_ | refine way_t ?_); try simp only [Env.put]) | with_reducible refine (?_ : WQ _ _ _ _ _ _)))
    | fail
  refine vw_loop_inv (fun k env s1 => ∃ (i : Nat), i ≤ w ∧ k = w - i ∧ Fr [] s s1 ∧ s1.get s.next = some (.cells (cellsI (fillL (constL x i) w))) ∧
    (env.get 0 = .int .i64 x ∧ env.get 5 = .arr s.next 0 w 1 ∧ env.get 11 = .int .i64 (w : Int) ∧ env.get 12 = .int .i64 (i : Int))) ?_ w _ _
    ⟨0, Nat.zero_le _, by omega, Fr.push _, by rw [show constL x 0 = [] from rfl, fillL_nil]; exact get_push_new rfl, by simp [Env.get, Made.at]⟩
  rintro k env s1 ⟨i, hi, rfl, f1, hg, hE⟩
  by_cases hci : i < w
  · have hci' : (i : Int) < (w : Int) := by omega
    have hs := i64_succ (i := i) (by omega)
    have hll := constL_len x i
    have hfl := fillL_len (l := constL x i) (w := w) (by omega)
    have h2 := Int.emod_two_eq (x / 2 ^ i)
    have hfs : (fillL (constL x i) w).set i (x / 2 ^ i % 2).toNat = fillL (constL x (i + 1)) w := by
      rw [constL_succ]
      have := fillL_set (l := constL x i) (w := w) (e := (x / 2 ^ i % 2).toNat) (by omega)
      rwa [hll] at this
    have hsh : binV .shr (.int .i64 x) (.int .i64 (i : Int)) = some (.int .i64 (x / 2 ^ i)) := by
      simp only [binV, shiftInt]
      rw [if_neg (by omega), shr_i64 (by omega)]
    have han : binV .and (.int .i64 (x / 2 ^ i)) (.int .i64 1) = some (.int .i64 (((x / 2 ^ i % 2).toNat : Nat) : Int)) := by
      simp only [binV, bi_and, bi_add, bi_sub, ↓reduceIte]
      rw [i64_and1]
      simp
      omega
    generalize (x / 2 ^ i % 2).toNat = b at *
    repeat first
      | (apply vq_p; (focus (simp only [evP, Env.ev, Env.get, Nat.reduceEqDiff, ↓reduceIte, hE]; first | exact hsh | exact han)))
      | (apply vq_wI hg (by omega : i < (fillL (constL x i) w).length); (focus rfl); (focus rfl))
      | with_reducible (first | refine vw_seq ?_ | refine vw_block ?_ | refine vw_rg ?_)
      | ((with_reducible apply vq_free'); (focus rfl))
      | ((with_reducible (first | refine vq_nil ?_ | refine vw_skip ?_ | refine vw_exit ?_ | refine vw_ret ?_)); simp only [Env.keep, Env.get, Env.ev, List.map, Nat.reduceEqDiff, ↓reduceIte, Then, Out'])
      | ((with_reducible (first | apply vq_p | apply vq_r | apply vq_a | apply vq_w | apply vq_g | apply vw_condm)); (focus (simp (disch := (first | with_reducible assumption | omega | ((repeat (first | rw [Store.next_push] | rw [Store.next_set])) <;> omega) | fail)) only [go_sem, Nat.reduceEqDiff, Nat.reduceAdd, Nat.reduceMul, Nat.reduceLeDiff, ↓reduceIte, reduceCtorEq, Int.reduceEq, Int.reduceLT, Int.reduceLE, Int.reduceAdd, Int.reduceSub, Int.reduceMul, Int.reduceNeg, Int.reduceToNat, hE, hci', hs] <;> rfl)); (first | (with_reducible (first | refine way_tt ?_ | refine way_ff ?_ | refine wayc_t ?_ | refine wayc_f ?_ | refine way_tf ?_ | refine way_ft ?_ | refine way_t ?_); try simp only [Env.put]) | with_reducible refine (?_ : WQ _ _ _ _ _ _)))
      | fail
    refine ⟨w - (i + 1), by omega, i + 1, by omega, rfl, f1.thenSet _ (.inr (Nat.le_refl _)), ?_, (by simp only [Env.get, Nat.reduceEqDiff, ↓reduceIte, hE, and_self])⟩
    rw [get_set_eq (get_lts hg), hfs]
  · have hci' : ¬ (i : Int) < (w : Int) := by omega
    obtain rfl : i = w := by omega
    rw [fillL_all (constL_len x i)] at hg
    repeat first
      | with_reducible (first | refine vw_seq ?_ | refine vw_block ?_ | refine vw_rg ?_)
      | ((with_reducible apply vq_free'); (focus rfl))
      | ((with_reducible (first | refine vq_nil ?_ | refine vw_skip ?_ | refine vw_exit ?_ | refine vw_ret ?_)); simp only [Env.keep, Env.get, Env.ev, List.map, Nat.reduceEqDiff, ↓reduceIte, Then, Out'])
      | ((with_reducible (first | apply vq_p | apply vq_r | apply vq_a | apply vq_w | apply vq_g | apply vw_condm)); (focus (simp (disch := (first | with_reducible assumption | omega | ((repeat (first | rw [Store.next_push] | rw [Store.next_set])) <;> omega) | fail)) only [go_sem, Nat.reduceEqDiff, Nat.reduceAdd, Nat.reduceMul, Nat.reduceLeDiff, ↓reduceIte, reduceCtorEq, Int.reduceEq, Int.reduceLT, Int.reduceLE, Int.reduceAdd, Int.reduceSub, Int.reduceMul, Int.reduceNeg, Int.reduceToNat, hE, hci'] <;> rfl)); (first | (with_reducible (first | refine way_tt ?_ | refine way_ff ?_ | refine wayc_t ?_ | refine wayc_f ?_ | refine way_tf ?_ | refine way_ft ?_ | refine way_t ?_); try simp only [Env.put]) | with_reducible refine (?_ : WQ _ _ _ _ _ _)))
      | fail
    exact ⟨.inr trivial, _, (by simp only [resOf, resAll, resOne, Env.get, Nat.reduceEqDiff, ↓reduceIte] <;> rfl), s.next, rfl, hg, f1, Nat.le_refl _⟩

theorem bitsV {s : Store} {x n : Int} {w : Nat} (hn : (w : Int) = min (max n 1) 16) :
    EvP vfs 46 [.int .i64 x, .int .i64 n] s fun d s' => ∃ id, d = .arr id 0 w 1 ∧ s'.get id = some (.cells (cellsB (bitL x w))) ∧ Fr [] s s' ∧ s.next ≤ id := by
  have hwd := width_ok (s := Store.empty) (n := n)
  rw [← hn] at hwd
  have hwl : w ≤ 16 := by omega
  have a1 : ((0 : Int) ≤ (w : Int)) = True := eq_true (by omega)
  have a2 : ((((1 : Nat) : Int) * (w : Int)) ≤ 2 ^ 47) = True := eq_true (by omega)
  have a3 : ((w : Int) < 2 ^ 62) = True := eq_true (by omega)
  refine evp_of (vf := vf46) rfl ?_
  simp only [vf46, List.map, List.getD, List.getElem?_cons_zero, List.getElem?_cons_succ, List.getElem?_nil, Option.getD]
  repeat first
    | (apply vq_isoL hwd rfl; (focus rfl); (focus rfl))
    | with_reducible (first | refine vw_seq ?_ | refine vw_block ?_ | refine vw_rg ?_)
    | ((with_reducible apply vq_free'); (focus rfl))
    | ((with_reducible (first | refine vq_nil ?_ | refine vw_skip ?_ | refine vw_exit ?_ | refine vw_ret ?_)); simp only [Env.keep, Env.get, Env.ev, List.map, Nat.reduceEqDiff, ↓reduceIte, Then, Out'])
    | ((with_reducible (first | apply vq_p | apply vq_r | apply vq_a | apply vq_w | apply vq_g | apply vw_condm)); (focus (simp (disch := (first | with_reducible assumption | omega | ((repeat (first | rw [Store.next_push] | rw [Store.next_set])) <;> omega) | fail)) only [go_sem, Nat.reduceEqDiff, Nat.reduceAdd, Nat.reduceMul, Nat.reduceLeDiff, ↓reduceIte, reduceCtorEq, Int.reduceEq, Int.reduceLT, Int.reduceLE, Int.reduceAdd, Int.reduceSub, Int.reduceMul, Int.reduceNeg, Int.reduceToNat, a1, a2, a3, zerosB, Int.le_refl] <;> rfl)); (first | (with_reducible (first | refine way_tt ?_ | refine way_ff ?_ | refine wayc_t ?_ | refine wayc_f ?_ | refine way_tf ?_ | refine way_ft ?_ | refine way_t ?_); try simp only [Env.put]) | with_reducible refine (?_ : WQ _ _ _ _ _ _)))
    | fail
  refine vw_loop_inv (fun k env s1 => ∃ (i : Nat), i ≤ w ∧ k = w - i ∧ Fr [] s s1 ∧ s1.get s.next = some (.cells (cellsB (fillB (bitL x i) w))) ∧
    (env.get 0 = .int .i64 x ∧ env.get 5 = .arr s.next 0 w 1 ∧ env.get 11 = .int .i64 (w : Int) ∧ env.get 12 = .int .i64 (i : Int))) ?_ w _ _
    ⟨0, Nat.zero_le _, by omega, Fr.push _, by rw [show bitL x 0 = [] from rfl, fillB_nil]; exact get_push_new rfl, by simp [Env.get, Made.at]⟩
  rintro k env s1 ⟨i, hi, rfl, f1, hg, hE⟩
  by_cases hci : i < w
  · have hci' : (i : Int) < (w : Int) := by omega
    have hs := i64_succ (i := i) (by omega)
    have hll := bitL_len x i
    have hfl := fillB_len (l := bitL x i) (w := w) (by omega)
    have hfs : (fillB (bitL x i) w).set i (bitZ x i) = fillB (bitL x (i + 1)) w := by
      rw [bitL_succ]
      have := fillB_set (l := bitL x i) (w := w) (e := bitZ x i) (by omega)
      rwa [hll] at this
    have hsh : binV .shr (.int .i64 x) (.int .i64 (i : Int)) = some (.int .i64 (x / 2 ^ i)) := by
      simp only [binV, shiftInt]
      rw [if_neg (by omega), shr_i64 (by omega)]
    have han : binV .and (.int .i64 (x / 2 ^ i)) (.int .i64 1) = some (.int .i64 (x / 2 ^ i % 2)) := by
      simp only [binV, bi_and, bi_add, bi_sub, ↓reduceIte]
      rw [i64_and1]
    have heq : binV .eql (.int .i64 (x / 2 ^ i % 2)) (.int .i64 1) = some (.bool (bitZ x i)) := by
      simp only [binV, bi_and, bi_add, bi_sub, ↓reduceIte]
      rfl
    repeat first
      | (apply vq_p; (focus (simp only [evP, Env.ev, Env.get, Nat.reduceEqDiff, ↓reduceIte, hE]; first | exact hsh | exact han | exact heq)))
      | (apply vq_wB hg (by omega : i < (fillB (bitL x i) w).length); (focus rfl); (focus rfl))
      | with_reducible (first | refine vw_seq ?_ | refine vw_block ?_ | refine vw_rg ?_)
      | ((with_reducible apply vq_free'); (focus rfl))
      | ((with_reducible (first | refine vq_nil ?_ | refine vw_skip ?_ | refine vw_exit ?_ | refine vw_ret ?_)); simp only [Env.keep, Env.get, Env.ev, List.map, Nat.reduceEqDiff, ↓reduceIte, Then, Out'])
      | ((with_reducible (first | apply vq_p | apply vq_r | apply vq_a | apply vq_w | apply vq_g | apply vw_condm)); (focus (simp (disch := (first | with_reducible assumption | omega | ((repeat (first | rw [Store.next_push] | rw [Store.next_set])) <;> omega) | fail)) only [go_sem, Nat.reduceEqDiff, Nat.reduceAdd, Nat.reduceMul, Nat.reduceLeDiff, ↓reduceIte, reduceCtorEq, Int.reduceEq, Int.reduceLT, Int.reduceLE, Int.reduceAdd, Int.reduceSub, Int.reduceMul, Int.reduceNeg, Int.reduceToNat, hE, hci', hs] <;> rfl)); (first | (with_reducible (first | refine way_tt ?_ | refine way_ff ?_ | refine wayc_t ?_ | refine wayc_f ?_ | refine way_tf ?_ | refine way_ft ?_ | refine way_t ?_); try simp only [Env.put]) | with_reducible refine (?_ : WQ _ _ _ _ _ _)))
      | fail
    refine ⟨w - (i + 1), by omega, i + 1, by omega, rfl, f1.thenSet _ (.inr (Nat.le_refl _)), ?_, (by simp only [Env.get, Nat.reduceEqDiff, ↓reduceIte, hE, and_self])⟩
    rw [get_set_eq (get_lts hg), hfs]
  · have hci' : ¬ (i : Int) < (w : Int) := by omega
    obtain rfl : i = w := by omega
    rw [fillB_all (bitL_len x i)] at hg
    repeat first
      | with_reducible (first | refine vw_seq ?_ | refine vw_block ?_ | refine vw_rg ?_)
      | ((with_reducible apply vq_free'); (focus rfl))
      | ((with_reducible (first | refine vq_nil ?_ | refine vw_skip ?_ | refine vw_exit ?_ | refine vw_ret ?_)); simp only [Env.keep, Env.get, Env.ev, List.map, Nat.reduceEqDiff, ↓reduceIte, Then, Out'])
      | ((with_reducible (first | apply vq_p | apply vq_r | apply vq_a | apply vq_w | apply vq_g | apply vw_condm)); (focus (simp (disch := (first | with_reducible assumption | omega | ((repeat (first | rw [Store.next_push] | rw [Store.next_set])) <;> omega) | fail)) only [go_sem, Nat.reduceEqDiff, Nat.reduceAdd, Nat.reduceMul, Nat.reduceLeDiff, ↓reduceIte, reduceCtorEq, Int.reduceEq, Int.reduceLT, Int.reduceLE, Int.reduceAdd, Int.reduceSub, Int.reduceMul, Int.reduceNeg, Int.reduceToNat, hE, hci'] <;> rfl)); (first | (with_reducible (first | refine way_tt ?_ | refine way_ff ?_ | refine wayc_t ?_ | refine wayc_f ?_ | refine way_tf ?_ | refine way_ft ?_ | refine way_t ?_); try simp only [Env.put]) | with_reducible refine (?_ : WQ _ _ _ _ _ _)))
      | fail
    exact ⟨.inr trivial, _, (by simp only [resOf, resAll, resOne, Env.get, Nat.reduceEqDiff, ↓reduceIte] <;> rfl), s.next, rfl, hg, f1, Nat.le_refl _⟩

theorem inputsV {s : Store} {g : Nat} {G : Gr} {ids : List Nat} {n : Int} {w : Nat} (hG : GA s g G ids) (hw : G.WF) (hL : G.nodes.length + 200 < 200000) (hI : G.ins.length + 200 < 200000) (hn : (w : Int) = min (max n 1) 16) :
    EvP vfs 47 [.ptr g 0, .int .i64 n] s fun d s' => ∃ (es : List Nat) (G' : Gr) (ids' : List Nat) (id : Nat), d = .arr id 0 w 1 ∧ s'.get id = some (.cells (cellsI es)) ∧ es.length = w ∧ id ∉ ids' ∧ s.next ≤ id ∧ GrStep s g ids s' G' ids' ∧ G'.WF ∧ Gr.Ext G G' ∧ G'.nodes.length = G.nodes.length + w ∧ G'.ins.length = G.ins.length + w ∧ VI s' ids' G' d es ∧
      ∀ m i, i < w → bitsOf G' m es i = m.getD (G.ins.length + i) false := by
  have hwd := width_ok (s := Store.empty) (n := n)
  rw [← hn] at hwd
  have hwl : w ≤ 16 := by omega
  have hlt := hG.lt
  have hGl := hw.len
  have a1 : ((0 : Int) ≤ (w : Int)) = True := eq_true (by omega)
  have a2 : ((((8 : Nat) : Int) * (w : Int)) ≤ 2 ^ 47) = True := eq_true (by omega)
  have a3 : ((w : Int) < 2 ^ 62) = True := eq_true (by omega)
  refine evp_of (vf := vf47) rfl ?_
  simp only [vf47, List.map, List.getD, List.getElem?_cons_zero, List.getElem?_cons_succ, List.getElem?_nil, Option.getD]
  repeat first
    | (apply vq_isoL hwd rfl; (focus rfl); (focus rfl))
    | with_reducible (first | refine vw_seq ?_ | refine vw_block ?_ | refine vw_rg ?_)
    | ((with_reducible apply vq_free'); (focus rfl))
    | ((with_reducible (first | refine vq_nil ?_ | refine vw_skip ?_ | refine vw_exit ?_ | refine vw_ret ?_)); simp only [Env.keep, Env.get, Env.ev, List.map, Nat.reduceEqDiff, ↓reduceIte, Then, Out'])
    | ((with_reducible (first | apply vq_p | apply vq_r | apply vq_a | apply vq_w | apply vq_g | apply vw_condm)); (focus (simp (disch := (first | with_reducible assumption | omega | ((repeat (first | rw [Store.next_push] | rw [Store.next_set])) <;> omega) | fail)) only [go_sem, Nat.reduceEqDiff, Nat.reduceAdd, Nat.reduceMul, Nat.reduceLeDiff, ↓reduceIte, reduceCtorEq, Int.reduceEq, Int.reduceLT, Int.reduceLE, Int.reduceAdd, Int.reduceSub, Int.reduceMul, Int.reduceNeg, Int.reduceToNat, a1, a2, a3, zerosI, Int.le_refl] <;> rfl)); (first | (with_reducible (first | refine way_tt ?_ | refine way_ff ?_ | refine wayc_t ?_ | refine wayc_f ?_ | refine way_tf ?_ | refine way_ft ?_ | refine way_t ?_); try simp only [Env.put]) | with_reducible refine (?_ : WQ _ _ _ _ _ _)))
    | fail
  refine vw_loop_inv (fun k env s1 => ∃ (i : Nat) (L : List Nat) (G1 : Gr) (ids1 : List Nat), i ≤ w ∧ k = w - i ∧ L.length = i ∧ GrStep s g ids s1 G1 ids1 ∧ G1.WF ∧ Gr.Ext G G1 ∧ G1.nodes.length = G.nodes.length + i ∧ G1.ins.length = G.ins.length + i ∧ s1.get s.next = some (.cells (cellsI (fillL L w))) ∧ s.next ∉ ids1 ∧ (∀ e ∈ L, e < 2 * G1.nodes.length) ∧
    (∀ m j, j < i → bitsOf G1 m L j = m.getD (G.ins.length + j) false) ∧
    (env.get 0 = .ptr g 0 ∧ env.get 5 = .arr s.next 0 w 1 ∧ env.get 11 = .int .i64 (w : Int) ∧ env.get 12 = .int .i64 (i : Int))) ?_ w _ _
    ⟨0, [], G, ids, Nat.zero_le _, by omega, rfl, hG.newer (Fr.push _), hw, Gr.Ext.refl _, rfl, rfl, by rw [fillL_nil]; exact get_push_new rfl, fun h => by have := hlt _ h; omega, by simp, fun m j hj => by omega, by simp [Env.get, Made.at]⟩
  rintro k env s1 ⟨i, L, G1, ids1, hi, rfl, hLl, hst, hw1, hx1, hlen, hins, hg, hn1, hLt, hLv, hE⟩
  by_cases hci : i < w
  · have hci' : (i : Int) < (w : Int) := by omega
    have hs := i64_succ (i := i) (by omega)
    repeat first
      | with_reducible (first | refine vw_seq ?_ | refine vw_block ?_ | refine vw_rg ?_)
      | ((with_reducible apply vq_free'); (focus rfl))
      | ((with_reducible (first | refine vq_nil ?_ | refine vw_skip ?_ | refine vw_exit ?_ | refine vw_ret ?_)); simp only [Env.keep, Env.get, Env.ev, List.map, Nat.reduceEqDiff, ↓reduceIte, Then, Out'])
      | ((with_reducible (first | apply vq_p | apply vq_r | apply vq_a | apply vq_w | apply vq_g | apply vw_condm)); (focus (simp (disch := (first | with_reducible assumption | omega | ((repeat (first | rw [Store.next_push] | rw [Store.next_set])) <;> omega) | fail)) only [go_sem, Nat.reduceEqDiff, Nat.reduceAdd, Nat.reduceMul, Nat.reduceLeDiff, ↓reduceIte, reduceCtorEq, Int.reduceEq, Int.reduceLT, Int.reduceLE, Int.reduceAdd, Int.reduceSub, Int.reduceMul, Int.reduceNeg, Int.reduceToNat, hE, hci'] <;> rfl)); (first | (with_reducible (first | refine way_tt ?_ | refine way_ff ?_ | refine wayc_t ?_ | refine wayc_f ?_ | refine way_tf ?_ | refine way_ft ?_ | refine way_t ?_); try simp only [Env.put]) | with_reducible refine (?_ : WQ _ _ _ _ _ _)))
      | fail
    apply vq_evpf (input_ok hst.1 (by omega) (by omega) (by omega))
    · simp only [Env.evL, Env.ev, Env.get, Nat.reduceEqDiff, ↓reduceIte, hE]
    rintro q s2 ⟨rfl, ids2, j2⟩
    obtain ⟨hg2, hn2⟩ := j2.keep hg hn1
    obtain ⟨w2, x2, l2, i2, v2⟩ := Gr.input_ok hw1
    have hfl := fillL_len (l := L) (w := w) (by omega)
    have hfs : (fillL L w).set i (2 * G1.nodes.length) = fillL (L ++ [2 * G1.nodes.length]) w := by rw [← hLl]; exact fillL_set (by omega)
    have hgl : ∀ j, L.getD j 0 < 2 * G1.nodes.length := getD_lt hLt (by omega)
    generalize hN : 2 * G1.nodes.length = N at *
    repeat first
      | (apply vq_wI hg2 (by omega : i < (fillL L w).length); (focus rfl); (focus rfl))
      | with_reducible (first | refine vw_seq ?_ | refine vw_block ?_ | refine vw_rg ?_)
      | ((with_reducible apply vq_free'); (focus rfl))
      | ((with_reducible (first | refine vq_nil ?_ | refine vw_skip ?_ | refine vw_exit ?_ | refine vw_ret ?_)); simp only [Env.keep, Env.get, Env.ev, List.map, Nat.reduceEqDiff, ↓reduceIte, Then, Out'])
      | ((with_reducible (first | apply vq_p | apply vq_r | apply vq_a | apply vq_w | apply vq_g | apply vw_condm)); (focus (simp (disch := (first | with_reducible assumption | omega | ((repeat (first | rw [Store.next_push] | rw [Store.next_set])) <;> omega) | fail)) only [go_sem, Nat.reduceEqDiff, Nat.reduceAdd, Nat.reduceMul, Nat.reduceLeDiff, ↓reduceIte, reduceCtorEq, Int.reduceEq, Int.reduceLT, Int.reduceLE, Int.reduceAdd, Int.reduceSub, Int.reduceMul, Int.reduceNeg, Int.reduceToNat, hE, hs] <;> rfl)); (first | (with_reducible (first | refine way_tt ?_ | refine way_ff ?_ | refine wayc_t ?_ | refine wayc_f ?_ | refine way_tf ?_ | refine way_ft ?_ | refine way_t ?_); try simp only [Env.put]) | with_reducible refine (?_ : WQ _ _ _ _ _ _)))
      | fail
    refine ⟨w - (i + 1), by omega, i + 1, L ++ [N], G1.input, ids2, by omega, rfl, by simp; omega, (hst.trans j2).wr _ hn2 (Nat.le_refl _), w2, hx1.trans x2, by omega, by rw [i2]; simp; omega, by rw [get_set_eq (get_lts hg2), hfs], hn2, ?_, ?_, (by simp only [Env.get, Nat.reduceEqDiff, ↓reduceIte, hE, and_self])⟩
    · intro e he
      rcases List.mem_append.1 he with he | he
      · have := hLt e he; omega
      · simp at he; subst he; omega
    · intro m j hj
      unfold bitsOf
      rw [getD_snoc]
      by_cases hji : j < i
      · rw [if_pos (by omega)]
        have h1 := hLv m j hji
        unfold bitsOf at h1
        rw [← h1]
        exact x2.ev (by rw [hN]; exact hgl j)
      · have : j = i := by omega
        subst this
        rw [if_neg (by omega), if_pos (by omega), v2, hins]
  · have hci' : ¬ (i : Int) < (w : Int) := by omega
    obtain rfl : i = w := by omega
    rw [fillL_all hLl] at hg
    repeat first
      | with_reducible (first | refine vw_seq ?_ | refine vw_block ?_ | refine vw_rg ?_)
      | ((with_reducible apply vq_free'); (focus rfl))
      | ((with_reducible (first | refine vq_nil ?_ | refine vw_skip ?_ | refine vw_exit ?_ | refine vw_ret ?_)); simp only [Env.keep, Env.get, Env.ev, List.map, Nat.reduceEqDiff, ↓reduceIte, Then, Out'])
      | ((with_reducible (first | apply vq_p | apply vq_r | apply vq_a | apply vq_w | apply vq_g | apply vw_condm)); (focus (simp (disch := (first | with_reducible assumption | omega | ((repeat (first | rw [Store.next_push] | rw [Store.next_set])) <;> omega) | fail)) only [go_sem, Nat.reduceEqDiff, Nat.reduceAdd, Nat.reduceMul, Nat.reduceLeDiff, ↓reduceIte, reduceCtorEq, Int.reduceEq, Int.reduceLT, Int.reduceLE, Int.reduceAdd, Int.reduceSub, Int.reduceMul, Int.reduceNeg, Int.reduceToNat, hE, hci'] <;> rfl)); (first | (with_reducible (first | refine way_tt ?_ | refine way_ff ?_ | refine wayc_t ?_ | refine wayc_f ?_ | refine way_tf ?_ | refine way_ft ?_ | refine way_t ?_); try simp only [Env.put]) | with_reducible refine (?_ : WQ _ _ _ _ _ _)))
      | fail
    exact ⟨.inr trivial, _, (by simp only [resOf, resAll, resOne, Env.get, Nat.reduceEqDiff, ↓reduceIte] <;> rfl), L, G1, ids1, s.next, rfl, hg, hLl, hn1, Nat.le_refl _, hst, hw1, hx1, hlen, hins, VI.of hg hLl hn1 hLt, hLv⟩

def atB (bs : List Bool) (i : Nat) : Bool := bs.getD i false
theorem valueV {s : Store} {d : D} {bs : List Bool} {w : Nat} (hd : Rd s d (cellsB bs)) (hl : bs.length = w) (h1 : 1 ≤ w) (h2 : w ≤ 16) :
    Ev vfs 38 [d] s (.int .i64 (valZ (atB bs) w)) s := by
  have hlb := hd.lenB
  rw [hl] at hlb
  have hmin : min (w : Int) 16 = (w : Int) := by omega
  have hpos : ((0 : Int) < (w : Int)) = True := eq_true (by omega)
  have ht : IntKind.i64.wrap ((w : Int) - 1) = ((w - 1 : Nat) : Int) := by rw [i64_id (by omega) (by omega)]; omega
  refine ev_of (vf := vf38) rfl ?_
  simp only [vf38, List.map, List.getD, List.getElem?_cons_zero, List.getElem?_cons_succ, List.getElem?_nil, Option.getD]
  repeat first
    | with_reducible (first | refine vw_seq ?_ | refine vw_block ?_ | refine vw_rg ?_)
    | ((with_reducible apply vq_free'); (focus rfl))
    | ((with_reducible (first | refine vq_nil ?_ | refine vw_skip ?_ | refine vw_exit ?_ | refine vw_ret ?_)); simp only [Env.keep, Env.get, Env.ev, List.map, Nat.reduceEqDiff, ↓reduceIte, Then, Out'])
    | ((with_reducible (first | apply vq_p | apply vq_r | apply vq_a | apply vq_w | apply vq_g | apply vw_condm)); (focus (simp (disch := (first | with_reducible assumption | omega | ((repeat (first | rw [Store.next_push] | rw [Store.next_set])) <;> omega) | fail)) only [go_sem, Nat.reduceEqDiff, Nat.reduceAdd, Nat.reduceMul, Nat.reduceLeDiff, ↓reduceIte, reduceCtorEq, Int.reduceEq, Int.reduceLT, Int.reduceLE, Int.reduceAdd, Int.reduceSub, Int.reduceMul, Int.reduceNeg, Int.reduceToNat, hlb, hmin] <;> rfl)); (first | (with_reducible (first | refine way_tt ?_ | refine way_ff ?_ | refine wayc_t ?_ | refine wayc_f ?_ | refine way_tf ?_ | refine way_ft ?_ | refine way_t ?_); try simp only [Env.put]) | with_reducible refine (?_ : WQ _ _ _ _ _ _)))
    | fail
  refine vw_loop_inv (fun k env s1 => ∃ (i : Nat), i ≤ w ∧ k = w - i ∧ s1 = s ∧
    (env.get 0 = d ∧ env.get 3 = .int .i64 (w : Int) ∧ env.get 4 = .int .i64 (num (atB bs) i : Nat) ∧ env.get 9 = .int .i64 (w : Int) ∧ env.get 10 = .int .i64 (i : Int))) ?_ w _ _
    ⟨0, Nat.zero_le _, by omega, rfl, by simp [Env.get, Made.at, num]⟩
  rintro k env s1 ⟨i, hi, rfl, rfl, hE⟩
  have hnl := num_lt (atB bs) i
  have hp16 : 2 ^ i ≤ 2 ^ 16 := Nat.pow_le_pow_right (by omega) (by omega)
  by_cases hci : i < w
  · have hci' : (i : Int) < (w : Int) := by omega
    have hs := i64_succ (i := i) (by omega)
    have ib : i < bs.length := by omega
    obtain ⟨p, p1, p2⟩ := hd.idxB ib
    have eb : bs[i] = atB bs i := by simp [atB, List.getD, ib]
    rw [eb] at p2
    have hshl : binV .shl (.int .i64 1) (.int .i64 (i : Int)) = some (.int .i64 (2 ^ i : Nat)) := by
      simp only [binV, shiftInt]
      rw [if_neg (by omega), pow_i64 (by omega)]
      simp
    have hnum : num (atB bs) (i + 1) = num (atB bs) i + b2n (atB bs i) * 2 ^ i := rfl
    generalize num (atB bs) i = N at *
    have hadd : IntKind.i64.wrap ((N : Int) + ((2 ^ i : Nat) : Int)) = ((N + 2 ^ i : Nat) : Int) := by rw [i64_id (by omega) (by omega)]; omega
    generalize 2 ^ i = P at *
    cases hb : atB bs i with
    | true =>
      rw [hb] at p2 hnum
      rw [b2n_t, Nat.one_mul] at hnum
      repeat first
        | (apply vq_p; (focus (simp only [evP, Env.ev, Env.get, Nat.reduceEqDiff, ↓reduceIte, hE]; first | exact p1 | exact hshl)))
        | (apply vq_ld; (focus (simp only [Env.ev, Env.get, Nat.reduceEqDiff, ↓reduceIte]; rfl)); (focus exact p2))
        | with_reducible (first | refine vw_seq ?_ | refine vw_block ?_ | refine vw_rg ?_)
        | ((with_reducible apply vq_free'); (focus rfl))
        | ((with_reducible (first | refine vq_nil ?_ | refine vw_skip ?_ | refine vw_exit ?_ | refine vw_ret ?_)); simp only [Env.keep, Env.get, Env.ev, List.map, Nat.reduceEqDiff, ↓reduceIte, Then, Out'])
        | ((with_reducible (first | apply vq_p | apply vq_r | apply vq_a | apply vq_w | apply vq_g | apply vw_condm)); (focus (simp (disch := (first | with_reducible assumption | omega | ((repeat (first | rw [Store.next_push] | rw [Store.next_set])) <;> omega) | fail)) only [go_sem, Nat.reduceEqDiff, Nat.reduceAdd, Nat.reduceMul, Nat.reduceLeDiff, ↓reduceIte, reduceCtorEq, Int.reduceEq, Int.reduceLT, Int.reduceLE, Int.reduceAdd, Int.reduceSub, Int.reduceMul, Int.reduceNeg, Int.reduceToNat, hE, hci', hs, hadd] <;> rfl)); (first | (with_reducible (first | refine way_tt ?_ | refine way_ff ?_ | refine wayc_t ?_ | refine wayc_f ?_ | refine way_tf ?_ | refine way_ft ?_ | refine way_t ?_); try simp only [Env.put]) | with_reducible refine (?_ : WQ _ _ _ _ _ _)))
        | fail
      exact ⟨w - (i + 1), by omega, i + 1, by omega, rfl, trivial, (by simp only [Env.get, Nat.reduceEqDiff, ↓reduceIte, hE, hnum, and_self])⟩
    | false =>
      rw [hb] at p2 hnum
      simp only [b2n_f, Nat.zero_mul, Nat.add_zero] at hnum
      repeat first
        | (apply vq_p; (focus (simp only [evP, Env.ev, Env.get, Nat.reduceEqDiff, ↓reduceIte, hE]; first | exact p1 | exact hshl)))
        | (apply vq_ld; (focus (simp only [Env.ev, Env.get, Nat.reduceEqDiff, ↓reduceIte]; rfl)); (focus exact p2))
        | with_reducible (first | refine vw_seq ?_ | refine vw_block ?_ | refine vw_rg ?_)
        | ((with_reducible apply vq_free'); (focus rfl))
        | ((with_reducible (first | refine vq_nil ?_ | refine vw_skip ?_ | refine vw_exit ?_ | refine vw_ret ?_)); simp only [Env.keep, Env.get, Env.ev, List.map, Nat.reduceEqDiff, ↓reduceIte, Then, Out'])
        | ((with_reducible (first | apply vq_p | apply vq_r | apply vq_a | apply vq_w | apply vq_g | apply vw_condm)); (focus (simp (disch := (first | with_reducible assumption | omega | ((repeat (first | rw [Store.next_push] | rw [Store.next_set])) <;> omega) | fail)) only [go_sem, Nat.reduceEqDiff, Nat.reduceAdd, Nat.reduceMul, Nat.reduceLeDiff, ↓reduceIte, reduceCtorEq, Int.reduceEq, Int.reduceLT, Int.reduceLE, Int.reduceAdd, Int.reduceSub, Int.reduceMul, Int.reduceNeg, Int.reduceToNat, hE, hci', hs] <;> rfl)); (first | (with_reducible (first | refine way_tt ?_ | refine way_ff ?_ | refine wayc_t ?_ | refine wayc_f ?_ | refine way_tf ?_ | refine way_ft ?_ | refine way_t ?_); try simp only [Env.put]) | with_reducible refine (?_ : WQ _ _ _ _ _ _)))
        | fail
      exact ⟨w - (i + 1), by omega, i + 1, by omega, rfl, trivial, (by simp only [Env.get, Nat.reduceEqDiff, ↓reduceIte, hE, hnum, and_self])⟩
  · have hci' : ¬ (i : Int) < (w : Int) := by omega
    obtain rfl : i = w := by omega
    have ib : i - 1 < bs.length := by omega
    obtain ⟨p, p1, p2⟩ := hd.idxB ib
    have eb : bs[i - 1] = atB bs (i - 1) := by simp [atB, List.getD, ib]
    rw [eb] at p2
    have hv : valZ (atB bs) i = (num (atB bs) i : Int) - (b2n (atB bs (i - 1)) : Int) * 2 ^ i := rfl
    have hshl : binV .shl (.int .i64 1) (.int .i64 (i : Int)) = some (.int .i64 (2 ^ i : Nat)) := by
      simp only [binV, shiftInt]
      rw [if_neg (by omega), pow_i64 (by omega)]
      simp
    have hpc : ((2 ^ i : Nat) : Int) = 2 ^ i := by simp
    rw [hv]
    generalize num (atB bs) i = N at *
    have hsub : IntKind.i64.wrap ((N : Int) - ((2 ^ i : Nat) : Int)) = (N : Int) - 2 ^ i := by rw [i64_id (by omega) (by omega), hpc]
    generalize 2 ^ i = P at *
    cases hb : atB bs (i - 1) with
    | true =>
      rw [hb] at p2
      repeat first
        | (apply vq_p; (focus (simp only [evP, Env.ev, Env.get, Nat.reduceEqDiff, ↓reduceIte, hE]; first | exact p1 | exact hshl)))
        | (apply vq_ld; (focus (simp only [Env.ev, Env.get, Nat.reduceEqDiff, ↓reduceIte]; rfl)); (focus exact p2))
        | with_reducible (first | refine vw_seq ?_ | refine vw_block ?_ | refine vw_rg ?_)
        | ((with_reducible apply vq_free'); (focus rfl))
        | ((with_reducible (first | refine vq_nil ?_ | refine vw_skip ?_ | refine vw_exit ?_ | refine vw_ret ?_)); simp only [Env.keep, Env.get, Env.ev, List.map, Nat.reduceEqDiff, ↓reduceIte, Then, Out'])
        | ((with_reducible (first | apply vq_p | apply vq_r | apply vq_a | apply vq_w | apply vq_g | apply vw_condm)); (focus (simp (disch := (first | with_reducible assumption | omega | ((repeat (first | rw [Store.next_push] | rw [Store.next_set])) <;> omega) | fail)) only [go_sem, Nat.reduceEqDiff, Nat.reduceAdd, Nat.reduceMul, Nat.reduceLeDiff, ↓reduceIte, reduceCtorEq, Int.reduceEq, Int.reduceLT, Int.reduceLE, Int.reduceAdd, Int.reduceSub, Int.reduceMul, Int.reduceNeg, Int.reduceToNat, hE, hci', hpos, ht, hsub] <;> rfl)); (first | (with_reducible (first | refine way_tt ?_ | refine way_ff ?_ | refine wayc_t ?_ | refine wayc_f ?_ | refine way_tf ?_ | refine way_ft ?_ | refine way_t ?_); try simp only [Env.put]) | with_reducible refine (?_ : WQ _ _ _ _ _ _)))
        | fail
      refine ⟨.inr trivial, trivial, ?_⟩
      simp only [resOf, resAll, resOne, Env.get, Nat.reduceEqDiff, ↓reduceIte, b2n_t, Int.natCast_one, Int.one_mul]
    | false =>
      rw [hb] at p2
      repeat first
        | (apply vq_p; (focus (simp only [evP, Env.ev, Env.get, Nat.reduceEqDiff, ↓reduceIte, hE]; first | exact p1 | exact hshl)))
        | (apply vq_ld; (focus (simp only [Env.ev, Env.get, Nat.reduceEqDiff, ↓reduceIte]; rfl)); (focus exact p2))
        | with_reducible (first | refine vw_seq ?_ | refine vw_block ?_ | refine vw_rg ?_)
        | ((with_reducible apply vq_free'); (focus rfl))
        | ((with_reducible (first | refine vq_nil ?_ | refine vw_skip ?_ | refine vw_exit ?_ | refine vw_ret ?_)); simp only [Env.keep, Env.get, Env.ev, List.map, Nat.reduceEqDiff, ↓reduceIte, Then, Out'])
        | ((with_reducible (first | apply vq_p | apply vq_r | apply vq_a | apply vq_w | apply vq_g | apply vw_condm)); (focus (simp (disch := (first | with_reducible assumption | omega | ((repeat (first | rw [Store.next_push] | rw [Store.next_set])) <;> omega) | fail)) only [go_sem, Nat.reduceEqDiff, Nat.reduceAdd, Nat.reduceMul, Nat.reduceLeDiff, ↓reduceIte, reduceCtorEq, Int.reduceEq, Int.reduceLT, Int.reduceLE, Int.reduceAdd, Int.reduceSub, Int.reduceMul, Int.reduceNeg, Int.reduceToNat, hE, hci', hpos, ht] <;> rfl)); (first | (with_reducible (first | refine way_tt ?_ | refine way_ff ?_ | refine wayc_t ?_ | refine wayc_f ?_ | refine way_tf ?_ | refine way_ft ?_ | refine way_t ?_); try simp only [Env.put]) | with_reducible refine (?_ : WQ _ _ _ _ _ _)))
        | fail
      refine ⟨.inr trivial, trivial, ?_⟩
      simp only [resOf, resAll, resOne, Env.get, Nat.reduceEqDiff, ↓reduceIte, b2n_f, Int.natCast_zero, Int.zero_mul, Int.sub_zero, hE]
end Go.Proofs.Ytedoacfoglbfeaa
