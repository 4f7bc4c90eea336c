/- Small equations for walks: each fires on a known shape alone. -/
import Derived.Test.YtedoacfoglbfeaaVkWp
namespace Go.V
def ldV (g : Look) (n : Option Nat) : D → Option D
  | .ptr id off => match g id with
    | some (.cells cs) => pull n off cs
    | _ => none
  | .fp cs off => pull n off cs
  | _ => none
theorem evR_load {env : Env} {g : Look} {n : Option Nat} {x : Opd} : evR env g (.load n x) = ldV g n (env.ev x) := by
  simp only [evR]
  cases env.ev x <;> rfl
theorem ld_ptr {g : Look} {n : Option Nat} {id off : Nat} : ldV g n (.ptr id off) = (match g id with | some (.cells cs) => pull n off cs | _ => none) := rfl
theorem ld_fp {g : Look} {n : Option Nat} {off : Nat} {cs : List D} : ldV g n (.fp cs off) = pull n off cs := rfl
theorem one_int {k : IntKind} {n : Int} : oneCell (.int k n) = true := rfl
theorem cells_int {k : IntKind} {n : Int} : cellsOf (.int k n) = [.int k n] := rfl
theorem one_bool {b : Bool} : oneCell (.bool b) = true := rfl
theorem cells_bool {b : Bool} : cellsOf (.bool b) = [.bool b] := rfl
theorem one_str {t : ByteArray} : oneCell (.str t) = true := rfl
theorem cells_str {t : ByteArray} : cellsOf (.str t) = [.str t] := rfl
theorem one_nilp : oneCell .nilp = true := rfl
theorem cells_nilp : cellsOf .nilp = [.nilp] := rfl
theorem one_ptr {i : Nat} {o : Nat} : oneCell (.ptr i o) = true := rfl
theorem cells_ptr {i : Nat} {o : Nat} : cellsOf (.ptr i o) = [.ptr i o] := rfl
theorem one_fp {l : List D} {o : Nat} : oneCell (.fp l o) = true := rfl
theorem cells_fp {l : List D} {o : Nat} : cellsOf (.fp l o) = [.fp l o] := rfl
theorem one_nils : oneCell .nils = true := rfl
theorem cells_nils : cellsOf .nils = [.nils] := rfl
theorem one_lst {ll : List (List D)} {o : Nat} : oneCell (.lst o ll) = true := rfl
theorem cells_lst {ll : List (List D)} {o : Nat} : cellsOf (.lst o ll) = [.lst o ll] := rfl
theorem one_arr {i : Nat} {o : Nat} {p : Nat} {q : Nat} : oneCell (.arr i o p q) = true := rfl
theorem cells_arr {i : Nat} {o : Nat} {p : Nat} {q : Nat} : cellsOf (.arr i o p q) = [.arr i o p q] := rfl
theorem one_fn {f : FuncId} {l : List D} : oneCell (.fn f l) = true := rfl
theorem cells_fn {f : FuncId} {l : List D} : cellsOf (.fn f l) = [.fn f l] := rfl
theorem one_nilf : oneCell .nilf = true := rfl
theorem cells_nilf : cellsOf .nilf = [.nilf] := rfl
theorem one_nilm : oneCell .nilm = true := rfl
theorem cells_nilm : cellsOf .nilm = [.nilm] := rfl
theorem one_map {i : Nat} : oneCell (.map i) = true := rfl
theorem cells_map {i : Nat} : cellsOf (.map i) = [.map i] := rfl
theorem one_agg {l : List D} : oneCell (.agg l) = false := rfl
theorem cells_agg {l : List D} : cellsOf (.agg l) = l := rfl
theorem cellsOf_one {d : D} (h : oneCell d = true) : cellsOf d = [d] := by cases d <;> first | rfl | (simp [oneCell] at h)
theorem len_nils : lenV false .nils = some (.int .i64 0) := rfl
theorem len_lst {o : Nat} {ll : List (List D)} : lenV false (.lst o ll) = some (.int .i64 (ll.length : Int)) := rfl
theorem len_arr {i o p q : Nat} : lenV false (.arr i o p q) = some (.int .i64 (p : Int)) := rfl
theorem len_str {t : ByteArray} : lenV true (.str t) = some (.int .i64 (t.size : Int)) := rfl
theorem nil_0 : isNil .p .nilp = some true := rfl
theorem nil_1 {i o : Nat} : isNil .p (.ptr i o) = some false := rfl
theorem nil_2 {l : List D} {o : Nat} : isNil .p (.fp l o) = some false := rfl
theorem nil_3 : isNil .s .nils = some true := rfl
theorem nil_4 {o : Nat} {ll : List (List D)} : isNil .s (.lst o ll) = some false := rfl
theorem nil_5 {i o p q : Nat} : isNil .s (.arr i o p q) = some false := rfl
theorem nil_6 : isNil .m .nilm = some true := rfl
theorem nil_7 {i : Nat} : isNil .m (.map i) = some false := rfl
theorem nil_8 : isNil .f .nilf = some true := rfl
theorem nil_9 {f : FuncId} {l : List D} : isNil .f (.fn f l) = some false := rfl
theorem mm_min {k k' : IntKind} {a b : Int} : minmaxV false (.int k a) [.int k' b] = some (.int k (min a b)) := by
  simp only [minmaxV]; congr 2; simp only [Bool.false_eq_true, if_false]; split <;> omega
theorem mm_max {k k' : IntKind} {a b : Int} : minmaxV true (.int k a) [.int k' b] = some (.int k (max a b)) := by
  simp only [minmaxV]; congr 2; simp only [if_true]; split <;> omega
theorem beq_nat {a b : Nat} : ((a : Int) == (b : Int)) = decide (a = b) := by rw [Bool.eq_iff_iff]; simp only [beq_iff_eq, decide_eq_true_eq]; omega
theorem beq_nat0 {a : Nat} : ((a : Int) == 0) = decide (a = 0) := by rw [Bool.eq_iff_iff]; simp only [beq_iff_eq, decide_eq_true_eq]; omega
theorem beq_nat1 {a : Nat} : ((a : Int) == 1) = decide (a = 1) := by rw [Bool.eq_iff_iff]; simp only [beq_iff_eq, decide_eq_true_eq]; omega
theorem idx_arr {i o p q z : Nat} {k : IntKind} {n : Int} (h0 : q = z) (h1 : 0 ≤ n) (h2 : n < p) : idxAV z (.arr i o p q) (.int k n) = some (.ptr i (o + n.toNat * z)) := by
  simp only [idxAV]; rw [if_pos ⟨h0, h1, h2⟩]
end Go.V
