/- Small equations for walks: each fires on a known shape alone. -/
import Derived.Test.YtdejcadenmggaaaVkWp
namespace Go.V
def ldV (g : Look) (n : Option Nat) : D → Option D
  | .ptr id off => match g id with
    | some (.cells cs) => pull n off cs
    | _ => none
  | .fp cs off => pull n off cs
  | _ => none
theorem evR_load {env : Env} {g : Look} {n : Option Nat} {x : Opd} : evR env g (.load n x) = ldV g n (env.ev x) := by
  simp only [evR]
  cases env.ev x <;> rfl
theorem ld_ptr {g : Look} {n : Option Nat} {id off : Nat} : ldV g n (.ptr id off) = (match g id with | some (.cells cs) => pull n off cs | _ => none) := rfl
theorem ld_fp {g : Look} {n : Option Nat} {off : Nat} {cs : List D} : ldV g n (.fp cs off) = pull n off cs := rfl
theorem one_int {k : IntKind} {n : Int} : oneCell (.int k n) = true := rfl
theorem cells_int {k : IntKind} {n : Int} : cellsOf (.int k n) = [.int k n] := rfl
theorem one_bool {b : Bool} : oneCell (.bool b) = true := rfl
theorem cells_bool {b : Bool} : cellsOf (.bool b) = [.bool b] := rfl
theorem one_str {t : ByteArray} : oneCell (.str t) = true := rfl
theorem cells_str {t : ByteArray} : cellsOf (.str t) = [.str t] := rfl
theorem one_nilp : oneCell .nilp = true := rfl
theorem cells_nilp : cellsOf .nilp = [.nilp] := rfl
theorem one_ptr {i : Nat} {o : Nat} : oneCell (.ptr i o) = true := rfl
theorem cells_ptr {i : Nat} {o : Nat} : cellsOf (.ptr i o) = [.ptr i o] := rfl
theorem one_fp {l : List D} {o : Nat} : oneCell (.fp l o) = true := rfl
theorem cells_fp {l : List D} {o : Nat} : cellsOf (.fp l o) = [.fp l o] := rfl
theorem one_nils : oneCell .nils = true := rfl
theorem cells_nils : cellsOf .nils = [.nils] := rfl
theorem one_lst {ll : List (List D)} {o : Nat} : oneCell (.lst o ll) = true := rfl
theorem cells_lst {ll : List (List D)} {o : Nat} : cellsOf (.lst o ll) = [.lst o ll] := rfl
theorem one_arr {i : Nat} {o : Nat} {p : Nat} {q : Nat} : oneCell (.arr i o p q) = true := rfl
theorem cells_arr {i : Nat} {o : Nat} {p : Nat} {q : Nat} : cellsOf (.arr i o p q) = [.arr i o p q] := rfl
theorem one_fn {f : FuncId} {l : List D} : oneCell (.fn f l) = true := rfl
theorem cells_fn {f : FuncId} {l : List D} : cellsOf (.fn f l) = [.fn f l] := rfl
theorem one_nilf : oneCell .nilf = true := rfl
theorem cells_nilf : cellsOf .nilf = [.nilf] := rfl
theorem one_nilm : oneCell .nilm = true := rfl
theorem cells_nilm : cellsOf .nilm = [.nilm] := rfl
theorem one_map {i : Nat} : oneCell (.map i) = true := rfl
theorem cells_map {i : Nat} : cellsOf (.map i) = [.map i] := rfl
theorem one_agg {l : List D} : oneCell (.agg l) = false := rfl
theorem cells_agg {l : List D} : cellsOf (.agg l) = l := rfl
theorem cellsOf_one {d : D} (h : oneCell d = true) : cellsOf d = [d] := by cases d <;> first | rfl | (simp [oneCell] at h)
theorem len_nils : lenV false .nils = some (.int .i64 0) := rfl
theorem len_lst {o : Nat} {ll : List (List D)} : lenV false (.lst o ll) = some (.int .i64 (ll.length : Int)) := rfl
theorem len_arr {i o p q : Nat} : lenV false (.arr i o p q) = some (.int .i64 (p : Int)) := rfl
theorem len_str {t : ByteArray} : lenV true (.str t) = some (.int .i64 (t.size : Int)) := rfl
theorem nil_0 : isNil .p .nilp = some true := rfl
theorem nil_1 {i o : Nat} : isNil .p (.ptr i o) = some false := rfl
theorem nil_2 {l : List D} {o : Nat} : isNil .p (.fp l o) = some false := rfl
theorem nil_3 : isNil .s .nils = some true := rfl
theorem nil_4 {o : Nat} {ll : List (List D)} : isNil .s (.lst o ll) = some false := rfl
theorem nil_5 {i o p q : Nat} : isNil .s (.arr i o p q) = some false := rfl
theorem nil_6 : isNil .m .nilm = some true := rfl
theorem nil_7 {i : Nat} : isNil .m (.map i) = some false := rfl
theorem nil_8 : isNil .f .nilf = some true := rfl
theorem nil_9 {f : FuncId} {l : List D} : isNil .f (.fn f l) = some false := rfl
theorem mm_min {k k' : IntKind} {a b : Int} : minmaxV false (.int k a) [.int k' b] = some (.int k (min a b)) := by
  simp only [minmaxV]; congr 2; simp only [Bool.false_eq_true, if_false]; split <;> omega
theorem mm_max {k k' : IntKind} {a b : Int} : minmaxV true (.int k a) [.int k' b] = some (.int k (max a b)) := by
  simp only [minmaxV]; congr 2; simp only [if_true]; split <;> omega
theorem beq_nat {a b : Nat} : ((a : Int) == (b : Int)) = decide (a = b) := by rw [Bool.eq_iff_iff]; simp only [beq_iff_eq, decide_eq_true_eq]; omega
theorem beq_nat0 {a : Nat} : ((a : Int) == 0) = decide (a = 0) := by rw [Bool.eq_iff_iff]; simp only [beq_iff_eq, decide_eq_true_eq]; omega
theorem beq_nat1 {a : Nat} : ((a : Int) == 1) = decide (a = 1) := by rw [Bool.eq_iff_iff]; simp only [beq_iff_eq, decide_eq_true_eq]; omega
theorem idx_arr {i o p q z : Nat} {k : IntKind} {n : Int} (h0 : q = z) (h1 : 0 ≤ n) (h2 : n < p) : idxAV z (.arr i o p q) (.int k n) = some (.ptr i (o + n.toNat * z)) := by
  simp only [idxAV]; rw [if_pos ⟨h0, h1, h2⟩]
def andI (k : IntKind) (x y : Int) : Int := (BitVec.ofInt k.bits x &&& BitVec.ofInt k.bits y).toNat
def orI (k : IntKind) (x y : Int) : Int := (BitVec.ofInt k.bits x ||| BitVec.ofInt k.bits y).toNat
def xorI (k : IntKind) (x y : Int) : Int := (BitVec.ofInt k.bits x ^^^ BitVec.ofInt k.bits y).toNat
def clrI (k : IntKind) (x y : Int) : Int := (BitVec.ofInt k.bits x &&& ~~~ BitVec.ofInt k.bits y).toNat
theorem bi_add {k : IntKind} {x y : Int} : binInt .add k x y = some (.int k (k.wrap (x + y))) := rfl
theorem bi_sub {k : IntKind} {x y : Int} : binInt .sub k x y = some (.int k (k.wrap (x - y))) := rfl
theorem bi_mul {k : IntKind} {x y : Int} : binInt .mul k x y = some (.int k (k.wrap (x * y))) := rfl
theorem bi_quo {k : IntKind} {x y : Int} : binInt .quo k x y = if y = 0 then none else some (.int k (k.wrap (x.tdiv y))) := rfl
theorem bi_rem {k : IntKind} {x y : Int} : binInt .rem k x y = if y = 0 then none else some (.int k (x.tmod y)) := rfl
theorem bi_and {k : IntKind} {x y : Int} : binInt .and k x y = some (.int k (k.wrap (andI k x y))) := rfl
theorem bi_or {k : IntKind} {x y : Int} : binInt .or k x y = some (.int k (k.wrap (orI k x y))) := rfl
theorem bi_xor {k : IntKind} {x y : Int} : binInt .xor k x y = some (.int k (k.wrap (xorI k x y))) := rfl
theorem bi_clr {k : IntKind} {x y : Int} : binInt .andNot k x y = some (.int k (k.wrap (clrI k x y))) := rfl
theorem bi_eql {k : IntKind} {x y : Int} : binInt .eql k x y = some (.bool (x == y)) := rfl
theorem bi_neq {k : IntKind} {x y : Int} : binInt .neq k x y = some (.bool (x != y)) := rfl
theorem bi_lss {k : IntKind} {x y : Int} : binInt .lss k x y = some (.bool (x < y)) := rfl
theorem bi_leq {k : IntKind} {x y : Int} : binInt .leq k x y = some (.bool (x ≤ y)) := rfl
theorem bi_gtr {k : IntKind} {x y : Int} : binInt .gtr k x y = some (.bool (x > y)) := rfl
theorem bi_geq {k : IntKind} {x y : Int} : binInt .geq k x y = some (.bool (x ≥ y)) := rfl
/- What a walk rewrites by. -/
attribute [go_sem] evP evR_load evR.eq_2 evR.eq_3 ld_ptr keyOfV ld_fp one_int cells_int one_bool cells_bool one_str cells_str one_nilp cells_nilp one_ptr cells_ptr one_fp cells_fp one_nils cells_nils one_lst cells_lst one_arr cells_arr one_fn cells_fn one_nilf cells_nilf one_nilm cells_nilm one_map cells_map one_agg cells_agg cellsOf_one len_nils len_lst len_arr len_str nil_0 nil_1 nil_2 nil_3 nil_4 nil_5 nil_6 nil_7 nil_8 nil_9 evA evW Env.ev Env.get Env.evL Env.evO binV bi_add bi_sub bi_mul bi_quo bi_rem bi_and bi_or bi_xor bi_clr bi_eql bi_neq bi_lss bi_leq bi_gtr bi_geq unV pull idx_arr sliceV boundOf mm_min mm_max beq_nat beq_nat0 beq_nat1 wantV fillV splice zeros Made.at Option.map_some Option.map List.getElem?_cons_zero List.getElem?_cons_succ List.getElem?_nil List.all_cons List.all_nil List.length_cons List.length_nil List.take List.drop List.map List.append List.cons_append List.nil_append List.append_nil Nat.zero_add Nat.add_zero Nat.zero_mul Nat.mul_one Int.toNat_natCast decide_true decide_false Bool.not_true Bool.not_false Bool.and_true Bool.true_and Bool.and_self and_self and_true true_and Bool.false_eq_true ge_iff_le gt_iff_lt beq_self_eq_true Nat.zero_le Nat.le_refl Nat.lt_irrefl Store.next_push Store.next_set
end Go.V
