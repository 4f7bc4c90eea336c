/- Vectors as numbers with a sign, in the store. -/
import Derived.Test.YtedoacfoglbfeaaVkBz
namespace Go.V

def fixL (A : List Nat) : List Nat := if A.length < 1 ∨ 16 < A.length then [0] else A
theorem fixL_len (A : List Nat) : 1 ≤ (fixL A).length ∧ (fixL A).length ≤ 16 := by
  unfold fixL
  split
  · simp
  · rename_i h; omega
theorem fixL_id {A : List Nat} (h1 : 1 ≤ A.length) (h2 : A.length ≤ 16) : fixL A = A := by
  unfold fixL
  rw [if_neg (by omega)]
theorem fixL_lt {A : List Nat} {k : Nat} (hk : 0 < k) (h : ∀ e ∈ A, e < k) : ∀ e ∈ fixL A, e < k := by
  unfold fixL
  split
  · intro e he; simp at he; omega
  · exact h
def wideL (A : List Nat) (w : Nat) : List Nat := (List.range w).map fun i => A.getD (min i (A.length - 1)) 0
theorem wideL_len (A : List Nat) (w : Nat) : (wideL A w).length = w := by simp [wideL]
theorem wideL_succ (A : List Nat) (i : Nat) : wideL A (i + 1) = wideL A i ++ [A.getD (min i (A.length - 1)) 0] := by simp [wideL, List.range_succ]
theorem wideL_getD {A : List Nat} {w i : Nat} (h : i < w) : (wideL A w).getD i 0 = A.getD (min i (A.length - 1)) 0 := by simp [wideL, List.getD, h]
theorem wideL_lt {A : List Nat} {w k : Nat} (hk : 0 < k) (h : ∀ e ∈ A, e < 2 * k) : ∀ e ∈ wideL A w, e < 2 * k := by
  intro e he
  obtain ⟨i, _, rfl⟩ := List.mem_map.1 he
  exact getD_lt h hk _
/-- The number that a vector is. -/
def valE (G : Gr) (m : List Bool) (A : List Nat) : Int := valZ (bitsOf G m (fixL A)) (fixL A).length
theorem valE_id {G : Gr} {m : List Bool} {A : List Nat} {w : Nat} (h : A.length = w) (h1 : 1 ≤ w) (h2 : w ≤ 16) : valE G m A = valZ (bitsOf G m A) w := by
  unfold valE
  rw [fixL_id (by omega) (by omega), h]
theorem valE_ext {G G' : Gr} (hx : Gr.Ext G G') {A : List Nat} (h : ∀ e ∈ A, e < 2 * G.nodes.length) (hk : 0 < G.nodes.length) (m : List Bool) : valE G' m A = valE G m A := by
  unfold valE
  exact valZ_cong (by have := fixL_len A; omega) fun i _ => bits_ext hx (fixL_lt (by omega) h) hk m i
theorem wide_valE {G : Gr} {m : List Bool} {A : List Nat} {w : Nat} (hw : 0 < w) : valZ (bitsOf G m (wideL (fixL A) w)) w = trimZ (valE G m A) w := by
  have hl := fixL_len A
  rw [valE, ← wide_val (by omega) hw]
  exact valZ_cong hw fun i hi => by unfold bitsOf; rw [wideL_getD hi]
theorem wide_valE' {G : Gr} {m : List Bool} {A : List Nat} {w : Nat} (hw : (fixL A).length ≤ w) : valZ (bitsOf G m (wideL (fixL A) w)) w = valE G m A := by
  have hl := fixL_len A
  rw [wide_valE (by omega)]
  have := valZ_lo (f := bitsOf G m (fixL A)) (w := (fixL A).length) (by omega)
  have p := pow_le' (w := (fixL A).length - 1) (v := w - 1) (by omega)
  have e : valE G m A = valZ (bitsOf G m (fixL A)) (fixL A).length := rfl
  rw [← e] at this
  exact trimZ_id (by omega) (by omega) (by omega)
/-- The width of two vectors. -/
def wid2 (A B : List Nat) : Nat := max (fixL A).length (fixL B).length
theorem wid2_le (A B : List Nat) : 1 ≤ wid2 A B ∧ wid2 A B ≤ 16 := by
  have := fixL_len A
  have := fixL_len B
  unfold wid2; omega
theorem wide_l {G : Gr} {m : List Bool} {A B : List Nat} : valZ (bitsOf G m (wideL (fixL A) (wid2 A B))) (wid2 A B) = valE G m A := wide_valE' (Nat.le_max_left _ _)
theorem wide_r {G : Gr} {m : List Bool} {A B : List Nat} : valZ (bitsOf G m (wideL (fixL B) (wid2 A B))) (wid2 A B) = valE G m B := wide_valE' (Nat.le_max_right _ _)
/-- What a call that makes a vector answers: the number. -/
def GZ (s : Store) (g : Nat) (ids : List Nat) (G : Gr) (k w : Nat) (v : List Bool → Int) (d : D) (s' : Store) : Prop :=
  ∃ (es : List Nat) (G' : Gr) (ids' : List Nat) (id : Nat), d = .arr id 0 w 1 ∧ s'.get id = some (.cells (cellsI es)) ∧ es.length = w ∧ id ∉ ids' ∧ s.next ≤ id ∧ GrStep s g ids s' G' ids' ∧ Gr.Ok G G' k ∧ VI s' ids' G' d es ∧
    ∀ m, valE G' m es = v m
theorem GV.gz {s : Store} {g : Nat} {ids : List Nat} {G : Gr} {k w : Nat} {v : List Bool → Nat → Bool} {z : List Bool → Int} {d : D} {s' : Store} (h : GV s g ids G k w v d s') (h1 : 1 ≤ w) (h2 : w ≤ 16) (hz : ∀ m, valZ (v m) w = z m) : GZ s g ids G k w z d s' := by
  obtain ⟨es, G', ids', id, rfl, hg, hl, hn, hs, hst, hok, hlt, hv⟩ := h
  refine ⟨es, G', ids', id, rfl, hg, hl, hn, hs, hst, hok, VI.of hg hl hn hlt, fun m => ?_⟩
  rw [valE_id hl h1 h2, ← hz]
  exact valZ_cong (by omega) fun i hi => hv m i hi
theorem GrStep.keep {s s' : Store} {g : Nat} {ids ids' : List Nat} {G' : Gr} (h : GrStep s g ids s' G' ids') {id : Nat} {o : VObj} (hg : s.get id = some o) (hn : id ∉ ids) : s'.get id = some o ∧ id ∉ ids' := by
  have hl := get_lts hg
  refine ⟨by rw [h.2.1.2 _ hl hn, hg], fun hc => ?_⟩
  rcases h.2.2 _ hc with h1 | h1
  · exact hn h1
  · omega
theorem Fr.keep {s s' : Store} (h : Fr [] s s') {id : Nat} {o : VObj} (hg : s.get id = some o) : s'.get id = some o := by rw [h.2 _ (get_lts hg) (by simp), hg]
theorem getD_el' {l : List Nat} {i : Nat} (h : i < l.length) : l[i] = l.getD i 0 := by simp [List.getD, h]
theorem any_val {G : Gr} {m : List Bool} {L : List Nat} {w : Nat} (hl : L.length = w) (hw : 0 < w) : L.any (G.ev m) = decide (valZ (bitsOf G m L) w ≠ 0) := by
  rw [Bool.eq_iff_iff, List.any_eq_true, decide_eq_true_eq, ne_eq, zero_val hw]
  constructor
  · rintro ⟨x, hx, h⟩ hall
    obtain ⟨i, hi, rfl⟩ := List.getElem_of_mem hx
    have := hall i (by omega)
    unfold bitsOf at this
    rw [← getD_el' hi, h] at this
    cases this
  · intro h
    apply Classical.byContradiction
    intro hn
    apply h
    intro i hi
    unfold bitsOf
    rw [← getD_el' (by omega)]
    cases hb : G.ev m (L[i]'(by omega)) with
    | false => rfl
    | true => exact absurd ⟨_, List.getElem_mem _, hb⟩ hn
theorem GZ.weaken {s : Store} {g : Nat} {ids : List Nat} {G : Gr} {k k' w : Nat} {v : List Bool → Int} {d : D} {s' : Store} (h : GZ s g ids G k w v d s') (hk : k ≤ k') : GZ s g ids G k' w v d s' := by
  obtain ⟨es, G', ids', id, h1, h2, h3, h4, h5, h6, h7, h8, h9⟩ := h
  exact ⟨es, G', ids', id, h1, h2, h3, h4, h5, h6, h7.weaken hk, h8, h9⟩
theorem GZ.cong {s : Store} {g : Nat} {ids : List Nat} {G : Gr} {k w : Nat} {v v' : List Bool → Int} {d : D} {s' : Store} (h : GZ s g ids G k w v d s') (hv : ∀ m, v m = v' m) : GZ s g ids G k w v' d s' := by
  obtain ⟨es, G', ids', id, h1, h2, h3, h4, h5, h6, h7, h8, h9⟩ := h
  exact ⟨es, G', ids', id, h1, h2, h3, h4, h5, h6, h7, h8, fun m => by rw [h9, hv]⟩
/-- What the numbers do. -/
def doZ (op : Nat) (a b : Int) (w : Nat) : Int := match op with
  | 0 => trimZ (a + b) w
  | 1 => trimZ (a - b) w
  | 2 => trimZ (a * b) w
  | 3 => if b = 0 then 0 else trimZ (a.tdiv b) w
  | _ => if b = 0 then 0 else trimZ (a.tmod b) w
theorem trimZ_if {n : Int} {w : Nat} (h : 0 < w) : trimZ n w = if 2 ^ (w - 1) ≤ n % 2 ^ w then n % 2 ^ w - 2 ^ w else n % 2 ^ w := by
  have hp := pow_half h
  have p := pow_pos' w
  have h1 := Int.emod_nonneg n (b := 2 ^ w) (by omega)
  have h2 := Int.emod_lt_of_pos n p
  have e : trimZ n w = trimZ (n % 2 ^ w) w := (trimZ_mod (by rw [Int.emod_emod_of_dvd _ (Int.dvd_refl _)])).symm
  rw [e]
  generalize n % 2 ^ w = r at *
  split
  · rw [← trimZ_mod (a := r - 2 ^ w) (b := r) (by rw [Int.sub_emod, Int.emod_self]; simp), trimZ_id h (by omega) (by omega)]
  · rw [trimZ_id h (by omega) (by omega)]
theorem tmod_emod {n m : Int} (h : 0 < m) : (if n.tmod m < 0 then n.tmod m + m else n.tmod m) = n % m := by
  have h1 := Int.mul_tdiv_add_tmod n m
  have h2 := Int.tmod_lt_of_pos n h
  have h3 : -m < n.tmod m := by
    have := Int.tmod_lt_of_pos (-n) h
    rw [Int.neg_tmod] at this
    omega
  have e : n % m = n.tmod m % m := by
    conv => lhs; rw [← h1]
    rw [Int.add_comm, Int.add_mul_emod_self_left]
  rw [e]
  generalize n.tmod m = r at *
  split
  · rw [← Int.add_emod_right, Int.emod_eq_of_lt (by omega) (by omega)]
  · rw [Int.emod_eq_of_lt (by omega) (by omega)]
theorem i64_mask {n : Int} {w : Nat} (h : w ≤ 16) : IntKind.i64.wrap (andI .i64 n (2 ^ w - 1)) = n % 2 ^ w := by
  show IntKind.i64.wrap ((BitVec.ofInt IntKind.i64.bits n &&& BitVec.ofInt IntKind.i64.bits (2 ^ w - 1)).toNat : Int) = n % 2 ^ w
  have hp : 2 ^ w ≤ 2 ^ 16 := Nat.pow_le_pow_right (by omega) h
  have hp0 : 0 < 2 ^ w := Nat.pos_of_ne_zero (by simp)
  have hc : ((2 ^ w : Nat) : Int) = 2 ^ w := by simp
  have a2 : (BitVec.ofInt IntKind.i64.bits (2 ^ w - 1)).toNat = 2 ^ w - 1 := by
    rw [BitVec.toNat_ofInt, show IntKind.i64.bits = 64 from rfl, ← hc]
    rw [Int.emod_eq_of_lt (by omega) (by omega)]
    omega
  have e1 : (BitVec.ofInt IntKind.i64.bits n &&& BitVec.ofInt IntKind.i64.bits (2 ^ w - 1)).toNat = (n % 2 ^ 64).toNat % 2 ^ w := by
    rw [BitVec.toNat_and, a2, Nat.and_two_pow_sub_one_eq_mod, BitVec.toNat_ofInt]
    rfl
  rw [e1]
  have h0 : 0 ≤ n % 2 ^ 64 := Int.emod_nonneg _ (by decide)
  have hm := Nat.mod_lt (n % 2 ^ 64).toNat hp0
  rw [i64_id (by omega) (by omega), Int.natCast_emod, Int.toNat_of_nonneg h0, hc]
  exact Int.emod_emod_of_dvd _ (pow_dvd' (w := w) (v := 64) (by omega))
theorem VI.fr {s s' : Store} {ids : List Nat} {G : Gr} {d : D} {es : List Nat} (h : VI s ids G d es) (hf : Fr [] s s') : VI s' ids G d es := h.newer hf
end Go.V
