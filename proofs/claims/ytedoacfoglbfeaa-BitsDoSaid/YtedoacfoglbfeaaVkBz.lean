/- Numbers of bits with a sign, plain. -/
import Derived.Test.YtedoacfoglbfeaaVkVec
namespace Go.V

theorem valZ_emod {f : Nat → Bool} {w : Nat} (h : 0 < w) : valZ f w % 2 ^ w = (num f w : Int) % 2 ^ w := by rw [valZ_trim h, trimZ_emod]
theorem valZ_lo {f : Nat → Bool} {w : Nat} (h : 0 < w) : -2 ^ (w - 1) ≤ valZ f w ∧ valZ f w < 2 ^ (w - 1) := by rw [valZ_trim h]; exact trimZ_lo h
theorem trimZ_valZ {f : Nat → Bool} {w : Nat} (h : 0 < w) : trimZ (valZ f w) w = valZ f w := trimZ_id h (valZ_lo h).1 (valZ_lo h).2
theorem trimZ_trimZ {n : Int} {w : Nat} : trimZ (trimZ n w) w = trimZ n w := trimZ_mod trimZ_emod
theorem num_trim {f : Nat → Bool} {w : Nat} {n : Int} (h : 0 < w) (e : (num f w : Int) % 2 ^ w = n % 2 ^ w) : valZ f w = trimZ n w := by rw [valZ_trim h, trimZ_mod e]
theorem num_of_valZ {f g : Nat → Bool} {w : Nat} (h : 0 < w) (e : valZ f w = valZ g w) : num f w = num g w := by
  have h1 := valZ_emod (f := f) h
  rw [e, valZ_emod h] at h1
  have a := num_lt f w
  have b := num_lt g w
  have a' : (num f w : Int) < 2 ^ w := by exact_mod_cast a
  have b' : (num g w : Int) < 2 ^ w := by exact_mod_cast b
  rw [Int.emod_eq_of_lt (by omega) b', Int.emod_eq_of_lt (by omega) a'] at h1
  omega
theorem valZ_inj {f g : Nat → Bool} {w : Nat} (h : 0 < w) : valZ f w = valZ g w ↔ ∀ i, i < w → f i = g i :=
  ⟨fun e => num_inj (num_of_valZ h e), fun e => valZ_cong h e⟩
theorem wide_num {f : Nat → Bool} {v : Nat} (hv : 0 < v) : ∀ k, (num (fun i => f (min i (v - 1))) (v + k) : Int) - (b2n (f (v - 1)) : Int) * 2 ^ (v + k) = valZ f v
  | 0 => by
    have : num (fun i => f (min i (v - 1))) v = num f v := num_cong fun i hi => by rw [Nat.min_eq_left (by omega)]
    rw [Nat.add_zero, this]; rfl
  | k + 1 => by
    have ih := wide_num (f := f) hv k
    rw [← ih, ← Nat.add_assoc, num, Nat.min_eq_right (by omega), Int.pow_succ]
    generalize num (fun i => f (min i (v - 1))) (v + k) = n
    cases f (v - 1) <;> simp <;> omega
theorem low_emod {f : Nat → Bool} {v w : Nat} (h : w ≤ v) : (num f v : Int) % 2 ^ w = (num f w : Int) % 2 ^ w := by
  obtain ⟨k, rfl⟩ : ∃ k, v = w + k := ⟨v - w, by omega⟩
  rw [num_split]
  have : ((num f w + num (fun i => f (w + i)) k * 2 ^ w : Nat) : Int) = (num f w : Int) + (num (fun i => f (w + i)) k : Int) * 2 ^ w := by simp
  rw [this, Int.add_mul_emod_self_right]
theorem pow_dvd' {v w : Nat} (h : w ≤ v) : (2 : Int) ^ w ∣ 2 ^ v := by
  obtain ⟨k, rfl⟩ : ∃ k, v = w + k := ⟨v - w, by omega⟩
  rw [Int.pow_add]; exact Int.dvd_mul_right _ _
theorem pow_le' {v w : Nat} (h : w ≤ v) : (2 : Int) ^ w ≤ 2 ^ v := by
  have : (2 : Nat) ^ w ≤ 2 ^ v := Nat.pow_le_pow_right (by omega) h
  exact_mod_cast this
theorem wide_val {f : Nat → Bool} {v w : Nat} (hv : 0 < v) (hw : 0 < w) : valZ (fun i => f (min i (v - 1))) w = trimZ (valZ f v) w := by
  rcases Nat.lt_or_ge w v with h | h
  · have e : valZ (fun i => f (min i (v - 1))) w = valZ f w := valZ_cong hw fun i hi => by rw [Nat.min_eq_left (by omega)]
    rw [e, valZ_trim hw]
    refine trimZ_mod ?_
    rw [← low_emod (Nat.le_of_lt h)]
    have := valZ_emod (f := f) hv
    rw [← Int.emod_emod_of_dvd (valZ f v) (pow_dvd' (Nat.le_of_lt h)), this, Int.emod_emod_of_dvd _ (pow_dvd' (Nat.le_of_lt h))]
  · obtain ⟨k, rfl⟩ : ∃ k, w = v + k := ⟨w - v, by omega⟩
    have := wide_num (f := f) hv k
    have hr := valZ_lo (f := f) hv
    have p := pow_le' (w := v - 1) (v := v + k - 1) (by omega)
    rw [trimZ_id hw (by omega) (by omega), ← this]
    unfold valZ
    show (_ : Int) - (b2n (f (min (v + k - 1) (v - 1))) : Int) * _ = _
    rw [Nat.min_eq_right (by omega)]
theorem emod_add2 {a b c d n : Int} (h1 : a % n = c % n) (h2 : b % n = d % n) : (a + b) % n = (c + d) % n := by rw [Int.add_emod, h1, h2, ← Int.add_emod]
theorem emod_mul2 {a b c d n : Int} (h1 : a % n = c % n) (h2 : b % n = d % n) : (a * b) % n = (c * d) % n := by rw [Int.mul_emod, h1, h2, ← Int.mul_emod]
theorem emod_neg2 {a c n : Int} (h1 : a % n = c % n) : (-a) % n = (-c) % n := by
  have := emod_mul2 (a := -1) (b := a) (c := -1) (d := c) (n := n) rfl h1
  simpa using this
theorem cast_mod {a w : Nat} : ((a % 2 ^ w : Nat) : Int) = (a : Int) % 2 ^ w := by simp
theorem add_val {A B : Nat → Bool} {w : Nat} (h : 0 < w) : valZ (sumAt A B false) w = trimZ (valZ A w + valZ B w) w := by
  refine num_trim h ?_
  rw [sum_mod, cast_mod, Int.emod_emod_of_dvd _ (Int.dvd_refl _)]
  simp only [b2n_f, Nat.add_zero, Int.natCast_add]
  exact emod_add2 (valZ_emod h).symm (valZ_emod h).symm
theorem sub_val {A B : Nat → Bool} {w : Nat} (h : 0 < w) : valZ (sumAt A (fun j => !B j) true) w = trimZ (valZ A w - valZ B w) w := by
  refine num_trim h ?_
  rw [sum_mod, cast_mod, Int.emod_emod_of_dvd _ (Int.dvd_refl _)]
  have hn := not_num B w
  have e : ((num A w + num (fun j => !B j) w + b2n true : Nat) : Int) = (num A w : Int) + (-(num B w : Int)) + 2 ^ w := by
    have : ((num (fun j => !B j) w + num B w + 1 : Nat) : Int) = 2 ^ w := by rw [hn]; simp
    simp only [b2n_t] at *
    omega
  rw [e, Int.add_emod_right, Int.sub_eq_add_neg]
  exact emod_add2 (valZ_emod h).symm (emod_neg2 (valZ_emod h).symm)
theorem mul_val {A B : Nat → Bool} {w : Nat} (h : 0 < w) : valZ (mulAt A B w) w = trimZ (valZ A w * valZ B w) w := by
  refine num_trim h ?_
  rw [mul_num A B (Nat.le_refl w), cast_mod, Int.emod_emod_of_dvd _ (Int.dvd_refl _), Int.natCast_mul]
  exact emod_mul2 (valZ_emod h).symm (valZ_emod h).symm
theorem abs_val {X : Nat → Bool} {w : Nat} (h : 0 < w) : num (minusAt (X (w - 1)) X) w = (valZ X w).natAbs := by
  rw [minus_num]
  have ht := num_top (f := X) h
  have hl := num_lt X w
  have hl' : (num X w : Int) < 2 ^ w := by exact_mod_cast hl
  unfold valZ
  cases hx : X (w - 1)
  · simp
  · rw [hx] at ht
    have h2 : 2 ^ (w - 1) ≤ num X w := by simpa using ht.symm
    have h3 : 0 < 2 ^ (w - 1) := Nat.pos_of_ne_zero (by simp)
    simp only [if_true, b2n_t]
    rw [Nat.mod_eq_of_lt (by omega)]
    have e : ((2 ^ w : Nat) : Int) = 2 ^ w := by simp
    omega
theorem quo_val {X Y : Nat → Bool} {w : Nat} (h : 0 < w) (hy : valZ Y w ≠ 0) :
    valZ (minusAt (X (w - 1) != Y (w - 1)) (quoAt (minusAt (X (w - 1)) X) (minusAt (Y (w - 1)) Y) w)) w = trimZ ((valZ X w).tdiv (valZ Y w)) w := by
  refine num_trim h ?_
  have ay := abs_val (X := Y) h
  have ax := abs_val (X := X) h
  have ry := valZ_lo (f := Y) h
  have e2 : ((2 ^ (w - 1) : Nat) : Int) = 2 ^ (w - 1) := by simp
  rw [minus_mod, quo_num _ _ h (by omega) (by omega), ax, ay]
  congr 1
  have sx : X (w - 1) = decide (valZ X w < 0) := by
    have hl := num_lt X w
    have hl' : (num X w : Int) < 2 ^ w := by exact_mod_cast hl
    unfold valZ; cases X (w - 1) <;> simp <;> omega
  have sy : Y (w - 1) = decide (valZ Y w < 0) := by
    have hl := num_lt Y w
    have hl' : (num Y w : Int) < 2 ^ w := by exact_mod_cast hl
    unfold valZ; cases Y (w - 1) <;> simp <;> omega
  rw [sx, sy]
  generalize valZ X w = a
  generalize valZ Y w = b at *
  have key : ∀ (m n : Nat), ((m / n : Nat) : Int) = (m : Int).tdiv n := fun m n => rfl
  by_cases ha : a < 0 <;> by_cases hb : b < 0 <;> simp only [ha, hb, decide_true, decide_false, bne_self_eq_false, Bool.false_eq_true, if_false]
  · rw [key, Int.ofNat_natAbs_of_nonpos (by omega), Int.ofNat_natAbs_of_nonpos (by omega), Int.neg_tdiv, Int.tdiv_neg]; omega
  · simp only [bne, Bool.true_eq_false, beq_eq_false_iff_ne, ne_eq, not_false_eq_true, if_true, show (true == false) = false from rfl, Bool.not_false]
    rw [key, Int.ofNat_natAbs_of_nonpos (by omega), Int.natAbs_of_nonneg (by omega), Int.neg_tdiv]; omega
  · simp only [bne, show (false == true) = false from rfl, Bool.not_false, if_true]
    rw [key, Int.natAbs_of_nonneg (by omega), Int.ofNat_natAbs_of_nonpos (by omega), Int.tdiv_neg]; omega
  · rw [key, Int.natAbs_of_nonneg (by omega), Int.natAbs_of_nonneg (by omega)]
theorem rem_val {X Y : Nat → Bool} {w : Nat} (h : 0 < w) (hy : valZ Y w ≠ 0) :
    valZ (minusAt (X (w - 1)) (restAt (minusAt (X (w - 1)) X) (minusAt (Y (w - 1)) Y) w w)) w = trimZ ((valZ X w).tmod (valZ Y w)) w := by
  refine num_trim h ?_
  have ay := abs_val (X := Y) h
  have ax := abs_val (X := X) h
  have ry := valZ_lo (f := Y) h
  have e2 : ((2 ^ (w - 1) : Nat) : Int) = 2 ^ (w - 1) := by simp
  rw [minus_mod, rem_num _ _ h (by omega) (by omega), ax, ay]
  congr 1
  have sx : X (w - 1) = decide (valZ X w < 0) := by
    have hl := num_lt X w
    have hl' : (num X w : Int) < 2 ^ w := by exact_mod_cast hl
    unfold valZ; cases X (w - 1) <;> simp <;> omega
  rw [sx]
  generalize valZ X w = a
  generalize valZ Y w = b at *
  have key : ∀ (m n : Nat), ((m % n : Nat) : Int) = (m : Int).tmod n := fun m n => rfl
  have kb : ∀ x : Int, x.tmod (b.natAbs : Int) = x.tmod b := fun x => by
    rcases Int.natAbs_eq b with hb | hb
    · rw [← hb]
    · have : x.tmod b = x.tmod (-b) := by rw [Int.tmod_neg]
      rw [this]; congr 1; omega
  rw [key, kb]
  by_cases ha : a < 0
  · simp only [ha, decide_true, if_true]
    rw [Int.ofNat_natAbs_of_nonpos (by omega), Int.neg_tmod]; omega
  · simp only [ha, decide_false, Bool.false_eq_true, if_false]
    rw [Int.natAbs_of_nonneg (by omega)]
theorem zero_val {f : Nat → Bool} {w : Nat} (h : 0 < w) : valZ f w = 0 ↔ ∀ i, i < w → f i = false := by
  have := valZ_inj (f := f) (g := fun _ => false) h
  rw [show valZ (fun _ => false) w = 0 by simp [valZ, num_zero]] at this
  exact this
theorem flip_num {A : Nat → Bool} {w : Nat} (h : 0 < w) : (num (fun i => if i = w - 1 then !A i else A i) w : Int) = valZ A w + 2 ^ (w - 1) := by
  obtain ⟨k, rfl⟩ : ∃ k, w = k + 1 := ⟨w - 1, by omega⟩
  have e : num (fun i => if i = k then !A i else A i) k = num A k := num_cong fun i hi => if_neg (by omega)
  simp only [Nat.add_sub_cancel, num, valZ, e, if_true, Int.pow_succ]
  cases A k <;> simp <;> omega
theorem less_val {A B : Nat → Bool} {w : Nat} (h : 0 < w) : underAt (fun i => if i = w - 1 then !A i else A i) (fun i => if i = w - 1 then !B i else B i) w = decide (valZ A w < valZ B w) := by
  rw [under_num]
  have h1 := flip_num (A := A) h
  have h2 := flip_num (A := B) h
  rw [Bool.eq_iff_iff]
  simp only [decide_eq_true_eq]
  omega

theorem under_cong {A A' B B' : Nat → Bool} {n : Nat} (hA : ∀ i, i < n → A i = A' i) (hB : ∀ i, i < n → B i = B' i) : underAt A B n = underAt A' B' n := by
  rw [under_num, under_num, num_cong hA, num_cong hB]
def sameAt (A B : Nat → Bool) : Nat → Bool
  | 0 => true
  | i + 1 => sameAt A B i && !(A i != B i)
theorem same_iff (A B : Nat → Bool) : ∀ n, sameAt A B n = true ↔ ∀ i, i < n → A i = B i
  | 0 => by simp [sameAt]
  | n + 1 => by
    rw [sameAt, Bool.and_eq_true, same_iff A B n]
    constructor
    · rintro ⟨h1, h2⟩ i hi
      rcases Nat.lt_or_ge i n with h | h
      · exact h1 i h
      · have : i = n := by omega
        subst this; simpa using h2
    · intro h
      exact ⟨fun i hi => h i (by omega), by simpa using h n (by omega)⟩
theorem same_val {A B : Nat → Bool} {w : Nat} (h : 0 < w) : sameAt A B w = decide (valZ A w = valZ B w) := by
  rw [Bool.eq_iff_iff, same_iff, decide_eq_true_eq, valZ_inj h]

/-! The bits of a number. -/
def bitZ (n : Int) (i : Nat) : Bool := decide (n / 2 ^ i % 2 = 1)
theorem bit_num (n : Int) : ∀ w, (num (bitZ n) w : Int) = n % 2 ^ w
  | 0 => by simp [num]
  | w + 1 => by
    have ih := bit_num n w
    rw [num]
    have e : n % 2 ^ (w + 1) = n % 2 ^ w + 2 ^ w * (n / 2 ^ w % 2) := by
      rw [Int.pow_succ]
      have p := pow_pos' w
      have h1 := Int.emod_add_mul_ediv n (2 ^ w)
      have h2 := Int.emod_add_mul_ediv (n / 2 ^ w) 2
      have h3 := Int.emod_add_mul_ediv n (2 ^ w * 2)
      rw [← Int.ediv_ediv_of_nonneg (by omega)] at h3
      generalize n / 2 ^ w / 2 = q at *
      generalize n / 2 ^ w = u at *
      generalize u % 2 = r at *
      subst h2
      rw [Int.mul_add, ← Int.mul_assoc] at h1
      omega
    rw [e, ← ih]
    simp only [Int.natCast_add, Int.natCast_mul]
    congr 1
    rw [Int.mul_comm]
    have : ((2 ^ w : Nat) : Int) = 2 ^ w := by simp
    rw [this]
    congr 1
    unfold bitZ
    rcases Int.emod_two_eq (n / 2 ^ w) with h | h <;> simp [h]
theorem bit_val {n : Int} {w : Nat} (h : 0 < w) : valZ (bitZ n) w = trimZ n w := by
  refine num_trim h ?_
  rw [bit_num, Int.emod_emod_of_dvd _ (Int.dvd_refl _)]
theorem i64_and1 {x : Int} : IntKind.i64.wrap (andI .i64 x 1) = x % 2 := by
  show IntKind.i64.wrap ((BitVec.ofInt IntKind.i64.bits x &&& BitVec.ofInt IntKind.i64.bits 1).toNat : Int) = x % 2
  have e1 : (BitVec.ofInt IntKind.i64.bits x &&& BitVec.ofInt IntKind.i64.bits 1).toNat = (x % 2 ^ 64).toNat % 2 := by
    rw [BitVec.toNat_and]
    have a2 : (BitVec.ofInt IntKind.i64.bits (1 : Int)).toNat = 1 := rfl
    rw [a2, Nat.and_one_is_mod, BitVec.toNat_ofInt]
    rfl
  rw [e1]
  have h0 : 0 ≤ x % 2 ^ 64 := Int.emod_nonneg _ (by decide)
  rw [i64_id (by omega) (by omega)]
  omega
end Go.V
