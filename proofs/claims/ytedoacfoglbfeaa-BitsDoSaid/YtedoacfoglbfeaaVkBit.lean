/- Numbers of bits, plain. -/
import Derived.Test.YtedoacfoglbfeaaVkApp
namespace Go.V

def b2n (b : Bool) : Nat := if b then 1 else 0
@[simp] theorem b2n_t : b2n true = 1 := rfl
@[simp] theorem b2n_f : b2n false = 0 := rfl
theorem b2n_le (b : Bool) : b2n b ≤ 1 := by cases b <;> simp
def num (f : Nat → Bool) : Nat → Nat
  | 0 => 0
  | n + 1 => num f n + b2n (f n) * 2 ^ n
theorem num_lt (f : Nat → Bool) : ∀ n, num f n < 2 ^ n
  | 0 => by simp [num]
  | n + 1 => by
    have := num_lt f n
    have h := b2n_le (f n)
    simp only [num, Nat.pow_succ]
    have : b2n (f n) * 2 ^ n ≤ 1 * 2 ^ n := Nat.mul_le_mul_right _ h
    omega
theorem num_cong {f g : Nat → Bool} : ∀ {n : Nat}, (∀ i, i < n → f i = g i) → num f n = num g n
  | 0, _ => rfl
  | n + 1, h => by rw [num, num, num_cong fun i hi => h i (by omega), h n (by omega)]
theorem num_inj {f g : Nat → Bool} : ∀ {n : Nat}, num f n = num g n → ∀ i, i < n → f i = g i
  | 0, _, i, hi => by omega
  | n + 1, h, i, hi => by
    simp only [num] at h
    have h1 := num_lt f n
    have h2 := num_lt g n
    have hp : 0 < 2 ^ n := Nat.pos_of_ne_zero (by simp)
    have e : f n = g n ∧ num f n = num g n := by
      cases hf : f n <;> cases hg : g n <;> simp [hf, hg] at h ⊢ <;> omega
    rcases Nat.lt_or_ge i n with hi' | hi'
    · exact num_inj e.2 i hi'
    · have : i = n := by omega
      subst this
      exact e.1
theorem num_zero : ∀ n, num (fun _ => false) n = 0
  | 0 => rfl
  | n + 1 => by simp [num, num_zero n]
theorem num_split (f : Nat → Bool) (k : Nat) : ∀ n, num f (k + n) = num f k + num (fun i => f (k + i)) n * 2 ^ k
  | 0 => by simp [num]
  | n + 1 => by
    rw [← Nat.add_assoc, num, num, num_split f k n, Nat.add_mul, Nat.pow_add, Nat.add_assoc]
    congr 2
    rw [Nat.mul_assoc, Nat.mul_comm (2 ^ k)]

/-! Sums. -/
def carryAt (A B : Nat → Bool) (c : Bool) : Nat → Bool
  | 0 => c
  | i + 1 => (A i && B i) || ((A i != B i) && carryAt A B c i)
def sumAt (A B : Nat → Bool) (c : Bool) (i : Nat) : Bool := (A i != B i) != carryAt A B c i
theorem sum_num (A B : Nat → Bool) (c : Bool) : ∀ n, num (sumAt A B c) n + b2n (carryAt A B c n) * 2 ^ n = num A n + num B n + b2n c
  | 0 => by simp [num, carryAt]
  | n + 1 => by
    have ih := sum_num A B c n
    simp only [num, carryAt, sumAt, Nat.pow_succ]
    cases A n <;> cases B n <;> cases hc : carryAt A B c n <;> simp [hc] at ih ⊢ <;> omega
theorem sum_mod (A B : Nat → Bool) (c : Bool) (n : Nat) : num (sumAt A B c) n = (num A n + num B n + b2n c) % 2 ^ n := by
  rw [← sum_num A B c n, Nat.add_mul_mod_self_right, Nat.mod_eq_of_lt (num_lt _ _)]
theorem not_num (A : Nat → Bool) : ∀ n, num (fun i => !A i) n + num A n + 1 = 2 ^ n
  | 0 => by simp [num]
  | n + 1 => by
    have ih := not_num A n
    simp only [num, Nat.pow_succ]
    cases A n <;> simp <;> omega

/-! Order. -/
def underAt (A B : Nat → Bool) : Nat → Bool
  | 0 => false
  | i + 1 => if A i != B i then B i else underAt A B i
theorem under_num (A B : Nat → Bool) : ∀ n, underAt A B n = decide (num A n < num B n)
  | 0 => by simp [underAt, num]
  | n + 1 => by
    have ih := under_num A B n
    have h1 := num_lt A n
    have h2 := num_lt B n
    simp only [underAt, num]
    rw [Bool.eq_iff_iff]
    rcases Bool.eq_false_or_eq_true (A n) with hA | hA <;> rcases Bool.eq_false_or_eq_true (B n) with hB | hB <;> simp [hA, hB, ih] <;> omega
theorem same_num {A B : Nat → Bool} (n : Nat) : (∀ i, i < n → A i = B i) ↔ num A n = num B n := ⟨num_cong, num_inj⟩
theorem some_num {A : Nat → Bool} (n : Nat) : (∃ i, i < n ∧ A i = true) ↔ num A n ≠ 0 := by
  constructor
  · rintro ⟨i, hi, h⟩ h0
    have := num_inj (f := A) (g := fun _ => false) (n := n) (by rw [h0, num_zero]) i hi
    rw [h] at this; cases this
  · intro h
    apply Classical.byContradiction
    intro hn
    apply h
    rw [← num_zero n]
    exact num_cong fun i hi => by
      cases hA : A i with
      | false => rfl
      | true => exact absurd ⟨i, hi, hA⟩ hn

/-! Signs. -/
def trimZ (n : Int) (w : Nat) : Int := (n + 2 ^ (w - 1)) % 2 ^ w - 2 ^ (w - 1)
def valZ (f : Nat → Bool) (w : Nat) : Int := (num f w : Int) - (b2n (f (w - 1)) : Int) * 2 ^ w
theorem pow_pos' (w : Nat) : (0 : Int) < 2 ^ w := by
  have : (0 : Int) < ((2 ^ w : Nat) : Int) := by exact_mod_cast Nat.pos_of_ne_zero (by simp)
  simpa using this
theorem pow_half {w : Nat} (h : 0 < w) : (2 : Int) ^ w = 2 * 2 ^ (w - 1) := by
  obtain ⟨k, rfl⟩ : ∃ k, w = k + 1 := ⟨w - 1, by omega⟩
  rw [Int.pow_succ, Nat.add_sub_cancel]; omega
theorem trimZ_mod {a b : Int} {w : Nat} (h : a % 2 ^ w = b % 2 ^ w) : trimZ a w = trimZ b w := by
  unfold trimZ
  rw [Int.add_emod, h, ← Int.add_emod]
theorem trimZ_id {n : Int} {w : Nat} (h : 0 < w) (h1 : -2 ^ (w - 1) ≤ n) (h2 : n < 2 ^ (w - 1)) : trimZ n w = n := by
  unfold trimZ
  rw [Int.emod_eq_of_lt (by omega) (by have := pow_half h; omega)]; omega
theorem trimZ_lo {n : Int} {w : Nat} (h : 0 < w) : -2 ^ (w - 1) ≤ trimZ n w ∧ trimZ n w < 2 ^ (w - 1) := by
  unfold trimZ
  have hp := pow_pos' w
  have h1 := Int.emod_nonneg (n + 2 ^ (w - 1)) (b := 2 ^ w) (by omega)
  have h2 := Int.emod_lt_of_pos (n + 2 ^ (w - 1)) hp
  have := pow_half h
  omega
theorem trimZ_emod {n : Int} {w : Nat} : trimZ n w % 2 ^ w = n % 2 ^ w := by
  unfold trimZ
  rw [Int.sub_emod, Int.emod_emod_of_dvd _ (Int.dvd_refl _), ← Int.sub_emod]
  congr 1; omega
theorem num_top {f : Nat → Bool} {w : Nat} (h : 0 < w) : f (w - 1) = decide (2 ^ (w - 1) ≤ num f w) := by
  obtain ⟨k, rfl⟩ : ∃ k, w = k + 1 := ⟨w - 1, by omega⟩
  have h1 := num_lt f k
  simp only [Nat.add_sub_cancel, num]
  cases f k <;> simp <;> omega
theorem valZ_trim {f : Nat → Bool} {w : Nat} (h : 0 < w) : valZ f w = trimZ (num f w) w := by
  have ht := num_top (f := f) h
  have hl := num_lt f w
  have hp := pow_half h
  have hl' : (num f w : Int) < 2 ^ w := by exact_mod_cast hl
  unfold valZ
  have hnn : (0 : Int) ≤ num f w := Int.natCast_nonneg _
  by_cases hc : 2 ^ (w - 1) ≤ num f w
  · rw [ht, decide_eq_true hc]
    have hc' : (2 : Int) ^ (w - 1) ≤ num f w := by exact_mod_cast hc
    rw [← trimZ_mod (a := (num f w : Int) - 2 ^ w) (b := num f w) (by rw [Int.sub_emod, Int.emod_self]; simp), trimZ_id h (by omega) (by omega)]
    simp
  · rw [ht, decide_eq_false hc]
    have hc' : (num f w : Int) < 2 ^ (w - 1) := by
      have : num f w < 2 ^ (w - 1) := by omega
      exact_mod_cast this
    rw [trimZ_id h (by omega) (by omega)]
    simp
theorem valZ_cong {f g : Nat → Bool} {w : Nat} (hw : 0 < w) (h : ∀ i, i < w → f i = g i) : valZ f w = valZ g w := by
  unfold valZ
  rw [num_cong h, h (w - 1) (by omega)]

/-! Products. -/
def partAt (A : Nat → Bool) (b : Bool) (i j : Nat) : Bool := decide (i ≤ j) && (A (j - i) && b)
theorem part_num (A : Nat → Bool) (b : Bool) {i w : Nat} (h : i ≤ w) : num (partAt A b i) w = b2n b * (num A (w - i) * 2 ^ i) := by
  obtain ⟨n, rfl⟩ : ∃ n, w = i + n := ⟨w - i, by omega⟩
  rw [num_split]
  have e1 : num (partAt A b i) i = 0 := by
    rw [← num_zero i]
    exact num_cong fun j hj => by simp [partAt]; omega
  have e2 : num (fun j => partAt A b i (i + j)) n = b2n b * num A n := by
    cases b with
    | false => rw [b2n_f, Nat.zero_mul, ← num_zero n]; exact num_cong fun j _ => by simp [partAt]
    | true => rw [b2n_t, Nat.one_mul]; exact num_cong fun j _ => by simp [partAt]
  rw [e1, e2, Nat.add_sub_cancel_left, Nat.zero_add, Nat.mul_assoc]
def mulAt (A B : Nat → Bool) : Nat → (Nat → Bool)
  | 0 => fun _ => false
  | i + 1 => sumAt (mulAt A B i) (partAt A (B i) i) false
theorem mul_num (A B : Nat → Bool) {w : Nat} : ∀ {i : Nat}, i ≤ w → num (mulAt A B i) w = (num A w * num B i) % 2 ^ w
  | 0, _ => by simp [mulAt, num, num_zero]
  | i + 1, h => by
    have ih := mul_num A B (w := w) (i := i) (by omega)
    rw [mulAt, sum_mod, ih, part_num A (B i) (by omega), b2n_f, Nat.add_zero, num, Nat.mul_add]
    have hs : num A w * 2 ^ i % 2 ^ w = num A (w - i) * 2 ^ i % 2 ^ w := by
      have := num_split A (w - i) i
      rw [show w - i + i = w by omega] at this
      rw [this, Nat.add_mul, Nat.mul_assoc, ← Nat.pow_add, show w - i + i = w by omega, Nat.add_mul_mod_self_right]
    cases B i with
    | false => simp
    | true =>
      rw [b2n_t, Nat.one_mul, Nat.one_mul, Nat.mod_add_mod, Nat.add_mod, ← hs, ← Nat.add_mod]

/-! Quotients. -/
def shiftAt (r : Nat → Bool) (d : Bool) (j : Nat) : Bool := if j = 0 then d else r (j - 1)
theorem shift_num (r : Nat → Bool) (d : Bool) {w : Nat} (h : 0 < w) : num (shiftAt r d) w = b2n d + 2 * num r (w - 1) := by
  obtain ⟨n, rfl⟩ : ∃ n, w = 1 + n := ⟨w - 1, by omega⟩
  rw [num_split]
  have e2 : num (fun j => shiftAt r d (1 + j)) n = num r n := num_cong fun j _ => by
    simp only [shiftAt]
    rw [if_neg (by omega)]
    congr 1; omega
  rw [e2, Nat.add_sub_cancel_left]
  simp [num, shiftAt]; omega
def ifAt (c : Bool) (A B : Nat → Bool) (j : Nat) : Bool := if c then A j else B j
theorem if_num (c : Bool) (A B : Nat → Bool) (w : Nat) : num (ifAt c A B) w = if c then num A w else num B w := by
  cases c
  · exact num_cong fun _ _ => by simp [ifAt]
  · exact num_cong fun _ _ => by simp [ifAt]
mutual
def restAt (X Y : Nat → Bool) (w : Nat) : Nat → (Nat → Bool)
  | 0 => fun _ => false
  | k + 1 => ifAt (!underAt (shiftAt (restAt X Y w k) (X (w - 1 - k))) Y w) (sumAt (shiftAt (restAt X Y w k) (X (w - 1 - k))) (fun j => !Y j) true) (shiftAt (restAt X Y w k) (X (w - 1 - k)))
end
def fitsAt (X Y : Nat → Bool) (w k : Nat) : Bool := !underAt (shiftAt (restAt X Y w k) (X (w - 1 - k))) Y w
def quoAt (X Y : Nat → Bool) (w i : Nat) : Bool := fitsAt X Y w (w - 1 - i)
theorem sub_num {A B : Nat → Bool} {w : Nat} (h : num B w ≤ num A w) : num (sumAt A (fun j => !B j) true) w = num A w - num B w := by
  rw [sum_mod, b2n_t]
  have h1 := not_num B w
  have h2 := num_lt A w
  rw [show num A w + num (fun j => !B j) w + 1 = (num A w - num B w) + 2 ^ w by omega, Nat.add_mod_right, Nat.mod_eq_of_lt (by omega)]
theorem top_num (X : Nat → Bool) {w k : Nat} (h : k < w) : num X w / 2 ^ (w - (k + 1)) = 2 * (num X w / 2 ^ (w - k)) + b2n (X (w - 1 - k)) := by
  have h1 := num_split X (w - (k + 1)) (k + 1)
  rw [show w - (k + 1) + (k + 1) = w by omega] at h1
  have h2 := num_split X (w - k) k
  rw [show w - k + k = w by omega] at h2
  have p1 : 0 < 2 ^ (w - (k + 1)) := Nat.pos_of_ne_zero (by simp)
  have p2 : 0 < 2 ^ (w - k) := Nat.pos_of_ne_zero (by simp)
  have e1 : num X w / 2 ^ (w - (k + 1)) = num (fun i => X (w - (k + 1) + i)) (k + 1) := by
    rw [h1, Nat.add_mul_div_right _ _ p1, Nat.div_eq_of_lt (num_lt _ _), Nat.zero_add]
  have e2 : num X w / 2 ^ (w - k) = num (fun i => X (w - k + i)) k := by
    rw [h2, Nat.add_mul_div_right _ _ p2, Nat.div_eq_of_lt (num_lt _ _), Nat.zero_add]
  rw [e1, e2, show k + 1 = 1 + k by omega, num_split]
  have e3 : num (fun i => (fun i => X (w - (1 + k) + i)) (1 + i)) k = num (fun i => X (w - k + i)) k := num_cong fun i _ => by
    show X _ = X _
    congr 1; omega
  rw [e3]
  have e4 : w - (1 + k) + 0 = w - 1 - k := by omega
  simp only [num, e4]
  omega
theorem dstep {x y d : Nat} (hy : 0 < y) (hd : d ≤ 1) : (2 * x + d) / y = 2 * (x / y) + (if y ≤ 2 * (x % y) + d then 1 else 0) ∧ (2 * x + d) % y = if y ≤ 2 * (x % y) + d then 2 * (x % y) + d - y else 2 * (x % y) + d := by
  have hmod := Nat.mod_add_div x y
  have hlt := Nat.mod_lt x hy
  have hx : 2 * x + d = 2 * (x % y) + d + y * (2 * (x / y)) := by rw [Nat.mul_left_comm]; omega
  rw [hx, Nat.add_mul_div_left _ _ hy, Nat.add_mul_mod_self_left]
  split
  · rename_i hc
    have e : 2 * (x % y) + d = (2 * (x % y) + d - y) + y * 1 := by omega
    constructor
    · rw [e, Nat.add_mul_div_left _ _ hy, Nat.div_eq_of_lt (by omega)]; omega
    · rw [e, Nat.add_mul_mod_self_left, Nat.mod_eq_of_lt (by omega)]; omega
  · rename_i hc
    constructor
    · rw [Nat.div_eq_of_lt (by omega)]; omega
    · rw [Nat.mod_eq_of_lt (by omega)]
theorem low_num {r : Nat → Bool} {w : Nat} (hw : 0 < w) (h : num r w < 2 ^ (w - 1)) : num r (w - 1) = num r w := by
  obtain ⟨v, rfl⟩ : ∃ v, w = v + 1 := ⟨w - 1, by omega⟩
  have ht := num_top (f := r) hw
  rw [decide_eq_false (by omega)] at ht
  simp only [Nat.add_sub_cancel] at ht ⊢
  simp [num, ht]
theorem rest_num (X Y : Nat → Bool) {w : Nat} (hw : 0 < w) (hy : 0 < num Y w) (hy2 : num Y w ≤ 2 ^ (w - 1)) : ∀ {k : Nat}, k ≤ w → num (restAt X Y w k) w = num X w / 2 ^ (w - k) % num Y w
  | 0, _ => by
    have := num_lt X w
    rw [Nat.sub_zero, Nat.div_eq_of_lt this, Nat.zero_mod]
    exact num_zero w
  | k + 1, h => by
    have ih := rest_num X Y hw hy hy2 (k := k) (by omega)
    have hlt := Nat.mod_lt (num X w / 2 ^ (w - k)) hy
    have hs := shift_num (restAt X Y w k) (X (w - 1 - k)) hw
    rw [low_num hw (by omega), ih, Nat.add_comm] at hs
    rw [restAt, if_num, under_num, top_num X (w := w) (k := k) (by omega), (dstep hy (b2n_le _)).2, ← hs]
    by_cases hc : num (shiftAt (restAt X Y w k) (X (w - 1 - k))) w < num Y w
    · rw [decide_eq_true hc]
      simp only [Bool.not_true, Bool.false_eq_true, if_false]
      rw [if_neg (by omega)]
    · rw [decide_eq_false hc]
      simp only [Bool.not_false, if_true]
      rw [if_pos (by omega)]
      exact sub_num (by omega)
theorem fits_num (X Y : Nat → Bool) {w k : Nat} (hw : 0 < w) (hy : 0 < num Y w) (hy2 : num Y w ≤ 2 ^ (w - 1)) (h : k < w) : num X w / 2 ^ (w - (k + 1)) / num Y w = 2 * (num X w / 2 ^ (w - k) / num Y w) + b2n (fitsAt X Y w k) := by
  have ih := rest_num X Y hw hy hy2 (k := k) (by omega)
  have hlt := Nat.mod_lt (num X w / 2 ^ (w - k)) hy
  have hs := shift_num (restAt X Y w k) (X (w - 1 - k)) hw
  rw [low_num hw (by omega), ih, Nat.add_comm] at hs
  rw [fitsAt, under_num, top_num X h, (dstep hy (b2n_le _)).1, ← hs]
  congr 1
  by_cases hc : num (shiftAt (restAt X Y w k) (X (w - 1 - k))) w < num Y w
  · rw [decide_eq_true hc, if_neg (by omega)]; rfl
  · rw [decide_eq_false hc, if_pos (by omega)]; rfl
theorem quo_top (X Y : Nat → Bool) {w : Nat} (hw : 0 < w) (hy : 0 < num Y w) (hy2 : num Y w ≤ 2 ^ (w - 1)) : ∀ {k : Nat}, k ≤ w → num (fun i => quoAt X Y w (w - k + i)) k = num X w / 2 ^ (w - k) / num Y w
  | 0, _ => by
    have := num_lt X w
    rw [Nat.sub_zero, Nat.div_eq_of_lt this, Nat.zero_div]
    rfl
  | k + 1, h => by
    have ih := quo_top X Y hw hy hy2 (k := k) (by omega)
    rw [fits_num X Y hw hy hy2 (by omega), ← ih, show k + 1 = 1 + k by omega, num_split]
    have e3 : num (fun i => (fun i => quoAt X Y w (w - (1 + k) + i)) (1 + i)) k = num (fun i => quoAt X Y w (w - k + i)) k := num_cong fun i _ => by
      show quoAt X Y w _ = quoAt X Y w _
      congr 1; omega
    rw [e3]
    have e4 : quoAt X Y w (w - (1 + k) + 0) = fitsAt X Y w k := by
      unfold quoAt
      congr 1; omega
    simp only [num, e4]
    omega
theorem quo_num (X Y : Nat → Bool) {w : Nat} (hw : 0 < w) (hy : 0 < num Y w) (hy2 : num Y w ≤ 2 ^ (w - 1)) : num (quoAt X Y w) w = num X w / num Y w := by
  have := quo_top X Y hw hy hy2 (k := w) (Nat.le_refl _)
  rw [Nat.sub_self, Nat.pow_zero, Nat.div_one] at this
  rw [← this]
  exact num_cong fun i _ => by congr 1; omega
theorem rem_num (X Y : Nat → Bool) {w : Nat} (hw : 0 < w) (hy : 0 < num Y w) (hy2 : num Y w ≤ 2 ^ (w - 1)) : num (restAt X Y w w) w = num X w % num Y w := by
  have := rest_num X Y hw hy hy2 (k := w) (Nat.le_refl _)
  rwa [Nat.sub_self, Nat.pow_zero, Nat.div_one] at this

/-! The other sign. -/
def minusAt (c : Bool) (A : Nat → Bool) : Nat → Bool := ifAt c (sumAt (fun _ => false) (fun j => !A j) true) A
theorem minus_num (c : Bool) (A : Nat → Bool) (w : Nat) : num (minusAt c A) w = if c then (2 ^ w - num A w) % 2 ^ w else num A w := by
  rw [minusAt, if_num]
  cases c
  · rfl
  · simp only [if_true]
    have := not_num A w
    have := num_lt A w
    rw [sum_mod, num_zero, b2n_t]
    congr 1; omega
theorem minus_mod (c : Bool) (A : Nat → Bool) (w : Nat) : (num (minusAt c A) w : Int) % 2 ^ w = (if c then -(num A w : Int) else (num A w : Int)) % 2 ^ w := by
  have hl := num_lt A w
  rw [minus_num]
  cases c
  · rfl
  · simp only [if_true]
    rw [Int.natCast_emod, Int.natCast_sub (by omega), Int.natCast_pow]
    rw [Int.emod_emod_of_dvd _ (by exact Int.dvd_refl _)]
    rw [show ((2 : Nat) : Int) ^ w - (num A w : Int) = -(num A w : Int) + 2 ^ w by simp; omega, Int.add_emod_right]
end Go.V
