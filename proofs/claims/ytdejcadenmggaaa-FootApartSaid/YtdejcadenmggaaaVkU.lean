/- Sets of 32 bits. -/
import Derived.Test.YtdejcadenmggaaaVkFz
import Derived.Test.YtdejcadenmggaaaVkArg
namespace Go.V
theorem s32_id {n : Nat} (h : n < 4294967296) : IntKind.u32.wrap (n : Int) = (n : Int) := by
  rw [IntKind.wrap_u32]; omega
theorem ofInt32 {n : Nat} (h : n < 4294967296) : (BitVec.ofInt IntKind.u32.bits (n : Int)).toNat = n := by
  rw [BitVec.toNat_ofInt, show IntKind.u32.bits = 32 from rfl]
  omega
theorem s32_and {x y : Nat} (hx : x < 4294967296) (hy : y < 4294967296) : IntKind.u32.wrap (andI .u32 (x : Int) (y : Int)) = ((x &&& y : Nat) : Int) := by
  unfold andI
  rw [BitVec.toNat_and, ofInt32 hx, ofInt32 hy]
  exact s32_id (Nat.lt_of_le_of_lt Nat.and_le_left hx)
theorem or_lt {x y : Nat} (hx : x < 4294967296) (hy : y < 4294967296) : x ||| y < 4294967296 := Nat.or_lt_two_pow (n := 32) hx hy
theorem and_lt {x y : Nat} (hx : x < 4294967296) : x &&& y < 4294967296 := Nat.lt_of_le_of_lt Nat.and_le_left hx
theorem s32_or {x y : Nat} (hx : x < 4294967296) (hy : y < 4294967296) : IntKind.u32.wrap (orI .u32 (x : Int) (y : Int)) = ((x ||| y : Nat) : Int) := by
  unfold orI
  rw [BitVec.toNat_or, ofInt32 hx, ofInt32 hy]
  exact s32_id (or_lt hx hy)
theorem bne0 {n : Nat} : ((n : Int) != 0) = decide (n ≠ 0) := by
  rw [Bool.eq_iff_iff]; simp
theorem or_zero {x y : Nat} : x ||| y = 0 ↔ x = 0 ∧ y = 0 := by
  constructor
  · intro h
    have h1 : x ≤ x ||| y := Nat.left_le_or
    have h2 : y ≤ x ||| y := Nat.right_le_or
    omega
  · rintro ⟨rfl, rfl⟩; rfl
theorem and_or_zero {x y z : Nat} : x &&& (y ||| z) = 0 ↔ x &&& y = 0 ∧ x &&& z = 0 := by rw [Nat.and_or_distrib_left, or_zero]
theorem or_and_zero {x y z : Nat} : (y ||| z) &&& x = 0 ↔ y &&& x = 0 ∧ z &&& x = 0 := by rw [Nat.and_comm, and_or_zero, Nat.and_comm x y, Nat.and_comm x z]
theorem inU32_of {n : Int} (h : (Lit.int .u32 n).wf = true) : 0 ≤ n ∧ n < 4294967296 := by
  simp only [Lit.wf, Bool.and_eq_true, decide_eq_true_eq] at h
  have h1 : IntKind.u32.min = 0 := rfl
  have h2 : IntKind.u32.max = 4294967295 := rfl
  rw [h1, h2] at h
  omega

/-- What an edge touches. -/
structure Ft where
  reads : Nat
  writes : Nat
  sends : Nat
  recvs : Nat
  sizes : Nat
  part : Bool
structure Ft.Ok (f : Ft) : Prop where
  r : f.reads < 4294967296
  w : f.writes < 4294967296
  s : f.sends < 4294967296
  v : f.recvs < 4294967296
  z : f.sizes < 4294967296
def Ft.row (f : Ft) : List D := [.int .u32 (f.reads : Int), .int .u32 (f.writes : Int), .int .u32 (f.sends : Int), .int .u32 (f.recvs : Int), .int .u32 (f.sizes : Int), .bool f.part]
def Ty.foot : Ty := .struct [.int .u32, .int .u32, .int .u32, .int .u32, .int .u32, .bool]
theorem foot_of {d : D} (h : ArgT Ty.foot d) : ∃ f : Ft, d = .agg f.row ∧ f.Ok := by
  obtain ⟨ds, rfl, h⟩ := h
  simp only [HasT, HasTs] at h
  obtain ⟨a1, b1, rfl, ⟨n1, rfl, w1⟩, a2, b2, rfl, ⟨n2, rfl, w2⟩, a3, b3, rfl, ⟨n3, rfl, w3⟩, a4, b4, rfl, ⟨n4, rfl, w4⟩, a5, b5, rfl, ⟨n5, rfl, w5⟩, a6, b6, rfl, ⟨c, rfl⟩, rfl⟩ := h
  have h1 := inU32_of w1
  have h2 := inU32_of w2
  have h3 := inU32_of w3
  have h4 := inU32_of w4
  have h5 := inU32_of w5
  refine ⟨⟨n1.toNat, n2.toNat, n3.toNat, n4.toNat, n5.toNat, c⟩, ?_, ⟨?_, ?_, ?_, ?_, ?_⟩⟩
  · simp only [Ft.row, Int.toNat_of_nonneg h1.1, Int.toNat_of_nonneg h2.1, Int.toNat_of_nonneg h3.1, Int.toNat_of_nonneg h4.1, Int.toNat_of_nonneg h5.1]
    rfl
  all_goals simp only; omega
def Ft.dist (a b : Ft) : Bool := decide (a.writes &&& (b.reads ||| b.writes) ≠ 0) || decide ((a.sends ||| a.recvs) &&& ((b.sends ||| b.recvs) ||| b.sizes) ≠ 0)
def Ft.apart (a b : Ft) : Bool := !a.dist b && !b.dist a
theorem Ft.apart_comm (a b : Ft) : a.apart b = b.apart a := by unfold Ft.apart; rw [Bool.and_comm]
def meetN (x y : Nat) : Bool := decide (x &&& y ≠ 0)
theorem Ft.apart_ref (a b : Ft) : a.apart b = (!(meetN a.writes b.reads || meetN a.writes b.writes || meetN b.writes a.reads) && (!meetN (a.sends ||| a.recvs) (b.sends ||| b.recvs) && !meetN (a.sends ||| a.recvs) b.sizes && !meetN (b.sends ||| b.recvs) a.sizes)) := by
  rw [Bool.eq_iff_iff]
  unfold Ft.apart Ft.dist meetN
  generalize a.sends ||| a.recvs = x
  generalize b.sends ||| b.recvs = y
  simp only [Bool.and_eq_true, Bool.not_eq_true', Bool.or_eq_false_iff, decide_eq_false_iff_not, ne_eq, Decidable.not_not, and_or_zero]
  rw [Nat.and_comm b.writes a.writes, Nat.and_comm y x]
  constructor
  · rintro ⟨⟨⟨h1, h2⟩, h3, h4⟩, ⟨h5, h6⟩, h7, h8⟩
    exact ⟨⟨⟨h1, h2⟩, h5⟩, ⟨h3, h4⟩, h8⟩
  · rintro ⟨⟨⟨h1, h2⟩, h5⟩, ⟨h3, h4⟩, h8⟩
    exact ⟨⟨⟨h1, h2⟩, h3, h4⟩, ⟨h5, h2⟩, h3, h8⟩
end Go.V
