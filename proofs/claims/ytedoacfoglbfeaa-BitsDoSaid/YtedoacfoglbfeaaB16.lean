/- What the laws over numbers share: arguments, widths. -/
import Derived.Test.YtedoacfoglbfeaaB15
namespace Go.Proofs.Ytedoacfoglbfeaa
open Go.V
set_option maxRecDepth 100000
set_option maxHeartbeats 4000000
set_option linter.unusedSimpArgs false
set_option linter.unusedVariables false

theorem int_of {d : D} (h : ArgT (.int .i64) d) : ∃ n, d = .int .i64 n ∧ in64 n := by
  have h : HasT (.int .i64) [d] := h
  simp only [HasT] at h
  obtain ⟨n, e, w⟩ := h
  simp at e
  exact ⟨n, e, in64_of w⟩
theorem u8_of {d : D} (h : ArgT (.int .u8) d) : ∃ n : Nat, d = .int .u8 (n : Int) ∧ n < 256 := by
  have h : HasT (.int .u8) [d] := h
  simp only [HasT] at h
  obtain ⟨n, e, w⟩ := h
  simp at e
  have := inU8_of w
  exact ⟨n.toNat, by rw [e, Int.toNat_of_nonneg this.1], by omega⟩
theorem bool_of {d : D} (h : ArgT .bool d) : ∃ b, d = .bool b := by
  have h : HasT .bool [d] := h
  simp only [HasT] at h
  obtain ⟨b, e⟩ := h
  simp at e
  exact ⟨b, e⟩
theorem wid2_id {A B : List Nat} {v w : Nat} (hA : A.length = v) (hB : B.length = w) (h1 : 1 ≤ v) (h2 : v ≤ 16) (h3 : 1 ≤ w) (h4 : w ≤ 16) : wid2 A B = max v w := by
  unfold wid2
  rw [fixL_id (by omega) (by omega), fixL_id (by omega) (by omega), hA, hB]
theorem u8_wrap {n : Nat} (h : n < 256) : IntKind.i64.wrap (n : Int) = (n : Int) := i64_id (by omega) (by omega)
theorem tmod_nat {n m : Nat} : (n : Int).tmod (m : Int) = ((n % m : Nat) : Int) := rfl
theorem trim16 {n : Int} {k : Nat} (h1 : 1 ≤ k) (h2 : k ≤ 16) : -65536 ≤ trimZ n k ∧ trimZ n k ≤ 65536 := by
  have h := trimZ_lo (n := n) h1
  have := two16 (w := k - 1) (by omega)
  omega
theorem nOf {k : Nat} (h1 : 1 ≤ k) (h2 : k ≤ 16) : (k : Int) = min (max (k : Int) 1) 16 := by omega
theorem trimI {n : Int} {k : Nat} (h1 : 1 ≤ k) (h2 : k ≤ 16) (hn : in64 n) : Ev vfs 39 [.int .i64 n, .int .i64 (k : Int)] Store.empty (.int .i64 (trimZ n k)) Store.empty := trimR (nOf h1 h2) hn
/-- Inputs and a model of them. -/
theorem inputs_val {G : Gr} {es : List Nat} {m : List Bool} {base k : Nat} {a : Int} (hl : es.length = k) (h1 : 1 ≤ k) (h2 : k ≤ 16) (hv : ∀ i, i < k → bitsOf G m es i = m.getD (base + i) false) (hm : ∀ i, i < k → m.getD (base + i) false = bitZ a i) : valE G m es = trimZ a k := by
  rw [valE_id hl h1 h2, ← bit_val h1]
  exact valZ_cong h1 fun i hi => by rw [hv i hi, hm i hi]
theorem getD_appL {l r : List Bool} {i : Nat} (h : i < l.length) : (l ++ r).getD i false = l.getD i false := by
  simp only [List.getD]; rw [List.getElem?_append_left h]
theorem getD_appR {l r : List Bool} {i n : Nat} (h : l.length = n) : (l ++ r).getD (n + i) false = r.getD i false := by
  simp only [List.getD]; rw [List.getElem?_append_right (by omega)]; congr 2; omega
end Go.Proofs.Ytedoacfoglbfeaa
