/- The given Go function answers true for every input and leaves it as it was. No condition beside those that the given row bears. -/
import Derived.Test.YtedoacfoglbfeaaRows
import Derived.Test.YtedoacfoglbfeaaBDo
import Derived.KernelRfl
namespace Go.Proofs.Ytedoacfoglbfeaa.lawBitsDo
open Go.V
set_option maxRecDepth 100000

theorem own : ownKnob Try.prog.godebug = none := by kernel_rfl
theorem laidOut : laidOutB Try.prog = true := by kernel_rfl

theorem lift (os : Os) (started : os.Started) (H : Type) (enc : TypeId × Value → H) :
    ReturnsInHanded {} Try.checked os 15 .any (Rows.bitsDoSpec.pre6 enc Try.prog Try.f15 Rows.bitsDoRow.domain false) (Rows.bitsDoSpec.post enc Try.prog Try.f15 false true false false) := by
  refine lifted (C := Try.checked) (fs := vfs) (tb := 4) own started (by kernel_rfl) Try.func15
    (ChangeSpec.witness6 (enc := enc) (C := Try.checked) false ⟨#[], #[.int .i64 0, .int .i64 0, .agg #[.int .u8 0, .int .u8 0]], []⟩ 8 (by kernel_rfl) (by kernel_rfl) (by kernel_rfl) (by kernel_rfl))
    laidOut rfl [Ty.int .i64, Ty.int .i64, Ty.arr 2 (.int .u8)] (by kernel_rfl) (by kernel_rfl) (by kernel_rfl) (by kernel_rfl) ?_ vfsOk ?_
  · intro ds hl
    match ds, hl with
    | [d0, d1, d2], _ => rfl
  · intro xs hx
    simp only [ArgTs] at hx
    obtain ⟨x0, r0, rfl, h0, x1, r1, rfl, h1, x2, r2, rfl, h2, rfl⟩ := hx
    obtain ⟨d, s, ⟨n, hn⟩, rfl⟩ := (bitsDo_v h0 h1 h2)
    exact ⟨n, s, hn⟩

/-- The statement. -/
theorem proved : Rows.BitsDoSaid :=
  OpenClaim.holds_of_wide 15 Try.f15 rfl rfl rfl rfl rfl rfl rfl ⟨rfl, rfl, rfl, rfl, rfl⟩ rfl rfl rfl rfl rfl (by kernel_rfl) Try.func15 (by kernel_rfl)
    (of_decide_eq_true (by kernel_rfl)) (by unfold Func.isWrapper; first | (rw [if_pos (by decide +kernel)]; kernel_rfl) | (rw [if_neg (by decide +kernel)]; exact ⟨rfl, rfl⟩))
    (fun os started H enc _ => lift os started H enc)
#print axioms proved
end Go.Proofs.Ytedoacfoglbfeaa.lawBitsDo
