/- The given Go function answers true for every input and leaves it as it was. No condition beside those that the given row bears. -/
import Derived.Test.YtlaeblilmppodaaRows
import Derived.Test.YtlaeblilmppodaaZ9
import Derived.KernelRfl
namespace Go.Proofs.Ytlaeblilmppodaa.lawFootSame
open Go.V
set_option maxRecDepth 100000
theorem own : ownKnob Try.prog.godebug = none := by kernel_rfl
theorem laidOut : laidOutB Try.prog = true := by kernel_rfl
theorem lift (os : Os) (started : os.Started) (H : Type) (enc : TypeId × Value → H) :
    ReturnsInHanded {} Try.checked os 6 .any (Rows.footSameSpec.pre6 enc Try.prog Try.f6 Rows.footSameRow.domain false) (Rows.footSameSpec.post enc Try.prog Try.f6 false true false false) := by
  refine lifted (C := Try.checked) (fs := vfs) (tb := 4) own started (by kernel_rfl) Try.func6
    (ChangeSpec.witness6 (enc := enc) (C := Try.checked) false ⟨#[], #[.slice none 0 0], []⟩ 8 (by kernel_rfl) (by kernel_rfl) (by kernel_rfl) (by kernel_rfl))
    laidOut rfl [Ty.tree] (by kernel_rfl) (by kernel_rfl) (by kernel_rfl) (by kernel_rfl) ?_ vfsOk ?_
  · intro ds hl
    match ds, hl with
    | [d0], _ => rfl
  · intro xs hx
    simp only [ArgTs] at hx
    obtain ⟨x0, r0, rfl, h0, rfl⟩ := hx
    obtain ⟨d, s, ⟨n, hn⟩, rfl⟩ := (footSame18 h0)
    exact ⟨n, s, hn⟩
theorem proved : Rows.FootSameSaid :=
  OpenClaim.holds_of_wide 6 Try.f6 rfl rfl rfl rfl rfl rfl rfl ⟨rfl, rfl, rfl, rfl, rfl⟩ rfl rfl rfl rfl rfl (by kernel_rfl) Try.func6 (by kernel_rfl)
    (of_decide_eq_true (by kernel_rfl)) (by unfold Func.isWrapper; first | (rw [if_pos (by decide +kernel)]; kernel_rfl) | (rw [if_neg (by decide +kernel)]; exact ⟨rfl, rfl⟩))
    (fun os started H enc _ => lift os started H enc)
#print axioms proved
end Go.Proofs.Ytlaeblilmppodaa.lawFootSame
