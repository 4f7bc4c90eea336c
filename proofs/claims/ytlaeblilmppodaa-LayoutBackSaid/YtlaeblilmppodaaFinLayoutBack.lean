/- The given Go function answers true for every input and leaves it as it was. No condition beside those that the given row bears. -/
import Derived.Test.YtlaeblilmppodaaRows
import Derived.Test.YtlaeblilmppodaaZ6
import Derived.KernelRfl
namespace Go.Proofs.Ytlaeblilmppodaa.lawLayoutBack
open Go.V
set_option maxRecDepth 100000
theorem own : ownKnob Try.prog.godebug = none := by kernel_rfl
theorem laidOut : laidOutB Try.prog = true := by kernel_rfl
theorem lift (os : Os) (started : os.Started) (H : Type) (enc : TypeId × Value -> H) :
 ReturnsInHanded {} Try.checked os 9 .any (Rows.layoutBackSpec.pre6 enc Try.prog Try.f9 Rows.layoutBackRow.domain false) (Rows.layoutBackSpec.post enc Try.prog Try.f9 false true false false) := by
 refine lifted (C := Try.checked) (fs := vfs) (tb := 4) own started (by kernel_rfl) Try.func9
  (ChangeSpec.witness6 (enc := enc) (C := Try.checked) false ⟨#[], #[.slice none 0 0, .slice none 0 0], []⟩ 8 (by kernel_rfl) (by kernel_rfl) (by kernel_rfl) (by kernel_rfl))
  laidOut rfl [Ty.tree, Ty.slice 1 .bool] (by kernel_rfl) (by kernel_rfl) (by kernel_rfl) (by kernel_rfl) ?_ vfsOk ?_
 ·intro ds hl
  match ds, hl with
  | [d0, d1], _ => rfl
 ·intro xs hx
  simp only [ArgTs] at hx
  obtain ⟨x0, r0, rfl, h0, x1, r1, rfl, h1, rfl⟩ := hx
  obtain ⟨d, s, ⟨n, hn⟩, rfl⟩ := (layoutBack21 h0 h1)
  exact ⟨n, s, hn⟩
theorem proved : Rows.LayoutBackSaid :=
 OpenClaim.holds_of_wide 9 Try.f9 rfl rfl rfl rfl rfl rfl rfl ⟨rfl, rfl, rfl, rfl, rfl⟩ rfl rfl rfl rfl rfl (by kernel_rfl) Try.func9 (by kernel_rfl)
  (of_decide_eq_true (by kernel_rfl)) (by unfold Func.isWrapper; first | (rw [if_pos (by decide +kernel)]; kernel_rfl) | (rw [if_neg (by decide +kernel)]; exact ⟨rfl, rfl⟩))
  (fun os started H enc _ => lift os started H enc)
#print axioms proved
end Go.Proofs.Ytlaeblilmppodaa.lawLayoutBack
