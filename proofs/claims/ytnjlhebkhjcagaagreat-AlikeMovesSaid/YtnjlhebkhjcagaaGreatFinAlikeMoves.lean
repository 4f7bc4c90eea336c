/- The given Go function answers true for every input and leaves it as it was. No condition beside those that the given row bears. -/
import Derived.Test.YtnjlhebkhjcagaaGreatRows
import Derived.Test.YtnjlhebkhjcagaaGreatZ7
import Derived.KernelRfl
namespace Go.Proofs.YtnjlhebkhjcagaaGreat.lawAlikeMoves
open Go.V
set_option maxRecDepth 100000
theorem own:ownKnob Tryz.prog.godebug=none:=by kernel_rfl
theorem laidOut:laidOutB Tryz.prog=true:=by kernel_rfl
theorem lift (os:Os) (started:os.Started) (H:Type) (enc:TypeId×Value->H) :
 ReturnsInHanded {} Tryz.checked os 7 .any (Rows.alikeMovesSpec.pre6 enc Tryz.prog Tryz.f7 Rows.alikeMovesRow.domain false) (Rows.alikeMovesSpec.post enc Tryz.prog Tryz.f7 false true false false):=by
 refine c66 (C:=Tryz.checked) (fs:=vfs) (tb:=4) own started (by kernel_rfl) Tryz.func7
  (ChangeSpec.witness6 (enc:=enc) (C:=Tryz.checked) false ⟨#[],#[.slice none 0 0,.slice none 0 0],[]⟩ 8 (by kernel_rfl) (by kernel_rfl) (by kernel_rfl) (by kernel_rfl))
  laidOut rfl [Ty.tree,Ty.slice 1 (.int .i64)] (by kernel_rfl) (by kernel_rfl) (by kernel_rfl) (by kernel_rfl) ?_ c68 ?_
 ·intro ds hl
  match ds,hl with
  | [d0,d1],_=>rfl
 ·intro xs hx
  simp only [a5A] at hx
  obtain ⟨x0,r0,rfl,h0,x1,r1,rfl,h1,rfl⟩:=hx
  obtain ⟨d,s,⟨n,hn⟩,rfl⟩:=(c65 h0 h1)
  exact ⟨n,s,hn⟩
theorem proved:Rows.AlikeMovesSaid :=
 OpenClaim.holds_of_wide 7 Tryz.f7 rfl rfl rfl rfl rfl rfl rfl ⟨rfl,rfl,rfl,rfl,rfl⟩ rfl rfl rfl rfl rfl (by kernel_rfl) Tryz.func7 (by kernel_rfl)
  (of_decide_eq_true (by kernel_rfl)) (by unfold Func.isWrapper;first | (rw [if_pos (by decide +kernel)];kernel_rfl) | (rw [if_neg (by decide +kernel)];exact ⟨rfl,rfl⟩))
  (fun os started H enc _=>lift os started H enc)
#print axioms proved
end Go.Proofs.YtnjlhebkhjcagaaGreat.lawAlikeMoves
