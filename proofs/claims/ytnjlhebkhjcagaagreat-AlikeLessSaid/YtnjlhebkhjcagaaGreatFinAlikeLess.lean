/- The given Go function answers true for every input and leaves it as it was. No condition beside those that the given row bears. -/
import Derived.Test.YtnjlhebkhjcagaaGreatRows
import Derived.Test.YtnjlhebkhjcagaaGreatZ7
import Derived.KernelRfl
namespace Go.Proofs.YtnjlhebkhjcagaaGreat.lawAlikeLess
open Go.V
set_option maxRecDepth 100000
theorem own:ownKnob Tryz.prog.godebug=none:=by kernel_rfl
theorem laidOut:laidOutB Tryz.prog=true:=by kernel_rfl
theorem lift (os:Os) (started:os.Started) (H:Type) (enc:TypeId×Value->H) :
 ReturnsInHanded {} Tryz.checked os 10 .any (Rows.alikeLessSpec.pre6 enc Tryz.prog Tryz.f10 Rows.alikeLessRow.domain false) (Rows.alikeLessSpec.post enc Tryz.prog Tryz.f10 false true false false):=by
 refine c8G (C:=Tryz.checked) (fs:=vfs) (tb:=4) own started (by kernel_rfl) Tryz.func10
  (ChangeSpec.witness6 (enc:=enc) (C:=Tryz.checked) false ⟨#[],#[.slice none 0 0,.slice none 0 0,.int .u8 0],[]⟩ 8 (by kernel_rfl) (by kernel_rfl) (by kernel_rfl) (by kernel_rfl))
  laidOut rfl [Ty.tree,Ty.slice 1 (.int .i64),Ty.int .u8] (by kernel_rfl) (by kernel_rfl) (by kernel_rfl) (by kernel_rfl) ?_ c8D ?_
 ·intro ds hl
  match ds,hl with
  | [d0,d1,d2],_=>rfl
 ·intro xs hx
  simp only [a54] at hx
  obtain ⟨x0,r0,rfl,h0,x1,r1,rfl,h1,x2,r2,rfl,h2,rfl⟩:=hx
  obtain ⟨d,s,⟨n,hn⟩,rfl⟩:=(c8F h0 h1 h2)
  exact ⟨n,s,hn⟩
theorem proved:Rows.AlikeLessSaid :=
 OpenClaim.holds_of_wide 10 Tryz.f10 rfl rfl rfl rfl rfl rfl rfl ⟨rfl,rfl,rfl,rfl,rfl⟩ rfl rfl rfl rfl rfl (by kernel_rfl) Tryz.func10 (by kernel_rfl)
  (of_decide_eq_true (by kernel_rfl)) (by unfold Func.isWrapper;first | (rw [if_pos (by decide +kernel)];kernel_rfl) | (rw [if_neg (by decide +kernel)];exact ⟨rfl,rfl⟩))
  (fun os started H enc _=>lift os started H enc)
#print axioms proved
end Go.Proofs.YtnjlhebkhjcagaaGreat.lawAlikeLess
