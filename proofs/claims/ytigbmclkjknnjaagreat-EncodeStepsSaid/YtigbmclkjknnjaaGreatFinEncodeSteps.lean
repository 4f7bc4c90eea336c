/- The given Go function answers true for every input and leaves it as it was. No condition beside those that the given row bears. -/
import Derived.Test.YtigbmclkjknnjaaGreatRows
import Derived.Test.YtigbmclkjknnjaaGreatZ7
import Derived.KernelRfl
namespace Go.Proofs.YtigbmclkjknnjaaGreat.lawEncodeSteps
open Go.V
set_option maxRecDepth 100000
theorem own:ownKnob Tryz.prog.godebug=none:=by kernel_rfl
theorem laidOut:laidOutB Tryz.prog=true:=by kernel_rfl
theorem lift(os:Os)(started:os.Started)(H:Type)(enc:TypeId×Value->H) :
 ReturnsInHanded {} Tryz.checked os 3 .any (Rows.encodeStepsSpec.pre6 enc Tryz.prog Tryz.f3 Rows.encodeStepsRow.domain false) (Rows.encodeStepsSpec.post enc Tryz.prog Tryz.f3 false true false false):=by
 refine lifted (C:=Tryz.checked) (fs:=U5) (tb:=4) own started (by kernel_rfl) Tryz.func3
  (ChangeSpec.witness6 (enc:=enc) (C:=Tryz.checked) false ⟨#[],#[.slice none 0 0,.slice none 0 0],[]⟩ 8 (by kernel_rfl) (by kernel_rfl) (by kernel_rfl) (by kernel_rfl))
  laidOut rfl [Ty.tree,Ty.slice 1 (.int .i64)] (by kernel_rfl) (by kernel_rfl) (by kernel_rfl) (by kernel_rfl) ?_ vfsOk ?_
 .intro ds hl
  match ds,hl with
  |[d0,d1],_=>rfl
 .intro xs hx
  simp only[a9m]at hx;obtain⟨x0,r0,rfl,h0,x1,r1,rfl,h1,rfl⟩:=hx;obtain⟨d,s,⟨n,hn⟩,rfl⟩:=(c7H h0 h1)
  exact⟨n,s,hn⟩
theorem proved:Rows.EncodeStepsSaid :=
 OpenClaim.holds_of_wide 3 Tryz.f3 rfl rfl rfl rfl rfl rfl rfl ⟨rfl,rfl,rfl,rfl,rfl⟩ rfl rfl rfl rfl rfl (by kernel_rfl) Tryz.func3 (by kernel_rfl)
  (of_decide_eq_true (by kernel_rfl)) (by unfold Func.isWrapper;first|(rw[if_pos (by decide +kernel)];kernel_rfl)|(rw[if_neg (by decide +kernel)];exact⟨rfl,rfl⟩))
  (λos started H enc _=>lift os started H enc)
#print axioms proved
end Go.Proofs.YtigbmclkjknnjaaGreat.lawEncodeSteps
