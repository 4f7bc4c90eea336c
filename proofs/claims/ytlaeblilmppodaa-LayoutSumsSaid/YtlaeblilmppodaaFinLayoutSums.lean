/- The given Go function answers true for every input and leaves it as it was. No condition beside those that the given row bears. -/
import Derived.Test.YtlaeblilmppodaaRows
import Derived.Test.YtlaeblilmppodaaZ5
import Derived.KernelRfl
namespace Go.Proofs.Ytlaeblilmppodaa.lawLayoutSums
open Go.V
set_option maxRecDepth 100000
theorem own:ownKnob Try.prog.godebug=none:=by kernel_rfl
theorem laidOut:laidOutB Try.prog=true:=by kernel_rfl
theorem lift (os:Os) (started:os.Started) (H:Type) (enc:TypeId×Value->H) :
 ReturnsInHanded {} Try.checked os 7 .any (Rows.layoutSumsSpec.pre6 enc Try.prog Try.f7 Rows.layoutSumsRow.domain false) (Rows.layoutSumsSpec.post enc Try.prog Try.f7 false true false false):=by
 refine c2P (C:=Try.checked) (fs:=vfs) (tb:=4) own started (by kernel_rfl) Try.func7
  (ChangeSpec.witness6 (enc:=enc) (C:=Try.checked) false ⟨#[],#[.slice none 0 0,.slice none 0 0,.slice none 0 0],[]⟩ 8 (by kernel_rfl) (by kernel_rfl) (by kernel_rfl) (by kernel_rfl))
  laidOut rfl [Ty.slice 1 (.int .u8),Ty.slice 1 (.int .u8),Ty.slice 1 (.int .u8)] (by kernel_rfl) (by kernel_rfl) (by kernel_rfl) (by kernel_rfl) ?_ b9S ?_
 ·intro ds hl
  match ds,hl with
  | [d0,d1,d2],_=>rfl
 ·intro xs hx
  simp only [a37] at hx
  obtain ⟨x0,r0,rfl,h0,x1,r1,rfl,h1,x2,r2,rfl,h2,rfl⟩:=hx
  obtain ⟨d,s,⟨n,hn⟩,rfl⟩:=(b94 h0 h1 h2)
  exact ⟨n,s,hn⟩
theorem proved:Rows.LayoutSumsSaid :=
 OpenClaim.holds_of_wide 7 Try.f7 rfl rfl rfl rfl rfl rfl rfl ⟨rfl,rfl,rfl,rfl,rfl⟩ rfl rfl rfl rfl rfl (by kernel_rfl) Try.func7 (by kernel_rfl)
  (of_decide_eq_true (by kernel_rfl)) (by unfold Func.isWrapper;first | (rw [if_pos (by decide +kernel)];kernel_rfl) | (rw [if_neg (by decide +kernel)];exact ⟨rfl,rfl⟩))
  (fun os started H enc _=>lift os started H enc)
#print axioms proved
end Go.Proofs.Ytlaeblilmppodaa.lawLayoutSums
