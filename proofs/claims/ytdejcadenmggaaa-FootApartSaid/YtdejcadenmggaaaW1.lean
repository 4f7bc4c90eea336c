/- The examples of law18. -/
import Derived.Test.YtdejcadenmggaaaVt
import Derived.Test.YtdejcadenmggaaaVkGr
namespace Go.Proofs.Ytdejcadenmggaaa
open Go.V
set_option maxRecDepth 100000
theorem awake18 : ∃ s', Ev vfs 11 [] Store.empty (.bool true) s' := ev_of_fst (n := 400) (by kernel_rfl)
end Go.Proofs.Ytdejcadenmggaaa
