/-
  No cell of these rows narrows 'for every input' (looked for: loops, veiled, ifaces, maps, wideKeys, modest, calm, conditions, laid).
  DERIVED. THE GIVEN ROWS OF THIS SEAT. 8 by the template 'for every input the law returns true; each argument reads behind the call as it read before'; 0 by the template 'total and deterministic' (their statements: YtnjlhebkhjcagaaGreatTotals.lean).
  GIVEN WITH THE SEED: the statements are not yours to turn. If you find one false, say at which input.
  Laid BY PROGRAM, IN A SANDBOX (cutbox-rows.mjs): the forced cells as the released guide's own fill.sh prints them over the translation 1f07e2291b77a9ad… (all of the seat's roots in one cut). By AI agents, Wed Nov 11 2026. No macro, syntax, notation, axiom, sorry.
-/
import Derived.Test.YtnjlhebkhjcagaaGreatChecked
import GoSem.Claim
import GoSem.ClaimJoined
import GoSem.ClaimMapViews
import Derived.JoinedTies
import Derived.KernelRfl
namespace Go.Proofs.YtnjlhebkhjcagaaGreat
/- THE CELL 'sum', in the pinned program and in every row, IS THE sha256 OF THE DUMP (.gsa) THAT YtnjlhebkhjcagaaGreatProg.lean LOADS. Nothing in Lean hashes anything: it is a label: what it is worth is what the hold of that sum in a sandbox is worth. -/
noncomputable def Tryz.pinned : Pinned := { name := "ytnjlhebkhjcagaagreat", sum := "1f07e2291b77a9ade0c03fb22e8ca0772aea3d229bc51c86c71d71e57137eb45", checked := Tryz.checked }
namespace Rows
def none {H : Type} : Left H := { results := [], args := [] }

/-- 'weirgatelaw19.AmpleMoves': WHATEVER THE INPUT: true; the input reads as it did. -/
def ampleMovesSpec : ChangeSpec := { name := "ampleMoves", fn := fun _ => fun
  | [d1, d2] => { results := [.lit (.bool true)], args := [d1, d2] }
  | _ => none }
def ampleMovesRow : OpenClaim := { program := "ytnjlhebkhjcagaagreat", sum := "1f07e2291b77a9ade0c03fb22e8ca0772aea3d229bc51c86c71d71e57137eb45", func := "weirgate/weirgatelaw19.AmpleMoves", spec := "ampleMoves", unfollowed := true, recurses := true, apart := false }
def AmpleMovesSaid : Prop := ampleMovesRow.holds Tryz.pinned (OpenSpec.ofChange ampleMovesSpec)

/-- ITS FALSE NEIGHBOUR: 'it returns false'. Refute it at one input. -/
def ampleMovesWrong : ChangeSpec := { name := "ampleMoves", fn := fun _ => fun
  | [d1, d2] => { results := [.lit (.bool false)], args := [d1, d2] }
  | _ => none }
def AmpleMovesWrongFalsely : Prop := ampleMovesRow.holds Tryz.pinned (OpenSpec.ofChange ampleMovesWrong)

/-- 'weirgatelaw19.AmpleFinds': WHATEVER THE INPUT: true; the input reads as it did. -/
def ampleFindsSpec : ChangeSpec := { name := "ampleFinds", fn := fun _ => fun
  | [d] => { results := [.lit (.bool true)], args := [d] }
  | _ => none }
def ampleFindsRow : OpenClaim := { program := "ytnjlhebkhjcagaagreat", sum := "1f07e2291b77a9ade0c03fb22e8ca0772aea3d229bc51c86c71d71e57137eb45", func := "weirgate/weirgatelaw19.AmpleFinds", spec := "ampleFinds", unfollowed := true, recurses := true, apart := false }
def AmpleFindsSaid : Prop := ampleFindsRow.holds Tryz.pinned (OpenSpec.ofChange ampleFindsSpec)

/-- ITS FALSE NEIGHBOUR: 'it returns false'. Refute it at one input. -/
def ampleFindsWrong : ChangeSpec := { name := "ampleFinds", fn := fun _ => fun
  | [d] => { results := [.lit (.bool false)], args := [d] }
  | _ => none }
def AmpleFindsWrongFalsely : Prop := ampleFindsRow.holds Tryz.pinned (OpenSpec.ofChange ampleFindsWrong)

/-- 'weirgatelaw19.AmpleQuiet': WHATEVER THE INPUT: true; the input reads as it did. -/
def ampleQuietSpec : ChangeSpec := { name := "ampleQuiet", fn := fun _ => fun
  | [d1, d2] => { results := [.lit (.bool true)], args := [d1, d2] }
  | _ => none }
def ampleQuietRow : OpenClaim := { program := "ytnjlhebkhjcagaagreat", sum := "1f07e2291b77a9ade0c03fb22e8ca0772aea3d229bc51c86c71d71e57137eb45", func := "weirgate/weirgatelaw19.AmpleQuiet", spec := "ampleQuiet", unfollowed := true, recurses := true, apart := false }
def AmpleQuietSaid : Prop := ampleQuietRow.holds Tryz.pinned (OpenSpec.ofChange ampleQuietSpec)

/-- ITS FALSE NEIGHBOUR: 'it returns false'. Refute it at one input. -/
def ampleQuietWrong : ChangeSpec := { name := "ampleQuiet", fn := fun _ => fun
  | [d1, d2] => { results := [.lit (.bool false)], args := [d1, d2] }
  | _ => none }
def AmpleQuietWrongFalsely : Prop := ampleQuietRow.holds Tryz.pinned (OpenSpec.ofChange ampleQuietWrong)

/-- 'weirgatelaw19.AmpleLess': WHATEVER THE INPUT: true; the input reads as it did. -/
def ampleLessSpec : ChangeSpec := { name := "ampleLess", fn := fun _ => fun
  | [d1, d2] => { results := [.lit (.bool true)], args := [d1, d2] }
  | _ => none }
def ampleLessRow : OpenClaim := { program := "ytnjlhebkhjcagaagreat", sum := "1f07e2291b77a9ade0c03fb22e8ca0772aea3d229bc51c86c71d71e57137eb45", func := "weirgate/weirgatelaw19.AmpleLess", spec := "ampleLess", unfollowed := true, recurses := true, apart := false }
def AmpleLessSaid : Prop := ampleLessRow.holds Tryz.pinned (OpenSpec.ofChange ampleLessSpec)

/-- ITS FALSE NEIGHBOUR: 'it returns false'. Refute it at one input. -/
def ampleLessWrong : ChangeSpec := { name := "ampleLess", fn := fun _ => fun
  | [d1, d2] => { results := [.lit (.bool false)], args := [d1, d2] }
  | _ => none }
def AmpleLessWrongFalsely : Prop := ampleLessRow.holds Tryz.pinned (OpenSpec.ofChange ampleLessWrong)

/-- 'weirgatelaw20.AlikeMoves': WHATEVER THE INPUT: true; the input reads as it did. -/
def alikeMovesSpec : ChangeSpec := { name := "alikeMoves", fn := fun _ => fun
  | [d1, d2] => { results := [.lit (.bool true)], args := [d1, d2] }
  | _ => none }
def alikeMovesRow : OpenClaim := { program := "ytnjlhebkhjcagaagreat", sum := "1f07e2291b77a9ade0c03fb22e8ca0772aea3d229bc51c86c71d71e57137eb45", func := "weirgate/weirgatelaw20.AlikeMoves", spec := "alikeMoves", unfollowed := true, recurses := true, apart := false }
def AlikeMovesSaid : Prop := alikeMovesRow.holds Tryz.pinned (OpenSpec.ofChange alikeMovesSpec)

/-- ITS FALSE NEIGHBOUR: 'it returns false'. Refute it at one input. -/
def alikeMovesWrong : ChangeSpec := { name := "alikeMoves", fn := fun _ => fun
  | [d1, d2] => { results := [.lit (.bool false)], args := [d1, d2] }
  | _ => none }
def AlikeMovesWrongFalsely : Prop := alikeMovesRow.holds Tryz.pinned (OpenSpec.ofChange alikeMovesWrong)

/-- 'weirgatelaw20.AlikeFinds': WHATEVER THE INPUT: true; the input reads as it did. -/
def alikeFindsSpec : ChangeSpec := { name := "alikeFinds", fn := fun _ => fun
  | [d1, d2] => { results := [.lit (.bool true)], args := [d1, d2] }
  | _ => none }
def alikeFindsRow : OpenClaim := { program := "ytnjlhebkhjcagaagreat", sum := "1f07e2291b77a9ade0c03fb22e8ca0772aea3d229bc51c86c71d71e57137eb45", func := "weirgate/weirgatelaw20.AlikeFinds", spec := "alikeFinds", unfollowed := true, recurses := true, apart := false }
def AlikeFindsSaid : Prop := alikeFindsRow.holds Tryz.pinned (OpenSpec.ofChange alikeFindsSpec)

/-- ITS FALSE NEIGHBOUR: 'it returns false'. Refute it at one input. -/
def alikeFindsWrong : ChangeSpec := { name := "alikeFinds", fn := fun _ => fun
  | [d1, d2] => { results := [.lit (.bool false)], args := [d1, d2] }
  | _ => none }
def AlikeFindsWrongFalsely : Prop := alikeFindsRow.holds Tryz.pinned (OpenSpec.ofChange alikeFindsWrong)

/-- 'weirgatelaw20.AlikeOrder': WHATEVER THE INPUT: true; the input reads as it did. -/
def alikeOrderSpec : ChangeSpec := { name := "alikeOrder", fn := fun _ => fun
  | [d1, d2] => { results := [.lit (.bool true)], args := [d1, d2] }
  | _ => none }
def alikeOrderRow : OpenClaim := { program := "ytnjlhebkhjcagaagreat", sum := "1f07e2291b77a9ade0c03fb22e8ca0772aea3d229bc51c86c71d71e57137eb45", func := "weirgate/weirgatelaw20.AlikeOrder", spec := "alikeOrder", unfollowed := true, recurses := true, apart := false }
def AlikeOrderSaid : Prop := alikeOrderRow.holds Tryz.pinned (OpenSpec.ofChange alikeOrderSpec)

/-- ITS FALSE NEIGHBOUR: 'it returns false'. Refute it at one input. -/
def alikeOrderWrong : ChangeSpec := { name := "alikeOrder", fn := fun _ => fun
  | [d1, d2] => { results := [.lit (.bool false)], args := [d1, d2] }
  | _ => none }
def AlikeOrderWrongFalsely : Prop := alikeOrderRow.holds Tryz.pinned (OpenSpec.ofChange alikeOrderWrong)

/-- 'weirgatelaw20.AlikeLess': WHATEVER THE INPUT: true; the input reads as it did. -/
def alikeLessSpec : ChangeSpec := { name := "alikeLess", fn := fun _ => fun
  | [d1, d2, d3] => { results := [.lit (.bool true)], args := [d1, d2, d3] }
  | _ => none }
def alikeLessRow : OpenClaim := { program := "ytnjlhebkhjcagaagreat", sum := "1f07e2291b77a9ade0c03fb22e8ca0772aea3d229bc51c86c71d71e57137eb45", func := "weirgate/weirgatelaw20.AlikeLess", spec := "alikeLess", unfollowed := true, recurses := true, apart := false }
def AlikeLessSaid : Prop := alikeLessRow.holds Tryz.pinned (OpenSpec.ofChange alikeLessSpec)

/-- ITS FALSE NEIGHBOUR: 'it returns false'. Refute it at one input. -/
def alikeLessWrong : ChangeSpec := { name := "alikeLess", fn := fun _ => fun
  | [d1, d2, d3] => { results := [.lit (.bool false)], args := [d1, d2, d3] }
  | _ => none }
def AlikeLessWrongFalsely : Prop := alikeLessRow.holds Tryz.pinned (OpenSpec.ofChange alikeLessWrong)

/- THE SECOND FORM. 'bulk': how many values and letters a reading holds, each counted each time it is reached (what is shared counts as often as it is met; a slice's spare places count too). A statement '..UptoSaid' is the law's where the arguments, and the package variables that the reading takes, are together of bulk at most 1048576: NARROWER than '..Said'. Prove '..Said' where nothing that the law and all that it calls make is longer than what came in: it says more and counts as full. Else prove '..UptoSaid'. A law counts once. -/
mutual
def uptoBulk {H : Type} : DataW H → Nat
  | .lit (.string bytes) => bytes.length + 1
  | .lit _ => 1
  | .nil => 1
  | .ptr d => uptoBulk d + 1
  | .slice elems spare => uptoBulkAll elems + uptoBulkAll spare + 1
  | .agg parts => uptoBulkAll parts + 1
  | .iface _ d => uptoBulk d + 1
  | .map entries => uptoBulkEntries entries + 1
  | .held _ => 1
def uptoBulkAll {H : Type} : List (DataW H) → Nat
  | [] => 0
  | d :: r => uptoBulk d + uptoBulkAll r
def uptoBulkEntries {H : Type} : List (Lit × DataW H) → Nat
  | [] => 0
  | x :: r => uptoBulkEntry x + uptoBulkEntries r
def uptoBulkEntry {H : Type} : Lit × DataW H → Nat
  | (.string bytes, d) => bytes.length + uptoBulk d + 1
  | (_, d) => uptoBulk d + 1
 end
def uptoSmall : (H : Type) → List (DataW H) → Bool := fun _ ds => decide (uptoBulkAll ds ≤ 1048576)
def OpenSpec.upto (s : _root_.Go.ChangeSpec) : _root_.Go.OpenSpec := { _root_.Go.OpenSpec.ofChange s with cond := some uptoSmall }

/-- 'weirgatelaw19.AmpleMoves', WHERE WHAT IT READS IS OF BULK AT MOST 1048576: true; the input reads as it did. -/
def ampleMovesUptoRow : OpenClaim := { program := "ytnjlhebkhjcagaagreat", sum := "1f07e2291b77a9ade0c03fb22e8ca0772aea3d229bc51c86c71d71e57137eb45", func := "weirgate/weirgatelaw19.AmpleMoves", spec := "ampleMoves", unfollowed := true, recurses := true, apart := false, narrowed := true }
def AmpleMovesUptoSaid : Prop := ampleMovesUptoRow.holds Tryz.pinned (OpenSpec.upto ampleMovesSpec)

/-- 'weirgatelaw19.AmpleFinds', WHERE WHAT IT READS IS OF BULK AT MOST 1048576: true; the input reads as it did. -/
def ampleFindsUptoRow : OpenClaim := { program := "ytnjlhebkhjcagaagreat", sum := "1f07e2291b77a9ade0c03fb22e8ca0772aea3d229bc51c86c71d71e57137eb45", func := "weirgate/weirgatelaw19.AmpleFinds", spec := "ampleFinds", unfollowed := true, recurses := true, apart := false, narrowed := true }
def AmpleFindsUptoSaid : Prop := ampleFindsUptoRow.holds Tryz.pinned (OpenSpec.upto ampleFindsSpec)

/-- 'weirgatelaw19.AmpleQuiet', WHERE WHAT IT READS IS OF BULK AT MOST 1048576: true; the input reads as it did. -/
def ampleQuietUptoRow : OpenClaim := { program := "ytnjlhebkhjcagaagreat", sum := "1f07e2291b77a9ade0c03fb22e8ca0772aea3d229bc51c86c71d71e57137eb45", func := "weirgate/weirgatelaw19.AmpleQuiet", spec := "ampleQuiet", unfollowed := true, recurses := true, apart := false, narrowed := true }
def AmpleQuietUptoSaid : Prop := ampleQuietUptoRow.holds Tryz.pinned (OpenSpec.upto ampleQuietSpec)

/-- 'weirgatelaw19.AmpleLess', WHERE WHAT IT READS IS OF BULK AT MOST 1048576: true; the input reads as it did. -/
def ampleLessUptoRow : OpenClaim := { program := "ytnjlhebkhjcagaagreat", sum := "1f07e2291b77a9ade0c03fb22e8ca0772aea3d229bc51c86c71d71e57137eb45", func := "weirgate/weirgatelaw19.AmpleLess", spec := "ampleLess", unfollowed := true, recurses := true, apart := false, narrowed := true }
def AmpleLessUptoSaid : Prop := ampleLessUptoRow.holds Tryz.pinned (OpenSpec.upto ampleLessSpec)

/-- 'weirgatelaw20.AlikeMoves', WHERE WHAT IT READS IS OF BULK AT MOST 1048576: true; the input reads as it did. -/
def alikeMovesUptoRow : OpenClaim := { program := "ytnjlhebkhjcagaagreat", sum := "1f07e2291b77a9ade0c03fb22e8ca0772aea3d229bc51c86c71d71e57137eb45", func := "weirgate/weirgatelaw20.AlikeMoves", spec := "alikeMoves", unfollowed := true, recurses := true, apart := false, narrowed := true }
def AlikeMovesUptoSaid : Prop := alikeMovesUptoRow.holds Tryz.pinned (OpenSpec.upto alikeMovesSpec)

/-- 'weirgatelaw20.AlikeFinds', WHERE WHAT IT READS IS OF BULK AT MOST 1048576: true; the input reads as it did. -/
def alikeFindsUptoRow : OpenClaim := { program := "ytnjlhebkhjcagaagreat", sum := "1f07e2291b77a9ade0c03fb22e8ca0772aea3d229bc51c86c71d71e57137eb45", func := "weirgate/weirgatelaw20.AlikeFinds", spec := "alikeFinds", unfollowed := true, recurses := true, apart := false, narrowed := true }
def AlikeFindsUptoSaid : Prop := alikeFindsUptoRow.holds Tryz.pinned (OpenSpec.upto alikeFindsSpec)

/-- 'weirgatelaw20.AlikeOrder', WHERE WHAT IT READS IS OF BULK AT MOST 1048576: true; the input reads as it did. -/
def alikeOrderUptoRow : OpenClaim := { program := "ytnjlhebkhjcagaagreat", sum := "1f07e2291b77a9ade0c03fb22e8ca0772aea3d229bc51c86c71d71e57137eb45", func := "weirgate/weirgatelaw20.AlikeOrder", spec := "alikeOrder", unfollowed := true, recurses := true, apart := false, narrowed := true }
def AlikeOrderUptoSaid : Prop := alikeOrderUptoRow.holds Tryz.pinned (OpenSpec.upto alikeOrderSpec)

/-- 'weirgatelaw20.AlikeLess', WHERE WHAT IT READS IS OF BULK AT MOST 1048576: true; the input reads as it did. -/
def alikeLessUptoRow : OpenClaim := { program := "ytnjlhebkhjcagaagreat", sum := "1f07e2291b77a9ade0c03fb22e8ca0772aea3d229bc51c86c71d71e57137eb45", func := "weirgate/weirgatelaw20.AlikeLess", spec := "alikeLess", unfollowed := true, recurses := true, apart := false, narrowed := true }
def AlikeLessUptoSaid : Prop := alikeLessUptoRow.holds Tryz.pinned (OpenSpec.upto alikeLessSpec)

end Rows
end Go.Proofs.YtnjlhebkhjcagaaGreat
