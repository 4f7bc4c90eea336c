/- Short words for the table's code. -/
import Derived.Test.YtdejcadenmggaaaVkLem
namespace Go.V
def xq (i t : Nat) (o : POp) : Nat × VOper := (i, ⟨some t, .p o, none⟩)
def xg (i t : Nat) (o : POp) (g : Nat) (b : Bool) : Nat × VOper := (i, ⟨some t, .p o, some (g, b)⟩)
def xm (i t x : Nat) : Nat × VOper := (i, ⟨some t, .p (.mov (.tmp x)), none⟩)
def xmg (i t x g : Nat) (b : Bool) : Nat × VOper := (i, ⟨some t, .p (.mov (.tmp x)), some (g, b)⟩)
def xc (i t : Nat) (d : D) : Nat × VOper := (i, ⟨some t, .p (.mov (.cst d)), none⟩)
def xl (i t : Nat) (n : Option Nat) (x : Nat) : Nat × VOper := (i, ⟨some t, .r (.load n (.tmp x)), none⟩)
def xlg (i t : Nat) (n : Option Nat) (x g : Nat) (b : Bool) : Nat × VOper := (i, ⟨some t, .r (.load n (.tmp x)), some (g, b)⟩)
def xf (i t off x : Nat) : Nat × VOper := (i, ⟨some t, .p (.fieldA off (.tmp x)), none⟩)
def xfg (i t off x g : Nat) (b : Bool) : Nat × VOper := (i, ⟨some t, .p (.fieldA off (.tmp x)), some (g, b)⟩)
def xw (i n a : Nat) (v : Opd) : Nat × VOper := (i, ⟨none, .w n (.tmp a) v, none⟩)
def xa (i t : Nat) (o : AOp) : Nat × VOper := (i, ⟨some t, .a o, none⟩)
def xk (i t f : Nat) (l : List Opd) : Nat × VOper := (i, ⟨some t, .m (.call .raw (.cst (.fn f [])) l), none⟩)
def xi (i t f : Nat) (l : List Opd) : Nat × VOper := (i, ⟨some t, .m (.call .iso (.cst (.fn f [])) l), none⟩)
def xig (i t f : Nat) (l : List Opd) (g : Nat) (b : Bool) : Nat × VOper := (i, ⟨some t, .m (.call .iso (.cst (.fn f [])) l), some (g, b)⟩)
def xo (i : Nat) (t : Option Nat) (o : VOp) (g : Option (Nat × Bool)) : Nat × VOper := (i, ⟨t, o, g⟩)
def xr (l : List (Nat × VOper)) : VCode := .region ⟨l, [], false⟩
def xrp (l : List (Nat × VOper)) (p : List (Nat × Nat)) (b : Bool) : VCode := .region ⟨l, p, b⟩
def bs (l : List Nat) : ByteArray := ⟨(l.map UInt8.ofNat).toArray⟩
def xn (n : Int) : Opd := .cst (.int .i64 n)
end Go.V
