/- The V machine: the model's operations turned into its own. -/
import Derived.Test.YtdejcadenmggaaaVkSim
namespace Go.V

def ofV1 : Value → Option D
  | .int k n => some (.int k n)
  | .bool b => some (.bool b)
  | .string s => some (.str s)
  | .pointer none => some .nilp
  | .slice none 0 0 => some .nils
  | .map none => some .nilm
  | .nilFunc => some .nilf
  | _ => none
def ofVL : List Value → Option (List D)
  | [] => some []
  | v :: r => match ofV1 v, ofVL r with
    | some d, some l => some (d :: l)
    | _, _ => none
def ofV : Value → Option D
  | .agg cs => (ofVL cs.toList).map .agg
  | v => ofV1 v

theorem ofV1_ok {Φ : Phi} {v : Value} {d : D} (h : ofV1 v = some d) : RP Φ d v := by
  unfold ofV1 at h
  split at h <;> simp at h <;> subst h <;> simp [RP]
theorem ofVL_ok {Φ : Phi} : ∀ {vs : List Value} {ds : List D}, ofVL vs = some ds → RPL Φ ds vs
  | [], ds, h => by simp [ofVL] at h; subst h; simp [RPL]
  | v :: vs, ds, h => by
    simp only [ofVL] at h
    split at h
    · rename_i d l h1 h2
      simp at h; subst h
      simp only [RPL]
      exact ⟨v, vs, rfl, ofV1_ok h1, ofVL_ok h2⟩
    · simp at h
theorem ofV_ok {Φ : Phi} {v : Value} {d : D} (h : ofV v = some d) : RP Φ d v := by
  unfold ofV at h
  split at h
  · rename_i cs
    cases hl : ofVL cs.toList with
    | none => simp [hl] at h
    | some l =>
      simp [hl] at h; subst h
      simp only [RP]
      exact ⟨cs.toList, by simp, ofVL_ok hl⟩
  · exact ofV1_ok h

def resOpd : Operand → Option Opd
  | .tmp t => some (.tmp t)
  | .const v => (ofV v).map .cst
  | .func f => some (.cst (.fn f []))
  | .global _ => none
def resL : List Operand → Option (List Opd)
  | [] => some []
  | x :: r => match resOpd x, resL r with
    | some y, some l => some (y :: l)
    | _, _ => none

def EnvR (μ : Mu) (Φ : Phi) (env : Env) (a : Act) : Prop := ∀ t, R μ Φ (env.get t) (a.tmps.getD t undef)

theorem EnvR.mono {μ μ' : Mu} {Φ Φ' : Phi} {env : Env} {a : Act} (hm : μ.le μ') (h : Φ.le Φ') (e : EnvR μ Φ env a) : EnvR μ' Φ' env a :=
  fun t => R_mono hm h _ _ (e t)

theorem opd_ok {μ : Mu} {Φ : Phi} {env : Env} {a : Act} (he : EnvR μ Φ env a) {x : Operand} {y : Opd} (h : resOpd x = some y) : R μ Φ (env.ev y) (a.eval x) := by
  cases x with
  | tmp t => simp [resOpd] at h; subst h; exact he t
  | const v =>
    simp only [resOpd] at h
    cases hv : ofV v with
    | none => simp [hv] at h
    | some d => simp [hv] at h; subst h; exact R_of_RP _ _ (ofV_ok hv)
  | global g => simp [resOpd] at h
  | func f =>
    simp [resOpd] at h; subst h
    simp only [Env.ev, Act.eval, R]
    exact ⟨[], rfl, by simp [RL]⟩
theorem opdL_ok {μ : Mu} {Φ : Phi} {env : Env} {a : Act} (he : EnvR μ Φ env a) : ∀ {xs : List Operand} {ys : List Opd}, resL xs = some ys → RL μ Φ (env.evL ys) (xs.map a.eval)
  | [], ys, h => by simp [resL] at h; subst h; simp [Env.evL, RL]
  | x :: xs, ys, h => by
    simp only [resL] at h
    split at h
    · rename_i y l h1 h2
      simp at h; subst h
      simp only [Env.evL, List.map_cons, RL]
      exact ⟨_, _, rfl, opd_ok he h1, opdL_ok he h2⟩
    · simp at h

/-! What types say. -/
def szOf (P : Program) (t : TypeId) : Option Nat := (P.info? t).map (·.size)
def isAggT (P : Program) (t : TypeId) : Option Bool :=
  match P.underlying t with
  | some (.struct _) | some (.array _ _) => some true
  | some _ => some false
  | none => none
/-- One cell, or a struct of so many. -/
def shapeN (P : Program) (t : TypeId) : Option (Option Nat) :=
  match isAggT P t, szOf P t with
  | some true, some n => some (some n)
  | some false, some _ => some none
  | _, _ => none
def zeroOf (P : Program) (t : TypeId) : Option (List D) :=
  match P.info? t with
  | some i => match i.zero with
    | some v => (ofV v).map cellsOf
    | none => none
  | none => none
def zeroOne (P : Program) (t : TypeId) : Option D :=
  match P.info? t with
  | some i => match i.zero with
    | some v => ofV1 v
    | none => none
  | none => none
/-- An array's element, at a constant. -/
def arrAtC (P : Program) (t : TypeId) (i : Operand) : Option Nat :=
  match P.underlying t, i with
  | some (.array len e), .const (.int _ n) => match szOf P e with
    | some (s + 1) => if 0 ≤ n ∧ n < len then some (n.toNat * (s + 1)) else none
    | _ => none
  | _, _ => none
theorem arrAtC_some {P : Program} {t : TypeId} {i : Operand} {off : Nat} (h : arrAtC P t i = some off) : ∃ len e k n s, P.underlying t = some (.array len e) ∧ i = .const (.int k n) ∧ szOf P e = some s ∧ (0 ≤ n ∧ n < (len : Int)) ∧ off = n.toNat * s := by
  unfold arrAtC at h
  split at h
  · rename_i len e k n hu
    split at h
    · rename_i s hs
      split at h
      · rename_i hb
        cases h
        exact ⟨len, e, k, n, s + 1, hu, rfl, hs, hb, rfl⟩
      · cases h
    · cases h
  · cases h
def elemOfSlice (P : Program) (t : TypeId) : Option TypeId :=
  match P.underlying t with
  | some (.slice e) => some e
  | _ => none
def fieldOf (P : Program) (t : TypeId) (f : Nat) : Option Field :=
  match P.underlying t with
  | some (.struct fs) => fs[f]?
  | _ => none
def nilKind (P : Program) (t : TypeId) (y : Operand) : Option NK :=
  match y, P.underlying t with
  | .const (.pointer none), some (.pointer _) => some .p
  | .const (.slice none 0 0), some (.slice _) => some .s
  | .const (.map none), some (.map _ _) => some .m
  | .const .nilFunc, some (.func _ _ _) => some .f
  | _, _ => none
def isBoolT (P : Program) (t : TypeId) : Bool :=
  match P.underlying t with
  | some .bool => true
  | _ => false
def plainT (P : Program) (t : TypeId) : Bool :=
  match P.underlying t with
  | some (.int _) | some .string => true
  | _ => false
def kindOf (P : Program) (t : TypeId) : Option SK :=
  match P.underlying t with
  | some (.int _) => some .i
  | some .bool => some .b
  | some .string => some .s
  | _ => none
/-- A struct all of whose fields are numbers, bools or strings, one behind the other: their kinds. -/
def flatFields (P : Program) : List Field → Nat → Option (List SK)
  | [], _ => some []
  | f :: r, n => if f.offset = n ∧ f.name ≠ "_" then
      match kindOf P f.type, flatFields P r (n + 1) with
      | some k, some l => some (k :: l)
      | _, _ => none
    else none
def flatT (P : Program) (t : TypeId) : Option (List SK) :=
  match P.underlying t with
  | some (.struct fs) => if !P.stoodInHeld t && !P.eqGuardType P.depth t then flatFields P fs.toList 0 else none
  | _ => none
def partsOf (P : Program) (fs : Array Field) : List (Nat × Operand) → Option (List (Nat × Nat × Opd))
  | [] => some []
  | (i, x) :: r => match fs[i]?, resOpd x, partsOf P fs r with
    | some f, some y, some l => match szOf P f.type with
      | some n => some ((f.offset, n, y) :: l)
      | none => none
    | _, _, _ => none
def elemsOf : List (Nat × Operand) → Option (List (Nat × Opd))
  | [] => some []
  | (i, x) :: r => match resOpd x, elemsOf r with
    | some y, some l => some ((i, y) :: l)
    | _, _ => none
def sizesOk (P : Program) (fs : Array Field) : Bool := fs.toList.all fun f => (szOf P f.type).isSome
def resO : Option Operand → Option (Option Opd)
  | none => some none
  | some x => (resOpd x).map some

def resBin (P : Program) (op : BinOp) (t : TypeId) (x y : Operand) : Option POp :=
  match resOpd x, resOpd y with
  | some a, some b =>
    match op with
    | .eql =>
      if plainT P t then some (.bin .eql a b)
      else if isBoolT P t then some (.eqB false a b)
      else match flatT P t with
        | some ks => some (.eqAgg false ks a b)
        | none => (nilKind P t y).map fun k => .eqNil false k a
    | .neq =>
      if plainT P t then some (.bin .neq a b)
      else if isBoolT P t then some (.eqB true a b)
      else match flatT P t with
        | some ks => some (.eqAgg true ks a b)
        | none => (nilKind P t y).map fun k => .eqNil true k a
    | op => some (.bin op a b)
  | _, _ => none

def resBuiltin (P : Program) (b : Builtin) (args : List Operand) (types : List TypeId) : Option VOp :=
  match b, args with
  | .len, [x] => match resOpd x, types with
    | some y, [t] => match P.underlying t with
      | some (.slice _) => some (.p (.len false y))
      | some .string => some (.p (.len true y))
      | _ => none
    | _, _ => none
  | .min, x :: r => match resOpd x, resL r with
    | some y, some l => some (.p (.minmax false y l))
    | _, _ => none
  | .max, x :: r => match resOpd x, resL r with
    | some y, some l => some (.p (.minmax true y l))
    | _, _ => none
  | .append, [s, x] => match resOpd s, resOpd x, types with
    | some s, some x, [t, u] => match elemOfSlice P t, elemOfSlice P u with
      | some e, some _ => match P.info? e, zeroOf P e with
        | some i, some z => if i.size = 0 ∨ z.length ≠ i.size then none else some (.m (.append i.size i.bytes s x))
        | _, _ => none
      | _, _ => none
    | _, _, _ => none
  | _, _ => none

def resOp (P : Program) (md : FuncId → Mode) (o : Oper) : Option VOp :=
  match o.op with
  | .move x => (resOpd x).map fun y => .p (.mov y)
  | .assign x => (resOpd x).map fun y => .p (.mov y)
  | .pick c a b => match resOpd c, resOpd a, resOpd b with
    | some c, some a, some b => some (.p (.pick c a b))
    | _, _, _ => none
  | .nilCheck x => (resOpd x).map fun y => .p (.nilchk y)
  | .binOp op t x y _ => (resBin P op t x y).map .p
  | .unOp op _ x => (resOpd x).map fun y => .p (.un op y)
  | .convert src dst x => match resOpd x, P.underlying src, P.underlying dst with
    | some y, some (.int _), some (.int k) => some (.p (.conv k y))
    | some y, some (.slice e), some .string => match P.underlying e with
      | some (.int .u8) => some (.r (.b2s y))
      | _ => none
    | _, _, _ => none
  | .build t parts => match P.underlying t, zeroOf P t with
    | some (.struct fs), some z => match partsOf P fs parts.toList with
      | some l => if sizesOk P fs then some (.p (.build z l)) else none
      | none => none
    | _, _ => none
  | .fieldAddr t x f => match resOpd x, fieldOf P t f with
    | some y, some fd => match szOf P fd.type with
      | some (_ + 1) => some (.p (.fieldA fd.offset y))
      | _ => none
    | _, _ => none
  | .field t x f => match resOpd x, fieldOf P t f with
    | some y, some fd => match shapeN P fd.type with
      | some n => some (.p (.field n fd.offset y))
      | none => none
    | _, _ => none
  | .indexAddr t x i => match arrAtC P t i with
    | some off => match resOpd x with
      | some y => some (.p (.fieldA off y))
      | none => none
    | none => match resOpd x, resOpd i, elemOfSlice P t with
      | some y, some j, some e => match szOf P e with
        | some n => some (.p (.idxA n y j))
        | none => none
      | _, _, _ => none
  | .index t x i => match resOpd x, resOpd i, P.underlying t with
    | some y, some j, some .string => some (.p (.idxS y j))
    | some y, some j, some (.array len e) => match shapeN P e, szOf P e with
      | some n, some s => some (.p (.idxV n len s y j))
      | _, _ => none
    | _, _, _ => none
  | .slice t x lo hi none => match resOpd x, resO lo, resO hi, P.underlying t with
    | some y, some l, some h, some .string => some (.p (.slice none y l h))
    | some y, some l, some h, some (.slice e) => match szOf P e with
      | some n => some (.p (.slice (some n) y l h))
      | none => none
    | _, _, _, _ => none
  | .extract x i => (resOpd x).map fun y => .p (.extract y i)
  | .makeFunc (.func f) first caps => if first.size = 0 then (resL caps.toList).map fun l => .p (.mkfn f l) else none
  | .load t x => match resOpd x, shapeN P t with
    | some y, some n => some (.r (.load n y))
    | _, _ => none
  | .lookup t m k ok => match resOpd m, resOpd k, P.underlying t with
    | some m, some k, some (.map kt et) => match zeroOne P et with
      | some z => match flatT P kt with
        | some ks => some (.r (.lookup ks z ok m k))
        | none => none
      | _ => none
    | _, _, _ => none
  | .alloc t => (zeroOf P t).map fun z => .a (.alloc z)
  | .box _ x => (resOpd x).map fun y => .a (.box y)
  | .buildSlice t len parts => match elemOfSlice P t, elemsOf parts.toList with
    | some e, some l => match szOf P e, zeroOf P e with
      | some n, some z => if z.length = n ∧ len * n ≤ 2 ^ 24 then some (.a (.bslice n len z l)) else none
      | _, _ => none
    | _, _ => none
  | .makeSlice t l c => match elemOfSlice P t, resOpd l, resOpd c with
    | some e, some l, some c => match P.info? e, zeroOf P e with
      | some i, some z => if z.length = i.size then some (.a (.mkslice i.size i.bytes z l c)) else none
      | _, _ => none
    | _, _, _ => none
  | .makeMap _ none => some (.a .mkmap)
  | .store t a x => match resOpd a, resOpd x, szOf P t with
    | some a, some x, some n => some (.w n a x)
    | _, _, _ => none
  | .mapUpdate t m k v => match resOpd m, resOpd k, resOpd v, P.underlying t with
    | some m, some k, some v, some (.map kt _) => match flatT P kt with
      | some ks => some (.m (.mapset ks m k v))
      | none => none
    | _, _, _, _ => none
  | .call c => match c.callee with
    | .builtin b => resBuiltin P b c.args.toList c.argTypes.toList
    | .value f => match resOpd f, resL c.args.toList with
      | some f', some l => some (.m (.call (match f with | .func g => md g | _ => .raw) f' l))
      | _, _ => none
    | .invoke _ _ => none
  | _ => none
end Go.V
