/- The V machine: an abstract machine for a part of the model's programs, with value semantics for memory that is no longer written and a small store for memory that is. Definitions only; the soundness theorem says that a run of it is matched by every run of the model. -/
import Derived.Orders
namespace Go.V

inductive D where
  | undef
  | int (k : IntKind) (n : Int)
  | bool (b : Bool)
  | str (s : ByteArray)
  | nilp
  | ptr (id off : Nat)
  | fp (cs : List D) (off : Nat)
  | nils
  | lst (sz : Nat) (xs : List (List D))
  | arr (id off len sz : Nat)
  | agg (cs : List D)
  | tup (vs : List D)
  | fn (f : FuncId) (caps : List D)
  | nilf
  | nilm
  | map (id : Nat)
  deriving Inhabited

inductive VObj where
  | cells (cs : List D)
  | map (kvs : List (D × D))
  deriving Inhabited

/-! A map from numbers to objects: a binary tree. -/
inductive T where
  | leaf
  | node (v : Option VObj) (l r : T)
  deriving Inhabited

def T.get : T → Nat → Option VObj
  | .leaf, _ => none
  | .node v _ _, 0 => v
  | .node _ l r, n + 1 => if n % 2 = 0 then l.get (n / 2) else r.get (n / 2)

def T.setF : Nat → T → Nat → Option VObj → T
  | _, .leaf, 0, v => .node v .leaf .leaf
  | _, .node _ l r, 0, v => .node v l r
  | 0, t, _ + 1, _ => t
  | f + 1, .leaf, n + 1, v => if n % 2 = 0 then .node none (T.setF f .leaf (n / 2) v) .leaf else .node none .leaf (T.setF f .leaf (n / 2) v)
  | f + 1, .node x l r, n + 1, v => if n % 2 = 0 then .node x (T.setF f l (n / 2) v) r else .node x l (T.setF f r (n / 2) v)

def T.set (t : T) (n : Nat) (v : Option VObj) : T := T.setF n t n v

theorem T.get_setF : ∀ (f : Nat) (t : T) (n : Nat) (v : Option VObj) (m : Nat), n ≤ f → (T.setF f t n v).get m = if m = n then v else t.get m := by
  intro f
  induction f with
  | zero =>
    intro t n v m h
    have : n = 0 := by omega
    subst this
    cases t <;> cases m <;> simp [T.setF, T.get]
  | succ f ih =>
    intro t n v m h
    cases n with
    | zero => cases t <;> cases m <;> simp [T.setF, T.get]
    | succ n =>
      have hn : n / 2 ≤ f := by omega
      cases t with
      | leaf =>
        by_cases hp : n % 2 = 0
        · cases m with
          | zero => simp [T.setF, T.get, hp]
          | succ m =>
            by_cases hq : m % 2 = 0
            · simp only [T.setF, hp, if_true, T.get, hq, ih _ _ _ _ hn]
              by_cases e : m = n
              · subst e; simp
              · have : ¬ m / 2 = n / 2 := by omega
                simp [e, this]
            · simp only [T.setF, hp, if_true, T.get, hq, if_false]
              have : ¬ m = n := by intro e; subst e; exact hq hp
              simp [this]
        · cases m with
          | zero => simp [T.setF, T.get, hp]
          | succ m =>
            by_cases hq : m % 2 = 0
            · simp only [T.setF, hp, if_false, T.get, hq, if_true]
              have : ¬ m = n := by intro e; subst e; exact hp hq
              simp [this]
            · simp only [T.setF, hp, if_false, T.get, hq, ih _ _ _ _ hn]
              by_cases e : m = n
              · subst e; simp
              · have : ¬ m / 2 = n / 2 := by omega
                simp [e, this]
      | node x l r =>
        by_cases hp : n % 2 = 0
        · cases m with
          | zero => simp [T.setF, T.get, hp]
          | succ m =>
            by_cases hq : m % 2 = 0
            · simp only [T.setF, hp, if_true, T.get, hq, ih _ _ _ _ hn]
              by_cases e : m = n
              · subst e; simp
              · have : ¬ m / 2 = n / 2 := by omega
                simp [e, this]
            · simp only [T.setF, hp, if_true, T.get, hq, if_false]
              have : ¬ m = n := by intro e; subst e; exact hq hp
              simp [this]
        · cases m with
          | zero => simp [T.setF, T.get, hp]
          | succ m =>
            by_cases hq : m % 2 = 0
            · simp only [T.setF, hp, if_false, T.get, hq, if_true]
              have : ¬ m = n := by intro e; subst e; exact hp hq
              simp [this]
            · simp only [T.setF, hp, if_false, T.get, hq, ih _ _ _ _ hn]
              by_cases e : m = n
              · subst e; simp
              · have : ¬ m / 2 = n / 2 := by omega
                simp [e, this]

theorem T.get_set (t : T) (n : Nat) (v : Option VObj) (m : Nat) : (t.set n v).get m = if m = n then v else t.get m := T.get_setF n t n v m (Nat.le_refl _)

structure Store where
  objs : T
  next : Nat
  deriving Inhabited

def Store.empty : Store := ⟨.leaf, 0⟩
def Store.get (s : Store) (id : Nat) : Option VObj := if id < s.next then s.objs.get id else none
def Store.set (s : Store) (id : Nat) (o : Option VObj) : Store := ⟨s.objs.set id o, s.next⟩
def Store.push (s : Store) (o : VObj) : Store := ⟨s.objs.set s.next (some o), s.next + 1⟩

@[simp] theorem Store.get_empty (id : Nat) : Store.empty.get id = none := by simp [Store.get, Store.empty]
theorem Store.get_set (s : Store) (id : Nat) (o : Option VObj) (i : Nat) : (s.set id o).get i = if i = id ∧ id < s.next then o else s.get i := by
  simp only [Store.get, Store.set, T.get_set]
  by_cases h : i = id
  · subst h; by_cases h2 : i < s.next <;> simp [h2]
  · simp [h]
theorem Store.get_push (s : Store) (o : VObj) (i : Nat) : (s.push o).get i = if i = s.next then some o else s.get i := by
  simp only [Store.get, Store.push, T.get_set]
  by_cases h : i = s.next
  · subst h; simp
  · by_cases h2 : i < s.next
    · simp [h, h2, Nat.lt_succ_of_lt h2]
    · have : ¬ i < s.next + 1 := by omega
      simp [h, h2, this]
@[simp] theorem Store.next_set (s : Store) (id : Nat) (o : Option VObj) : (s.set id o).next = s.next := rfl
@[simp] theorem Store.next_push (s : Store) (o : VObj) : (s.push o).next = s.next + 1 := rfl
theorem Store.get_none (s : Store) (i : Nat) (h : s.next ≤ i) : s.get i = none := by simp [Store.get, Nat.not_lt.2 h]

/-! Sameness. -/
mutual
def beq : D → D → Bool
  | .undef, .undef => true
  | .int k n, .int k' n' => decide (k = k') && decide (n = n')
  | .bool a, .bool b => a == b
  | .str a, .str b => decide (a = b)
  | .nilp, .nilp => true
  | .ptr a b, .ptr c d => decide (a = c) && decide (b = d)
  | .fp a n, .fp b m => beqL a b && decide (n = m)
  | .nils, .nils => true
  | .lst a x, .lst b y => decide (a = b) && beqLL x y
  | .arr a b c d, .arr a' b' c' d' => decide (a = a') && decide (b = b') && decide (c = c') && decide (d = d')
  | .agg a, .agg b => beqL a b
  | .tup a, .tup b => beqL a b
  | .fn f a, .fn g b => decide (f = g) && beqL a b
  | .nilf, .nilf => true
  | .nilm, .nilm => true
  | .map a, .map b => decide (a = b)
  | _, _ => false
def beqL : List D → List D → Bool
  | [], [] => true
  | a :: x, b :: y => beq a b && beqL x y
  | _, _ => false
def beqLL : List (List D) → List (List D) → Bool
  | [], [] => true
  | a :: x, b :: y => beqL a b && beqLL x y
  | _, _ => false
end

mutual
theorem beq_eq : ∀ (a b : D), beq a b = true → a = b
  | .undef, b, h => by cases b <;> simp_all [beq]
  | .int k n, b, h => by cases b <;> simp_all [beq]
  | .bool a, b, h => by cases b <;> simp_all [beq]
  | .str a, b, h => by cases b <;> simp_all [beq]
  | .nilp, b, h => by cases b <;> simp_all [beq]
  | .ptr _ _, b, h => by cases b <;> simp_all [beq]
  | .fp a n, b, h => by
    cases b <;> simp_all [beq]
    exact beqL_eq _ _ h.1
  | .nils, b, h => by cases b <;> simp_all [beq]
  | .lst a x, b, h => by
    cases b <;> simp_all [beq]
    exact beqLL_eq _ _ h.2
  | .arr _ _ _ _, b, h => by cases b <;> simp_all [beq]
  | .agg a, b, h => by
    cases b <;> simp_all [beq]
    exact beqL_eq _ _ h
  | .tup a, b, h => by
    cases b <;> simp_all [beq]
    exact beqL_eq _ _ h
  | .fn f a, b, h => by
    cases b <;> simp_all [beq]
    exact beqL_eq _ _ h.2
  | .nilf, b, h => by cases b <;> simp_all [beq]
  | .nilm, b, h => by cases b <;> simp_all [beq]
  | .map _, b, h => by cases b <;> simp_all [beq]
theorem beqL_eq : ∀ (a b : List D), beqL a b = true → a = b
  | [], b, h => by cases b <;> simp_all [beqL]
  | a :: x, b, h => by
    cases b with
    | nil => simp [beqL] at h
    | cons b y =>
      simp [beqL] at h
      rw [beq_eq _ _ h.1, beqL_eq _ _ h.2]
theorem beqLL_eq : ∀ (a b : List (List D)), beqLL a b = true → a = b
  | [], b, h => by cases b <;> simp_all [beqLL]
  | a :: x, b, h => by
    cases b with
    | nil => simp [beqLL] at h
    | cons b y =>
      simp [beqLL] at h
      rw [beqL_eq _ _ h.1, beqLL_eq _ _ h.2]
end

mutual
theorem beq_self : ∀ (a : D), beq a a = true
  | .undef => rfl
  | .int k n => by simp [beq]
  | .bool a => by simp [beq]
  | .str a => by simp [beq]
  | .nilp => rfl
  | .ptr _ _ => by simp [beq]
  | .fp a n => by simp [beq, beqL_self a]
  | .nils => rfl
  | .lst a x => by simp [beq, beqLL_self x]
  | .arr _ _ _ _ => by simp [beq]
  | .agg a => by simp [beq, beqL_self a]
  | .tup a => by simp [beq, beqL_self a]
  | .fn f a => by simp [beq, beqL_self a]
  | .nilf => rfl
  | .nilm => rfl
  | .map _ => by simp [beq]
theorem beqL_self : ∀ (a : List D), beqL a a = true
  | [] => rfl
  | a :: x => by simp [beqL, beq_self a, beqL_self x]
theorem beqLL_self : ∀ (a : List (List D)), beqLL a a = true
  | [] => rfl
  | a :: x => by simp [beqLL, beqL_self a, beqLL_self x]
end

def beqKV : List (D × D) → List (D × D) → Bool
  | [], [] => true
  | (a, b) :: x, (c, d) :: y => beq a c && beq b d && beqKV x y
  | _, _ => false
theorem beqKV_eq : ∀ (a b : List (D × D)), beqKV a b = true → a = b
  | [], b, h => by cases b <;> simp_all [beqKV]
  | (a, c) :: x, b, h => by
    cases b with
    | nil => simp [beqKV] at h
    | cons b y =>
      obtain ⟨b, d⟩ := b
      simp [beqKV] at h
      rw [beq_eq _ _ h.1.1, beq_eq _ _ h.1.2, beqKV_eq _ _ h.2]
theorem beqKV_self : ∀ (a : List (D × D)), beqKV a a = true
  | [] => rfl
  | (a, c) :: x => by simp [beqKV, beq_self, beqKV_self x]

def beqO : Option VObj → Option VObj → Bool
  | none, none => true
  | some (.cells a), some (.cells b) => beqL a b
  | some (.map a), some (.map b) => beqKV a b
  | _, _ => false
theorem beqO_eq (a b : Option VObj) (h : beqO a b = true) : a = b := by
  cases a with
  | none => cases b <;> simp_all [beqO]
  | some a =>
    cases b with
    | none => cases a <;> simp [beqO] at h
    | some b =>
      cases a <;> cases b <;> simp [beqO] at h
      · rw [beqL_eq _ _ h]
      · rw [beqKV_eq _ _ h]
theorem beqO_self (a : Option VObj) : beqO a a = true := by
  cases a with
  | none => rfl
  | some a => cases a <;> simp [beqO, beqL_self, beqKV_self]

/-! Code. -/
inductive Opd where
  | tmp (t : Nat)
  | cst (d : D)
  deriving Inhabited

inductive Mode where
  | raw
  | iso
  deriving Inhabited, DecidableEq

/-- An operation. P: on values alone; R: reads an object; A: makes one; W: writes cells of one; M: the rest. -/
inductive SK where
  | i
  | b
  | s
  deriving Inhabited, DecidableEq

inductive NK where
  | p
  | s
  | m
  | f
  deriving Inhabited, DecidableEq

inductive POp where
  | mov (x : Opd)
  | pick (c a b : Opd)
  | nilchk (x : Opd)
  | bin (op : BinOp) (x y : Opd)
  | eqB (neg : Bool) (x y : Opd)
  | eqAgg (neg : Bool) (ks : List SK) (x y : Opd)
  | eqNil (neg : Bool) (k : NK) (x : Opd)
  | un (op : UnOp) (x : Opd)
  | conv (k : IntKind) (x : Opd)
  | build (zero : List D) (parts : List (Nat × Nat × Opd))
  | fieldA (off : Nat) (x : Opd)
  | field (n : Option Nat) (off : Nat) (x : Opd)
  | idxA (sz : Nat) (x i : Opd)
  | idxS (x i : Opd)
  | idxV (n : Option Nat) (len sz : Nat) (x i : Opd)
  | len (isStr : Bool) (x : Opd)
  | minmax (isMax : Bool) (x : Opd) (xs : List Opd)
  | slice (n : Option Nat) (x : Opd) (lo hi : Option Opd)
  | extract (x : Opd) (i : Nat)
  | mkfn (f : FuncId) (caps : List Opd)
  deriving Inhabited

inductive ROp where
  | load (n : Option Nat) (x : Opd)
  | lookup (ks : List SK) (zero : D) (ok : Bool) (m k : Opd)
  | b2s (x : Opd)
  deriving Inhabited

inductive AOp where
  | alloc (zero : List D)
  | box (x : Opd)
  | bslice (sz len : Nat) (zero : List D) (parts : List (Nat × Opd))
  | mkslice (sz bytes : Nat) (zero : List D) (len cap : Opd)
  | mkmap
  deriving Inhabited

inductive MOp where
  | call (md : Mode) (f : Opd) (args : List Opd)
  | append (sz bytes : Nat) (s x : Opd)
  | mapset (ks : List SK) (m k v : Opd)
  deriving Inhabited

inductive VOp where
  | p (o : POp)
  | r (o : ROp)
  | a (o : AOp)
  | w (n : Nat) (addr val : Opd)
  | m (o : MOp)
  deriving Inhabited

structure VOper where
  dst : Option Nat
  op : VOp
  guard : Option (Nat × Bool)
  deriving Inhabited

structure VRegion where
  ops : List (Nat × VOper)
  pairs : List (Nat × Nat)
  draw : Bool
  deriving Inhabited

inductive VCode where
  | skip
  | region (r : VRegion)
  | seq (a b : VCode)
  | cond (c : Opd) (thn els : VCode)
  | block (id : Nat) (body : VCode)
  | loop (body : VCode)
  | exit (id : Nat)
  | ret
  deriving Inhabited

structure VFunc where
  vars : List Nat
  code : VCode
  res : List (Nat × Option (Option Nat))
  deriving Inhabited

abbrev Env := List (Nat × D)
def Env.get : Env → Nat → D
  | [], _ => .undef
  | (s, d) :: r, t => if s = t then d else Env.get r t
def Env.ev (env : Env) : Opd → D
  | .tmp t => env.get t
  | .cst d => d
def Env.evL (env : Env) : List Opd → List D
  | [] => []
  | x :: r => env.ev x :: Env.evL env r
def Env.put (env : Env) (dst : Option Nat) (d : D) : Env :=
  match dst with
  | some t => (t, d) :: env
  | none => env

/-! The operations. -/
def wrapI (k : IntKind) (n : Int) : D := .int k (k.wrap n)

def binInt (op : BinOp) (k : IntKind) (x y : Int) : Option D :=
  match op with
  | .add => some (.int k (k.wrap (x + y)))
  | .sub => some (.int k (k.wrap (x - y)))
  | .mul => some (.int k (k.wrap (x * y)))
  | .quo => if y = 0 then none else some (.int k (k.wrap (x.tdiv y)))
  | .rem => if y = 0 then none else some (.int k (x.tmod y))
  | .and => some (.int k (k.wrap (BitVec.ofInt k.bits x &&& BitVec.ofInt k.bits y).toNat))
  | .or => some (.int k (k.wrap (BitVec.ofInt k.bits x ||| BitVec.ofInt k.bits y).toNat))
  | .xor => some (.int k (k.wrap (BitVec.ofInt k.bits x ^^^ BitVec.ofInt k.bits y).toNat))
  | .andNot => some (.int k (k.wrap (BitVec.ofInt k.bits x &&& ~~~ BitVec.ofInt k.bits y).toNat))
  | .eql => some (.bool (x == y))
  | .neq => some (.bool (x != y))
  | .lss => some (.bool (x < y))
  | .leq => some (.bool (x ≤ y))
  | .gtr => some (.bool (x > y))
  | .geq => some (.bool (x ≥ y))
  | _ => none

def shiftInt (op : BinOp) (k : IntKind) (x y : Int) : Option D :=
  if y < 0 then none else
  match op with
  | .shl => some (.int k (k.wrap (x * 2 ^ (min y.toNat k.bits))))
  | .shr => some (.int k (x.fdiv (2 ^ (min y.toNat k.bits))))
  | _ => none

def binStr (op : BinOp) (x y : ByteArray) : Option D :=
  match op with
  | .add => if x.size + y.size < 2 ^ 62 then some (.str (x ++ y)) else none
  | .eql => some (.bool (x.toList == y.toList))
  | .neq => some (.bool !(x.toList == y.toList))
  | .lss => some (.bool (Op.bytesLess x.toList y.toList))
  | .leq => some (.bool (Op.bytesLess x.toList y.toList || x.toList == y.toList))
  | .gtr => some (.bool !(Op.bytesLess x.toList y.toList || x.toList == y.toList))
  | .geq => some (.bool !(Op.bytesLess x.toList y.toList))
  | _ => none

def binV (op : BinOp) (x y : D) : Option D :=
  match x, y with
  | .int k a, .int k' b =>
    match op with
    | .shl | .shr => shiftInt op k a b
    | _ => if k = k' then binInt op k a b else none
  | .str a, .str b => binStr op a b
  | _, _ => none

def sameScalar : SK → D → D → Option Bool
  | .i, .int k a, .int k' b => if k = k' then some (a == b) else none
  | .b, .bool a, .bool b => some (a == b)
  | .s, .str a, .str b => some (a == b)
  | _, _, _ => none
def sameScalars : List SK → List D → List D → Option Bool
  | [], [], [] => some true
  | t :: ts, a :: x, b :: y => match sameScalar t a b, sameScalars ts x y with
    | some p, some q => some (p && q)
    | _, _ => none
  | _, _, _ => none

def isNil : NK → D → Option Bool
  | .p, .nilp => some true
  | .p, .ptr _ _ => some false
  | .p, .fp _ _ => some false
  | .s, .nils => some true
  | .s, .lst _ _ => some false
  | .s, .arr _ _ _ _ => some false
  | .m, .nilm => some true
  | .m, .map _ => some false
  | .f, .nilf => some true
  | .f, .fn _ _ => some false
  | _, _ => none

def unV (op : UnOp) (x : D) : Option D :=
  match op, x with
  | .neg, .int k n => some (.int k (k.wrap (0 - n)))
  | .xor, .int k n => some (.int k (k.wrap (BitVec.ofInt k.bits (if k.signed then -1 else k.max) ^^^ BitVec.ofInt k.bits n).toNat))
  | .not, .bool b => some (.bool !b)
  | _, _ => none

def cellsOf : D → List D
  | .agg cs => cs
  | d => [d]
def oneCell : D → Bool
  | .agg _ | .tup _ | .undef => false
  | _ => true
/-- n cells from off on, as a struct; or the one cell there. -/
def pull (n : Option Nat) (off : Nat) (cs : List D) : Option D :=
  match n with
  | none => match cs[off]? with
    | some d => if oneCell d then some d else none
    | none => none
  | some n => if off + n ≤ cs.length then some (.agg ((cs.drop off).take n)) else none
/-- The cells with some put in from off on. -/
def splice (cs : List D) (off : Nat) (new : List D) : List D := cs.take off ++ new ++ cs.drop (off + new.length)

def fillV (env : Env) (cs : List D) : List (Nat × Nat × Opd) → Option (List D)
  | [] => some cs
  | (off, size, x) :: rest =>
    let new := cellsOf (env.ev x)
    if new.length = size ∧ off + size ≤ cs.length ∧ new.all oneCell then fillV env (splice cs off new) rest else none

def intArg : D → Option Int
  | .int _ n => some n
  | _ => none
def minmaxV (isMax : Bool) (x : D) : List D → Option D
  | [] => some x
  | y :: r =>
    match x, y with
    | .int k a, .int _ b => minmaxV isMax (.int k (if isMax then (if b > a then b else a) else (if b < a then b else a))) r
    | _, _ => none

def boundOf (d : Option D) (dflt : Nat) : Option Nat :=
  match d with
  | none => some dflt
  | some (.int _ n) => if 0 ≤ n then some n.toNat else none
  | some _ => none

def sliceV (n : Option Nat) (x : D) (lo hi : Option D) : Option D :=
  match n, x with
  | none, .str s =>
    match boundOf hi s.size, boundOf lo 0 with
    | some h, some l => if h ≤ s.size ∧ l ≤ h then some (.str (s.extract l h)) else none
    | _, _ => none
  | some _, .nils =>
    match boundOf hi 0, boundOf lo 0 with
    | some h, some l => if h ≤ 0 ∧ l ≤ h then some .nils else none
    | _, _ => none
  | some n, .lst sz xs =>
    match boundOf hi xs.length, boundOf lo 0 with
    | some h, some l => if sz = n ∧ h ≤ xs.length ∧ l ≤ h then some (.lst sz ((xs.take h).drop l)) else none
    | _, _ => none
  | some n, .arr id off len sz =>
    match boundOf hi len, boundOf lo 0 with
    | some h, some l => if sz = n ∧ h ≤ len ∧ l ≤ h then (if l < len then some (.arr id (off + l * sz) (h - l) sz) else some (.lst sz [])) else none
    | _, _ => none
  | _, _ => none

def lenV : Bool → D → Option D
  | true, .str s => some (.int .i64 s.size)
  | false, .nils => some (.int .i64 0)
  | false, .lst _ xs => some (.int .i64 xs.length)
  | false, .arr _ _ len _ => some (.int .i64 len)
  | _, _ => none

def idxAV (sz : Nat) (x i : D) : Option D :=
  match x, i with
  | .lst s xs, .int _ n => if s = sz ∧ 0 ≤ n then (xs[n.toNat]?).map (fun g => .fp g 0) else none
  | .arr id off len s, .int _ n => if s = sz ∧ 0 ≤ n ∧ n < len then some (.ptr id (off + n.toNat * sz)) else none
  | _, _ => none

def idxSV (x i : D) : Option D :=
  match x, i with
  | .str s, .int _ n => if 0 ≤ n then (s[n.toNat]?).map (fun b => .int .u8 b.toNat) else none
  | _, _ => none

def Env.evO (env : Env) : Option Opd → Option D
  | some x => some (env.ev x)
  | none => none

def evP (env : Env) : POp → Option D
  | .mov x => some (env.ev x)
  | .pick c a b => match env.ev c with
    | .bool t => some (if t then env.ev a else env.ev b)
    | _ => none
  | .nilchk x => match env.ev x with
    | .ptr id off => some (.ptr id off)
    | .fp cs off => some (.fp cs off)
    | .fn f caps => some (.fn f caps)
    | _ => none
  | .bin op x y => binV op (env.ev x) (env.ev y)
  | .eqB neg x y => match env.ev x, env.ev y with
    | .bool a, .bool b => some (.bool (if neg then !(a == b) else (a == b)))
    | _, _ => none
  | .eqAgg neg ks x y => match env.ev x, env.ev y with
    | .agg a, .agg b => (sameScalars ks a b).map (fun t => .bool (if neg then !t else t))
    | _, _ => none
  | .eqNil neg k x => (isNil k (env.ev x)).map (fun t => .bool (if neg then !t else t))
  | .un op x => unV op (env.ev x)
  | .conv k x => match env.ev x with
    | .int _ n => some (.int k (k.wrap n))
    | _ => none
  | .build zero parts => (fillV env zero parts).map .agg
  | .fieldA off x => match env.ev x with
    | .ptr id o => some (.ptr id (o + off))
    | .fp cs o => some (.fp cs (o + off))
    | _ => none
  | .field n off x => match env.ev x with
    | .agg cs => pull n off cs
    | _ => none
  | .idxA sz x i => idxAV sz (env.ev x) (env.ev i)
  | .idxS x i => idxSV (env.ev x) (env.ev i)
  | .idxV n len sz x i => match env.ev x, env.ev i with
    | .agg cs, .int _ k => if 0 ≤ k ∧ k < len then pull n (k.toNat * sz) cs else none
    | _, _ => none
  | .len i x => lenV i (env.ev x)
  | .minmax isMax x xs => minmaxV isMax (env.ev x) (env.evL xs)
  | .slice n x lo hi => sliceV n (env.ev x) (env.evO lo) (env.evO hi)
  | .extract x i => match env.ev x with
    | .tup vs => vs[i]?
    | _ => none
  | .mkfn f caps => some (.fn f (env.evL caps))

abbrev Look := Nat → Option VObj

def findKV (ks : List SK) (k : List D) : List (D × D) → Option (Option D)
  | [] => some none
  | (k', v) :: r => match k' with
    | .agg b => match sameScalars ks k b with
      | some true => some (some v)
      | some false => findKV ks k r
      | none => none
    | _ => none
def putKV (ks : List SK) (k : List D) (v : D) : List (D × D) → Option (List (D × D))
  | [] => some [(.agg k, v)]
  | (k', v') :: r => match k' with
    | .agg b => match sameScalars ks k b with
      | some true => some ((.agg k, v) :: r)
      | some false => (putKV ks k v r).map ((k', v') :: ·)
      | none => none
    | _ => none
def keyOfV (ks : List SK) : D → Option (List D)
  | .agg k => if k.length = ks.length ∧ k.all oneCell then some k else none
  | _ => none

def byteOf : D → Option UInt8
  | .int .u8 n => if 0 ≤ n ∧ n < 256 then some (UInt8.ofNat n.toNat) else none
  | _ => none
def bytesOf : List D → Option (List UInt8)
  | [] => some []
  | d :: r => match byteOf d, bytesOf r with
    | some b, some l => some (b :: l)
    | _, _ => none

def srcLen : D → Option Nat
  | .nils => some 0
  | .lst _ xs => some xs.length
  | .arr _ _ len _ => some len
  | _ => none
def srcSz (sz : Nat) : D → Bool
  | .lst s _ => s == sz
  | .arr _ _ _ s => s == sz
  | .nils => true
  | _ => false

/-- The cells of a slice. -/
def rowOf (g : Look) : D → Option (List D)
  | .nils => some []
  | .lst _ xs => some xs.flatten
  | .arr id off len sz => match g id with
    | some (.cells cs) => if off + len * sz ≤ cs.length then some ((cs.drop off).take (len * sz)) else none
    | _ => none
  | _ => none

def evR (env : Env) (g : Look) : ROp → Option D
  | .load n x => match env.ev x with
    | .ptr id off => match g id with
      | some (.cells cs) => pull n off cs
      | _ => none
    | .fp cs off => pull n off cs
    | _ => none
  | .lookup ks zero ok m k => match env.ev m with
    | .map id => match g id with
      | some (.map kvs) => match keyOfV ks (env.ev k) with
        | some kl => match findKV ks kl kvs with
          | some (some v) => some (if ok then .tup [v, .bool true] else v)
          | some none => some (if ok then .tup [zero, .bool false] else zero)
          | none => none
        | none => none
      | _ => none
    | _ => none
  | .b2s x => match rowOf g (env.ev x), srcSz 1 (env.ev x) with
    | some cs, true => (bytesOf cs).map (fun l => .str ⟨l.toArray⟩)
    | _, _ => none

def rdR (env : Env) : ROp → Option Nat
  | .load _ x => match env.ev x with
    | .ptr id _ => some id
    | _ => none
  | .lookup _ _ _ m _ => match env.ev m with
    | .map id => some id
    | _ => none
  | .b2s x => match env.ev x with
    | .arr id _ _ _ => some id
    | _ => none

/-- What is made, and what leads to it. -/
inductive Made where
  | ptr
  | arr (len sz : Nat)
  | map
def Made.at : Made → Nat → D
  | .ptr, id => .ptr id 0
  | .arr len sz, id => .arr id 0 len sz
  | .map, id => .map id

def zeros (zero : List D) : Nat → List D
  | 0 => []
  | n + 1 => zero ++ zeros zero n

def evA (env : Env) : AOp → Option (VObj × Made)
  | .alloc zero => some (.cells zero, .ptr)
  | .box x => if (cellsOf (env.ev x)).all oneCell then some (.cells (cellsOf (env.ev x)), .ptr) else none
  | .bslice sz len zero parts => (fillV env (zeros zero len) (parts.map fun (i, x) => (i * sz, sz, x))).map fun cs => (.cells cs, .arr len sz)
  | .mkslice sz bytes zero l c => match env.ev l, env.ev c with
    | .int .i64 n, .int .i64 m => if 0 ≤ n ∧ n ≤ m ∧ bytes * m ≤ 2 ^ 47 ∧ m < 2 ^ 62 then some (.cells (zeros zero n.toNat), .arr n.toNat sz) else none
    | _, _ => none
  | .mkmap => some (.map [], .map)

/-- The object that is written, and what it is then. -/
def evW (env : Env) (g : Look) (n : Nat) (addr val : Opd) : Option (Nat × VObj) :=
  match env.ev addr with
  | .ptr id off => match g id with
    | some (.cells cs) =>
      let new := cellsOf (env.ev val)
      if new.length = n ∧ off + n ≤ cs.length ∧ new.all oneCell ∧ 0 < n then some (id, .cells (splice cs off new)) else none
    | _ => none
  | _ => none
def rdW (env : Env) (addr : Opd) : Option Nat :=
  match env.ev addr with
  | .ptr id _ => some id
  | _ => none

def mapO (f : D → Option D) : List D → Option (List D)
  | [] => some []
  | d :: r => match f d, mapO f r with
    | some x, some l => some (x :: l)
    | _, _ => none

def chunk (sz : Nat) : Nat → List D → List (List D)
  | 0, _ => []
  | n + 1, l => l.take sz :: chunk sz n (l.drop sz)

/-- A value with all its slices as lists: what it reads as, once for all. -/
def ice (g : Look) : Nat → D → Option D
  | 0, _ => none
  | n + 1, .agg cs => (mapO (ice g n) cs).map .agg
  | n + 1, .tup cs => (mapO (ice g n) cs).map .tup
  | n + 1, .arr id off len sz => match rowOf g (.arr id off len sz) with
    | some cs => (mapO (ice g n) cs).map fun l => .lst sz (chunk sz len l)
    | none => none
  | _ + 1, .int k x => some (.int k x)
  | _ + 1, .bool b => some (.bool b)
  | _ + 1, .str s => some (.str s)
  | _ + 1, .nilp => some .nilp
  | _ + 1, .fp cs o => some (.fp cs o)
  | _ + 1, .nils => some .nils
  | _ + 1, .lst sz xs => some (.lst sz xs)
  | _ + 1, .nilf => some .nilf
  | _ + 1, .nilm => some .nilm
  | _ + 1, _ => none

mutual
def scalarD : D → Bool
  | .int _ _ | .bool _ | .str _ | .nilp | .nils | .nilf | .nilm => true
  | .agg cs => scalarL cs
  | .tup cs => scalarL cs
  | _ => false
def scalarL : List D → Bool
  | [] => true
  | d :: r => scalarD d && scalarL r
end
mutual
def pureD : D → Bool
  | .int _ _ | .bool _ | .str _ | .nilp | .nils | .nilf | .nilm | .lst _ _ | .fp _ _ => true
  | .agg cs => pureL cs
  | _ => false
def pureL : List D → Bool
  | [] => true
  | d :: r => pureD d && pureL r
end

abbrev CallF := FuncId → List D → Store → Option (D × Store)

def callV (C : CallF) (md : Mode) (f : D) (args : List D) (s : Store) : Option (D × Store) :=
  match f with
  | .fn f caps =>
    match md with
    | .raw => C f (args ++ caps) s
    | .iso =>
      match mapO (ice s.get 20) (args ++ caps) with
      | none => none
      | some args' => match C f args' Store.empty with
        | none => none
        | some (r, s1) => match ice s1.get 20 r with
          | none => none
          | some r' => if scalarD r' || pureL (args ++ caps) then some (r', s) else none
  | _ => none

def appendV (sz bytes : Nat) (s x : D) (st : Store) : Option (D × Store) :=
  match rowOf st.get x, srcLen x with
  | some new, some n =>
    if srcSz sz x && decide (bytes ≤ 2 ^ 20) then
      match s with
      | .nils => if n = 0 then some (.nils, st) else if n * bytes ≤ 2 ^ 45 ∧ n ≤ 2 ^ 45 then some (.arr st.next 0 n sz, st.push (.cells new)) else none
      | .arr id off len sz' =>
        match st.get id with
        | some (.cells cs) =>
          if sz' = sz ∧ off + len * sz = cs.length then
            if n = 0 then some (.arr id off len sz', st)
            else if (len + n) * bytes ≤ 2 ^ 45 ∧ len + n ≤ 2 ^ 45 then some (.arr st.next 0 (len + n) sz, (st.set id none).push (.cells (cs.drop off ++ new)))
            else none
          else none
        | _ => none
      | .lst sz' xs => if n = 0 then some (.lst sz' xs, st) else none
      | _ => none
    else none
  | _, _ => none

def evM (C : CallF) (env : Env) (s : Store) : MOp → Option (D × Store)
  | .call md f args => callV C md (env.ev f) (env.evL args) s
  | .append sz bytes a x => appendV sz bytes (env.ev a) (env.ev x) s
  | .mapset ks m k v => match env.ev m with
    | .map id => match s.get id with
      | some (.map kvs) => match keyOfV ks (env.ev k) with
        | some kl => if oneCell (env.ev v) then (putKV ks kl (env.ev v) kvs).map fun kvs' => (.tup [], s.set id (some (.map kvs'))) else none
        | none => none
      | _ => none
    | _ => none

def runOp (C : CallF) (env : Env) (s : Store) : VOp → Option (D × Store)
  | .p o => (evP env o).map fun d => (d, s)
  | .r o => (evR env s.get o).map fun d => (d, s)
  | .a o => match evA env o with
    | some (ob, m) => some (m.at s.next, s.push ob)
    | none => none
  | .w n a v => match evW env s.get n a v with
    | some (id, ob) => some (.tup [], s.set id (some ob))
    | none => none
  | .m o => evM C env s o

def rdOf (env : Env) : VOp → Option Nat
  | .r o => rdR env o
  | .w _ a _ => rdW env a
  | _ => none

def wantV (env : Env) : Option (Nat × Bool) → Option Bool
  | none => some true
  | some (t, want) => match env.get t with
    | .bool b => some (b == want)
    | .tup [] => some false
    | _ => none

structure Tr where
  idx : Nat
  rd : Option Nat
  pre : Store
  post : Store

def stable (pre post : Store) : Option Nat → Bool
  | none => true
  | some id => beqO (pre.get id) (post.get id)

/-- Of those ahead, each that is paired with this one: neither turns what the other looks at. -/
def pairsOk (pairs : List (Nat × Nat)) (j : Tr) : List Tr → Bool
  | [] => true
  | i :: r => (if pairs.contains (i.idx, j.idx) then stable j.pre j.post i.rd && stable i.pre i.post j.rd else true) && pairsOk pairs j r

def runOps (C : CallF) (pairs : List (Nat × Nat)) : List (Nat × VOper) → List Tr → Env → Store → Option (Env × Store)
  | [], _, env, s => some (env, s)
  | (i, o) :: rest, tr, env, s =>
    match wantV env o.guard with
    | none => none
    | some false => runOps C pairs rest tr (env.put o.dst (.tup [])) s
    | some true =>
      match runOp C env s o.op with
      | none => none
      | some (d, s') =>
        let t : Tr := ⟨i, rdOf env o.op, s, s'⟩
        if pairsOk pairs t tr then runOps C pairs rest (if pairs.isEmpty then tr else t :: tr) (env.put o.dst d) s' else none

inductive VExit where
  | normal
  | exit (id : Nat)
  | ret
  deriving Inhabited, DecidableEq

abbrev Out := VExit × Env × Store

def Env.keep (vars : List Nat) (env : Env) : Env := vars.map fun t => (t, env.get t)

def resOne (env : Env) (s : Store) : Nat × Option (Option Nat) → Option D
  | (t, none) => some (env.get t)
  | (t, some n) => match env.get t with
    | .ptr id off => match s.get id with
      | some (.cells cs) => pull n off cs
      | _ => none
    | _ => none
def resAll (env : Env) (s : Store) : List (Nat × Option (Option Nat)) → Option (List D)
  | [] => some []
  | x :: r => match resOne env s x, resAll env s r with
    | some d, some l => some (d :: l)
    | _, _ => none
def resOf (env : Env) (s : Store) (l : List (Nat × Option (Option Nat))) : Option D :=
  match resAll env s l with
  | some [d] => some d
  | some l => some (.tup l)
  | none => none

def callWith (fs : FuncId → Option VFunc) (ex : List Nat → VCode → Env → Store → Option Out) : CallF := fun f args s =>
  match fs f with
  | none => none
  | some vf =>
    match ex vf.vars vf.code (vf.vars.map fun t => (t, args.getD t .undef)) s with
    | some (.normal, env, s') | some (.ret, env, s') => (resOf env s' vf.res).map fun d => (d, s')
    | _ => none

def vexec (fs : FuncId → Option VFunc) : Nat → List Nat → VCode → Env → Store → Option Out
  | 0, _, _, _, _ => none
  | n + 1, vars, c, env, s =>
    match c with
    | .skip => some (.normal, env, s)
    | .region r => match runOps (callWith fs (vexec fs n)) r.pairs r.ops [] env s with
      | some (env', s') => some (.normal, env'.keep vars, s')
      | none => none
    | .seq a b => match vexec fs n vars a env s with
      | some (.normal, env', s') => vexec fs n vars b env' s'
      | r => r
    | .cond c x y => match env.ev c with
      | .bool true => vexec fs n vars x env s
      | .bool false => vexec fs n vars y env s
      | _ => none
    | .block id b => match vexec fs n vars b env s with
      | some (.exit id', env', s') => if id' = id then some (.normal, env', s') else some (.exit id', env', s')
      | r => r
    | .loop b => match vexec fs n vars b env s with
      | some (.normal, env', s') => vexec fs n vars (.loop b) env' s'
      | r => r
    | .exit id => some (.exit id, env, s)
    | .ret => some (.ret, env, s)

def vcall (fs : FuncId → Option VFunc) (n : Nat) : CallF := callWith fs (vexec fs n)

end Go.V
