/- Texts one behind the other. -/
import Derived.Orders
import Derived.WalkKit
import Derived.Laws.StructEq
import Derived.Laws.BytesArg
import Derived.MapKept
set_option linter.unusedSimpArgs false
set_option linter.unusedVariables false
namespace Go.V
inductive D where
 | undef
 | int (k:IntKind) (n:Int)
 | bool (b:Bool)
 | str (s:ByteArray)
 | nilp
 | ptr (id off:Nat)
 | fp (cs:List D) (off:Nat)
 | nils
 | lst (sz:Nat) (xs:List (List D))
 | arr (id off len sz:Nat)
 | agg (cs:List D)
 | tup (vs:List D)
 | fn (f:FuncId) (caps:List D)
 | nilf
 | nilm
 | map (id:Nat)
 deriving Inhabited
inductive O3 where
 | cells (cs:List D)
 | map (kvs:List (D×D))
 deriving Inhabited
inductive T where
 | leaf
 | node (v:Option O3) (l r:T)
 deriving Inhabited
def T.get:T->Nat->Option O3
 | .leaf,_=>none
 | .node v _ _,0=>v
 | .node _ l r,n+1=>if n % 2=0 then l.get (n / 2) else r.get (n / 2)
def T.setF:Nat->T->Nat->Option O3->T
 | _,.leaf,0,v=>.node v .leaf .leaf
 | _,.node _ l r,0,v=>.node v l r
 | 0,t,_+1,_=>t
 | f+1,.leaf,n+1,v=>if n % 2=0 then .node none (T.setF f .leaf (n / 2) v) .leaf else .node none .leaf (T.setF f .leaf (n / 2) v)
 | f+1,.node x l r,n+1,v=>if n % 2=0 then .node x (T.setF f l (n / 2) v) r else .node x l (T.setF f r (n / 2) v)
def T.set (t:T) (n:Nat) (v:Option O3):T:=T.setF n t n v
theorem T.get_setF:∀ (f:Nat) (t:T) (n:Nat) (v:Option O3) (m:Nat),n<=f->(T.setF f t n v).get m=if m=n then v else t.get m:=by
 intro f
 induction f with
 | zero =>
   intro t n v m h
   have:n=0:=by omega
   subst this
   cases t<;>cases m<;>simp [T.setF,T.get]
 | succ f ih =>
   intro t n v m h
   cases n with
   | zero=>cases t<;>cases m<;>simp [T.setF,T.get]
   | succ n =>
     have hn:n / 2<=f:=by omega
     cases t with
     | leaf =>
       by_cases hp:n % 2=0
       ·cases m with
        | zero=>simp [T.setF,T.get,hp]
        | succ m =>
          by_cases hq:m % 2=0
          ·simp only [T.setF,hp,if_true,T.get,hq,ih _ _ _ _ hn]
           by_cases e:m=n
           ·subst e;simp
           ·have:¬ m / 2=n / 2:=by omega
            simp [e,this]
          ·simp only [T.setF,hp,if_true,T.get,hq,if_false]
           have:¬ m=n:=by intro e;subst e;exact hq hp
           simp [this]
       ·cases m with
        | zero=>simp [T.setF,T.get,hp]
        | succ m =>
          by_cases hq:m % 2=0
          ·simp only [T.setF,hp,if_false,T.get,hq,if_true]
           have:¬ m=n:=by intro e;subst e;exact hp hq
           simp [this]
          ·simp only [T.setF,hp,if_false,T.get,hq,ih _ _ _ _ hn]
           by_cases e:m=n
           ·subst e;simp
           ·have:¬ m / 2=n / 2:=by omega
            simp [e,this]
     | node x l r =>
       by_cases hp:n % 2=0
       ·cases m with
        | zero=>simp [T.setF,T.get,hp]
        | succ m =>
          by_cases hq:m % 2=0
          ·simp only [T.setF,hp,if_true,T.get,hq,ih _ _ _ _ hn]
           by_cases e:m=n
           ·subst e;simp
           ·have:¬ m / 2=n / 2:=by omega
            simp [e,this]
          ·simp only [T.setF,hp,if_true,T.get,hq,if_false]
           have:¬ m=n:=by intro e;subst e;exact hq hp
           simp [this]
       ·cases m with
        | zero=>simp [T.setF,T.get,hp]
        | succ m =>
          by_cases hq:m % 2=0
          ·simp only [T.setF,hp,if_false,T.get,hq,if_true]
           have:¬ m=n:=by intro e;subst e;exact hp hq
           simp [this]
          ·simp only [T.setF,hp,if_false,T.get,hq,ih _ _ _ _ hn]
           by_cases e:m=n
           ·subst e;simp
           ·have:¬ m / 2=n / 2:=by omega
            simp [e,this]
theorem T.get_set (t:T) (n:Nat) (v:Option O3) (m:Nat):(t.set n v).get m=if m=n then v else t.get m:=T.get_setF n t n v m (Nat.le_refl _)
structure f6 where
 objs:T
 next:Nat
 deriving Inhabited
def f6.empty:f6:=⟨.leaf,0⟩
def f6.get (s:f6) (id:Nat):Option O3:=if id<s.next then s.objs.get id else none
def f6.set (s:f6) (id:Nat) (o:Option O3):f6:=⟨s.objs.set id o,s.next⟩
def f6.push (s:f6) (o:O3):f6:=⟨s.objs.set s.next (some o),s.next+1⟩
@[simp] theorem f6.get_empty (id:Nat):f6.empty.get id=none:=by simp [f6.get,f6.empty]
theorem f6.get_set (s:f6) (id:Nat) (o:Option O3) (i:Nat):(s.set id o).get i=if i=id/\id<s.next then o else s.get i:=by
 simp only [f6.get,f6.set,T.get_set]
 by_cases h:i=id
 ·subst h;by_cases h2:i<s.next<;>simp [h2]
 ·simp [h]
theorem f6.get_push (s:f6) (o:O3) (i:Nat):(s.push o).get i=if i=s.next then some o else s.get i:=by
 simp only [f6.get,f6.push,T.get_set]
 by_cases h:i=s.next
 ·subst h;simp
 ·by_cases h2:i<s.next
  ·simp [h,h2,Nat.lt_succ_of_lt h2]
  ·have:¬ i<s.next+1:=by omega
   simp [h,h2,this]
@[simp] theorem f6.next_set (s:f6) (id:Nat) (o:Option O3):(s.set id o).next=s.next:=rfl
@[simp] theorem f6.next_push (s:f6) (o:O3):(s.push o).next=s.next+1:=rfl
theorem f6.get_none (s:f6) (i:Nat) (h:s.next<=i):s.get i=none:=by simp [f6.get,Nat.not_lt.2 h]
mutual
def beq:D->D->Bool
 | .undef,.undef=>true
 | .int k n,.int k' n'=>decide (k=k')&&decide (n=n')
 | .bool a,.bool b=>a==b
 | .str a,.str b=>decide (a=b)
 | .nilp,.nilp=>true
 | .ptr a b,.ptr c d=>decide (a=c)&&decide (b=d)
 | .fp a n,.fp b m=>beqL a b&&decide (n=m)
 | .nils,.nils=>true
 | .lst a x,.lst b y=>decide (a=b)&&beqLL x y
 | .arr a b c d,.arr a' b' c' d'=>decide (a=a')&&decide (b=b')&&decide (c=c')&&decide (d=d')
 | .agg a,.agg b=>beqL a b
 | .tup a,.tup b=>beqL a b
 | .fn f a,.fn g b=>decide (f=g)&&beqL a b
 | .nilf,.nilf=>true
 | .nilm,.nilm=>true
 | .map a,.map b=>decide (a=b)
 | _,_=>false
def beqL:List D->List D->Bool
 | [],[]=>true
 | a::x,b::y=>beq a b&&beqL x y
 | _,_=>false
def beqLL:List (List D)->List (List D)->Bool
 | [],[]=>true
 | a::x,b::y=>beqL a b&&beqLL x y
 | _,_=>false
end
mutual
theorem a9A:∀ (a b:D),beq a b=true->a=b
 | .undef,b,h=>by cases b<;>simp_all [beq]
 | .int k n,b,h=>by cases b<;>simp_all [beq]
 | .bool a,b,h=>by cases b<;>simp_all [beq]
 | .str a,b,h=>by cases b<;>simp_all [beq]
 | .nilp,b,h=>by cases b<;>simp_all [beq]
 | .ptr _ _,b,h=>by cases b<;>simp_all [beq]
 | .fp a n,b,h=>by
   cases b<;>simp_all [beq]
   exact beqL_eq _ _ h.1
 | .nils,b,h=>by cases b<;>simp_all [beq]
 | .lst a x,b,h=>by
   cases b<;>simp_all [beq]
   exact beqLL_eq _ _ h.2
 | .arr _ _ _ _,b,h=>by cases b<;>simp_all [beq]
 | .agg a,b,h=>by
   cases b<;>simp_all [beq]
   exact beqL_eq _ _ h
 | .tup a,b,h=>by
   cases b<;>simp_all [beq]
   exact beqL_eq _ _ h
 | .fn f a,b,h=>by
   cases b<;>simp_all [beq]
   exact beqL_eq _ _ h.2
 | .nilf,b,h=>by cases b<;>simp_all [beq]
 | .nilm,b,h=>by cases b<;>simp_all [beq]
 | .map _,b,h=>by cases b<;>simp_all [beq]
theorem beqL_eq:∀ (a b:List D),beqL a b=true->a=b
 | [],b,h=>by cases b<;>simp_all [beqL]
 | a::x,b,h=>by
   cases b with
   | nil=>simp [beqL] at h
   | cons b y =>
     simp [beqL] at h
     rw [a9A _ _ h.1,beqL_eq _ _ h.2]
theorem beqLL_eq:∀ (a b:List (List D)),beqLL a b=true->a=b
 | [],b,h=>by cases b<;>simp_all [beqLL]
 | a::x,b,h=>by
   cases b with
   | nil=>simp [beqLL] at h
   | cons b y =>
     simp [beqLL] at h
     rw [beqL_eq _ _ h.1,beqLL_eq _ _ h.2]
end
mutual
theorem b4Y:∀ (a:D),beq a a=true
 | .undef=>rfl
 | .int k n=>by simp [beq]
 | .bool a=>by simp [beq]
 | .str a=>by simp [beq]
 | .nilp=>rfl
 | .ptr _ _=>by simp [beq]
 | .fp a n=>by simp [beq,beqL_self a]
 | .nils=>rfl
 | .lst a x=>by simp [beq,beqLL_self x]
 | .arr _ _ _ _=>by simp [beq]
 | .agg a=>by simp [beq,beqL_self a]
 | .tup a=>by simp [beq,beqL_self a]
 | .fn f a=>by simp [beq,beqL_self a]
 | .nilf=>rfl
 | .nilm=>rfl
 | .map _=>by simp [beq]
theorem beqL_self:∀ (a:List D),beqL a a=true
 | []=>rfl
 | a::x=>by simp [beqL,b4Y a,beqL_self x]
theorem beqLL_self:∀ (a:List (List D)),beqLL a a=true
 | []=>rfl
 | a::x=>by simp [beqLL,beqL_self a,beqLL_self x]
end
def a3S:List (D×D)->List (D×D)->Bool
 | [],[]=>true
 | (a,b)::x,(c,d)::y=>beq a c&&beq b d&&a3S x y
 | _,_=>false
theorem b4L:∀ (a b:List (D×D)),a3S a b=true->a=b
 | [],b,h=>by cases b<;>simp_all [a3S]
 | (a,c)::x,b,h=>by
   cases b with
   | nil=>simp [a3S] at h
   | cons b y =>
     obtain ⟨b,d⟩:=b
     simp [a3S] at h
     rw [a9A _ _ h.1.1,a9A _ _ h.1.2,b4L _ _ h.2]
theorem b3k:∀ (a:List (D×D)),a3S a a=true
 | []=>rfl
 | (a,c)::x=>by simp [a3S,b4Y,b3k x]
def a4x:Option O3->Option O3->Bool
 | none,none=>true
 | some (.cells a),some (.cells b)=>beqL a b
 | some (.map a),some (.map b)=>a3S a b
 | _,_=>false
theorem c1v (a b:Option O3) (h:a4x a b=true):a=b:=by
 cases a with
 | none=>cases b<;>simp_all [a4x]
 | some a =>
   cases b with
   | none=>cases a<;>simp [a4x] at h
   | some b =>
     cases a<;>cases b<;>simp [a4x] at h
     ·rw [beqL_eq _ _ h]
     ·rw [b4L _ _ h]
theorem a6H (a:Option O3):a4x a a=true:=by
 cases a with
 | none=>rfl
 | some a=>cases a<;>simp [a4x,beqL_self,b3k]
inductive Opd where
 | tmp (t:Nat)
 | cst (d:D)
 deriving Inhabited
inductive a0a where
 | raw
 | iso
 deriving Inhabited,DecidableEq
inductive SK where
 | i
 | b
 | s
 deriving Inhabited,DecidableEq
inductive NK where
 | p
 | s
 | m
 | f
 deriving Inhabited,DecidableEq
inductive POp where
 | mov (x:Opd)
 | pick (c a b:Opd)
 | nilchk (x:Opd)
 | bin (op:BinOp) (x y:Opd)
 | eqB (neg:Bool) (x y:Opd)
 | eqAgg (neg:Bool) (ks:List SK) (x y:Opd)
 | eqNil (neg:Bool) (k:NK) (x:Opd)
 | un (op:UnOp) (x:Opd)
 | conv (k:IntKind) (x:Opd)
 | build (zero:List D) (parts:List (Nat×Nat×Opd))
 | fieldA (off:Nat) (x:Opd)
 | field (n:Option Nat) (off:Nat) (x:Opd)
 | idxA (sz:Nat) (x i:Opd)
 | idxS (x i:Opd)
 | idxV (n:Option Nat) (len sz:Nat) (x i:Opd)
 | len (isStr:Bool) (x:Opd)
 | minmax (isMax:Bool) (x:Opd) (xs:List Opd)
 | slice (n:Option Nat) (x:Opd) (lo hi:Option Opd)
 | extract (x:Opd) (i:Nat)
 | mkfn (f:FuncId) (caps:List Opd)
 deriving Inhabited
inductive ROp where
 | load (n:Option Nat) (x:Opd)
 | lookup (ks:List SK) (zero:D) (ok:Bool) (m k:Opd)
 | b2s (x:Opd)
 deriving Inhabited
inductive AOp where
 | alloc (zero:List D)
 | box (x:Opd)
 | bslice (sz len:Nat) (zero:List D) (parts:List (Nat×Opd))
 | mkslice (sz bytes:Nat) (zero:List D) (len cap:Opd)
 | mkmap
 deriving Inhabited
inductive MOp where
 | call (md:a0a) (f:Opd) (args:List Opd)
 | append (sz bytes:Nat) (s x:Opd)
 | mapset (ks:List SK) (m k v:Opd)
 deriving Inhabited
inductive VOp where
 | p (o:POp)
 | r (o:ROp)
 | a (o:AOp)
 | w (n:Nat) (addr val:Opd)
 | m (o:MOp)
 deriving Inhabited
structure P1 where
 dst:Option Nat
 op:VOp
 guard:Option (Nat×Bool)
 deriving Inhabited
structure a9e where
 ops:List (Nat×P1)
 pairs:List (Nat×Nat)
 draw:Bool
 deriving Inhabited
inductive a0x where
 | skip
 | region (r:a9e)
 | seq (a b:a0x)
 | cond (c:Opd) (thn els:a0x)
 | block (id:Nat) (body:a0x)
 | loop (body:a0x)
 | exit (id:Nat)
 | ret
 deriving Inhabited
structure M3 where
 vars:List Nat
 code:a0x
 res:List (Nat×Option (Option Nat))
 deriving Inhabited
abbrev Env:=List (Nat×D)
def Env.get:Env->Nat->D
 | [],_=>.undef
 | (s,d)::r,t=>if s=t then d else Env.get r t
def Env.ev (env:Env):Opd->D
 | .tmp t=>env.get t
 | .cst d=>d
def Env.evL (env:Env):List Opd->List D
 | []=>[]
 | x::r=>env.ev x::Env.evL env r
def Env.put (env:Env) (dst:Option Nat) (d:D):Env :=
 match dst with
 | some t=>(t,d)::env
 | none=>env
def a1a (op:BinOp) (k:IntKind) (x y:Int):Option D :=
 match op with
 | .add=>some (.int k (k.wrap (x+y)))
 | .sub=>some (.int k (k.wrap (x-y)))
 | .mul=>some (.int k (k.wrap (x*y)))
 | .quo=>if y=0 then none else some (.int k (k.wrap (x.tdiv y)))
 | .rem=>if y=0 then none else some (.int k (x.tmod y))
 | .and=>some (.int k (k.wrap (BitVec.ofInt k.bits x &&& BitVec.ofInt k.bits y).toNat))
 | .or=>some (.int k (k.wrap (BitVec.ofInt k.bits x ||| BitVec.ofInt k.bits y).toNat))
 | .xor=>some (.int k (k.wrap (BitVec.ofInt k.bits x ^^^ BitVec.ofInt k.bits y).toNat))
 | .andNot=>some (.int k (k.wrap (BitVec.ofInt k.bits x &&& ~~~ BitVec.ofInt k.bits y).toNat))
 | .eql=>some (.bool (x==y))
 | .neq=>some (.bool (x != y))
 | .lss=>some (.bool (x<y))
 | .leq=>some (.bool (x<=y))
 | .gtr=>some (.bool (x>y))
 | .geq=>some (.bool (x >= y))
 | _=>none
def a3r (op:BinOp) (k:IntKind) (x y:Int):Option D :=
 if y<0 then none else
 match op with
 | .shl=>some (.int k (k.wrap (x*2 ^ (min y.toNat k.bits))))
 | .shr=>some (.int k (x.fdiv (2 ^ (min y.toNat k.bits))))
 | _=>none
def a7Q (op:BinOp) (x y:ByteArray):Option D :=
 match op with
 | .add=>if x.size+y.size<2 ^ 62 then some (.str (x++y)) else none
 | .eql=>some (.bool (x.toList==y.toList))
 | .neq=>some (.bool !(x.toList==y.toList))
 | .lss=>some (.bool (Op.bytesLess x.toList y.toList))
 | .leq=>some (.bool (Op.bytesLess x.toList y.toList||x.toList==y.toList))
 | .gtr=>some (.bool !(Op.bytesLess x.toList y.toList||x.toList==y.toList))
 | .geq=>some (.bool !(Op.bytesLess x.toList y.toList))
 | _=>none
def a7v (op:BinOp) (x y:D):Option D :=
 match x,y with
 | .int k a,.int k' b =>
   match op with
   | .shl | .shr=>a3r op k a b
   | _=>if k=k' then a1a op k a b else none
 | .str a,.str b=>a7Q op a b
 | _,_=>none
def a3X:SK->D->D->Option Bool
 | .i,.int k a,.int k' b=>if k=k' then some (a==b) else none
 | .b,.bool a,.bool b=>some (a==b)
 | .s,.str a,.str b=>some (a==b)
 | _,_,_=>none
def a0H:List SK->List D->List D->Option Bool
 | [],[],[]=>some true
 | t::ts,a::x,b::y=>match a3X t a b,a0H ts x y with
   | some p,some q=>some (p&&q)
   | _,_=>none
 | _,_,_=>none
def a1w:NK->D->Option Bool
 | .p,.nilp=>some true
 | .p,.ptr _ _=>some false
 | .p,.fp _ _=>some false
 | .s,.nils=>some true
 | .s,.lst _ _=>some false
 | .s,.arr _ _ _ _=>some false
 | .m,.nilm=>some true
 | .m,.map _=>some false
 | .f,.nilf=>some true
 | .f,.fn _ _=>some false
 | _,_=>none
def unV (op:UnOp) (x:D):Option D :=
 match op,x with
 | .neg,.int k n=>some (.int k (k.wrap (0-n)))
 | .xor,.int k n=>some (.int k (k.wrap (BitVec.ofInt k.bits (if k.signed then -1 else k.max) ^^^ BitVec.ofInt k.bits n).toNat))
 | .not,.bool b=>some (.bool !b)
 | _,_=>none
def cellsOf:D->List D
 | .agg cs=>cs
 | d=>[d]
def M8:D->Bool
 | .agg _ | .tup _ | .undef=>false
 | _=>true
def a0z (n:Option Nat) (off:Nat) (cs:List D):Option D :=
 match n with
 | none=>match cs[off]? with
   | some d=>if M8 d then some d else none
   | none=>none
 | some n=>if off+n<=cs.length then some (.agg ((cs.drop off).take n)) else none
def a20 (cs:List D) (off:Nat) (new:List D):List D:=cs.take off++new++cs.drop (off+new.length)
def a1V (env:Env) (cs:List D):List (Nat×Nat×Opd)->Option (List D)
 | []=>some cs
 | (off,size,x)::rest =>
   let new:=cellsOf (env.ev x)
   if new.length=size/\off+size<=cs.length/\new.all M8 then a1V env (a20 cs off new) rest else none
def c69:D->Option Int
 | .int _ n=>some n
 | _=>none
def a3d (isMax:Bool) (x:D):List D->Option D
 | []=>some x
 | y::r =>
   match x,y with
   | .int k a,.int _ b=>a3d isMax (.int k (if isMax then (if b>a then b else a) else (if b<a then b else a))) r
   | _,_=>none
def a02 (d:Option D) (dflt:Nat):Option Nat :=
 match d with
 | none=>some dflt
 | some (.int _ n)=>if 0<=n then some n.toNat else none
 | some _=>none
def a2f (n:Option Nat) (x:D) (lo hi:Option D):Option D :=
 match n,x with
 | none,.str s =>
   match a02 hi s.size,a02 lo 0 with
   | some h,some l=>if h<=s.size/\l<=h then some (.str (s.extract l h)) else none
   | _,_=>none
 | some _,.nils =>
   match a02 hi 0,a02 lo 0 with
   | some h,some l=>if h<=0/\l<=h then some .nils else none
   | _,_=>none
 | some n,.lst sz xs =>
   match a02 hi xs.length,a02 lo 0 with
   | some h,some l=>if sz=n/\h<=xs.length/\l<=h then some (.lst sz ((xs.take h).drop l)) else none
   | _,_=>none
 | some n,.arr id off len sz =>
   match a02 hi len,a02 lo 0 with
   | some h,some l=>if sz=n/\h<=len/\l<=h then (if l<len then some (.arr id (off+l*sz) (h-l) sz) else some (.lst sz [])) else none
   | _,_=>none
 | _,_=>none
def V2:Bool->D->Option D
 | true,.str s=>some (.int .i64 s.size)
 | false,.nils=>some (.int .i64 0)
 | false,.lst _ xs=>some (.int .i64 xs.length)
 | false,.arr _ _ len _=>some (.int .i64 len)
 | _,_=>none
def N2 (sz:Nat) (x i:D):Option D :=
 match x,i with
 | .lst s xs,.int _ n=>if s=sz/\0<=n then (xs[n.toNat]?).map (fun g=>.fp g 0) else none
 | .arr id off len s,.int _ n=>if s=sz/\0<=n/\n<len then some (.ptr id (off+n.toNat*sz)) else none
 | _,_=>none
def a5D (x i:D):Option D :=
 match x,i with
 | .str s,.int _ n=>if 0<=n then (s[n.toNat]?).map (fun b=>.int .u8 b.toNat) else none
 | _,_=>none
def Env.evO (env:Env):Option Opd->Option D
 | some x=>some (env.ev x)
 | none=>none
def evP (env:Env):POp->Option D
 | .mov x=>some (env.ev x)
 | .pick c a b=>match env.ev c with
   | .bool t=>some (if t then env.ev a else env.ev b)
   | _=>none
 | .nilchk x=>match env.ev x with
   | .ptr id off=>some (.ptr id off)
   | .fp cs off=>some (.fp cs off)
   | .fn f caps=>some (.fn f caps)
   | _=>none
 | .bin op x y=>a7v op (env.ev x) (env.ev y)
 | .eqB neg x y=>match env.ev x,env.ev y with
   | .bool a,.bool b=>some (.bool (if neg then !(a==b) else (a==b)))
   | _,_=>none
 | .eqAgg neg ks x y=>match env.ev x,env.ev y with
   | .agg a,.agg b=>(a0H ks a b).map (fun t=>.bool (if neg then !t else t))
   | _,_=>none
 | .eqNil neg k x=>(a1w k (env.ev x)).map (fun t=>.bool (if neg then !t else t))
 | .un op x=>unV op (env.ev x)
 | .conv k x=>match env.ev x with
   | .int _ n=>some (.int k (k.wrap n))
   | _=>none
 | .build zero parts=>(a1V env zero parts).map .agg
 | .fieldA off x=>match env.ev x with
   | .ptr id o=>some (.ptr id (o+off))
   | .fp cs o=>some (.fp cs (o+off))
   | _=>none
 | .field n off x=>match env.ev x with
   | .agg cs=>a0z n off cs
   | _=>none
 | .idxA sz x i=>N2 sz (env.ev x) (env.ev i)
 | .idxS x i=>a5D (env.ev x) (env.ev i)
 | .idxV n len sz x i=>match env.ev x,env.ev i with
   | .agg cs,.int _ k=>if 0<=k/\k<len then a0z n (k.toNat*sz) cs else none
   | _,_=>none
 | .len i x=>V2 i (env.ev x)
 | .minmax isMax x xs=>a3d isMax (env.ev x) (env.evL xs)
 | .slice n x lo hi=>a2f n (env.ev x) (env.evO lo) (env.evO hi)
 | .extract x i=>match env.ev x with
   | .tup vs=>vs[i]?
   | _=>none
 | .mkfn f caps=>some (.fn f (env.evL caps))
abbrev P8:=Nat->Option O3
def a5f (ks:List SK) (k:List D):List (D×D)->Option (Option D)
 | []=>some none
 | (k',v)::r=>match k' with
   | .agg b=>match a0H ks k b with
     | some true=>some (some v)
     | some false=>a5f ks k r
     | none=>none
   | _=>none
def a4s (ks:List SK) (k:List D) (v:D):List (D×D)->Option (List (D×D))
 | []=>some [(.agg k,v)]
 | (k',v')::r=>match k' with
   | .agg b=>match a0H ks k b with
     | some true=>some ((.agg k,v)::r)
     | some false=>(a4s ks k v r).map ((k',v')::·)
     | none=>none
   | _=>none
def a5I (ks:List SK):D->Option (List D)
 | .agg k=>if k.length=ks.length/\k.all M8 then some k else none
 | _=>none
def b2F:D->Option UInt8
 | .int .u8 n=>if 0<=n/\n<256 then some (UInt8.ofNat n.toNat) else none
 | _=>none
def a53:List D->Option (List UInt8)
 | []=>some []
 | d::r=>match b2F d,a53 r with
   | some b,some l=>some (b::l)
   | _,_=>none
def a1U:D->Option Nat
 | .nils=>some 0
 | .lst _ xs=>some xs.length
 | .arr _ _ len _=>some len
 | _=>none
def a0J (sz:Nat):D->Bool
 | .lst s _=>s==sz
 | .arr _ _ _ s=>s==sz
 | .nils=>true
 | _=>false
def Z8 (g:P8):D->Option (List D)
 | .nils=>some []
 | .lst _ xs=>some xs.flatten
 | .arr id off len sz=>match g id with
   | some (.cells cs)=>if off+len*sz<=cs.length then some ((cs.drop off).take (len*sz)) else none
   | _=>none
 | _=>none
def evR (env:Env) (g:P8):ROp->Option D
 | .load n x=>match env.ev x with
   | .ptr id off=>match g id with
     | some (.cells cs)=>a0z n off cs
     | _=>none
   | .fp cs off=>a0z n off cs
   | _=>none
 | .lookup ks zero ok m k=>match env.ev m with
   | .map id=>match g id with
     | some (.map kvs)=>match a5I ks (env.ev k) with
       | some kl=>match a5f ks kl kvs with
         | some (some v)=>some (if ok then .tup [v,.bool true] else v)
         | some none=>some (if ok then .tup [zero,.bool false] else zero)
         | none=>none
       | none=>none
     | _=>none
   | _=>none
 | .b2s x=>match Z8 g (env.ev x),a0J 1 (env.ev x) with
   | some cs,true=>(a53 cs).map (fun l=>.str ⟨l.toArray⟩)
   | _,_=>none
def rdR (env:Env):ROp->Option Nat
 | .load _ x=>match env.ev x with
   | .ptr id _=>some id
   | _=>none
 | .lookup _ _ _ m _=>match env.ev m with
   | .map id=>some id
   | _=>none
 | .b2s x=>match env.ev x with
   | .arr id _ _ _=>some id
   | _=>none
inductive P3 where
 | ptr
 | arr (len sz:Nat)
 | map
def P3.at:P3->Nat->D
 | .ptr,id=>.ptr id 0
 | .arr len sz,id=>.arr id 0 len sz
 | .map,id=>.map id
def a1y (zero:List D):Nat->List D
 | 0=>[]
 | n+1=>zero++a1y zero n
def evA (env:Env):AOp->Option (O3×P3)
 | .alloc zero=>some (.cells zero,.ptr)
 | .box x=>if (cellsOf (env.ev x)).all M8 then some (.cells (cellsOf (env.ev x)),.ptr) else none
 | .bslice sz len zero parts=>(a1V env (a1y zero len) (parts.map fun (i,x)=>(i*sz,sz,x))).map fun cs=>(.cells cs,.arr len sz)
 | .mkslice sz bytes zero l c=>match env.ev l,env.ev c with
   | .int .i64 n,.int .i64 m=>if 0<=n/\n<=m/\bytes*m<=2 ^ 47/\m<2 ^ 62 then some (.cells (a1y zero n.toNat),.arr n.toNat sz) else none
   | _,_=>none
 | .mkmap=>some (.map [],.map)
def evW (env:Env) (g:P8) (n:Nat) (addr val:Opd):Option (Nat×O3) :=
 match env.ev addr with
 | .ptr id off=>match g id with
   | some (.cells cs) =>
     let new:=cellsOf (env.ev val)
     if new.length=n/\off+n<=cs.length/\new.all M8/\0<n then some (id,.cells (a20 cs off new)) else none
   | _=>none
 | _=>none
def rdW (env:Env) (addr:Opd):Option Nat :=
 match env.ev addr with
 | .ptr id _=>some id
 | _=>none
def N1 (f:D->Option D):List D->Option (List D)
 | []=>some []
 | d::r=>match f d,N1 f r with
   | some x,some l=>some (x::l)
   | _,_=>none
def a2t (sz:Nat):Nat->List D->List (List D)
 | 0,_=>[]
 | n+1,l=>l.take sz::a2t sz n (l.drop sz)
def ice (g:P8):Nat->D->Option D
 | 0,_=>none
 | n+1,.agg cs=>(N1 (ice g n) cs).map .agg
 | n+1,.tup cs=>(N1 (ice g n) cs).map .tup
 | n+1,.arr id off len sz=>match Z8 g (.arr id off len sz) with
   | some cs=>(N1 (ice g n) cs).map fun l=>.lst sz (a2t sz len l)
   | none=>none
 | _+1,.int k x=>some (.int k x)
 | _+1,.bool b=>some (.bool b)
 | _+1,.str s=>some (.str s)
 | _+1,.nilp=>some .nilp
 | _+1,.fp cs o=>some (.fp cs o)
 | _+1,.nils=>some .nils
 | _+1,.lst sz xs=>some (.lst sz xs)
 | _+1,.nilf=>some .nilf
 | _+1,.nilm=>some .nilm
 | _+1,_=>none
mutual
def a0q:D->Bool
 | .int _ _ | .bool _ | .str _ | .nilp | .nils | .nilf | .nilm=>true
 | .agg cs=>scalarL cs
 | .tup cs=>scalarL cs
 | _=>false
def scalarL:List D->Bool
 | []=>true
 | d::r=>a0q d&&scalarL r
end
mutual
def W3:D->Bool
 | .int _ _ | .bool _ | .str _ | .nilp | .nils | .nilf | .nilm | .lst _ _ | .fp _ _=>true
 | .agg cs=>pureL cs
 | _=>false
def pureL:List D->Bool
 | []=>true
 | d::r=>W3 d&&pureL r
end
abbrev W6:=FuncId->List D->f6->Option (D×f6)
def a1d (C:W6) (md:a0a) (f:D) (args:List D) (s:f6):Option (D×f6) :=
 match f with
 | .fn f caps =>
   match md with
   | .raw=>C f (args++caps) s
   | .iso =>
     match N1 (ice s.get 20) (args++caps) with
     | none=>none
     | some args'=>match C f args' f6.empty with
       | none=>none
       | some (r,s1)=>match ice s1.get 20 r with
         | none=>none
         | some r'=>if a0q r'||pureL (args++caps) then some (r',s) else none
 | _=>none
def V3 (sz bytes:Nat) (s x:D) (st:f6):Option (D×f6) :=
 match Z8 st.get x,a1U x with
 | some new,some n =>
   if a0J sz x&&decide (bytes<=2 ^ 20) then
    match s with
    | .nils=>if n=0 then some (.nils,st) else if n*bytes<=2 ^ 45/\n<=2 ^ 45 then some (.arr st.next 0 n sz,st.push (.cells new)) else none
    | .arr id off len sz' =>
      match st.get id with
      | some (.cells cs) =>
        if sz'=sz/\off+len*sz=cs.length then
         if n=0 then some (.arr id off len sz',st)
         else if (len+n)*bytes<=2 ^ 45/\len+n<=2 ^ 45 then some (.arr st.next 0 (len+n) sz,(st.set id none).push (.cells (cs.drop off++new)))
         else none
        else none
      | _=>none
    | .lst sz' xs=>if n=0 then some (.lst sz' xs,st) else none
    | _=>none
   else none
 | _,_=>none
def evM (C:W6) (env:Env) (s:f6):MOp->Option (D×f6)
 | .call md f args=>a1d C md (env.ev f) (env.evL args) s
 | .append sz bytes a x=>V3 sz bytes (env.ev a) (env.ev x) s
 | .mapset ks m k v=>match env.ev m with
   | .map id=>match s.get id with
     | some (.map kvs)=>match a5I ks (env.ev k) with
       | some kl=>if M8 (env.ev v) then (a4s ks kl (env.ev v) kvs).map fun kvs'=>(.tup [],s.set id (some (.map kvs'))) else none
       | none=>none
     | _=>none
   | _=>none
def Q0 (C:W6) (env:Env) (s:f6):VOp->Option (D×f6)
 | .p o=>(evP env o).map fun d=>(d,s)
 | .r o=>(evR env s.get o).map fun d=>(d,s)
 | .a o=>match evA env o with
   | some (ob,m)=>some (m.at s.next,s.push ob)
   | none=>none
 | .w n a v=>match evW env s.get n a v with
   | some (id,ob)=>some (.tup [],s.set id (some ob))
   | none=>none
 | .m o=>evM C env s o
def W9 (env:Env):VOp->Option Nat
 | .r o=>rdR env o
 | .w _ a _=>rdW env a
 | _=>none
def a0t (env:Env):Option (Nat×Bool)->Option Bool
 | none=>some true
 | some (t,want)=>match env.get t with
   | .bool b=>some (b==want)
   | .tup []=>some false
   | _=>none
structure Tr where
 idx:Nat
 rd:Option Nat
 pre:f6
 post:f6
def Z7 (pre post:f6):Option Nat->Bool
 | none=>true
 | some id=>a4x (pre.get id) (post.get id)
def a0p (pairs:List (Nat×Nat)) (j:Tr):List Tr->Bool
 | []=>true
 | i::r=>(if pairs.contains (i.idx,j.idx) then Z7 j.pre j.post i.rd&&Z7 i.pre i.post j.rd else true)&&a0p pairs j r
def X0 (C:W6) (pairs:List (Nat×Nat)):List (Nat×P1)->List Tr->Env->f6->Option (Env×f6)
 | [],_,env,s=>some (env,s)
 | (i,o)::rest,tr,env,s =>
   match a0t env o.guard with
   | none=>none
   | some false=>X0 C pairs rest tr (env.put o.dst (.tup [])) s
   | some true =>
     match Q0 C env s o.op with
     | none=>none
     | some (d,s') =>
       let t:Tr:=⟨i,W9 env o.op,s,s'⟩
       if a0p pairs t tr then X0 C pairs rest (if pairs.isEmpty then tr else t::tr) (env.put o.dst d) s' else none
inductive X7 where
 | normal
 | exit (id:Nat)
 | ret
 deriving Inhabited,DecidableEq
abbrev Out:=X7×Env×f6
def Env.keep (vars:List Nat) (env:Env):Env:=vars.map fun t=>(t,env.get t)
def W4 (env:Env) (s:f6):Nat×Option (Option Nat)->Option D
 | (t,none)=>some (env.get t)
 | (t,some n)=>match env.get t with
   | .ptr id off=>match s.get id with
     | some (.cells cs)=>a0z n off cs
     | _=>none
   | _=>none
def V4 (env:Env) (s:f6):List (Nat×Option (Option Nat))->Option (List D)
 | []=>some []
 | x::r=>match W4 env s x,V4 env s r with
   | some d,some l=>some (d::l)
   | _,_=>none
def V0 (env:Env) (s:f6) (l:List (Nat×Option (Option Nat))):Option D :=
 match V4 env s l with
 | some [d]=>some d
 | some l=>some (.tup l)
 | none=>none
def a0G (fs:FuncId->Option M3) (ex:List Nat->a0x->Env->f6->Option Out):W6:=fun f args s =>
 match fs f with
 | none=>none
 | some vf =>
   match ex vf.vars vf.code (vf.vars.map fun t=>(t,args.getD t .undef)) s with
   | some (.normal,env,s') | some (.ret,env,s')=>(V0 env s' vf.res).map fun d=>(d,s')
   | _=>none
def P2 (fs:FuncId->Option M3):Nat->List Nat->a0x->Env->f6->Option Out
 | 0,_,_,_,_=>none
 | n+1,vars,c,env,s =>
   match c with
   | .skip=>some (.normal,env,s)
   | .region r=>match X0 (a0G fs (P2 fs n)) r.pairs r.ops [] env s with
     | some (env',s')=>some (.normal,env'.keep vars,s')
     | none=>none
   | .seq a b=>match P2 fs n vars a env s with
     | some (.normal,env',s')=>P2 fs n vars b env' s'
     | r=>r
   | .cond c x y=>match env.ev c with
     | .bool true=>P2 fs n vars x env s
     | .bool false=>P2 fs n vars y env s
     | _=>none
   | .block id b=>match P2 fs n vars b env s with
     | some (.exit id',env',s')=>if id'=id then some (.normal,env',s') else some (.exit id',env',s')
     | r=>r
   | .loop b=>match P2 fs n vars b env s with
     | some (.normal,env',s')=>P2 fs n vars (.loop b) env' s'
     | r=>r
   | .exit id=>some (.exit id,env,s)
   | .ret=>some (.ret,env,s)
def a4Q (fs:FuncId->Option M3) (n:Nat):W6:=a0G fs (P2 fs n)
end Go.V
namespace Go.V
abbrev Phi:=Nat->Option Obj
abbrev Mu:=Nat->Option (Nat×Nat×Nat)
def Phi.cell (Φ:Phi) (b o:Nat):Option Value :=
 match Φ b with
 | some (.cells c _ _)=>c[o]?
 | _=>none
mutual
def RP (Φ:Phi):D->Value->Prop
 | .int k n,v=>v=.int k n
 | .bool b,v=>v=.bool b
 | .str s,v=>v=.string s
 | .nilp,v=>v=.pointer none
 | .fp cs off,v=>∃b o,v=.pointer (some ⟨b,o+off,none⟩)/\RC Φ cs b o
 | .nils,v=>v=.slice none 0 0
 | .lst sz xs,v=>∃b o cap sp,v=.slice (some ⟨b,o,sp⟩) xs.length cap/\xs.length<=cap/\(sp=none∨xs=[])/\RG Φ sz xs b o
 | .agg cs,v=>∃vs:List Value,v=.agg vs.toArray/\RPL Φ cs vs
 | .tup cs,v=>∃vs:List Value,v=.tuple vs.toArray/\RPL Φ cs vs
 | .nilf,v=>v=.nilFunc
 | .nilm,v=>v=.map none
 | .undef,_=>False
 | .ptr _ _,_=>False
 | .arr _ _ _ _,_=>False
 | .fn _ _,_=>False
 | .map _,_=>False
def RPL (Φ:Phi):List D->List Value->Prop
 | [],vs=>vs=[]
 | d::ds,vs=>∃u us,vs=u::us/\RP Φ d u/\RPL Φ ds us
def RC (Φ:Phi):List D->Nat->Nat->Prop
 | [],_,_=>True
 | d::ds,b,o=>(M8 d=true/\∃u,Φ.cell b o=some u/\RP Φ d u)/\RC Φ ds b (o+1)
def RG (Φ:Phi) (sz:Nat):List (List D)->Nat->Nat->Prop
 | [],_,_=>True
 | g::gs,b,o=>g.length=sz/\RC Φ g b o/\RG Φ sz gs b (o+sz)
end
mutual
def R (μ:Mu) (Φ:Phi):D->Value->Prop
 | .undef,_=>True
 | .ptr id off,v=>∃b o z,μ id=some (b,o,z)/\v=.pointer (some ⟨b,o+off,none⟩)
 | .arr id off len sz,v=>∃b o z cap,μ id=some (b,o,z)/\v=.slice (some ⟨b,o+off,none⟩) len cap/\len<=cap/\o+off+cap*sz<=z
 | .agg cs,v=>∃vs:List Value,v=.agg vs.toArray/\RL μ Φ cs vs
 | .tup cs,v=>∃vs:List Value,v=.tuple vs.toArray/\RL μ Φ cs vs
 | .fn f cs,v=>∃vs:List Value,v=.func (.func f) #[] vs.toArray/\RL μ Φ cs vs
 | .map id,v=>∃b o z,μ id=some (b,o,z)/\v=.map (some b)
 | .int k n,v=>v=.int k n
 | .bool b,v=>v=.bool b
 | .str s,v=>v=.string s
 | .nilp,v=>v=.pointer none
 | .fp cs off,v=>RP Φ (.fp cs off) v
 | .nils,v=>v=.slice none 0 0
 | .lst sz xs,v=>RP Φ (.lst sz xs) v
 | .nilf,v=>v=.nilFunc
 | .nilm,v=>v=.map none
def RL (μ:Mu) (Φ:Phi):List D->List Value->Prop
 | [],vs=>vs=[]
 | d::ds,vs=>∃u us,vs=u::us/\R μ Φ d u/\RL μ Φ ds us
end
def Phi.le (Φ Φ':Phi):Prop:=∀b ob,Φ b=some ob->Φ' b=some ob
def Mu.le (μ μ':Mu):Prop:=∀id l,μ id=some l->μ' id=some l
theorem Phi.le_refl (Φ:Phi):Φ.le Φ:=fun _ _ h=>h
theorem Phi.le_trans {a b c:Phi} (h:a.le b) (k:b.le c):a.le c:=fun _ _ e=>k _ _ (h _ _ e)
theorem Mu.le_refl (μ:Mu):μ.le μ:=fun _ _ h=>h
theorem Mu.le_trans {a b c:Mu} (h:a.le b) (k:b.le c):a.le c:=fun _ _ e=>k _ _ (h _ _ e)
theorem Phi.cell_mono {Φ Φ':Phi} (h:Φ.le Φ') {b o:Nat} {u:Value} (e:Φ.cell b o=some u):Φ'.cell b o=some u:=by
 unfold Phi.cell at *
 cases hb:Φ b with
 | none=>simp [hb] at e
 | some ob=>rw [h b ob hb];rw [hb] at e;exact e
mutual
theorem a4V {Φ Φ':Phi} (h:Φ.le Φ'):∀ (d:D) (v:Value),RP Φ d v->RP Φ' d v
 | .int _ _,_,e=>by simpa only [RP] using e
 | .bool _,_,e=>by simpa only [RP] using e
 | .str _,_,e=>by simpa only [RP] using e
 | .nilp,_,e=>by simpa only [RP] using e
 | .fp cs off,v,e=>by
   simp only [RP] at e ⊢
   obtain ⟨b,o,e1,e2⟩:=e
   exact ⟨b,o,e1,RC_mono h cs b o e2⟩
 | .nils,_,e=>by simpa only [RP] using e
 | .lst sz xs,v,e=>by
   simp only [RP] at e ⊢
   obtain ⟨b,o,cap,sp,e1,e2,e4,e3⟩:=e
   exact ⟨b,o,cap,sp,e1,e2,e4,RG_mono h sz xs b o e3⟩
 | .agg cs,v,e=>by
   simp only [RP] at e ⊢
   obtain ⟨vs,e1,e2⟩:=e
   exact ⟨vs,e1,RPL_mono h cs vs e2⟩
 | .tup cs,v,e=>by
   simp only [RP] at e ⊢
   obtain ⟨vs,e1,e2⟩:=e
   exact ⟨vs,e1,RPL_mono h cs vs e2⟩
 | .nilf,_,e=>by simpa only [RP] using e
 | .nilm,_,e=>by simpa only [RP] using e
 | .undef,_,e=>by simp only [RP] at e
 | .ptr _ _,_,e=>by simp only [RP] at e
 | .arr _ _ _ _,_,e=>by simp only [RP] at e
 | .fn _ _,_,e=>by simp only [RP] at e
 | .map _,_,e=>by simp only [RP] at e
theorem RPL_mono {Φ Φ':Phi} (h:Φ.le Φ'):∀ (ds:List D) (vs:List Value),RPL Φ ds vs->RPL Φ' ds vs
 | [],_,e=>by simpa only [RPL] using e
 | d::ds,vs,e=>by
   simp only [RPL] at e ⊢
   obtain ⟨u,us,e1,e2,e3⟩:=e
   exact ⟨u,us,e1,a4V h d u e2,RPL_mono h ds us e3⟩
theorem RC_mono {Φ Φ':Phi} (h:Φ.le Φ'):∀ (ds:List D) (b o:Nat),RC Φ ds b o->RC Φ' ds b o
 | [],_,_,_=>by simp only [RC]
 | d::ds,b,o,e=>by
   simp only [RC] at e ⊢
   obtain ⟨⟨e0,u,e1,e2⟩,e3⟩:=e
   exact ⟨⟨e0,u,Phi.cell_mono h e1,a4V h d u e2⟩,RC_mono h ds b (o+1) e3⟩
theorem RG_mono {Φ Φ':Phi} (h:Φ.le Φ') (sz:Nat):∀ (ds:List (List D)) (b o:Nat),RG Φ sz ds b o->RG Φ' sz ds b o
 | [],_,_,_=>by simp only [RG]
 | d::ds,b,o,e=>by
   simp only [RG] at e ⊢
   exact ⟨e.1,RC_mono h d b o e.2.1,RG_mono h sz ds b (o+sz) e.2.2⟩
end
mutual
theorem a5C {μ μ':Mu} {Φ Φ':Phi} (hm:μ.le μ') (h:Φ.le Φ'):∀ (d:D) (v:Value),R μ Φ d v->R μ' Φ' d v
 | .undef,_,_=>by simp only [R]
 | .ptr id off,v,e=>by
   simp only [R] at e ⊢
   obtain ⟨b,o,z,e1,e2⟩:=e
   exact ⟨b,o,z,hm _ _ e1,e2⟩
 | .arr _ _ _ _,v,e=>by
   simp only [R] at e ⊢
   obtain ⟨b,o,z,cap,e1,e2⟩:=e
   exact ⟨b,o,z,cap,hm _ _ e1,e2⟩
 | .agg cs,v,e=>by
   simp only [R] at e ⊢
   obtain ⟨vs,e1,e2⟩:=e
   exact ⟨vs,e1,RL_mono hm h cs vs e2⟩
 | .tup cs,v,e=>by
   simp only [R] at e ⊢
   obtain ⟨vs,e1,e2⟩:=e
   exact ⟨vs,e1,RL_mono hm h cs vs e2⟩
 | .fn f cs,v,e=>by
   simp only [R] at e ⊢
   obtain ⟨vs,e1,e2⟩:=e
   exact ⟨vs,e1,RL_mono hm h cs vs e2⟩
 | .map id,v,e=>by
   simp only [R] at e ⊢
   obtain ⟨b,o,z,e1,e2⟩:=e
   exact ⟨b,o,z,hm _ _ e1,e2⟩
 | .int _ _,_,e=>by simpa only [R] using e
 | .bool _,_,e=>by simpa only [R] using e
 | .str _,_,e=>by simpa only [R] using e
 | .nilp,_,e=>by simpa only [R] using e
 | .fp cs off,v,e=>by simp only [R] at e ⊢;exact a4V h _ _ e
 | .nils,_,e=>by simpa only [R] using e
 | .lst sz xs,v,e=>by simp only [R] at e ⊢;exact a4V h _ _ e
 | .nilf,_,e=>by simpa only [R] using e
 | .nilm,_,e=>by simpa only [R] using e
theorem RL_mono {μ μ':Mu} {Φ Φ':Phi} (hm:μ.le μ') (h:Φ.le Φ'):∀ (ds:List D) (vs:List Value),RL μ Φ ds vs->RL μ' Φ' ds vs
 | [],_,e=>by simpa only [RL] using e
 | d::ds,vs,e=>by
   simp only [RL] at e ⊢
   obtain ⟨u,us,e1,e2,e3⟩:=e
   exact ⟨u,us,e1,a5C hm h d u e2,RL_mono hm h ds us e3⟩
end
mutual
theorem a6s {μ:Mu} {Φ:Phi}:∀ (d:D) (v:Value),RP Φ d v->R μ Φ d v
 | .int _ _,_,e=>by simpa only [RP,R] using e
 | .bool _,_,e=>by simpa only [RP,R] using e
 | .str _,_,e=>by simpa only [RP,R] using e
 | .nilp,_,e=>by simpa only [RP,R] using e
 | .fp cs off,v,e=>by simp only [R];exact e
 | .nils,_,e=>by simpa only [RP,R] using e
 | .lst sz xs,v,e=>by simp only [R];exact e
 | .agg cs,v,e=>by
   simp only [RP,R] at e ⊢
   obtain ⟨vs,e1,e2⟩:=e
   exact ⟨vs,e1,RL_of_RPL cs vs e2⟩
 | .tup cs,v,e=>by
   simp only [RP,R] at e ⊢
   obtain ⟨vs,e1,e2⟩:=e
   exact ⟨vs,e1,RL_of_RPL cs vs e2⟩
 | .nilf,_,e=>by simpa only [RP,R] using e
 | .nilm,_,e=>by simpa only [RP,R] using e
 | .undef,_,e=>by simp only [RP] at e
 | .ptr _ _,_,e=>by simp only [RP] at e
 | .arr _ _ _ _,_,e=>by simp only [RP] at e
 | .fn _ _,_,e=>by simp only [RP] at e
 | .map _,_,e=>by simp only [RP] at e
theorem RL_of_RPL {μ:Mu} {Φ:Phi}:∀ (ds:List D) (vs:List Value),RPL Φ ds vs->RL μ Φ ds vs
 | [],_,e=>by simpa only [RPL,RL] using e
 | d::ds,vs,e=>by
   simp only [RPL,RL] at e ⊢
   obtain ⟨u,us,e1,e2,e3⟩:=e
   exact ⟨u,us,e1,a6s d u e2,RL_of_RPL ds us e3⟩
end
section
variable {μ:Mu} {Φ:Phi}
theorem a1b:∀ {ds:List D} {vs:List Value},RL μ Φ ds vs->vs.length=ds.length
 | [],vs,e=>by simp only [RL] at e;simp [e]
 | d::ds,vs,e=>by
   simp only [RL] at e
   obtain ⟨u,us,rfl,_,e3⟩:=e
   simp [a1b e3]
theorem a40:∀ {ds:List D} {vs:List Value},RL μ Φ ds vs->∀ {j:Nat} {d:D},ds[j]?=some d->∃u,vs[j]?=some u/\R μ Φ d u
 | [],vs,e,j,d,h=>by simp at h
 | d::ds,vs,e,j,d',h=>by
   simp only [RL] at e
   obtain ⟨u,us,rfl,e2,e3⟩:=e
   cases j with
   | zero=>simp at h;subst h;exact ⟨u,by simp,e2⟩
   | succ j=>simp at h;obtain ⟨x,hx,hr⟩:=a40 e3 h;exact ⟨x,by simpa using hx,hr⟩
theorem a5c:∀ {ds:List D} {vs:List Value} {es:List D} {us:List Value},RL μ Φ ds vs->RL μ Φ es us->RL μ Φ (ds++es) (vs++us)
 | [],vs,es,us,e,f=>by simp only [RL] at e;subst e;simpa using f
 | d::ds,vs,es,us,e,f=>by
   simp only [RL] at e
   obtain ⟨u,ws,rfl,e2,e3⟩:=e
   simp only [List.cons_append,RL]
   exact ⟨u,ws++us,rfl,e2,a5c e3 f⟩
theorem a7Y:∀ {ds:List D} {vs:List Value} (n:Nat),RL μ Φ ds vs->RL μ Φ (ds.take n) (vs.take n)
 | [],vs,n,e=>by simp only [RL] at e;subst e;simp [RL]
 | d::ds,vs,n,e=>by
   simp only [RL] at e
   obtain ⟨u,ws,rfl,e2,e3⟩:=e
   cases n with
   | zero=>simp [RL]
   | succ n=>simp only [List.take_succ_cons,RL];exact ⟨u,_,rfl,e2,a7Y n e3⟩
theorem a5b:∀ {ds:List D} {vs:List Value} (n:Nat),RL μ Φ ds vs->RL μ Φ (ds.drop n) (vs.drop n)
 | [],vs,n,e=>by simp only [RL] at e;subst e;simp [RL]
 | d::ds,vs,n,e=>by
   cases n with
   | zero=>simpa using e
   | succ n =>
     simp only [RL] at e
     obtain ⟨u,ws,rfl,e2,e3⟩:=e
     simpa using a5b n e3
theorem c1y {d:D} {v:Value} (h:R μ Φ d v):RL μ Φ [d] [v]:=by simp only [RL];exact ⟨v,[],rfl,h,rfl⟩
theorem b15:∀ {ds:List D} {b o:Nat} (n:Nat),RC Φ ds b o->RC Φ (ds.drop n) b (o+n)
 | [],b,o,n,_=>by simp [RC]
 | d::ds,b,o,n,e=>by
   cases n with
   | zero=>simpa using e
   | succ n =>
     simp only [RC] at e
     have:=b15 n e.2
     simpa [Nat.add_assoc,Nat.add_comm 1 n] using this
theorem b3d:∀ {ds:List D} {b o:Nat} (n:Nat),RC Φ ds b o->RC Φ (ds.take n) b o
 | [],b,o,n,_=>by simp [RC]
 | d::ds,b,o,n,e=>by
   cases n with
   | zero=>simp [RC]
   | succ n =>
     simp only [RC] at e
     simp only [List.take_succ_cons,RC]
     exact ⟨e.1,b3d n e.2⟩
theorem b16:∀ {ds es:List D} {b o:Nat},RC Φ ds b o->RC Φ es b (o+ds.length)->RC Φ (ds++es) b o
 | [],es,b,o,_,f=>by simpa using f
 | d::ds,es,b,o,e,f=>by
   simp only [RC] at e
   simp only [List.cons_append,RC]
   exact ⟨e.1,b16 e.2 (by simpa [Nat.add_assoc,Nat.add_comm 1 ds.length] using f)⟩
theorem b2G:∀ {ds:List D} {b o:Nat},RC Φ ds b o->ds.all M8=true
 | [],_,_,_=>rfl
 | d::ds,b,o,e=>by
   simp only [RC] at e
   simp only [List.all_cons,Bool.and_eq_true]
   exact ⟨e.1.1,b2G e.2⟩
theorem a8w:∀ {ds:List D} {b o:Nat},RC Φ ds b o->∃vs,RPL Φ ds vs/\∀j u,vs[j]?=some u->Φ.cell b (o+j)=some u
 | [],b,o,_=>⟨[],by simp [RPL],by simp⟩
 | d::ds,b,o,e=>by
   simp only [RC] at e
   obtain ⟨⟨_,u,e1,e2⟩,e3⟩:=e
   obtain ⟨vs,h1,h2⟩:=a8w e3
   refine ⟨u::vs,by simp only [RPL];exact ⟨u,vs,rfl,e2,h1⟩,?_⟩
   intro j x hx
   cases j with
   | zero=>simp at hx;subst hx;exact e1
   | succ j=>simp at hx;have:=h2 j x hx;rw [<- this];congr 1;omega
theorem b2p {sz:Nat}:∀ {xs:List (List D)} {b o:Nat},RG Φ sz xs b o->∀ {i:Nat} {g:List D},xs[i]?=some g->g.length=sz/\RC Φ g b (o+i*sz)
 | [],b,o,e,j,d,h=>by simp at h
 | x::xs,b,o,e,i,g,h=>by
   simp only [RG] at e
   cases i with
   | zero=>simp at h;subst h;exact ⟨e.1,by simpa using e.2.1⟩
   | succ i =>
     simp at h
     have:=b2p e.2.2 h
     refine ⟨this.1,?_⟩
     have h2:=this.2
     have ee:o+sz+i*sz=o+(i+1)*sz:=by rw [Nat.add_mul];omega
     rwa [ee] at h2
theorem b14 {sz:Nat}:∀ {xs:List (List D)} {b o:Nat} (n:Nat),n<=xs.length->RG Φ sz xs b o->RG Φ sz (xs.drop n) b (o+n*sz)
 | [],b,o,n,hn,_=>by simp [RG]
 | x::xs,b,o,n,hn,e=>by
   cases n with
   | zero=>simpa using e
   | succ n =>
     simp only [RG] at e
     have h2:=b14 n (by simpa using hn) e.2.2
     have ee:o+sz+n*sz=o+(n+1)*sz:=by rw [Nat.add_mul];omega
     rw [ee] at h2
     simpa using h2
theorem b4F {sz:Nat}:∀ {xs:List (List D)} {b o:Nat} (n:Nat),RG Φ sz xs b o->RG Φ sz (xs.take n) b o
 | [],b,o,n,_=>by simp [RG]
 | x::xs,b,o,n,e=>by
   cases n with
   | zero=>simp [RG]
   | succ n =>
     simp only [RG] at e
     simp only [List.take_succ_cons,RG]
     exact ⟨e.1,e.2.1,b4F n e.2.2⟩
theorem a5P {sz:Nat}:∀ {xs:List (List D)} {b o:Nat},RG Φ sz xs b o->RC Φ xs.flatten b o/\xs.flatten.length=xs.length*sz
 | [],b,o,_=>by simp [RC]
 | x::xs,b,o,e=>by
   simp only [RG] at e
   have:=a5P e.2.2
   refine ⟨?_,?_⟩
   ·simp only [List.flatten_cons]
    exact b16 e.2.1 (by rw [e.1];exact this.1)
   ·simp only [List.flatten_cons,List.length_append,this.2,e.1,List.length_cons,Nat.add_mul]
    omega
end
end Go.V
namespace Go.V
def RKV (μ:Mu) (Φ:Phi):List (D×D)->List MapEntry->Prop
 | [],es=>es=[]
 | (k,v)::r,es=>∃e l,es=e::l/\R μ Φ k e.key/\R μ Φ v e.val/\RKV μ Φ r l
theorem b2U {μ μ':Mu} {Φ Φ':Phi} (hm:μ.le μ') (h:Φ.le Φ'):∀ (ds:List (D×D)) (es:List MapEntry),RKV μ Φ ds es->RKV μ' Φ' ds es
 | [],_,e=>by simpa only [RKV] using e
 | (k,v)::r,es,e=>by
   simp only [RKV] at e ⊢
   obtain ⟨x,l,e1,e2,e3,e4⟩:=e
   exact ⟨x,l,e1,a5C hm h k _ e2,a5C hm h v _ e3,b2U hm h r l e4⟩
def a0E (μ:Mu) (Φ:Phi) (w:World) (b o z:Nat):O3->Prop
 | .cells cs=>∃ (a:Array Value) (e:TypeId) (vs tail:List Value),w.heap[b]?=some (.cells a e (0,0))/\a.size=z/\a.toList.drop o=vs++tail/\RL μ Φ cs vs/\cs.all M8=true
 | .map kvs=>∃es clock,w.heap[b]?=some (.map es clock)/\RKV μ Φ kvs es.toList
structure Sim (μ:Mu) (Φ:Phi) (g:P8) (w:World):Prop where
 phi:∀b ob,Φ b=some ob->w.heap[b]?=some ob
 obj:∀id ob,g id=some ob->∃b o z,μ id=some (b,o,z)/\a0E μ Φ w b o z ob/\Φ b=none
 inj:∀id id' b o z o' z',g id≠none->g id'≠none->μ id=some (b,o,z)->μ id'=some (b,o',z')->id=id'
def a18 (μ:Mu) (g:P8) (b:Nat):Prop:=∃id o z,g id≠none/\μ id=some (b,o,z)
structure Evo (μ:Mu) (Φ:Phi) (g:P8) (w:World) (μ':Mu) (Φ':Phi) (g':P8) (w':World) (n0 n1:Nat):Prop where
 mu:μ.le μ'
 muOut:∀id,id<n0∨n1<=id->μ' id=μ id
 phi:Φ.le Φ'
 os:w'.os=w.os
 tape:w'.tape=w.tape
 output:w'.output=w.output
 size:w.heap.size<=w'.heap.size
 keep:∀b,b<w.heap.size->¬ a18 μ g b->w'.heap[b]?=w.heap[b]?
 phiNew:∀b ob,Φ' b=some ob->Φ b=some ob∨w.heap.size<=b
 ownNew:∀b,a18 μ' g' b->a18 μ g b∨w.heap.size<=b
theorem Evo.refl (μ:Mu) (Φ:Phi) (g:P8) (w:World) (n:Nat):Evo μ Φ g w μ Φ g w n n :=
 ⟨Mu.le_refl _,fun _ _=>rfl,Phi.le_refl _,rfl,rfl,rfl,Nat.le_refl _,fun _ _ _=>rfl,fun _ _ h=>.inl h,fun _ h=>.inl h⟩
theorem Evo.trans {μ μ1 μ2:Mu} {Φ Φ1 Φ2:Phi} {g g1 g2:P8} {w w1 w2:World} {n0 n1 n2:Nat} (h01:n0<=n1) (h12:n1<=n2)
 (h:Evo μ Φ g w μ1 Φ1 g1 w1 n0 n1) (k:Evo μ1 Φ1 g1 w1 μ2 Φ2 g2 w2 n1 n2):Evo μ Φ g w μ2 Φ2 g2 w2 n0 n2 where
 mu:=Mu.le_trans h.mu k.mu
 muOut id hid:=by rw [k.muOut id (by omega),h.muOut id (by omega)]
 phi:=Phi.le_trans h.phi k.phi
 os:=k.os.trans h.os
 tape:=k.tape.trans h.tape
 output:=k.output.trans h.output
 size:=Nat.le_trans h.size k.size
 keep b hb hn:=by
  rw [k.keep b (Nat.lt_of_lt_of_le hb h.size) (fun ho=>by rcases h.ownNew b ho with h1 | h1;exact hn h1;omega),h.keep b hb hn]
 phiNew b ob hb:=by
  rcases k.phiNew b ob hb with h1 | h1
  ·exact h.phiNew b ob h1
  ·exact .inr (Nat.le_trans h.size h1)
 ownNew b hb:=by
  rcases k.ownNew b hb with h1 | h1
  ·exact h.ownNew b h1
  ·exact .inr (Nat.le_trans h.size h1)
theorem Evo.widen {μ μ1:Mu} {Φ Φ1:Phi} {g g1:P8} {w w1:World} {n0 n1 m0 m1:Nat} (h0:m0<=n0) (h1:n1<=m1)
 (h:Evo μ Φ g w μ1 Φ1 g1 w1 n0 n1):Evo μ Φ g w μ1 Φ1 g1 w1 m0 m1 :=
 { h with muOut:=fun id hid=>h.muOut id (by omega) }
def upd (g:P8) (id:Nat) (o:Option O3):P8:=fun i=>if i=id then o else g i
def a0n (μ:Mu) (id:Nat) (l:Nat×Nat×Nat):Mu:=fun i=>if i=id then some l else μ i
theorem a4X {μ:Mu} {id:Nat} {l:Nat×Nat×Nat} (h:μ id=none):μ.le (a0n μ id l):=by
 intro i x hx
 unfold a0n
 by_cases e:i=id
 ·subst e;rw [h] at hx;cases hx
 ·rw [if_neg e];exact hx
theorem a5F {μ μ':Mu} {Φ Φ':Phi} {w:World} {b o z:Nat} {ob:O3} (hm:μ.le μ') (h:Φ.le Φ') (e:a0E μ Φ w b o z ob):a0E μ' Φ' w b o z ob:=by
 cases ob with
 | cells cs =>
   obtain ⟨a,t,vs,tail,e1,e2,e3,e4⟩:=e
   exact ⟨a,t,vs,tail,e1,e2,e3,RL_mono hm h _ _ e4.1,e4.2⟩
 | map kvs =>
   obtain ⟨es,clock,e1,e2⟩:=e
   exact ⟨es,clock,e1,b2U hm h _ _ e2⟩
theorem a6F {μ:Mu} {Φ:Phi} {w w':World} {b o z:Nat} {ob:O3} (hw:w'.heap[b]?=w.heap[b]?) (e:a0E μ Φ w b o z ob):a0E μ Φ w' b o z ob:=by
 cases ob with
 | cells cs =>
   obtain ⟨a,t,vs,tail,e1,e2⟩:=e
   exact ⟨a,t,vs,tail,by rw [hw];exact e1,e2⟩
 | map kvs =>
   obtain ⟨es,clock,e1,e2⟩:=e
   exact ⟨es,clock,by rw [hw];exact e1,e2⟩
theorem a0E.lt {μ:Mu} {Φ:Phi} {w:World} {b o z:Nat} {ob:O3} (e:a0E μ Φ w b o z ob):b<w.heap.size:=by
 cases ob with
 | cells cs =>
   obtain ⟨a,t,vs,tail,e1,_⟩:=e
   exact (Array.getElem?_eq_some_iff.1 e1).1
 | map kvs =>
   obtain ⟨es,clock,e1,_⟩:=e
   exact (Array.getElem?_eq_some_iff.1 e1).1
section
variable {μ:Mu} {Φ:Phi} {g:P8} {w:World}
theorem Sim.owned_lt (h:Sim μ Φ g w) {b:Nat} (ho:a18 μ g b):b<w.heap.size:=by
 obtain ⟨id,o,z,h1,h2⟩:=ho
 cases hg:g id with
 | none=>exact absurd hg h1
 | some ob =>
   obtain ⟨b',o',z',e1,e2,_⟩:=h.obj id ob hg
   rw [h2] at e1
   cases e1
   exact e2.lt
theorem Sim.phi_lt (h:Sim μ Φ g w) {b:Nat} {ob:Obj} (ho:Φ b=some ob):b<w.heap.size :=
 (Array.getElem?_eq_some_iff.1 (h.phi b ob ho)).1
theorem Sim.fewer (h:Sim μ Φ g w) {g':P8} (hg:∀id ob,g' id=some ob->g id=some ob):Sim μ Φ g' w:=by
 have hne:∀id,g' id≠none->g id≠none:=by
  intro id h1 h2
  cases hx:g' id with
  | none=>exact h1 hx
  | some ob=>rw [hg id ob hx] at h2;cases h2
 exact ⟨h.phi,fun id ob e=>h.obj id ob (hg id ob e),fun id id' b o z o' z' h1 h2=>h.inj id id' b o z o' z' (hne id h1) (hne id' h2)⟩
theorem Sim.world (h:Sim μ Φ g w) {w':World} (hp:∀b ob,Φ b=some ob->w'.heap[b]?=w.heap[b]?) (ho:∀b,a18 μ g b->w'.heap[b]?=w.heap[b]?):Sim μ Φ g w' where
 phi b ob e:=by rw [hp b ob e];exact h.phi b ob e
 obj id ob e:=by
  obtain ⟨b,o,z,e1,e2,e3⟩:=h.obj id ob e
  exact ⟨b,o,z,e1,a6F (ho b ⟨id,o,z,by rw [e];simp,e1⟩) e2,e3⟩
 inj:=h.inj
theorem Sim.drew (h:Sim μ Φ g w) (n:Nat):Sim μ Φ g { w with drawn:=n }:=h.world (fun _ _ _=>rfl) (fun _ _=>rfl)
theorem Sim.congr (h:Sim μ Φ g w) {g':P8} (e:∀i,g' i=g i):Sim μ Φ g' w:=by
 have:g'=g:=funext e
 rw [this];exact h
theorem Sim.mu (h:Sim μ Φ g w) {μ':Mu} (hm:μ.le μ'):Sim μ' Φ g w where
 phi:=h.phi
 obj id ob e:=by
  obtain ⟨b,o,z,e1,e2,e3⟩:=h.obj id ob e
  exact ⟨b,o,z,hm _ _ e1,a5F hm (Phi.le_refl _) e2,e3⟩
 inj id id' b o z o' z' h1 h2 e1 e2:=by
  cases hg:g id with
  | none=>exact absurd hg h1
  | some ob =>
    cases hg':g id' with
    | none=>exact absurd hg' h2
    | some ob' =>
      obtain ⟨b1,o1,z1,f1,_⟩:=h.obj id ob hg
      obtain ⟨b2,o2,z2,f2,_⟩:=h.obj id' ob' hg'
      have g1:=hm _ _ f1
      have g2:=hm _ _ f2
      rw [e1] at g1;rw [e2] at g2
      cases g1;cases g2
      exact h.inj id id' _ _ _ _ _ h1 h2 f1 f2
theorem Sim.push (h:Sim μ Φ g w) {id:Nat} (hid:μ id=none) (hg:g id=none) {ob:Obj} {vo:O3} {z:Nat}
 (hob:a0E (a0n μ id (w.heap.size,0,z)) Φ (w.alloc ob) w.heap.size 0 z vo) :
 Sim (a0n μ id (w.heap.size,0,z)) Φ (upd g id (some vo)) (w.alloc ob) /\
 Evo μ Φ g w (a0n μ id (w.heap.size,0,z)) Φ (upd g id (some vo)) (w.alloc ob) id (id+1):=by
 have hle:=a4X (l:=(w.heap.size,0,z)) hid
 have hal:∀k,k<w.heap.size->(w.alloc ob).heap[k]?=w.heap[k]?:=fun k hk=>RowKit.Below.heap_alloc w ob k hk
 have hid2:a0n μ id (w.heap.size,0,z) id=some (w.heap.size,0,z):=by simp [a0n]
 have hid3:∀i,i≠id->a0n μ id (w.heap.size,0,z) i=μ i:=fun i hi=>by simp [a0n,hi]
 have hg2:∀i,i≠id->upd g id (some vo) i=g i:=fun i hi=>by simp [upd,hi]
 have hsz:w.heap.size<=(w.alloc ob).heap.size:=by simp
 refine ⟨⟨?_,?_,?_⟩,⟨hle,?_,Phi.le_refl _,rfl,rfl,rfl,hsz,fun b hb _=>hal b hb,fun _ _ h=>.inl h,?_⟩⟩
 ·intro b o e
  rw [hal b (h.phi_lt e)]
  exact h.phi b o e
 ·intro i o e
  by_cases hi:i=id
  ·subst hi
   simp only [upd,if_true] at e
   cases e
   refine ⟨_,_,_,hid2,hob,?_⟩
   cases hp:Φ w.heap.size with
   | none=>rfl
   | some x=>have:=h.phi_lt hp;omega
  ·rw [hg2 i hi] at e
   obtain ⟨b,o2,z2,e1,e2,e3⟩:=h.obj i o e
   exact ⟨b,o2,z2,by rw [hid3 i hi];exact e1,a6F (hal b e2.lt) (a5F hle (Phi.le_refl _) e2),e3⟩
 ·intro i i' b o1 z1 o2 z2 h1 h2 e1 e2
  by_cases hi:i=id
  ·subst hi
   by_cases hi':i'=i
   ·exact hi'.symm
   ·rw [hid2] at e1
    cases e1
    rw [hid3 i' hi'] at e2
    rw [hg2 i' hi'] at h2
    have:=h.owned_lt ⟨i',_,_,h2,e2⟩
    omega
  ·by_cases hi':i'=id
   ·subst hi'
    rw [hid2] at e2
    cases e2
    rw [hid3 i hi] at e1
    rw [hg2 i hi] at h1
    have:=h.owned_lt ⟨i,_,_,h1,e1⟩
    omega
   ·rw [hid3 i hi] at e1
    rw [hid3 i' hi'] at e2
    rw [hg2 i hi] at h1
    rw [hg2 i' hi'] at h2
    exact h.inj i i' _ _ _ _ _ h1 h2 e1 e2
 ·intro i hi
  exact hid3 i (by omega)
 ·rintro b ⟨i,o2,z2,h1,h2⟩
  by_cases hi:i=id
  ·subst hi
   rw [hid2] at h2
   cases h2
   exact .inr (Nat.le_refl _)
  ·rw [hid3 i hi] at h2
   rw [hg2 i hi] at h1
   exact .inl ⟨i,o2,z2,h1,h2⟩
structure a1W (b:Nat) (w w':World):Prop where
 os:w'.os=w.os
 tape:w'.tape=w.tape
 output:w'.output=w.output
 size:w'.heap.size=w.heap.size
 block:∀k,k≠b->w'.heap[k]?=w.heap[k]?
theorem a1W.refl (b:Nat) (w:World):a1W b w w:=⟨rfl,rfl,rfl,rfl,fun _ _=>rfl⟩
theorem a1W.trans {b:Nat} {w w1 w2:World} (h:a1W b w w1) (k:a1W b w1 w2):a1W b w w2 :=
 ⟨k.os.trans h.os,k.tape.trans h.tape,k.output.trans h.output,k.size.trans h.size,fun i hi=>(k.block i hi).trans (h.block i hi)⟩
theorem Sim.write (h:Sim μ Φ g w) {id b o z:Nat} {vo vo':O3} (hg:g id=some vo) (hid:μ id=some (b,o,z)) {w':World} (hw:a1W b w w')
 (hob:a0E μ Φ w' b o z vo') (n:Nat):Sim μ Φ (upd g id (some vo')) w'/\Evo μ Φ g w μ Φ (upd g id (some vo')) w' n n:=by
 have hown:a18 μ g b:=⟨id,o,z,by rw [hg];simp,hid⟩
 have hpb:Φ b=none:=by
  obtain ⟨b',o',z',e1,_,e3⟩:=h.obj id vo hg
  rw [hid] at e1
  cases e1
  exact e3
 refine ⟨⟨?_,?_,?_⟩,⟨Mu.le_refl _,fun _ _=>rfl,Phi.le_refl _,hw.os,hw.tape,hw.output,by rw [hw.size];exact Nat.le_refl _,?_,fun _ _ h=>.inl h,?_⟩⟩
 ·intro b' ob e
  rw [hw.block b' (fun e'=>by subst e';rw [hpb] at e;cases e)]
  exact h.phi b' ob e
 ·intro i ob e
  by_cases hi:i=id
  ·subst hi
   simp only [upd,if_true] at e
   cases e
   exact ⟨b,o,z,hid,hob,hpb⟩
  ·simp only [upd,hi,if_false] at e
   obtain ⟨b',o',z',e1,e2,e3⟩:=h.obj i ob e
   refine ⟨b',o',z',e1,a6F (hw.block b' ?_) e2,e3⟩
   intro e'
   subst e'
   exact hi (h.inj i id _ _ _ _ _ (by rw [e];simp) (by rw [hg];simp) e1 hid)
 ·intro i i' b1 o1 z1 o2 z2 h1 h2
  have f:∀j,upd g id (some vo') j≠none->g j≠none:=by
   intro j hj
   by_cases hj':j=id
   ·subst hj';rw [hg];simp
   ·simpa [upd,hj'] using hj
  exact h.inj i i' b1 o1 z1 o2 z2 (f i h1) (f i' h2)
 ·intro b' _ hn
  exact hw.block b' (fun e=>by subst e;exact hn hown)
 ·rintro b' ⟨i,o2,z2,h1,h2⟩
  refine .inl ⟨i,o2,z2,?_,h2⟩
  by_cases hj':i=id
  ·subst hj';rw [hg];simp
  ·simpa [upd,hj'] using h1
end
theorem a2k (b o n:Nat):(⟨b,o,none⟩:Addr).add n=⟨b,o+n,none⟩:=by
 unfold Addr.add
 split
 ·rename_i h;subst h;rfl
 ·rfl
theorem a6W {w:World} {b:Nat} {a:Array Value} {e:TypeId} {f:Nat×Nat} (h:w.heap[b]?=some (.cells a e f)) (o:Nat):w.cell? ⟨b,o,none⟩=a[o]?:=by
 simp [World.cell?,h]
theorem Sim.cellP {μ:Mu} {Φ:Phi} {g:P8} {w:World} (h:Sim μ Φ g w) {b o:Nat} {u:Value} (e:Φ.cell b o=some u):w.cell? ⟨b,o,none⟩=some u:=by
 unfold Phi.cell at e
 cases hb:Φ b with
 | none=>simp [hb] at e
 | some ob =>
   rw [hb] at e
   cases ob with
   | cells c t f =>
     have:=h.phi b _ hb
     rw [a6W this]
     exact e
   | _=>simp at e
theorem a0E.cell {μ:Mu} {Φ:Phi} {w:World} {b o z:Nat} {cs:List D} (h:a0E μ Φ w b o z (.cells cs)) {j:Nat} {d:D} (hj:cs[j]?=some d) :
 ∃u,w.cell? ⟨b,o+j,none⟩=some u/\R μ Φ d u:=by
 obtain ⟨a,e,vs,tail,h1,h2,h3,h4,_⟩:=h
 obtain ⟨u,hu,hr⟩:=a40 h4 hj
 refine ⟨u,?_,hr⟩
 rw [a6W h1]
 have h5:(a.toList.drop o)[j]?=some u:=by
  rw [h3,List.getElem?_append_left (List.getElem?_eq_some_iff.1 hu).1]
  exact hu
 rw [List.getElem?_drop,Array.getElem?_toList] at h5
 exact h5
theorem b26 (P:Program) (w:World) (b o:Nat):∀ (us:List Value) (i:Nat) (acc:Array Value),
 (∀j u,us[j]?=some u->w.cell? ⟨b,o+i+j,none⟩=some u)->(loadCellsFrom ⟨b,o,none⟩ i us.length acc).run P w=.ok (acc++us.toArray) w
 | [],i,acc,_=>by simp [loadCellsFrom]
 | u::us,i,acc,h=>by
   have h0:=h 0 u (by simp)
   simp only [Nat.add_zero] at h0
   have ih:=b26 P w b o us (i+1) (acc.push u) (fun j x hx=>by
    have:=h (j+1) x (by simpa using hx)
    rw [<- this]
    congr 2
    omega)
   simp only [List.length_cons,loadCellsFrom,Sem.run_bind,run_load,a2k,h0,Result.andThen_ok,ih]
   simp
theorem a96 (P:Program) (w:World) (b o:Nat) (us:List Value) (h:∀j u,us[j]?=some u->w.cell? ⟨b,o+j,none⟩=some u) :
 (loadCells ⟨b,o,none⟩ us.length).run P w=.ok us.toArray w:=by
 have:=b26 P w b o us 0 #[] (by simpa using h)
 simpa [loadCells] using this
theorem b6I {w:World} {b:Nat} {a:Array Value} {e:TypeId} (h:w.heap[b]?=some (.cells a e (0,0))) (o:Nat):w.frozen? ⟨b,o,none⟩=false:=by
 simp [World.frozen?,h]
theorem c1s {w:World} {b:Nat} {a:Array Value} {e:TypeId} (h:w.heap[b]?=some (.cells a e (0,0))) (o:Nat) (v:Value) :
 (w.setCell ⟨b,o,none⟩ v).heap[b]?=some (.cells (a.setIfInBounds o v) e (0,0)):=by
 simp [World.setCell,Array.getElem?_modify,h]
theorem c5t (w:World) (b o:Nat) (v:Value):a1W b w (w.setCell ⟨b,o,none⟩ v) :=
 ⟨rfl,rfl,rfl,by simp [World.setCell],fun k hk=>RowKit.Below.heap_setCell _ _ _ _ hk⟩
def a3Z:Value->Bool
 | .agg _ | .tuple _=>false
 | _=>true
theorem a8K (P:Program) (b k:Nat) (e:TypeId):∀ (vs:List Value) (i:Nat) (w:World) (a:Array Value),w.heap[b]?=some (.cells a e (0,0)) ->
 (∀v∈vs,a3Z v=true)->k+i+vs.length<=a.size ->
 ∃w' a',(storeCells ⟨b,k,none⟩ vs i).run P w=.ok () w'/\a1W b w w'/\w'.heap[b]?=some (.cells a' e (0,0))/\a'.size=a.size /\
  a'.toList=a.toList.take (k+i)++vs++a.toList.drop (k+i+vs.length)
 | [],i,w,a,h,_,_=>⟨w,a,by simp [storeCells],a1W.refl _ _,h,rfl,by simp⟩
 | v::vs,i,w,a,h,hv,hs=>by
   have hone:v.oneCell'=true:=by
    have:=hv v (by simp)
    cases v<;>simp_all [a3Z,Value.oneCell']
   simp only [List.length_cons] at hs
   have hlt:k+i<a.size:=by omega
   have hc:w.cell? ⟨b,k+i,none⟩=some a[k+i]:=by
    rw [a6W h];simp [hlt]
   have hb1:=c1s h (k+i) v
   obtain ⟨w',a',r1,r2,r3,r4,r5⟩:=a8K P b k e vs (i+1) (w.setCell ⟨b,k+i,none⟩ v) _ hb1 (fun x hx=>hv x (by simp [hx])) (by simp;omega)
   refine ⟨w',a',?_,(c5t w b (k+i) v).trans r2,r3,by simpa using r4,?_⟩
   ·simp only [storeCells,Sem.run_bind,a2k,run_store P w _ v .plain hone,hc,b6I h,Bool.false_eq_true,if_false,Result.andThen_ok,r1]
   ·rw [r5]
    simp only [Array.toList_setIfInBounds,List.length_cons]
    have e1:k+(i+1)=(k+i)+1:=by omega
    rw [e1,List.take_succ_eq_append_getElem (by simp;omega)]
    have e2:k+i+1+vs.length=k+i+(vs.length+1):=by omega
    rw [e2,List.take_set_of_le (Nat.le_refl _),List.drop_set_of_lt (by omega)]
    simp
end Go.V
namespace Go.V
def a3L:Value->Option D
 | .int k n=>some (.int k n)
 | .bool b=>some (.bool b)
 | .string s=>some (.str s)
 | .pointer none=>some .nilp
 | .slice none 0 0=>some .nils
 | .map none=>some .nilm
 | .nilFunc=>some .nilf
 | _=>none
def a3m:List Value->Option (List D)
 | []=>some []
 | v::r=>match a3L v,a3m r with
   | some d,some l=>some (d::l)
   | _,_=>none
def ofV:Value->Option D
 | .agg cs=>(a3m cs.toList).map .agg
 | v=>a3L v
theorem a9y {Φ:Phi} {v:Value} {d:D} (h:a3L v=some d):RP Φ d v:=by
 unfold a3L at h
 split at h<;>simp at h<;>subst h<;>simp [RP]
theorem a8Y {Φ:Phi}:∀ {vs:List Value} {ds:List D},a3m vs=some ds->RPL Φ ds vs
 | [],ds,h=>by simp [a3m] at h;subst h;simp [RPL]
 | v::vs,ds,h=>by
   simp only [a3m] at h
   split at h
   ·rename_i d l h1 h2
    simp at h;subst h
    simp only [RPL]
    exact ⟨v,vs,rfl,a9y h1,a8Y h2⟩
   ·simp at h
theorem b2Z {Φ:Phi} {v:Value} {d:D} (h:ofV v=some d):RP Φ d v:=by
 unfold ofV at h
 split at h
 ·rename_i cs
  cases hl:a3m cs.toList with
  | none=>simp [hl] at h
  | some l =>
    simp [hl] at h;subst h
    simp only [RP]
    exact ⟨cs.toList,by simp,a8Y hl⟩
 ·exact a9y h
def T0:Operand->Option Opd
 | .tmp t=>some (.tmp t)
 | .const v=>(ofV v).map .cst
 | .func f=>some (.cst (.fn f []))
 | .global _=>none
def a3T:List Operand->Option (List Opd)
 | []=>some []
 | x::r=>match T0 x,a3T r with
   | some y,some l=>some (y::l)
   | _,_=>none
def a0d (μ:Mu) (Φ:Phi) (env:Env) (a:Act):Prop:=∀t,R μ Φ (env.get t) (a.tmps.getD t undef)
theorem a0d.mono {μ μ':Mu} {Φ Φ':Phi} {env:Env} {a:Act} (hm:μ.le μ') (h:Φ.le Φ') (e:a0d μ Φ env a):a0d μ' Φ' env a :=
 fun t=>a5C hm h _ _ (e t)
theorem S7 {μ:Mu} {Φ:Phi} {env:Env} {a:Act} (he:a0d μ Φ env a) {x:Operand} {y:Opd} (h:T0 x=some y):R μ Φ (env.ev y) (a.eval x):=by
 cases x with
 | tmp t=>simp [T0] at h;subst h;exact he t
 | const v =>
   simp only [T0] at h
   cases hv:ofV v with
   | none=>simp [hv] at h
   | some d=>simp [hv] at h;subst h;exact a6s _ _ (b2Z hv)
 | global g=>simp [T0] at h
 | func f =>
   simp [T0] at h;subst h
   simp only [Env.ev,Act.eval,R]
   exact ⟨[],rfl,by simp [RL]⟩
theorem a6g {μ:Mu} {Φ:Phi} {env:Env} {a:Act} (he:a0d μ Φ env a):∀ {xs:List Operand} {ys:List Opd},a3T xs=some ys->RL μ Φ (env.evL ys) (xs.map a.eval)
 | [],ys,h=>by simp [a3T] at h;subst h;simp [Env.evL,RL]
 | x::xs,ys,h=>by
   simp only [a3T] at h
   split at h
   ·rename_i y l h1 h2
    simp at h;subst h
    simp only [Env.evL,List.map_cons,RL]
    exact ⟨_,_,rfl,S7 he h1,a6g he h2⟩
   ·simp at h
def Z2 (P:Program) (t:TypeId):Option Nat:=(P.info? t).map (·.size)
def b0K (P:Program) (t:TypeId):Option Bool :=
 match P.underlying t with
 | some (.struct _) | some (.array _ _)=>some true
 | some _=>some false
 | none=>none
def a3R (P:Program) (t:TypeId):Option (Option Nat) :=
 match b0K P t,Z2 P t with
 | some true,some n=>some (some n)
 | some false,some _=>some none
 | _,_=>none
def a3J (P:Program) (t:TypeId):Option (List D) :=
 match P.info? t with
 | some i=>match i.zero with
   | some v=>(ofV v).map cellsOf
   | none=>none
 | none=>none
def b2C (P:Program) (t:TypeId):Option D :=
 match P.info? t with
 | some i=>match i.zero with
   | some v=>a3L v
   | none=>none
 | none=>none
def a9b (P:Program) (t:TypeId) (i:Operand):Option Nat :=
 match P.underlying t,i with
 | some (.array len e),.const (.int _ n)=>match Z2 P e with
   | some (s+1)=>if 0<=n/\n<len then some (n.toNat*(s+1)) else none
   | _=>none
 | _,_=>none
theorem b6s {P:Program} {t:TypeId} {i:Operand} {off:Nat} (h:a9b P t i=some off):∃len e k n s,P.underlying t=some (.array len e)/\i=.const (.int k n)/\Z2 P e=some s/\(0<=n/\n<(len:Int))/\off=n.toNat*s:=by
 unfold a9b at h
 split at h
 ·rename_i len e k n hu
  split at h
  ·rename_i s hs
   split at h
   ·rename_i hb
    cases h
    exact ⟨len,e,k,n,s+1,hu,rfl,hs,hb,rfl⟩
   ·cases h
  ·cases h
 ·cases h
def a2K (P:Program) (t:TypeId):Option TypeId :=
 match P.underlying t with
 | some (.slice e)=>some e
 | _=>none
def a70 (P:Program) (t:TypeId) (f:Nat):Option Field :=
 match P.underlying t with
 | some (.struct fs)=>fs[f]?
 | _=>none
def a4y (P:Program) (t:TypeId) (y:Operand):Option NK :=
 match y,P.underlying t with
 | .const (.pointer none),some (.pointer _)=>some .p
 | .const (.slice none 0 0),some (.slice _)=>some .s
 | .const (.map none),some (.map _ _)=>some .m
 | .const .nilFunc,some (.func _ _ _)=>some .f
 | _,_=>none
def a6L (P:Program) (t:TypeId):Bool :=
 match P.underlying t with
 | some .bool=>true
 | _=>false
def a9G (P:Program) (t:TypeId):Bool :=
 match P.underlying t with
 | some (.int _) | some .string=>true
 | _=>false
def a36 (P:Program) (t:TypeId):Option SK :=
 match P.underlying t with
 | some (.int _)=>some .i
 | some .bool=>some .b
 | some .string=>some .s
 | _=>none
def a2V (P:Program):List Field->Nat->Option (List SK)
 | [],_=>some []
 | f::r,n=>if f.offset=n/\f.name≠"_" then
    match a36 P f.type,a2V P r (n+1) with
    | some k,some l=>some (k::l)
    | _,_=>none
   else none
def a1i (P:Program) (t:TypeId):Option (List SK) :=
 match P.underlying t with
 | some (.struct fs)=>if !P.stoodInHeld t&&!P.eqGuardType P.depth t then a2V P fs.toList 0 else none
 | _=>none
def a5t (P:Program) (fs:Array Field):List (Nat×Operand)->Option (List (Nat×Nat×Opd))
 | []=>some []
 | (i,x)::r=>match fs[i]?,T0 x,a5t P fs r with
   | some f,some y,some l=>match Z2 P f.type with
     | some n=>some ((f.offset,n,y)::l)
     | none=>none
   | _,_,_=>none
def a5Z:List (Nat×Operand)->Option (List (Nat×Opd))
 | []=>some []
 | (i,x)::r=>match T0 x,a5Z r with
   | some y,some l=>some ((i,y)::l)
   | _,_=>none
def b2H (P:Program) (fs:Array Field):Bool:=fs.toList.all fun f=>(Z2 P f.type).isSome
def a6e:Option Operand->Option (Option Opd)
 | none=>some none
 | some x=>(T0 x).map some
def a9x (P:Program) (op:BinOp) (t:TypeId) (x y:Operand):Option POp :=
 match T0 x,T0 y with
 | some a,some b =>
   match op with
   | .eql =>
     if a9G P t then some (.bin .eql a b)
     else if a6L P t then some (.eqB false a b)
     else match a1i P t with
      | some ks=>some (.eqAgg false ks a b)
      | none=>(a4y P t y).map fun k=>.eqNil false k a
   | .neq =>
     if a9G P t then some (.bin .neq a b)
     else if a6L P t then some (.eqB true a b)
     else match a1i P t with
      | some ks=>some (.eqAgg true ks a b)
      | none=>(a4y P t y).map fun k=>.eqNil true k a
   | op=>some (.bin op a b)
 | _,_=>none
def a4W (P:Program) (b:Builtin) (args:List Operand) (types:List TypeId):Option VOp :=
 match b,args with
 | .len,[x]=>match T0 x,types with
   | some y,[t]=>match P.underlying t with
     | some (.slice _)=>some (.p (.len false y))
     | some .string=>some (.p (.len true y))
     | _=>none
   | _,_=>none
 | .min,x::r=>match T0 x,a3T r with
   | some y,some l=>some (.p (.minmax false y l))
   | _,_=>none
 | .max,x::r=>match T0 x,a3T r with
   | some y,some l=>some (.p (.minmax true y l))
   | _,_=>none
 | .append,[s,x]=>match T0 s,T0 x,types with
   | some s,some x,[t,u]=>match a2K P t,a2K P u with
     | some e,some _=>match P.info? e,a3J P e with
       | some i,some z=>if i.size=0∨z.length≠i.size then none else some (.m (.append i.size i.bytes s x))
       | _,_=>none
     | _,_=>none
   | _,_,_=>none
 | _,_=>none
def a1f (P:Program) (md:FuncId->a0a) (o:Oper):Option VOp :=
 match o.op with
 | .move x=>(T0 x).map fun y=>.p (.mov y)
 | .assign x=>(T0 x).map fun y=>.p (.mov y)
 | .pick c a b=>match T0 c,T0 a,T0 b with
   | some c,some a,some b=>some (.p (.pick c a b))
   | _,_,_=>none
 | .nilCheck x=>(T0 x).map fun y=>.p (.nilchk y)
 | .binOp op t x y _=>(a9x P op t x y).map .p
 | .unOp op _ x=>(T0 x).map fun y=>.p (.un op y)
 | .convert src dst x=>match T0 x,P.underlying src,P.underlying dst with
   | some y,some (.int _),some (.int k)=>some (.p (.conv k y))
   | some y,some (.slice e),some .string=>match P.underlying e with
     | some (.int .u8)=>some (.r (.b2s y))
     | _=>none
   | _,_,_=>none
 | .build t parts=>match P.underlying t,a3J P t with
   | some (.struct fs),some z=>match a5t P fs parts.toList with
     | some l=>if b2H P fs then some (.p (.build z l)) else none
     | none=>none
   | _,_=>none
 | .fieldAddr t x f=>match T0 x,a70 P t f with
   | some y,some fd=>match Z2 P fd.type with
     | some (_+1)=>some (.p (.fieldA fd.offset y))
     | _=>none
   | _,_=>none
 | .field t x f=>match T0 x,a70 P t f with
   | some y,some fd=>match a3R P fd.type with
     | some n=>some (.p (.field n fd.offset y))
     | none=>none
   | _,_=>none
 | .indexAddr t x i=>match a9b P t i with
   | some off=>match T0 x with
     | some y=>some (.p (.fieldA off y))
     | none=>none
   | none=>match T0 x,T0 i,a2K P t with
     | some y,some j,some e=>match Z2 P e with
       | some n=>some (.p (.idxA n y j))
       | none=>none
     | _,_,_=>none
 | .index t x i=>match T0 x,T0 i,P.underlying t with
   | some y,some j,some .string=>some (.p (.idxS y j))
   | some y,some j,some (.array len e)=>match a3R P e,Z2 P e with
     | some n,some s=>some (.p (.idxV n len s y j))
     | _,_=>none
   | _,_,_=>none
 | .slice t x lo hi none=>match T0 x,a6e lo,a6e hi,P.underlying t with
   | some y,some l,some h,some .string=>some (.p (.slice none y l h))
   | some y,some l,some h,some (.slice e)=>match Z2 P e with
     | some n=>some (.p (.slice (some n) y l h))
     | none=>none
   | _,_,_,_=>none
 | .extract x i=>(T0 x).map fun y=>.p (.extract y i)
 | .makeFunc (.func f) first caps=>if first.size=0 then (a3T caps.toList).map fun l=>.p (.mkfn f l) else none
 | .load t x=>match T0 x,a3R P t with
   | some y,some n=>some (.r (.load n y))
   | _,_=>none
 | .lookup t m k ok=>match T0 m,T0 k,P.underlying t with
   | some m,some k,some (.map kt et)=>match b2C P et with
     | some z=>match a1i P kt with
       | some ks=>some (.r (.lookup ks z ok m k))
       | none=>none
     | _=>none
   | _,_,_=>none
 | .alloc t=>(a3J P t).map fun z=>.a (.alloc z)
 | .box _ x=>(T0 x).map fun y=>.a (.box y)
 | .buildSlice t len parts=>match a2K P t,a5Z parts.toList with
   | some e,some l=>match Z2 P e,a3J P e with
     | some n,some z=>if z.length=n/\len*n<=2 ^ 24 then some (.a (.bslice n len z l)) else none
     | _,_=>none
   | _,_=>none
 | .makeSlice t l c=>match a2K P t,T0 l,T0 c with
   | some e,some l,some c=>match P.info? e,a3J P e with
     | some i,some z=>if z.length=i.size then some (.a (.mkslice i.size i.bytes z l c)) else none
     | _,_=>none
   | _,_,_=>none
 | .makeMap _ none=>some (.a .mkmap)
 | .store t a x=>match T0 a,T0 x,Z2 P t with
   | some a,some x,some n=>some (.w n a x)
   | _,_,_=>none
 | .mapUpdate t m k v=>match T0 m,T0 k,T0 v,P.underlying t with
   | some m,some k,some v,some (.map kt _)=>match a1i P kt with
     | some ks=>some (.m (.mapset ks m k v))
     | none=>none
   | _,_,_,_=>none
 | .call c=>match c.callee with
   | .builtin b=>a4W P b c.args.toList c.argTypes.toList
   | .value f=>match T0 f,a3T c.args.toList with
     | some f',some l=>some (.m (.call (match f with | .func g=>md g | _=>.raw) f' l))
     | _,_=>none
   | .invoke _ _=>none
 | _=>none
end Go.V
namespace Go.V
section
variable {P:Program} {μ:Mu} {Φ:Phi}
def a1F (P:Program) (μ:Mu) (Φ:Phi) (s:Sem Next) (w:World) (d:D):Prop:=∃v,s.run P w=.ok (.value v) w/\R μ Φ d v
theorem b8P {op:BinOp} {t:TypeId} {k:IntKind} {x y:Int} {d:D} {ox oy:Operand} {ρ:Operand->Value} (hx:ρ ox=.int k x) (hy:ρ oy=.int k y)
 (hns:op≠.shl/\op≠.shr) (h:a1a op k x y=some d) (w:World) (yt:TypeId) (dst pos after guard type) :
 a1F P μ Φ (execOp ρ ⟨dst,.binOp op t ox oy yt,type,pos,after,guard⟩) w d:=by
 unfold a1a at h
 cases op<;>simp at h hns <;>
  first
  | (subst h;exact ⟨_,by simp [execOp,hx,hy,eqGuard,binOp,Op.intArith,Op.intBits,Op.intCmp];rfl,by simp only [R]⟩)
  | (obtain ⟨hz,h⟩:=h;subst h;exact ⟨_,by simp [execOp,hx,hy,eqGuard,binOp,Op.intDiv,hz];rfl,by simp only [R]⟩)
theorem b1J {op:BinOp} {t:TypeId} {k k':IntKind} {x y:Int} {d:D} {ox oy:Operand} {ρ:Operand->Value} (hx:ρ ox=.int k x) (hy:ρ oy=.int k' y)
 (hs:op=.shl∨op=.shr) (h:a3r op k x y=some d) (w:World) (yt:TypeId) (dst pos after guard type) :
 a1F P μ Φ (execOp ρ ⟨dst,.binOp op t ox oy yt,type,pos,after,guard⟩) w d:=by
 unfold a3r at h
 rcases hs with rfl | rfl<;>simp at h
 ·obtain ⟨hz,h⟩:=h
  subst h
  exact ⟨_,by simp [execOp,hx,hy,eqGuard,binOp,Op.shift,Int.not_lt.2 hz];rfl,by simp only [R]⟩
 ·obtain ⟨hz,h⟩:=h
  subst h
  exact ⟨_,by simp [execOp,hx,hy,eqGuard,binOp,Op.shift,Int.not_lt.2 hz];rfl,by simp only [R]⟩
theorem b7A {op:BinOp} {t:TypeId} {x y:ByteArray} {d:D} {ox oy:Operand} {ρ:Operand->Value} (hx:ρ ox=.string x) (hy:ρ oy=.string y)
 (h:a7Q op x y=some d) (w:World) (yt:TypeId) (dst pos after guard type) :
 a1F P μ Φ (execOp ρ ⟨dst,.binOp op t ox oy yt,type,pos,after,guard⟩) w d:=by
 unfold a7Q at h
 cases op<;>simp at h <;>
  first
  | (subst h;exact ⟨_,by simp [execOp,hx,hy,eqGuard,binOp,Op.stringOp];rfl,by simp only [R]⟩)
  | (obtain ⟨hz,h⟩:=h;subst h
     have:¬ (IntKind.i64.max<((x.size+y.size:Nat):Int)):=by
      have:IntKind.i64.max=9223372036854775807:=by decide
      rw [this];omega
     refine ⟨.string (x++y),?_,by simp only [R]⟩
     simp only [execOp,hx,hy,eqGuard,binOp,Op.stringOp,GT.gt,this,if_false]
     rfl)
theorem c4Q (n:Nat) {t:TypeId} (hb:P.underlying t=some .bool) (x y:Bool) (w:World):(Op.equalIn (n+1) t (.bool x) (.bool y)).run P w=.ok (x==y) w:=by
 simp only [Op.equalIn,Sem.run_bind,run_underlying hb,Result.andThen_ok,Sem.run_pure]
theorem b2W {t:TypeId} (hb:P.underlying t=some .bool) (x y:Bool) (w:World):(Op.equal t (.bool x) (.bool y)).run P w=.ok (x==y) w:=c4Q 9999 hb x y w
theorem c5L {neg:Bool} {t:TypeId} {x y:Bool} {ox oy:Operand} {ρ:Operand->Value} (hb:P.underlying t=some .bool) (hx:ρ ox=.bool x) (hy:ρ oy=.bool y)
 (w:World) (yt:TypeId) (dst pos after guard type) :
 a1F P μ Φ (execOp ρ ⟨dst,.binOp (if neg then .neq else .eql) t ox oy yt,type,pos,after,guard⟩) w (.bool (if neg then !(x==y) else (x==y))):=by
 cases neg
 ·refine ⟨.bool (x==y),?_,by simp only [R];rfl⟩
  simp only [execOp,hx,hy,eqGuard,binOp,Sem.run_bind,b2W hb,Bool.false_eq_true,if_false,Sem.run_pure,Result.andThen_ok]
  rfl
 ·refine ⟨.bool (!(x==y)),?_,by simp only [R];rfl⟩
  simp only [execOp,hx,hy,eqGuard,binOp,Sem.run_bind,b2W hb,if_true,Sem.run_pure,Result.andThen_ok]
  rfl
theorem a95 {t:TypeId} {k:SK} (ht:a36 P t=some k) {cs:Array Value} {o:Nat} {v:Value} (hv:cs[o]?=some v) (w:World):(part t cs o).run P w=.ok v w:=by
 unfold a36 at ht
 split at ht<;>first
  | (rename_i hu;simp [part,isAgg,run_underlying hu,hv];done)
  | simp at ht
theorem c0L (n:Nat) {t:TypeId} {k:SK} (ht:a36 P t=some k) {a b:D} {u v:Value} (ha:R μ Φ a u) (hb:R μ Φ b v) {r:Bool} (h:a3X k a b=some r) (w:World) :
 (Op.equalIn (n+1) t u v).run P w=.ok r w:=by
 unfold a36 at ht
 split at ht
 ·rename_i q hu
  simp at ht;subst ht
  cases a<;>cases b<;>simp [a3X] at h
  obtain ⟨rfl,rfl⟩:=h
  simp only [R] at ha hb
  subst ha;subst hb
  simp [Op.equalIn,run_underlying hu]
 ·rename_i hu
  simp at ht;subst ht
  cases a<;>cases b<;>simp [a3X] at h
  subst h
  simp only [R] at ha hb
  subst ha;subst hb
  simp [Op.equalIn,run_underlying hu]
 ·rename_i hu
  simp at ht;subst ht
  cases a<;>cases b<;>simp [a3X] at h
  subst h
  simp only [R] at ha hb
  subst ha;subst hb
  simp [Op.equalIn,run_underlying hu]
 ·simp at ht
theorem b4C (n:Nat):∀ (fs:List Field) (k:Nat) (ks:List SK) (as bs:List D) (us vs:List Value) (xs ys:Array Value) (r:Bool) (w:World),a2V P fs k=some ks ->
 RL μ Φ as us->RL μ Φ bs vs->(∀j u,us[j]?=some u->xs[k+j]?=some u)->(∀j u,vs[j]?=some u->ys[k+j]?=some u)->a0H ks as bs=some r ->
 (Op.eqFields (n+1) xs ys fs).run P w=.ok r w
 | [],k,ks,as,bs,us,vs,xs,ys,r,w,hf,ha,hb,hx,hy,h=>by
   simp [a2V] at hf;subst hf
   cases as<;>cases bs<;>simp [a0H] at h
   subst h
   simp [Op.eqFields]
 | f::fs,k,ks,as,bs,us,vs,xs,ys,r,w,hf,ha,hb,hx,hy,h=>by
   simp only [a2V] at hf
   split at hf
   ·rename_i hname
    split at hf
    ·rename_i kk l hk hl
     simp at hf;subst hf
     cases as with
     | nil=>cases bs<;>simp [a0H] at h
     | cons a as =>
       cases bs with
       | nil=>simp [a0H] at h
       | cons b bs =>
         simp only [a0H] at h
         split at h
         ·rename_i p q hp hq
          simp at h;subst h
          simp only [RL] at ha hb
          obtain ⟨u,us',rfl,hu,hus⟩:=ha
          obtain ⟨v,vs',rfl,hv,hvs⟩:=hb
          have hx0:xs[f.offset]?=some u:=by rw [hname.1];simpa using hx 0 u (by simp)
          have hy0:ys[f.offset]?=some v:=by rw [hname.1];simpa using hy 0 v (by simp)
          have ih:=b4C n fs (k+1) l as bs us' vs' xs ys q w hl hus hvs
           (fun j x hj=>by have:=hx (j+1) x (by simpa using hj);rw [<- this];congr 1;omega)
           (fun j x hj=>by have:=hy (j+1) x (by simpa using hj);rw [<- this];congr 1;omega) hq
          simp only [Op.eqFields,hname.2,ne_eq,not_false_eq_true,if_true,Sem.run_bind,a95 hk hx0,a95 hk hy0,c0L n hk hu hv hp,Result.andThen_ok,Sem.run_ite,ih]
          cases p<;>simp
         ·simp at h
    ·simp at hf
   ·simp at hf
theorem a57 {t:TypeId} {ks:List SK} (ht:a1i P t=some ks) {as bs:List D} {us vs:List Value} (ha:RL μ Φ as us) (hb:RL μ Φ bs vs) {r:Bool} (h:a0H ks as bs=some r) (w:World) :
 (Op.equal t (.agg us.toArray) (.agg vs.toArray)).run P w=.ok r w:=by
 unfold a1i at ht
 split at ht
 ·rename_i fs hu
  split at ht
  ·rename_i hc
   have hfo:P.fieldsOf t=fs:=by simp [Program.fieldsOf,hu]
   have hs:P.stoodInHeld t=false:=by simp at hc;exact hc.1
   have h1:(Op.equalIn (9999+1) t (.agg us.toArray) (.agg vs.toArray)).run P w=_:=run_equalIn_struct w 9999 t us.toArray vs.toArray (by rw [hfo];exact hu) hs
   rw [hfo] at h1
   have h2:=b4C (P:=P) (μ:=μ) (Φ:=Φ) 9998 fs.toList 0 ks as bs us vs us.toArray vs.toArray r w ht ha hb (by simp) (by simp) h
   exact h1.trans h2
  ·simp at ht
 ·simp at ht
theorem b7b {neg:Bool} {t:TypeId} {ks:List SK} (ht:a1i P t=some ks) {x y:List D} {ox oy:Operand} {ρ:Operand->Value} (hx:R μ Φ (.agg x) (ρ ox)) (hy:R μ Φ (.agg y) (ρ oy))
 {r:Bool} (h:a0H ks x y=some r) (w:World) (yt:TypeId) (dst pos after guard type) :
 a1F P μ Φ (execOp ρ ⟨dst,.binOp (if neg then .neq else .eql) t ox oy yt,type,pos,after,guard⟩) w (.bool (if neg then !r else r)):=by
 simp only [R] at hx hy
 obtain ⟨us,hx1,hx2⟩:=hx
 obtain ⟨vs,hy1,hy2⟩:=hy
 have hg:P.eqGuardType P.depth t=false:=by
  unfold a1i at ht
  split at ht
  ·split at ht
   ·rename_i hc;simp at hc;exact hc.2
   ·simp at ht
  ·simp at ht
 have hr:=a57 (w:=w) ht hx2 hy2 h
 cases neg
 ·refine ⟨.bool r,?_,by simp only [R];rfl⟩
  simp only [execOp,hx1,hy1,eqGuard,binOp,Sem.run_bind,hr,Bool.false_eq_true,if_false,Sem.run_pure,Result.andThen_ok,run_program,hg,Sem.run_ite,Bool.not_true,Bool.not_false,if_true]
 ·refine ⟨.bool (!r),?_,by simp only [R];rfl⟩
  simp only [execOp,hx1,hy1,eqGuard,binOp,Sem.run_bind,hr,if_true,Sem.run_pure,Result.andThen_ok,run_program,hg,Sem.run_ite,Bool.not_true,Bool.not_false,Bool.false_eq_true,if_false]
theorem b2b {n:Option Nat} {off:Nat} {cs:List D} {d:D} (h:a0z n off cs=some d) {us:List Value} (hr:RL μ Φ cs us) :
 match n with
 | none=>∃u,us[off]?=some u/\R μ Φ d u
 | some k=>off+k<=us.length/\R μ Φ d (.agg ((us.drop off).take k).toArray):=by
 unfold a0z at h
 cases n with
 | none =>
   simp only at h ⊢
   cases hc:cs[off]? with
   | none=>simp [hc] at h
   | some e =>
     simp [hc] at h
     obtain ⟨_,rfl⟩:=h
     exact a40 hr hc
 | some k =>
   simp only at h ⊢
   split at h
   ·rename_i hle
    simp at h;subst h
    rw [a1b hr]
    refine ⟨hle,?_⟩
    simp only [R]
    exact ⟨_,rfl,a7Y k (a5b off hr)⟩
   ·simp at h
theorem b11 {d:D} {v:Value} (h1:M8 d=true) (h2:R μ Φ d v):a3Z v=true:=by
 cases d<;>simp only [M8] at h1<;>simp only [R] at h2<;>first
  | (cases h1;done)
  | (subst h2;rfl)
  | (obtain ⟨b,o,z,_,rfl⟩:=h2;rfl)
  | (obtain ⟨b,o,z,cap,_,rfl,_⟩:=h2;rfl)
  | (obtain ⟨vs,rfl,_⟩:=h2;rfl)
  | (simp only [RP] at h2;obtain ⟨b,o,rfl,_⟩:=h2;rfl)
  | (simp only [RP] at h2;obtain ⟨b,o,cap,sp,rfl,_⟩:=h2;rfl)
theorem a90:∀ {ds:List D} {vs:List Value},ds.all M8=true->RL μ Φ ds vs->∀x∈vs,a3Z x=true
 | [],vs,_,hr=>by simp only [RL] at hr;subst hr;simp
 | d::ds,vs,ha,hr=>by
   simp only [RL] at hr
   obtain ⟨u,us,rfl,h1,h2⟩:=hr
   simp only [List.all_cons,Bool.and_eq_true] at ha
   intro x hx
   rcases List.mem_cons.1 hx with rfl | hx
   ·exact b11 ha.1 h1
   ·exact a90 ha.2 h2 x hx
theorem c4l {v:Value} (h:a3Z v=true):v.cells=#[v]:=by cases v<;>first | rfl | cases h
theorem b0M {d:D} {v:Value} (h:R μ Φ d v) (hu:(cellsOf d).all M8=true):RL μ Φ (cellsOf d) v.cells.toList/\∀x∈v.cells.toList,a3Z x=true:=by
 by_cases ha:∃cs,d=.agg cs
 ·obtain ⟨cs,rfl⟩:=ha
  simp only [R] at h
  obtain ⟨vs,rfl,hv⟩:=h
  simp only [cellsOf] at hu ⊢
  exact ⟨by simpa [Value.cells] using hv,by simpa [Value.cells] using a90 hu hv⟩
 ·have hc:cellsOf d=[d]:=by
   cases d<;>first | rfl | exact absurd ⟨_,rfl⟩ ha
  rw [hc] at hu ⊢
  simp only [List.all_cons,List.all_nil,Bool.and_true] at hu
  have h1:=b11 hu h
  rw [c4l h1]
  exact ⟨c1y h,by simpa using h1⟩
theorem b78 (cs:Array Value) (off:Nat):∀ (new:List Value) (k:Nat),off+k+new.length<=cs.size ->
 ((new.zipIdx k).foldl (fun (a:Array Value) (p:Value×Nat)=>a.setIfInBounds (off+p.2) p.1) cs).toList=cs.toList.take (off+k)++new++cs.toList.drop (off+k+new.length):=by
 intro new
 induction new generalizing cs with
 | nil=>intro k _;simp
 | cons v vs ih =>
   intro k hk
   simp only [List.length_cons] at hk
   rw [List.zipIdx_cons,List.foldl_cons,ih _ (k+1) (by simp;omega)]
   simp only [Array.toList_setIfInBounds,List.length_cons]
   have e1:off+(k+1)=(off+k)+1:=by omega
   rw [e1,List.take_succ_eq_append_getElem (by simp;omega)]
   have e2:off+k+1+vs.length=off+k+(vs.length+1):=by omega
   rw [e2,List.take_set_of_le (Nat.le_refl _),List.drop_set_of_lt (by omega)]
   simp
theorem b2g {cs new:List D} {us vs:List Value} {off:Nat} (h1:RL μ Φ cs us) (h2:RL μ Φ new vs) :
 RL μ Φ (a20 cs off new) (us.take off++vs++us.drop (off+vs.length)):=by
 unfold a20
 rw [a1b h2]
 exact a5c (a5c (a7Y off h1) h2) (a5b _ h1)
theorem b0v {env:Env} (place:Nat->Option (Nat×Nat)):∀ (ps:List (Nat×Nat×Opd)) (qs:List (Nat×Value)) (cs out:List D) (us:List Value),
 ps.length=qs.length->(∀ (j:Nat) (p:Nat×Nat×Opd) (q:Nat×Value),ps[j]?=some p->qs[j]?=some q->place q.1=some (p.1,p.2.1)/\R μ Φ (env.ev p.2.2) q.2)->RL μ Φ cs us->a1V env cs ps=some out ->
 ∃ws:List Value,Instr.fill place us.toArray qs=some ws.toArray/\RL μ Φ out ws/\ws.length=us.length
 | [],qs,cs,out,us,hl,_,hr,hf=>by
   cases qs with
   | nil=>simp [a1V] at hf;subst hf;exact ⟨us,by simp [Instr.fill],hr,rfl⟩
   | cons _ _=>simp at hl
 | (off,size,x)::ps,qs,cs,out,us,hl,hp,hr,hf=>by
   cases qs with
   | nil=>simp at hl
   | cons q qs =>
     obtain ⟨i,v⟩:=q
     obtain ⟨hpl,hrel⟩:=hp 0 (off,size,x) (i,v) (by simp) (by simp)
     simp only at hpl hrel
     simp only [a1V] at hf
     split at hf
     ·rename_i hc
      obtain ⟨c1,c2,c3⟩:=hc
      obtain ⟨d1,d2⟩:=b0M hrel c3
      have hlen:=a1b d1
      have hcs:=a1b hr
      simp only [Array.length_toList] at hlen
      have hrec:=b0v place ps qs (a20 cs off (cellsOf (env.ev x))) out (us.take off++v.cells.toList++us.drop (off+v.cells.toList.length)) (by simpa using hl)
       (fun j p q h1 h2=>hp (j+1) p q (by simpa using h1) (by simpa using h2)) (b2g hr d1) hf
      obtain ⟨ws,w1,w2,w3⟩:=hrec
      refine ⟨ws,?_,w2,?_⟩
      ·simp only [Instr.fill,hpl]
       have hsz:¬ (v.cells.size≠size||decide (off+v.cells.size>us.toArray.size))=true:=by
        simp;omega
       rw [if_neg hsz,<- w1]
       congr 1
       apply Array.ext'
       have:=b78 us.toArray off v.cells.toList 0 (by simp;omega)
       simp only [Nat.add_zero] at this
       rw [<- this]
       rw [<- Array.foldl_toList]
       simp [Array.toList_zipIdx]
      ·rw [w3]
       simp only [List.length_append,List.length_take,List.length_drop,Array.length_toList]
       omega
     ·simp at hf
end
end Go.V
namespace Go.V
section
variable {P:Program} {md:FuncId->a0a} {μ:Mu} {Φ:Phi} {env:Env} {a:Act} {d:D}
theorem map_some {α β:Type} {f:α->β} {x:Option α} {y:β} (h:x.map f=some y):∃z,x=some z/\f z=y:=by
 cases x with
 | none=>simp at h
 | some z=>exact ⟨z,rfl,by simpa using h⟩
theorem b3u {op:BinOp} {t:TypeId} {ox oy:Operand} {x y:D} (hx:R μ Φ x (a.eval ox)) (hy:R μ Φ y (a.eval oy)) (h:a7v op x y=some d) (w:World) (yt:TypeId) (dst type pos after guard) :
 a1F P μ Φ (execOp a.eval ⟨dst,.binOp op t ox oy yt,type,pos,after,guard⟩) w d:=by
 unfold a7v at h
 split at h
 ·rename_i k n k' n'
  simp only [R] at hx hy
  split at h
  ·exact b1J hx hy (.inl rfl) h w yt dst pos after guard type
  ·exact b1J hx hy (.inr rfl) h w yt dst pos after guard type
  ·rename_i h1 h2
   split at h
   ·rename_i hk
    subst hk
    exact b8P hx hy ⟨fun e=>h1 e,fun e=>h2 e⟩ h w yt dst pos after guard type
   ·simp at h
 ·simp only [R] at hx hy
  exact b7A hx hy h w yt dst pos after guard type
 ·simp at h
theorem c0e (n:Nat) {t:TypeId} {y:Operand} {k:NK} (hk:a4y P t y=some k) {x:D} {u:Value} (hx:R μ Φ x u) {r:Bool} (hr:a1w k x=some r) (w:World) :
 (Op.equalIn (n+1) t u (a.eval y)).run P w=.ok r w:=by
 unfold a4y at hk
 split at hk<;>simp at hk<;>subst hk<;>rename_i hu<;>simp only [Op.equalIn,Sem.run_bind,run_underlying hu,Result.andThen_ok,Act.eval] <;>
  cases x<;>simp only [a1w] at hr<;>simp only [R] at hx<;>first
   | (cases hr;done)
   | (obtain ⟨b1,o1,z1,_,rfl⟩:=hx;cases hr;rfl)
   | (obtain ⟨b1,o1,z1,cap1,_,rfl,_⟩:=hx;cases hr;rfl)
   | (obtain ⟨vs1,rfl,_⟩:=hx;cases hr;rfl)
   | (subst hx;cases hr;rfl)
   | (simp only [RP] at hx;obtain ⟨b1,o1,rfl,_⟩:=hx;cases hr;rfl)
   | (simp only [RP] at hx;obtain ⟨b1,o1,cap1,sp1,rfl,_⟩:=hx;cases hr;rfl)
theorem c1n {neg:Bool} {t:TypeId} {ox oy:Operand} {k:NK} (hk:a4y P t oy=some k) {x:D} (hx:R μ Φ x (a.eval ox)) {r:Bool} (hr:a1w k x=some r)
 (w:World) (yt:TypeId) (dst type pos after guard) :
 a1F P μ Φ (execOp a.eval ⟨dst,.binOp (if neg then .neq else .eql) t ox oy yt,type,pos,after,guard⟩) w (.bool (if neg then !r else r)):=by
 have h1:(Op.equal t (a.eval ox) (a.eval oy)).run P w=.ok r w:=c0e 9999 hk hx hr w
 have hb:∀op,op=BinOp.eql∨op=BinOp.neq->(eqGuard op t ox oy (a.eval ox) (a.eval oy)).run P w=.ok () w /\
  (binOp op t (a.eval ox) (a.eval oy))=(Op.equal t (a.eval ox) (a.eval oy) >>= fun e=>pure (.bool (if op=.neq then !e else e))):=by
  intro op hop
  unfold a4y at hk
  split at hk<;>simp at hk<;>subst hk<;>cases x<;>simp only [a1w] at hr<;>simp only [R] at hx<;>first
   | (cases hr;done)
   | (obtain ⟨b1,o1,z1,_,e⟩:=hx;rw [e];rcases hop with rfl | rfl<;>exact ⟨rfl,rfl⟩)
   | (obtain ⟨b1,o1,z1,cap1,_,e,_⟩:=hx;rw [e];rcases hop with rfl | rfl<;>exact ⟨rfl,rfl⟩)
   | (obtain ⟨vs1,e,_⟩:=hx;rw [e];rcases hop with rfl | rfl<;>exact ⟨rfl,rfl⟩)
   | (rw [hx];rcases hop with rfl | rfl<;>exact ⟨rfl,rfl⟩)
   | (simp only [RP] at hx;obtain ⟨b1,o1,e,_⟩:=hx;rw [e];rcases hop with rfl | rfl;exact ⟨rfl,rfl⟩;exact ⟨rfl,rfl⟩)
   | (simp only [RP] at hx;obtain ⟨b1,o1,cap1,sp1,e,_⟩:=hx;rw [e];rcases hop with rfl | rfl;exact ⟨rfl,rfl⟩;exact ⟨rfl,rfl⟩)
 cases neg
 ·obtain ⟨g1,g2⟩:=hb .eql (.inl rfl)
  refine ⟨.bool r,?_,by simp only [R];rfl⟩
  simp only [execOp,Bool.false_eq_true,if_false,Sem.run_bind,g1,g2,Result.andThen_ok,h1,Sem.run_pure,reduceCtorEq]
 ·obtain ⟨g1,g2⟩:=hb .neq (.inr rfl)
  refine ⟨.bool (!r),?_,by simp only [R];rfl⟩
  simp only [execOp,if_true,Sem.run_bind,g1,g2,Result.andThen_ok,h1,Sem.run_pure]
theorem c1l {op:BinOp} {t:TypeId} {ox oy:Operand} {po:POp} (hres:a9x P op t ox oy=some po) (he:a0d μ Φ env a) (hev:evP env po=some d) (w:World) (yt:TypeId) (dst type pos after guard) :
 a1F P μ Φ (execOp a.eval ⟨dst,.binOp op t ox oy yt,type,pos,after,guard⟩) w d:=by
 unfold a9x at hres
 split at hres
 ·rename_i x y hx hy
  have rx:=S7 he hx
  have ry:=S7 he hy
  have key:∀ (neg:Bool) (po:POp),op=(if neg then .neq else .eql) ->
   ((a9G P t=true/\po=.bin op x y)∨(a6L P t=true/\po=.eqB neg x y)∨(∃ks,a1i P t=some ks/\po=.eqAgg neg ks x y)∨(∃k,a4y P t oy=some k/\po=.eqNil neg k x)) ->
   evP env po=some d->a1F P μ Φ (execOp a.eval ⟨dst,.binOp op t ox oy yt,type,pos,after,guard⟩) w d:=by
   intro neg po hop hcs hev
   rcases hcs with ⟨_,rfl⟩ | ⟨hb,rfl⟩ | ⟨ks,hks,rfl⟩ | ⟨k,hk,rfl⟩
   ·simp only [evP] at hev
    exact b3u rx ry hev w yt dst type pos after guard
   ·simp only [evP] at hev
    split at hev
    ·rename_i p q hp hq
     rw [hp] at rx
     rw [hq] at ry
     simp only [R] at rx ry
     simp at hev;subst hev
     rw [hop]
     have hb':P.underlying t=some .bool:=by
      unfold a6L at hb
      split at hb
      ·assumption
      ·simp at hb
     exact c5L hb' rx ry w yt dst pos after guard type
    ·simp at hev
   ·simp only [evP] at hev
    split at hev
    ·rename_i p q hp hq
     rw [hp] at rx
     rw [hq] at ry
     obtain ⟨r,hr,hd⟩:=map_some hev
     subst hd
     rw [hop]
     exact b7b hks rx ry hr w yt dst pos after guard type
    ·simp at hev
   ·simp only [evP] at hev
    obtain ⟨r,hr,hd⟩:=map_some hev
    subst hd
    rw [hop]
    exact c1n hk rx hr w yt dst type pos after guard
  split at hres
  ·refine key false po rfl ?_ hev
   split at hres
   ·simp at hres;exact .inl ⟨by assumption,hres.symm⟩
   ·split at hres
    ·simp at hres;exact .inr (.inl ⟨by assumption,hres.symm⟩)
    ·split at hres
     ·simp at hres;exact .inr (.inr (.inl ⟨_,by assumption,hres.symm⟩))
     ·obtain ⟨k,hk,e⟩:=map_some hres
      exact .inr (.inr (.inr ⟨k,hk,e.symm⟩))
  ·refine key true po rfl ?_ hev
   split at hres
   ·simp at hres;exact .inl ⟨by assumption,hres.symm⟩
   ·split at hres
    ·simp at hres;exact .inr (.inl ⟨by assumption,hres.symm⟩)
    ·split at hres
     ·simp at hres;exact .inr (.inr (.inl ⟨_,by assumption,hres.symm⟩))
     ·obtain ⟨k,hk,e⟩:=map_some hres
      exact .inr (.inr (.inr ⟨k,hk,e.symm⟩))
  ·simp at hres;subst hres
   simp only [evP] at hev
   exact b3u rx ry hev w yt dst type pos after guard
 ·simp at hres
theorem b7H {b o cap:Nat} {sz:Nat} {xs:List (List D)} (h:RG Φ sz xs b o) {l hh:Nat} (h1:hh<=xs.length) (h2:l<=hh) (h3:xs.length<=cap) :
 RP Φ (.lst sz ((xs.take hh).drop l)) (.slice (if cap=l then some ⟨b,o,none⟩ else some ⟨b,o+l*sz,none⟩) (hh-l) (cap-l)):=by
 simp only [RP]
 have hlen:((xs.take hh).drop l).length=hh-l:=by simp;omega
 by_cases hc:cap=l
 ·have:(xs.take hh).drop l=[]:=by apply List.eq_nil_of_length_eq_zero;omega
  refine ⟨b,o,cap-l,none,by rw [if_pos hc,hlen],by omega,.inl rfl,?_⟩
  rw [this];simp only [RG]
 ·refine ⟨b,o+l*sz,cap-l,none,by rw [if_neg hc,hlen],by omega,.inl rfl,?_⟩
  exact b14 l (by simp;omega) (b4F hh h)
def RO (μ:Mu) (Φ:Phi):Option D->Option Value->Prop
 | some d,some v=>R μ Φ d v
 | none,none=>True
 | _,_=>False
theorem a7o {x:Option D} {y:Option Value} {dflt n:Nat} (h:a02 x dflt=some n) (hxy:RO μ Φ x y) :
 (y=none/\n=dflt)∨∃k i,y=some (.int k i)/\0<=i/\i.toNat=n:=by
 cases x with
 | none =>
   cases y with
   | none=>simp [a02] at h;exact .inl ⟨rfl,h.symm⟩
   | some v=>exact hxy.elim
 | some e =>
   cases y with
   | none=>exact hxy.elim
   | some v =>
     cases e<;>simp [a02] at h
     simp only [RO,R] at hxy
     subst hxy
     exact .inr ⟨_,_,rfl,h.1,h.2⟩
theorem b5C {isSlice:Bool} {len cap l h:Nat} {lo hi:Option Value} (hlen:len<=cap)
 (hh:(hi=none/\h=len)∨∃k i,hi=some (.int k i)/\0<=i/\i.toNat=h) (hl:(lo=none/\l=0)∨∃k i,lo=some (.int k i)/\0<=i/\i.toNat=l) (h1:h<=len) (h2:l<=h) (w:World) :
 (Instr.sliceBounds isSlice len cap lo hi none).run P w=.ok (l,h,cap) w:=by
 have e1:(match hi with | some v=>Instr.sliceBound v cap (if isSlice then .sliceAcap else .sliceAlen) | none=>pure len:Sem Nat).run P w=.ok h w:=by
  rcases hh with ⟨rfl,rfl⟩ | ⟨k,i,rfl,h0,rfl⟩
  ·rfl
  ·have:0<=i/\i<=(cap:Int):=⟨h0,by omega⟩
   simp [Instr.sliceBound,asIntOf,this]
 have e2:(match lo with | some v=>Instr.sliceBound v h .sliceB | none=>pure 0:Sem Nat).run P w=.ok l w:=by
  rcases hl with ⟨rfl,rfl⟩ | ⟨k,i,rfl,h0,rfl⟩
  ·rfl
  ·have:0<=i/\i<=(h:Int):=⟨h0,by omega⟩
   simp [Instr.sliceBound,asIntOf,this]
 cases hi<;>cases lo<;>simp_all [Instr.sliceBounds]
theorem a7C (he:a0d μ Φ env a) {x:Option Operand} {y:Option Opd} (h:a6e x=some y):RO μ Φ (env.evO y) (x.map a.eval):=by
 cases x with
 | none=>simp [a6e] at h;subst h;simp [Env.evO,RO]
 | some x =>
   simp only [a6e] at h
   obtain ⟨z,hz,e⟩:=map_some h
   subst e
   simp only [Env.evO,Option.map_some,RO]
   exact S7 he hz
theorem b6x {t:TypeId} {u:Value} {lo hi:Option Value} {x:D} {l h:Option D} (ht:P.underlying t=some .string)
 (hx:R μ Φ x u) (hl:RO μ Φ l lo) (hh:RO μ Φ h hi) (hev:a2f none x l h=some d) (w:World):∃v,(Instr.sliceAt t u lo hi none).run P w=.ok v w/\R μ Φ d v:=by
 cases x<;>simp only [a2f] at hev<;>try (cases hev;done)
 rename_i s
 simp only [R] at hx
 subst hx
 split at hev
 ·rename_i hn ln h1 h2
  split at hev
  ·rename_i hc
   simp at hev;subst hev
   have hb:=b5C (P:=P) (isSlice:=false) (Nat.le_refl s.size) (a7o h1 hh) (a7o h2 hl) hc.1 hc.2 w
   refine ⟨.string (s.extract ln hn),?_,by simp only [R]⟩
   simp only [Instr.sliceAt,Sem.run_bind,run_underlying ht,Result.andThen_ok,Instr.slice,Option.isSome_none,Bool.false_eq_true,if_false,hb,Sem.run_pure]
  ·simp at hev
 ·simp at hev
theorem a1Y {e:TypeId} {n:Nat} (h:Z2 P e=some n) (w:World):(sizeOf e).run P w=.ok n w:=by
 unfold Z2 at h
 obtain ⟨i,hi,e⟩:=map_some h
 simp [sizeOf,typeInfo,hi,e]
theorem c6h {t e:TypeId} {n:Nat} {u:Value} {lo hi:Option Value} {x:D} {l h:Option D} (ht:P.underlying t=some (.slice e)) (hn:Z2 P e=some n)
 (hx:R μ Φ x u) (hl:RO μ Φ l lo) (hh:RO μ Φ h hi) (hev:a2f (some n) x l h=some d) (w:World):∃v,(Instr.sliceAt t u lo hi none).run P w=.ok v w/\R μ Φ d v:=by
 have go:∀ (ad:Option Addr) (len cap ln hn:Nat),u=.slice ad len cap->len<=cap->a02 h len=some hn->a02 l 0=some ln->hn<=len->ln<=hn ->
  (Instr.sliceAt t u lo hi none).run P w=.ok (.slice (if cap=ln then ad else ad.map (·.add (ln*n))) (hn-ln) (cap-ln)) w:=by
  intro ad len cap ln hn' hu hlc h1 h2 h3 h4
  have hb:=b5C (P:=P) (isSlice:=true) hlc (a7o h1 hh) (a7o h2 hl) h3 h4 w
  subst hu
  simp only [Instr.sliceAt,Sem.run_bind,run_underlying ht,Result.andThen_ok,Instr.slice,hb,a1Y hn,Sem.run_pure]
 cases x<;>simp only [a2f] at hev<;>try (cases hev;done)
 ·simp only [R] at hx
  split at hev
  ·rename_i hn' ln h1 h2
   split at hev
   ·rename_i hc
    simp at hev;subst hev
    have:=go none 0 0 ln hn' hx (Nat.le_refl _) h1 h2 hc.1 hc.2
    have e1:hn'=0:=by omega
    have e2:ln=0:=by omega
    subst e1;subst e2
    exact ⟨_,this,by simp only [R];rfl⟩
   ·simp at hev
  ·simp at hev
 ·simp only [R,RP] at hx
  obtain ⟨b,o,cap,sp,hu,hlc,hsp,hg⟩:=hx
  split at hev
  ·rename_i hn' ln h1 h2
   split at hev
   ·rename_i hc
    simp at hev;subst hev
    obtain ⟨c0,c1,c2⟩:=hc
    subst c0
    rcases hsp with rfl | rfl
    case inr =>
     have e1:hn'=0:=by simpa using c1
     have e2:ln=0:=by omega
     subst e1;subst e2
     refine ⟨_,go (some ⟨b,o,sp⟩) _ cap 0 0 hu hlc h1 h2 c1 c2,?_⟩
     simp only [R,RP]
     refine ⟨b,o,cap,sp,?_,by simp,.inr (by simp),by simp [RG]⟩
     simp [Addr.add]
    have:=go (some ⟨b,o,none⟩) _ cap ln hn' hu hlc h1 h2 c1 c2
    refine ⟨_,this,?_⟩
    simp only [R]
    have:=b7H (cap:=cap) hg c1 c2 hlc
    simpa only [Option.map_some,a2k] using this
   ·simp at hev
  ·simp at hev
 ·simp only [R] at hx
  obtain ⟨b,o,z,cap,hm,hu,hlc,hz⟩:=hx
  rename_i id off len sz
  split at hev
  ·rename_i hn' ln h1 h2
   split at hev
   ·rename_i hc
    obtain ⟨c0,c1,c2⟩:=hc
    subst c0
    have:=go (some ⟨b,o+off,none⟩) _ cap ln hn' hu hlc h1 h2 c1 c2
    refine ⟨_,this,?_⟩
    split at hev
    ·rename_i hlt
     simp at hev;subst hev
     have hne:cap≠ln:=by omega
     simp only [R,if_neg hne,Option.map_some,a2k]
     refine ⟨b,o,z,cap-ln,hm,by simp [Nat.add_assoc],by omega,?_⟩
     have:ln*sz+(cap-ln)*sz=cap*sz:=by rw [<- Nat.add_mul];congr 1;omega
     omega
    ·simp at hev;subst hev
     have:hn'-ln=0:=by omega
     rw [this]
     simp only [R,RP]
     by_cases hcl:cap=ln
     ·exact ⟨b,o+off,cap-ln,none,by simp [hcl],by simp,.inl rfl,by simp only [RG]⟩
     ·exact ⟨b,o+off+ln*sz,cap-ln,none,by simp [hcl,a2k],by simp,.inl rfl,by simp only [RG]⟩
   ·simp at hev
  ·simp at hev
end
end Go.V
namespace Go.V
section
variable {P:Program} {md:FuncId->a0a} {μ:Mu} {Φ:Phi} {env:Env} {a:Act} {d:D}
theorem a1v {s:Sem Value} {w:World} (h:∃v,s.run P w=.ok v w/\R μ Φ d v):a1F P μ Φ (do pure (.value (<- s))) w d:=by
 obtain ⟨v,h1,h2⟩:=h
 exact ⟨v,by simp [h1],h2⟩
theorem a7N {isMax:Bool}:∀ {xs:List D} {x:D} {us:List Value} {u:Value} (w:World),R μ Φ x u->RL μ Φ xs us->a3d isMax x xs=some d ->
 ∃v,(us.foldlM (if isMax then Builtin.max2 else Builtin.min2) u:Sem Value).run P w=.ok v w/\R μ Φ d v
 | [],x,us,u,w,hx,hr,h=>by
   simp only [RL] at hr;subst hr
   simp [a3d] at h;subst h
   exact ⟨u,by simp,hx⟩
 | y::xs,x,us,u,w,hx,hr,h=>by
   simp only [RL] at hr
   obtain ⟨v,vs,rfl,hv,hvs⟩:=hr
   simp only [a3d] at h
   split at h
   ·rename_i k n k' m
    simp only [R] at hx hv
    subst hx;subst hv
    cases isMax
    ·obtain ⟨r,h1,h2⟩:=a7N (us:=vs) (u:=.int k (if m<n then m else n)) w (by simp only [R];rfl) hvs h
     exact ⟨r,by simpa [Builtin.min2] using h1,h2⟩
    ·obtain ⟨r,h1,h2⟩:=a7N (us:=vs) (u:=.int k (if m>n then m else n)) w (by simp only [R];rfl) hvs h
     exact ⟨r,by simpa [Builtin.max2] using h1,h2⟩
   ·simp at h
theorem b6g {t:TypeId} {n:Option Nat} (ht:a3R P t=some n) {off:Nat} {cs:List D} (h:a0z n off cs=some d) {us:List Value} (hr:RL μ Φ cs us) (w:World) :
 ∃v,(part t us.toArray off).run P w=.ok v w/\R μ Φ d v:=by
 have hp:=b2b h hr
 unfold a3R b0K at ht
 cases hu:P.underlying t with
 | none=>simp [hu] at ht
 | some td =>
   have aggCase:(∃k,Z2 P t=some k/\n=some k)->(isAgg t).run P w=.ok true w->∃v,(part t us.toArray off).run P w=.ok v w/\R μ Φ d v:=by
    rintro ⟨k,hk,rfl⟩ hag
    refine ⟨_,?_,hp.2⟩
    have hsz:(sizeOf t).run P w=.ok k w:=a1Y hk w
    simp only [part,Sem.run_bind,hag,Result.andThen_ok,if_true,hsz,Sem.run_pure]
    congr 2
    simp [List.extract_eq_take_drop]
   have cellCase:n=none->(isAgg t).run P w=.ok false w->∃v,(part t us.toArray off).run P w=.ok v w/\R μ Φ d v:=by
    rintro rfl hag
    obtain ⟨u,h1,h2⟩:=hp
    exact ⟨u,by simp [part,hag,h1],h2⟩
   cases td<;>simp only [hu] at ht<;>cases hs:Z2 P t<;>simp [hs] at ht<;>first
    | (refine aggCase ⟨_,hs,ht.symm⟩ ?_;simp [isAgg,run_underlying hu])
    | (refine cellCase ht.symm ?_;simp [isAgg,run_underlying hu])
theorem b7P {t e:TypeId} {n:Nat} (ht:a2K P t=some e) (hn:Z2 P e=some n) {x i:D} {u j:Value} (hx:R μ Φ x u) (hi:R μ Φ i j) (h:N2 n x i=some d) (w:World) :
 ∃v,(Instr.indexAt t u j).run P w=.ok v w/\R μ Φ d v:=by
 have htu:P.underlying t=some (.slice e):=by
  unfold a2K at ht
  split at ht
  ·rename_i e' hu;simp at ht;rw [hu,ht]
  ·simp at ht
 unfold N2 at h
 split at h
 ·rename_i s xs k m
  simp only [R,RP] at hx hi
  obtain ⟨b,o,cap,sp,rfl,_,hsp,hg⟩:=hx
  subst hi
  split at h
  ·rename_i hc
   obtain ⟨rfl,h0⟩:=hc
   obtain ⟨g,hgx,e1⟩:=map_some h
   subst e1
   have hlt:m.toNat<xs.length:=(List.getElem?_eq_some_iff.1 hgx).1
   obtain rfl:sp=none:=by rcases hsp with h | h;exact h;simp [h] at hlt
   refine ⟨.pointer (some ⟨b,o+m.toNat*s,none⟩),?_,?_⟩
   ·have hb:0<=m/\m<(xs.length:Int):=⟨h0,by omega⟩
    simp [Instr.indexAt,asIntOf,run_underlying htu,hb,a1Y hn,a2k]
   ·simp only [R,RP]
    exact ⟨b,o+m.toNat*s,rfl,(b2p hg hgx).2⟩
  ·simp at h
 ·rename_i id off len s k m
  simp only [R] at hx hi
  obtain ⟨b,o,z,cap,hm,rfl,hlc,hz⟩:=hx
  subst hi
  split at h
  ·rename_i hc
   obtain ⟨rfl,hb⟩:=hc
   simp at h;subst h
   refine ⟨.pointer (some ⟨b,o+off+m.toNat*s,none⟩),?_,?_⟩
   ·simp [Instr.indexAt,asIntOf,run_underlying htu,hb,a1Y hn,a2k]
   ·simp only [R]
    exact ⟨b,o,z,hm,by simp [Nat.add_assoc]⟩
  ·simp at h
 ·simp at h
theorem b8l {t:TypeId} (ht:P.underlying t=some .string) {x i:D} {u j:Value} (hx:R μ Φ x u) (hi:R μ Φ i j) (h:a5D x i=some d) (w:World) :
 ∃v,(Instr.index t u j).run P w=.ok v w/\R μ Φ d v:=by
 unfold a5D at h
 split at h
 ·rename_i s k m
  simp only [R] at hx hi
  subst hx;subst hi
  split at h
  ·rename_i h0
   obtain ⟨b,hb,e1⟩:=map_some h
   subst e1
   exact ⟨.int .u8 b.toNat,by simp [Instr.index,asIntOf,run_underlying ht,h0,hb],by simp only [R]⟩
  ·simp at h
 ·simp at h
theorem b2o {t:TypeId} {i:Bool} (ht:if i then P.underlying t=some .string else ∃e,P.underlying t=some (.slice e)) {x:D} {u:Value} (hx:R μ Φ x u) (h:V2 i x=some d) (w:World) (ty:TypeId) :
 ∃v,(Builtin.len_ #[t] ty #[u]).run P w=.ok v w/\R μ Φ d v:=by
 unfold V2 at h
 split at h
 ·simp only [R] at hx
  subst hx
  simp at h;subst h
  simp only [if_true] at ht
  exact ⟨_,by simp [Builtin.len_,run_underlying ht,goInt];rfl,by simp only [R]⟩
 ·simp only [R] at hx
  subst hx
  simp at h;subst h
  obtain ⟨e,ht⟩:=ht
  exact ⟨_,by simp [Builtin.len_,run_underlying ht,goInt];rfl,by simp only [R]⟩
 ·simp only [R,RP] at hx
  obtain ⟨b,o,cap,sp,rfl,_⟩:=hx
  simp at h;subst h
  obtain ⟨e,ht⟩:=ht
  exact ⟨_,by simp [Builtin.len_,run_underlying ht,goInt];rfl,by simp only [R]⟩
 ·simp only [R] at hx
  obtain ⟨b,o,z,cap,_,rfl,_⟩:=hx
  simp at h;subst h
  obtain ⟨e,ht⟩:=ht
  exact ⟨_,by simp [Builtin.len_,run_underlying ht,goInt];rfl,by simp only [R]⟩
 ·simp at h
theorem a7V {b:Builtin} {args:Array Operand} {types:Array TypeId} {s:Sem Value} {w:World} {ty:TypeId}
 (hb:∀consts,builtin b types ty consts (args.map a.eval)=(do pure (.value (<- s)))) (h:∃v,s.run P w=.ok v w/\R μ Φ d v) (dst pos after guard) :
 a1F P μ Φ (execOp a.eval ⟨dst,.call ⟨.builtin b,args,types⟩,ty,pos,after,guard⟩) w d:=by
 obtain ⟨v,h1,h2⟩:=h
 refine ⟨v,?_,h2⟩
 simp only [execOp,resolve,invoke,Sem.run_bind,Sem.run_pure,Result.andThen_ok,hb,h1]
theorem a5E {t:TypeId} {z:List D} (hz:a3J P t=some z):∃i v,P.info? t=some i/\i.zero=some v/\RPL Φ z v.cells.toList/\z.all M8=true:=by
 unfold a3J at hz
 split at hz
 ·rename_i i hi
  split at hz
  ·rename_i v hv
   obtain ⟨dz,hdz,e⟩:=map_some hz
   refine ⟨i,v,hi,hv,?_⟩
   subst e
   have one1:∀ (v:Value) (dz:D),a3L v=some dz->M8 dz=true:=by
    intro v dz h
    unfold a3L at h
    split at h<;>simp at h<;>subst h<;>rfl
   have hr:=b2Z (Φ:=Φ) hdz
   unfold ofV at hdz
   split at hdz
   ·rename_i c
    obtain ⟨l1,h1,e1⟩:=map_some hdz
    subst e1
    simp only [cellsOf,Value.cells]
    refine ⟨a8Y h1,?_⟩
    have:∀ (vs:List Value) (l:List D),a3m vs=some l->l.all M8=true:=by
     intro vs
     induction vs with
     | nil=>intro l h;simp [a3m] at h;subst h;rfl
     | cons v vs ih =>
       intro l h
       simp only [a3m] at h
       split at h
       ·rename_i d1 l1 h1 h2
        simp at h;subst h
        simp [one1 _ _ h1]
        simpa using ih _ h2
       ·simp at h
    exact this _ _ h1
   ·have:v.cells=#[v]/\cellsOf dz=[dz]:=by
     unfold a3L at hdz
     split at hdz<;>simp at hdz<;>subst hdz<;>exact ⟨rfl,rfl⟩
    rw [this.1,this.2]
    refine ⟨by simp only [RPL];exact ⟨v,[],rfl,hr,rfl⟩,by simp [one1 _ _ hdz]⟩
  ·simp at hz
 ·simp at hz
theorem a42 {t:TypeId} {i:TypeInfo} {v:Value} (h1:P.info? t=some i) (h2:i.zero=some v) (w:World):(zeroValue t).run P w=.ok v w:=by
 simp [zeroValue,typeInfo,h1,h2]
theorem b8t {fs:Array Field} (h:b2H P fs=true) (w:World) :
 (fs.mapM (fun f=>do pure (f.offset,<- sizeOf f.type)):Sem (Array (Nat×Nat))).run P w=.ok (fs.map fun f=>(f.offset,(Z2 P f.type).getD 0)) w:=by
 rw [Array.mapM_eq_mapM_toList]
 have:∀ (l:List Field),l.all (fun f=>(Z2 P f.type).isSome)=true ->
  (l.mapM (fun f=>do pure (f.offset,<- sizeOf f.type)):Sem (List (Nat×Nat))).run P w=.ok (l.map fun f=>(f.offset,(Z2 P f.type).getD 0)) w:=by
  intro l
  induction l with
  | nil=>intro _;simp
  | cons f l ih =>
    intro hl
    simp only [List.all_cons,Bool.and_eq_true] at hl
    obtain ⟨n,hn⟩:=Option.isSome_iff_exists.1 hl.1
    simp only [List.mapM_cons,Sem.run_bind,a1Y hn,Result.andThen_ok,Sem.run_pure,ih hl.2,List.map_cons,hn,Option.getD_some]
 have h2:=this fs.toList h
 rw [Sem.run_map,h2]
 simp only [Result.andThen_ok]
 congr 1
 apply Array.ext'
 simp
theorem b5i {fs:Array Field} (he:a0d μ Φ env a):∀ {l:List (Nat×Operand)} {ps:List (Nat×Nat×Opd)},a5t P fs l=some ps ->
 ps.length=(l.map fun (i,x)=>(i,a.eval x)).length /\
 ∀ (j:Nat) (p:Nat×Nat×Opd) (q:Nat×Value),ps[j]?=some p->(l.map fun (i,x)=>(i,a.eval x))[j]?=some q ->
   (fs.map fun f=>(f.offset,(Z2 P f.type).getD 0))[q.1]?=some (p.1,p.2.1)/\R μ Φ (env.ev p.2.2) q.2
 | [],ps,h=>by simp [a5t] at h;subst h;simp
 | (i,x)::l,ps,h=>by
   simp only [a5t] at h
   split at h
   ·rename_i f y l' hf hy hl
    split at h
    ·rename_i n hn
     simp at h;subst h
     have ih:=b5i he hl
     refine ⟨by simpa using ih.1,?_⟩
     intro j p q hp hq
     cases j with
     | zero =>
       simp at hp hq
       subst hp;subst hq
       refine ⟨by simp [hf,hn],S7 he hy⟩
     | succ j=>exact ih.2 j p q (by simpa using hp) (by simpa using hq)
    ·simp at h
   ·simp at h
theorem b5U {f:Field} {n:Nat} (h:Z2 P f.type=some (n+1)) (b o:Nat) (w:World):(fieldPlace ⟨b,o,none⟩ f).run P w=.ok ⟨b,o+f.offset,none⟩ w:=by
 simp [fieldPlace,a1Y h,a2k]
theorem b4W {t:TypeId} {f:Nat} {fd:Field} (h:a70 P t f=some fd):∃fs,P.underlying t=some (.struct fs)/\fs[f]?=some fd:=by
 unfold a70 at h
 split at h
 ·rename_i fs hu;exact ⟨fs,hu,h⟩
 ·simp at h
theorem b8x {o:Oper} {po:POp} (hres:a1f P md o=some (.p po)) (he:a0d μ Φ env a) (hev:evP env po=some d) (w:World):a1F P μ Φ (execOp a.eval o) w d:=by
 obtain ⟨dst,op,type,pos,after,guard⟩:=o
 cases op<;>simp only [a1f] at hres
 case move x =>
  obtain ⟨y,hy,e⟩:=map_some hres
  cases e
  simp only [evP] at hev
  cases hev
  exact ⟨a.eval x,by simp [execOp],S7 he hy⟩
 case assign x =>
  obtain ⟨y,hy,e⟩:=map_some hres
  cases e
  simp only [evP] at hev
  cases hev
  exact ⟨a.eval x,by simp [execOp],S7 he hy⟩
 case pick c x y =>
  split at hres
  ·rename_i c' x' y' hc hx hy
   cases hres
   simp only [evP] at hev
   split at hev
   ·rename_i t ht
    have rc:=S7 he hc
    rw [ht] at rc
    simp only [R] at rc
    cases hev
    cases t
    ·exact ⟨a.eval y,by simp [execOp,rc,asBool],S7 he hy⟩
    ·exact ⟨a.eval x,by simp [execOp,rc,asBool],S7 he hx⟩
   ·simp at hev
  ·simp at hres
 case nilCheck x =>
  obtain ⟨y,hy,e⟩:=map_some hres
  cases e
  have rx:=S7 he hy
  simp only [evP] at hev
  split at hev
  ·rename_i id off hx
   cases hev
   rw [hx] at rx
   refine ⟨a.eval x,?_,rx⟩
   simp only [R] at rx
   obtain ⟨b,o,z,_,e⟩:=rx
   simp [execOp,e]
  ·rename_i cs off hx
   cases hev
   rw [hx] at rx
   refine ⟨a.eval x,?_,rx⟩
   simp only [R,RP] at rx
   obtain ⟨b,o,e,_⟩:=rx
   simp [execOp,e]
  ·rename_i f caps hx
   cases hev
   rw [hx] at rx
   refine ⟨a.eval x,?_,rx⟩
   simp only [R] at rx
   obtain ⟨vs,e,_⟩:=rx
   simp [execOp,e]
  ·simp at hev
 case binOp op t x y yt =>
  obtain ⟨p,hp,e⟩:=map_some hres
  cases e
  exact c1l hp he hev w yt dst type pos after guard
 case unOp op t x =>
  obtain ⟨y,hy,e⟩:=map_some hres
  cases e
  have rx:=S7 he hy
  simp only [evP] at hev
  refine a1v (s:=Op.unary op (a.eval x)) ?_
  unfold unV at hev
  split at hev
  ·rename_i k n hx
   rw [hx] at rx
   simp only [R] at rx
   cases hev
   exact ⟨.int k (k.wrap (0-n)),by simp [rx,Op.unary,Op.intArith],by simp only [R]⟩
  ·rename_i k n hx
   rw [hx] at rx
   simp only [R] at rx
   cases hev
   exact ⟨_,by rw [rx];rfl,by simp only [R]⟩
  ·rename_i b hx
   rw [hx] at rx
   simp only [R] at rx
   cases hev
   exact ⟨_,by simp [rx,Op.unary];rfl,by simp only [R]⟩
  ·simp at hev
 case convert src dst' x =>
  split at hres
  ·rename_i y k0 k hy hs hd
   cases hres
   have rx:=S7 he hy
   simp only [evP] at hev
   split at hev
   ·rename_i k1 n hx
    rw [hx] at rx
    simp only [R] at rx
    cases hev
    exact ⟨_,by simp [execOp,convert,rx,run_underlying hs,run_underlying hd,Conv.intToInt];rfl,by simp only [R]⟩
   ·simp at hev
  ·split at hres<;>simp at hres
  ·simp at hres
 case build t parts =>
  split at hres
  ·rename_i fs z hu hz
   split at hres
   ·rename_i l hl
    split at hres
    rotate_left
    ·simp at hres
    rename_i hso
    cases hres
    simp only [evP] at hev
    obtain ⟨cs,hcs,e⟩:=map_some hev
    subst e
    obtain ⟨i,zv,hi,hzv,hzr,_⟩:=a5E (Φ:=Φ) hz
    obtain ⟨p1,p2⟩:=b5i he hl
    obtain ⟨ws,w1,w2,_⟩:=b0v (μ:=μ) (Φ:=Φ) ((fs.map fun f=>(f.offset,(Z2 P f.type).getD 0))[·]?) l _ z cs zv.cells.toList p1 p2 (RL_of_RPL _ _ hzr) hcs
    refine a1v (s:=Instr.build t (parts.map fun (i,x)=>(i,a.eval x))) ⟨.agg ws.toArray,?_,(by simp only [R];exact ⟨ws,rfl,w2⟩:R μ Φ (.agg cs) (.agg ws.toArray))⟩
    have hpl:(parts.map fun (i,x)=>(i,a.eval x)).toList=parts.toList.map fun (i,x)=>(i,a.eval x):=Array.toList_map
    simp only [Array.toArray_toList] at w1
    simp only [Instr.build,Sem.run_bind,a42 hi hzv,Result.andThen_ok,run_underlying hu,b8t hso,hpl,w1,Sem.run_pure]
   ·simp at hres
  ·simp at hres
 case fieldAddr t x f =>
  split at hres
  ·rename_i y fd hy hf
   split at hres
   ·rename_i n hn
    cases hres
    have rx:=S7 he hy
    obtain ⟨fs,hu,hfs⟩:=b4W hf
    simp only [evP] at hev
    refine a1v (s:=Instr.fieldAt t (a.eval x) f) ?_
    split at hev
    ·rename_i id o hx
     rw [hx] at rx
     simp only [R] at rx
     obtain ⟨b,o',z,hm,e⟩:=rx
     cases hev
     refine ⟨_,by simp [Instr.fieldAt,run_underlying hu,hfs,e,Instr.sureAddr,b5U hn];rfl,?_⟩
     simp only [R]
     exact ⟨b,o',z,hm,by simp [Nat.add_assoc]⟩
    ·rename_i cs o hx
     rw [hx] at rx
     simp only [R,RP] at rx
     obtain ⟨b,o',e,hc⟩:=rx
     cases hev
     refine ⟨_,by simp [Instr.fieldAt,run_underlying hu,hfs,e,Instr.sureAddr,b5U hn];rfl,?_⟩
     simp only [R,RP]
     exact ⟨b,o',by simp [Nat.add_assoc],hc⟩
    ·simp at hev
   ·simp at hres
  ·simp at hres
 case field t x f =>
  split at hres
  ·rename_i y fd hy hf
   split at hres
   ·rename_i n hn
    cases hres
    have rx:=S7 he hy
    obtain ⟨fs,hu,hfs⟩:=b4W hf
    simp only [evP] at hev
    refine a1v (s:=Instr.field t (a.eval x) f) ?_
    split at hev
    ·rename_i cs hx
     rw [hx] at rx
     simp only [R] at rx
     obtain ⟨us,e,hr⟩:=rx
     obtain ⟨v,h1,h2⟩:=b6g hn hev hr w
     exact ⟨v,by simp [Instr.field,run_underlying hu,hfs,e,asAgg,h1],h2⟩
    ·simp at hev
   ·simp at hres
  ·simp at hres
 case indexAddr t x i =>
  split at hres
  ·rename_i off ho
   split at hres
   ·rename_i y hy
    cases hres
    have rx:=S7 he hy
    obtain ⟨len,e,k,n,s,hu,rfl,hs,hb,rfl⟩:=b6s ho
    simp only [evP] at hev
    refine a1v (s:=Instr.indexAt t (a.eval x) (a.eval (.const (.int k n)))) ?_
    have hc:a.eval (.const (.int k n))=.int k n:=rfl
    rw [hc]
    split at hev
    ·rename_i id o hx
     rw [hx] at rx
     simp only [R] at rx
     obtain ⟨b,o',z,hm,e⟩:=rx
     cases hev
     refine ⟨_,by simp [Instr.indexAt,asIntOf,run_underlying hu,e,Instr.sureAddr,hb,a1Y hs];rfl,?_⟩
     simp only [R]
     exact ⟨b,o',z,hm,by simp [Nat.add_assoc,a2k]⟩
    ·rename_i cs o hx
     rw [hx] at rx
     simp only [R,RP] at rx
     obtain ⟨b,o',e,hc⟩:=rx
     cases hev
     refine ⟨_,by simp [Instr.indexAt,asIntOf,run_underlying hu,e,Instr.sureAddr,hb,a1Y hs];rfl,?_⟩
     simp only [R,RP]
     exact ⟨b,o',by simp [Nat.add_assoc,a2k],hc⟩
    ·simp at hev
   ·simp at hres
  ·split at hres
   ·rename_i y j e hy hj he'
    split at hres
    ·rename_i n hn
     cases hres
     simp only [evP] at hev
     exact a1v (b7P he' hn (S7 he hy) (S7 he hj) hev w)
    ·simp at hres
   ·simp at hres
 case index t x i =>
  split at hres
  ·rename_i y j hy hj hu
   cases hres
   simp only [evP] at hev
   exact a1v (b8l hu (S7 he hy) (S7 he hj) hev w)
  ·rename_i y j len e hy hj hu
   split at hres
   ·rename_i n s hn hs
    cases hres
    simp only [evP] at hev
    have rx:=S7 he hy
    have ri:=S7 he hj
    refine a1v (s:=Instr.index t (a.eval x) (a.eval i)) ?_
    split at hev
    ·rename_i cs kk k hx hi
     rw [hx] at rx
     rw [hi] at ri
     simp only [R] at rx ri
     obtain ⟨us,e1,hr⟩:=rx
     split at hev
     ·rename_i hc
      obtain ⟨v,h1,h2⟩:=b6g hn hev hr w
      refine ⟨v,?_,h2⟩
      rw [e1,ri]
      simp [Instr.index,asIntOf,run_underlying hu,hc,a1Y hs,h1]
     ·simp at hev
    ·simp at hev
   ·simp at hres
  ·simp at hres
 case slice t x lo hi mx =>
  cases mx with
  | some _=>simp at hres
  | none =>
    simp only at hres
    split at hres
    ·rename_i y l h hy hl hh hu
     cases hres
     simp only [evP] at hev
     exact a1v (b6x hu (S7 he hy) (a7C he hl) (a7C he hh) hev w)
    ·rename_i y l h e hy hl hh hu
     split at hres
     ·rename_i n hn
      cases hres
      simp only [evP] at hev
      exact a1v (c6h hu hn (S7 he hy) (a7C he hl) (a7C he hh) hev w)
     ·simp at hres
    ·simp at hres
 case extract x i =>
  obtain ⟨y,hy,e⟩:=map_some hres
  cases e
  have rx:=S7 he hy
  simp only [evP] at hev
  split at hev
  ·rename_i vs hx
   rw [hx] at rx
   simp only [R] at rx
   obtain ⟨us,e,hr⟩:=rx
   obtain ⟨u,h1,h2⟩:=a40 hr hev
   exact a1v (s:=Instr.extract (a.eval x) i) ⟨u,by simp [Instr.extract,e,h1],h2⟩
  ·simp at hev
 case makeFunc fn first caps =>
  cases fn<;>simp only at hres<;>try (cases hres;done)
  rename_i f
  split at hres
  ·rename_i h0
   obtain ⟨l,hl,e⟩:=map_some hres
   cases e
   simp only [evP] at hev
   cases hev
   have hr:=a6g he hl
   refine a1v (s:=Instr.makeFunc (.func f) (first.map a.eval) (caps.map a.eval)) ⟨.func (.func f) #[] (caps.map a.eval),?_,?_⟩
   ·have:first=#[]:=Array.eq_empty_of_size_eq_zero h0
    simp [Instr.makeFunc,this]
   ·simp only [R]
    exact ⟨_,by apply congrArg;apply Array.ext';simp,hr⟩
  ·simp at hres
 case call c =>
  obtain ⟨callee,args,types⟩:=c
  cases callee with
  | invoke _ _=>simp at hres
  | value f=>simp only at hres;split at hres<;>simp at hres
  | builtin b =>
    simp only [a4W] at hres
    split at hres
    ·rename_i x hargs
     split at hres
     ·rename_i y t hy ht
      have ha:args=#[x]:=by rw [<- Array.toArray_toList (xs:=args),hargs]
      have htt:types=#[t]:=by rw [<- Array.toArray_toList (xs:=types),ht]
      subst ha;subst htt
      split at hres
      ·rename_i e hu
       cases hres
       simp only [evP] at hev
       exact a7V (s:=Builtin.len_ #[t] type #[a.eval x]) (fun _=>by simp [builtin]) (b2o (t:=t) (i:=false) (by simp;exact ⟨e,hu⟩) (S7 he hy) hev w type) dst pos after guard
      ·rename_i hu
       cases hres
       simp only [evP] at hev
       exact a7V (s:=Builtin.len_ #[t] type #[a.eval x]) (fun _=>by simp [builtin]) (b2o (t:=t) (i:=true) (by simpa using hu) (S7 he hy) hev w type) dst pos after guard
      ·simp at hres
     ·simp at hres
    ·rename_i x r hargs
     split at hres
     ·rename_i y l hy hl
      cases hres
      simp only [evP] at hev
      have ha:args=(x::r).toArray:=by rw [<- hargs]
      subst ha
      refine a7V (s:=Builtin.min_ types type ((x::r).toArray.map a.eval)) (fun _=>by simp [builtin]) ?_ dst pos after guard
      obtain ⟨v,h1,h2⟩:=a7N (P:=P) (isMax:=false) w (S7 he hy) (a6g he hl) hev
      exact ⟨v,by simpa [Builtin.min_] using h1,h2⟩
     ·simp at hres
    ·rename_i x r hargs
     split at hres
     ·rename_i y l hy hl
      cases hres
      simp only [evP] at hev
      have ha:args=(x::r).toArray:=by rw [<- hargs]
      subst ha
      refine a7V (s:=Builtin.max_ types type ((x::r).toArray.map a.eval)) (fun _=>by simp [builtin]) ?_ dst pos after guard
      obtain ⟨v,h1,h2⟩:=a7N (P:=P) (isMax:=true) w (S7 he hy) (a6g he hl) hev
      exact ⟨v,by simpa [Builtin.max_] using h1,h2⟩
     ·simp at hres
    ·split at hres
     ·split at hres
      ·split at hres
       ·split at hres<;>simp at hres
       ·simp at hres
      ·simp at hres
     ·simp at hres
    ·simp at hres
 case load t x=>split at hres<;>simp at hres
 case lookup t m k ok =>
  split at hres
  ·split at hres
   ·split at hres<;>simp at hres
   ·simp at hres
  ·simp at hres
 case alloc t=>obtain ⟨z,_,e⟩:=map_some hres;cases e
 case box t x=>obtain ⟨z,_,e⟩:=map_some hres;cases e
 case buildSlice t len parts =>
  split at hres
  ·split at hres
   ·split at hres<;>simp at hres
   ·simp at hres
  ·simp at hres
 case makeSlice t l c =>
  split at hres
  ·split at hres
   ·split at hres<;>simp at hres
   ·simp at hres
  ·simp at hres
 case makeMap t r=>cases r<;>simp at hres
 case store t x y=>split at hres<;>simp at hres
 case mapUpdate t m k v =>
  split at hres
  ·split at hres<;>simp at hres
  ·simp at hres
 all_goals (cases hres;done)
end
end Go.V
namespace Go.V
section
variable {P:Program} {md:FuncId->a0a} {μ:Mu} {Φ:Phi} {env:Env} {a:Act} {d:D} {g:P8} {w:World}
theorem a0E.values {b o z:Nat} {cs:List D} (h:a0E μ Φ w b o z (.cells cs)):∃vs,RL μ Φ cs vs/\∀j u,vs[j]?=some u->w.cell? ⟨b,o+j,none⟩=some u:=by
 obtain ⟨arr,e,vs,tail,h1,h2,h3,h4,_⟩:=h
 refine ⟨vs,h4,fun j u hu=>?_⟩
 rw [a6W h1]
 have h5:(arr.toList.drop o)[j]?=some u:=by
  rw [h3,List.getElem?_append_left (List.getElem?_eq_some_iff.1 hu).1]
  exact hu
 rw [List.getElem?_drop,Array.getElem?_toList] at h5
 exact h5
theorem a0E.one {b o z:Nat} {cs:List D} (h:a0E μ Φ w b o z (.cells cs)):cs.all M8=true:=by
 obtain ⟨arr,e,vs,tail,h1,h2,h3,h4,h5⟩:=h
 exact h5
theorem a46 {cs ds:List D} (h:cs.all M8=true) (hs:∀x∈ds,x∈cs):ds.all M8=true:=by
 rw [List.all_eq_true] at h ⊢
 exact fun x hx=>h x (hs x hx)
theorem a6a {cs ds:List D} (h:cs.all M8=true) (k:ds.all M8=true):(cs++ds).all M8=true:=by
 simp only [List.all_append,h,k,Bool.and_self]
theorem b3R {cs new:List D} {off:Nat} (h:cs.all M8=true) (k:new.all M8=true):(a20 cs off new).all M8=true :=
 a6a (a6a (a46 h fun _ hx=>List.mem_of_mem_take hx) k) (a46 h fun _ hx=>List.mem_of_mem_drop hx)
theorem a9Q {z:List D} (h:z.all M8=true):∀n,(a1y z n).all M8=true
 | 0=>rfl
 | n+1=>a6a h (a9Q h n)
theorem b1I:∀ {ps:List (Nat×Nat×Opd)} {cs out:List D},cs.all M8=true->a1V env cs ps=some out->out.all M8=true
 | [],cs,out,h,e=>by simp [a1V] at e;subst e;exact h
 | (off,size,x)::ps,cs,out,h,e=>by
   simp only [a1V] at e
   split at e
   ·rename_i hc
    exact b1I (b3R h hc.2.2) e
   ·simp at e
theorem b0P {t:TypeId} {n:Option Nat} (ht:a3R P t=some n) {off b o:Nat} {cs:List D} (h:a0z n off cs=some d) {us:List Value} (hr:RL μ Φ cs us)
 (hc:∀j u,us[j]?=some u->w.cell? ⟨b,o+j,none⟩=some u):∃v,(Instr.loadAt t (.pointer (some ⟨b,o+off,none⟩))).run P w=.ok v w/\R μ Φ d v:=by
 have hp:=b2b h hr
 unfold a3R b0K at ht
 cases hu:P.underlying t with
 | none=>simp [hu] at ht
 | some td =>
   have aggCase:(∃k,Z2 P t=some k/\n=some k)->(isAgg t).run P w=.ok true w->∃v,(Instr.loadAt t (.pointer (some ⟨b,o+off,none⟩))).run P w=.ok v w/\R μ Φ d v:=by
    rintro ⟨k,hk,rfl⟩ hag
    refine ⟨_,?_,hp.2⟩
    have hlen:((us.drop off).take k).length=k:=by have:=hp.1;simp;omega
    have hl:=a96 P w b (o+off) ((us.drop off).take k) (fun j u hj=>by
     rw [List.getElem?_take] at hj
     split at hj
     ·rw [List.getElem?_drop] at hj
      rw [Nat.add_assoc]
      exact hc _ _ hj
     ·simp at hj)
    rw [hlen] at hl
    simp only [Instr.loadAt,Instr.sureAddr,loadVar,Sem.run_bind,Sem.run_pure,hag,Result.andThen_ok,if_true,a1Y hk,hl]
   have cellCase:n=none->(isAgg t).run P w=.ok false w->∃v,(Instr.loadAt t (.pointer (some ⟨b,o+off,none⟩))).run P w=.ok v w/\R μ Φ d v:=by
    rintro rfl hag
    obtain ⟨u,h1,h2⟩:=hp
    have:=hc _ _ h1
    exact ⟨u,by simp [Instr.loadAt,Instr.sureAddr,loadVar,hag,this],h2⟩
   cases td<;>simp only [hu] at ht<;>cases hs:Z2 P t<;>simp [hs] at ht<;>first
    | (refine aggCase ⟨_,hs,ht.symm⟩ ?_;simp [isAgg,run_underlying hu])
    | (refine cellCase ht.symm ?_;simp [isAgg,run_underlying hu])
theorem b3P (hs:Sim μ Φ g w) {x:D} {v:Value} (hx:R μ Φ x v) {cs:List D} (h:Z8 g x=some cs) {sz:Nat} (hsz:a0J sz x=true) :
 ∃us n,a1U x=some n/\us.length=n*sz/\RL μ Φ cs us/\cs.all M8=true/\((v=.slice none 0 0/\us=[]/\n=0)∨∃a cap,v=.slice (some a) n cap/\n<=cap/\(∀w1:World,w1.heap=w.heap->(loadCells a us.length).run P w1=.ok us.toArray w1)):=by
 have byCell:∀ (b o:Nat) (us:List Value),(∀j u,us[j]?=some u->w.cell? ⟨b,o+j,none⟩=some u)->∀w1:World,w1.heap=w.heap->(loadCells ⟨b,o,none⟩ us.length).run P w1=.ok us.toArray w1:=by
  intro b o us h w1 hw1
  refine a96 P w1 b o us fun j u hj=>?_
  have:=h j u hj
  simp only [World.cell?,hw1] at this ⊢
  exact this
 unfold Z8 at h
 split at h
 ·simp only [R] at hx
  cases h
  exact ⟨[],0,rfl,by simp,by simp [RL],rfl,.inl ⟨hx,rfl,rfl⟩⟩
 ·rename_i sz' xs
  cases h
  have:sz'=sz:=by simpa [a0J] using hsz
  subst this
  simp only [R,RP] at hx
  obtain ⟨b,o,cap,sp,e,h1,hsp,h2⟩:=hx
  obtain ⟨us,u1,u2⟩:=a8w (a5P h2).1
  have hlen:us.length=xs.length*sz':=by rw [a1b (RL_of_RPL (μ:=μ) _ _ u1),(a5P h2).2]
  refine ⟨us,xs.length,rfl,?_,RL_of_RPL _ _ u1,b2G (a5P h2).1,.inr ⟨⟨b,o,sp⟩,cap,e,h1,?_⟩⟩
  case refine_2 =>
   rcases hsp with rfl | rfl
   ·exact byCell b o us fun j u hu=>hs.cellP (u2 j u hu)
   ·have:us=[]:=by apply List.eq_nil_of_length_eq_zero;simpa using hlen
    subst this
    intro w1 _
    rfl
  rw [a1b (RL_of_RPL (μ:=μ) _ _ u1),(a5P h2).2]
 ·rename_i id off len sz'
  have:sz'=sz:=by simpa [a0J] using hsz
  subst this
  simp only [R] at hx
  obtain ⟨b,o,z,cap,hm,e,hlc,hz⟩:=hx
  split at h
  ·rename_i cs0 hg
   split at h
   ·rename_i hle
    cases h
    obtain ⟨b',o',z',m1,m2,_⟩:=hs.obj id _ hg
    rw [hm] at m1
    cases m1
    obtain ⟨us,u1,u2⟩:=m2.values
    refine ⟨(us.drop off).take (len*sz'),len,rfl,?_,a7Y _ (a5b _ u1),a46 (m2.one) (fun x hx=>List.mem_of_mem_drop (List.mem_of_mem_take hx)),.inr ⟨⟨b,o+off,none⟩,cap,e,hlc,byCell b (o+off) _ ?_⟩⟩
    ·have:=a1b u1
     simp
     omega
    intro j u hj
    rw [List.getElem?_take] at hj
    split at hj
    ·rw [List.getElem?_drop] at hj
     rw [Nat.add_assoc]
     exact u2 _ _ hj
    ·simp at hj
   ·simp at h
  ·simp at h
 ·simp at h
theorem b4p:∀ {cs:List D} {us:List Value} {l:List UInt8},RL μ Φ cs us->a53 cs=some l->∃ns:List Int,us=ns.map (Value.int .u8)/\l=ns.map fun n=>UInt8.ofNat n.toNat
 | [],us,l,hr,h=>by simp only [RL] at hr;simp [a53] at h;subst hr;subst h;exact ⟨[],rfl,rfl⟩
 | c::cs,us,l,hr,h=>by
   simp only [RL] at hr
   obtain ⟨u,us',rfl,h1,h2⟩:=hr
   simp only [a53] at h
   split at h
   ·rename_i b l' hb hl
    simp at h;subst h
    obtain ⟨ns,e1,e2⟩:=b4p h2 hl
    unfold b2F at hb
    split at hb
    ·rename_i n
     simp only [R] at h1
     split at hb
     ·simp at hb
      subst h1;subst hb;subst e1;subst e2
      exact ⟨n::ns,rfl,rfl⟩
     ·simp at hb
    ·simp at hb
   ·simp at h
theorem c1o {em:Bool} (n:Nat) {t:TypeId} {k:SK} (ht:a36 P t=some k) (v:Value):(Instr.checkKey em (n+1) t v).run P w=.ok () w:=by
 unfold a36 at ht
 split at ht<;>first
  | (rename_i hu;cases v<;>simp [Instr.checkKey,run_underlying hu];done)
  | simp at ht
def a3V (em:Bool) (d:Nat) (xs:Array Value):List Field->Sem Unit
 | []=>pure ()
 | f::fs=>if f.name≠"_" then do
    let v <- part f.type xs f.offset
    Instr.checkKey em d f.type v
    a3V em d xs fs
   else a3V em d xs fs
theorem b2r (em:Bool) (n:Nat):∀ (fs:List Field) (k:Nat) (ks:List SK) (xs:Array Value),a2V P fs k=some ks->k+fs.length<=xs.size->(a3V em (n+1) xs fs).run P w=.ok () w
 | [],k,ks,xs,_,_=>by simp [a3V]
 | f::fs,k,ks,xs,hf,hl=>by
   simp only [a2V] at hf
   split at hf
   ·rename_i hname
    split at hf
    ·rename_i kk l hk hl'
     simp only [List.length_cons] at hl
     have ih:=b2r em n fs (k+1) l xs hl' (by omega)
     have hx:xs[f.offset]?=some xs[k]:=by rw [hname.1];simp
     simp only [a3V,hname.2,ne_eq,not_false_eq_true,if_true,Sem.run_bind,a95 hk hx,Result.andThen_ok,c1o n hk,ih]
    ·simp at hf
   ·simp at hf
theorem b6h:∀ {fs:List Field} {k:Nat} {ks:List SK},a2V P fs k=some ks->ks.length=fs.length
 | [],k,ks,h=>by simp [a2V] at h;subst h;rfl
 | f::fs,k,ks,h=>by
   simp only [a2V] at h
   split at h
   ·split at h
    ·rename_i h2
     simp at h;subst h
     simp [b6h h2]
    ·simp at h
   ·simp at h
theorem b6p (em:Bool) (n:Nat) {t:TypeId} {fs:Array Field} (us:Array Value) (hu:P.underlying t=some (.struct fs)) (w:World) :
 (Instr.checkKey em (n+1) t (.agg us)).run P w=(a3V em n us fs.toList).run P w:=by
 simp only [Instr.checkKey,Sem.run_bind,run_underlying hu,Result.andThen_ok]
 rw [<- Array.forIn_toList]
 generalize fs.toList=l
 clear hu
 induction l generalizing w with
 | nil=>simp [a3V]
 | cons f l ih =>
   simp only [List.forIn_cons,a3V,Sem.run_bind,Sem.run_ite]
   split
   ·generalize (part f.type us f.offset).run P w=r1
    cases r1 with
    | halt h w1=>simp
    | ok v w1 =>
      simp only [Result.andThen_ok]
      generalize (Instr.checkKey em n f.type v).run P w1=r2
      cases r2 with
      | halt h w2=>simp
      | ok _ w2=>simp only [Result.andThen_ok,Sem.run_pure];exact ih w2
   ·simp only [Sem.run_pure,Result.andThen_ok];exact ih w
theorem b1Y {em:Bool} {t:TypeId} {ks:List SK} (ht:a1i P t=some ks) (us:List Value) (hl:ks.length<=us.length):(Instr.checkKey em 10000 t (.agg us.toArray)).run P w=.ok () w:=by
 unfold a1i at ht
 split at ht
 ·rename_i fs hu
  split at ht
  ·have h2:=b2r (P:=P) (w:=w) em 9998 fs.toList 0 ks us.toArray ht (by rw [<- b6h ht];simpa using hl)
   exact (b6p em 9999 us.toArray hu w).trans h2
  ·simp at ht
 ·simp at ht
theorem a9r {t:TypeId} {ks:List SK} (ht:a1i P t=some ks) {k:List D} {us:List Value} (hk:RL μ Φ k us):∀ {kvs:List (D×D)} {es:List MapEntry} (i:Nat) {r:Option D},RKV μ Φ kvs es->a5f ks k kvs=some r ->
 (r=none/\(Instr.findAsking t (.agg us.toArray) es i).run P w=.ok none w)∨∃j v x,r=some x/\(Instr.findAsking t (.agg us.toArray) es i).run P w=.ok (some (i+j,v)) w/\R μ Φ x v/\(∃e,es[j]?=some e/\e.val=v/\∃kk,kvs[j]?=some (kk,x)/\∃l,kk=.agg l/\a0H ks k l=some true)
 | [],es,i,r,hr,h=>by
   simp only [RKV] at hr
   subst hr
   simp [a5f] at h
   exact .inl ⟨h.symm,by simp [Instr.findAsking]⟩
 | (k',v')::kvs,es,i,r,hr,h=>by
   simp only [RKV] at hr
   obtain ⟨e,l,rfl,h1,h2,h3⟩:=hr
   by_cases hagg:∃b',k'=.agg b'
   ·obtain ⟨b',rfl⟩:=hagg
    simp only [a5f] at h
    simp only [R] at h1
    obtain ⟨ws,hw,hws⟩:=h1
    split at h
    ·rename_i hsame
     simp at h;subst h
     have:=a57 (w:=w) ht hk hws hsame
     refine .inr ⟨0,e.val,v',rfl,?_,h2,e,by simp,rfl,_,by simp,b',rfl,hsame⟩
     simp [Instr.findAsking,hw,this]
    ·rename_i hsame
     have:=a57 (w:=w) ht hk hws hsame
     rcases a9r ht hk (i+1) h3 h with ⟨rfl,q⟩ | ⟨j,v,x,rfl,q,q2,e2,q3,q4,kk,q5,q6⟩
     ·exact .inl ⟨rfl,by simp [Instr.findAsking,hw,this,q]⟩
     ·refine .inr ⟨j+1,v,x,rfl,?_,q2,e2,by simpa using q3,q4,kk,by simpa using q5,q6⟩
      simp only [Instr.findAsking,Sem.run_bind,hw,this,Result.andThen_ok,Bool.false_eq_true,if_false,q]
      congr 3
      omega
    ·simp at h
   ·cases k'<;>first | exact absurd ⟨_,rfl⟩ hagg | (simp [a5f] at h)
theorem a9V {t:TypeId} {ks:List SK} (ht:a1i P t=some ks) (us:List Value) (es:List MapEntry) :
 (Instr.findKey t (.agg us.toArray) es).run P w=(Instr.findAsking t (.agg us.toArray) es).run P w:=by
 unfold a1i at ht
 split at ht
 ·rename_i fs hu
  cases es with
  | nil=>simp [Instr.findKey,run_underlying hu,Instr.findNow,Instr.findAsking]
  | cons e es=>simp [Instr.findKey,run_underlying hu,Instr.findNow,Instr.sameNow]
 ·simp at ht
theorem c32 {o:Oper} {ro:ROp} (hres:a1f P md o=some (.r ro)) (he:a0d μ Φ env a) (hs:Sim μ Φ g w) (hev:evR env g ro=some d):a1F P μ Φ (execOp a.eval o) w d:=by
 obtain ⟨dst,op,type,pos,after,guard⟩:=o
 cases op<;>simp only [a1f] at hres
 case load t x =>
  split at hres
  ·rename_i y n hy hn
   cases hres
   have rx:=S7 he hy
   simp only [evR] at hev
   refine a1v (s:=Instr.loadAt t (a.eval x)) ?_
   split at hev
   ·rename_i id off hx
    rw [hx] at rx
    simp only [R] at rx
    obtain ⟨b,o,z,hm,e⟩:=rx
    split at hev
    ·rename_i cs hg
     obtain ⟨b',o',z',m1,m2,_⟩:=hs.obj id _ hg
     rw [hm] at m1
     cases m1
     obtain ⟨us,u1,u2⟩:=m2.values
     rw [e]
     exact b0P hn hev u1 u2
    ·simp at hev
   ·rename_i cs off hx
    rw [hx] at rx
    simp only [R,RP] at rx
    obtain ⟨b,o,e,hc⟩:=rx
    obtain ⟨us,u1,u2⟩:=a8w hc
    rw [e]
    exact b0P hn hev (RL_of_RPL _ _ u1) (fun j u hu=>hs.cellP (u2 j u hu))
   ·simp at hev
  ·simp at hres
 case lookup t m k ok =>
  split at hres
  ·rename_i m' k' kt et hm hk hu
   split at hres
   ·rename_i zd hz
    split at hres
    ·rename_i ks hks
     cases hres
     simp only [evR] at hev
     have rm:=S7 he hm
     have rk:=S7 he hk
     refine a1v (s:=Instr.lookup t (a.eval m) (a.eval k) ok) ?_
     split at hev
     ·rename_i id hx
      rw [hx] at rm
      simp only [R] at rm
      obtain ⟨b,o,z,hmu,e⟩:=rm
      split at hev
      ·rename_i kvs hg
       obtain ⟨b',o',z',m1,m2,_⟩:=hs.obj id _ hg
       rw [hmu] at m1
       cases m1
       obtain ⟨es,clock,hb,hkv⟩:=m2
       split at hev
       ·rename_i kl hkl
        unfold a5I at hkl
        split at hkl
        ·rename_i k0 hk0
         split at hkl
         ·rename_i hlen
          simp at hkl;subst hkl
          rw [hk0] at rk
          simp only [R] at rk
          obtain ⟨us,ek,hus⟩:=rk
          have hck:=b1Y (P:=P) (w:=w) (em:=es.isEmpty) hks us (by rw [a1b hus,hlen.1];exact Nat.le_refl _)
          have hz1:∃i v,P.info? et=some i/\i.zero=some v/\R μ Φ zd v:=by
           unfold b2C at hz
           split at hz
           ·rename_i i hi
            split at hz
            ·rename_i v hv
             exact ⟨i,v,hi,hv,a6s _ _ (a9y hz)⟩
            ·simp at hz
           ·simp at hz
          obtain ⟨iz,zv,hi,hzv,hzr⟩:=hz1
          have hfk:∀r,(Instr.findAsking kt (.agg us.toArray) es.toList).run P w=.ok r w->(Instr.findKey kt (.agg us.toArray) es.toList).run P w=.ok r w:=fun r hr=>by
           rw [a9V hks];exact hr
          have hgo:=MapKept.run_getObj_map (P:=P) hb
          split at hev
          ·rename_i v hfv
           cases hev
           rcases a9r (w:=w) hks hus 0 hkv hfv with ⟨h0,_⟩ | ⟨j,v',x,h0,h1,h2,_⟩
           ·simp at h0
           ·simp at h0
            subst h0
            have h3:=hfk _ h1
            cases ok
            ·exact ⟨v',by simp [Instr.lookup,run_underlying hu,e,hgo,ek,hck,h3],h2⟩
            ·refine ⟨.tuple #[v',.bool true],by simp [Instr.lookup,run_underlying hu,e,hgo,ek,hck,h3],?_⟩
             simp only [if_true,R]
             exact ⟨[v',.bool true],rfl,by simp only [RL];exact ⟨_,_,rfl,h2,_,_,rfl,by simp only [R],rfl⟩⟩
          ·rename_i hfv
           cases hev
           rcases a9r (w:=w) hks hus 0 hkv hfv with ⟨_,h1⟩ | ⟨j,v',x,h0,_⟩
           ·have h3:=hfk _ h1
            cases ok
            ·exact ⟨zv,by simp [Instr.lookup,run_underlying hu,e,hgo,ek,hck,h3,a42 hi hzv],hzr⟩
            ·refine ⟨.tuple #[zv,.bool false],by simp [Instr.lookup,run_underlying hu,e,hgo,ek,hck,h3,a42 hi hzv],?_⟩
             simp only [if_true,R]
             exact ⟨[zv,.bool false],rfl,by simp only [RL];exact ⟨_,_,rfl,hzr,_,_,rfl,by simp only [R],rfl⟩⟩
           ·simp at h0
          ·simp at hev
         ·simp at hkl
        ·simp at hkl
       ·simp at hev
      ·simp at hev
     ·simp at hev
    ·simp at hres
   ·simp at hres
  ·simp at hres
 case convert src dst' x =>
  split at hres
  ·simp at hres
  ·rename_i y e hy hsrc hd
   split at hres
   ·rename_i hu8
    cases hres
    simp only [evR] at hev
    have rx:=S7 he hy
    refine a1v (s:=convert src dst' (a.eval x)) ?_
    split at hev
    ·rename_i cs hcs hsz
     obtain ⟨l,hl,e1⟩:=map_some hev
     subst e1
     obtain ⟨us,n,_,hlen,u1,_,u2⟩:=b3P hs rx hcs hsz
     obtain ⟨ns,n1,n2⟩:=b4p u1 hl
     subst n1;subst n2
     rcases u2 with ⟨e2,e3,_⟩ | ⟨ad,cap,e2,_,hc⟩
     ·have:ns=[]:=by simpa using e3
      subst this
      refine ⟨.string ByteArray.empty,?_,by simp only [R];rfl⟩
      rw [e2,run_convert_bytes_string w src dst' e _ _ _ hsrc hu8 hd]
      simp [Conv.bytesToString]
     ·have hlc:=hc w rfl
      have hn:(ns.map (Value.int .u8)).length=n:=by omega
      rw [hn] at hlc
      refine ⟨_,?_,by simp only [R];rfl⟩
      rw [e2,run_convert_bytes_string w src dst' e _ _ _ hsrc hu8 hd,run_bytesToString w _ n cap ns hlc,foldl_push_bytes]
      simp [ByteArray.empty,ByteArray.emptyWithCapacity]
      rfl
    ·simp at hev
   ·simp at hres
  ·simp at hres
 case move x=>obtain ⟨z,_,e⟩:=map_some hres;cases e
 case assign x=>obtain ⟨z,_,e⟩:=map_some hres;cases e
 case pick c x y=>split at hres<;>simp at hres
 case nilCheck x=>obtain ⟨z,_,e⟩:=map_some hres;cases e
 case binOp op t x y yt=>obtain ⟨z,_,e⟩:=map_some hres;cases e
 case unOp op t x=>obtain ⟨z,_,e⟩:=map_some hres;cases e
 case build t parts =>
  split at hres
  ·split at hres
   ·split at hres<;>simp at hres
   ·simp at hres
  ·simp at hres
 case fieldAddr t x f =>
  split at hres
  ·split at hres<;>simp at hres
  ·simp at hres
 case field t x f =>
  split at hres
  ·split at hres<;>simp at hres
  ·simp at hres
 case indexAddr t x f =>
  split at hres
  ·split at hres<;>simp at hres
  ·split at hres
   ·split at hres<;>simp at hres
   ·simp at hres
 case index t x f =>
  split at hres
  ·simp at hres
  ·split at hres<;>simp at hres
  ·simp at hres
 case slice t x lo hi mx =>
  cases mx with
  | some _=>simp at hres
  | none =>
    simp only at hres
    split at hres
    ·simp at hres
    ·split at hres<;>simp at hres
    ·simp at hres
 case extract x i=>obtain ⟨z,_,e⟩:=map_some hres;cases e
 case makeFunc fn first caps =>
  cases fn<;>simp only at hres<;>try (cases hres;done)
  split at hres
  ·obtain ⟨z,_,e⟩:=map_some hres;cases e
  ·simp at hres
 case call c =>
  obtain ⟨callee,args,types⟩:=c
  cases callee with
  | invoke _ _=>simp at hres
  | value f=>simp only at hres;split at hres<;>simp at hres
  | builtin b =>
    simp only [a4W] at hres
    split at hres
    ·split at hres
     ·split at hres<;>simp at hres
     ·simp at hres
    ·split at hres<;>simp at hres
    ·split at hres<;>simp at hres
    ·split at hres
     ·split at hres
      ·split at hres
       ·split at hres<;>simp at hres
       ·simp at hres
      ·simp at hres
     ·simp at hres
    ·simp at hres
 case alloc t=>obtain ⟨z,_,e⟩:=map_some hres;cases e
 case box t x=>obtain ⟨z,_,e⟩:=map_some hres;cases e
 case buildSlice t len parts =>
  split at hres
  ·split at hres
   ·split at hres<;>simp at hres
   ·simp at hres
  ·simp at hres
 case makeSlice t l c =>
  split at hres
  ·split at hres
   ·split at hres<;>simp at hres
   ·simp at hres
  ·simp at hres
 case makeMap t r=>cases r<;>simp at hres
 case store t x y=>split at hres<;>simp at hres
 case mapUpdate t m k v =>
  split at hres
  ·split at hres<;>simp at hres
  ·simp at hres
 all_goals (cases hres;done)
theorem a8g:∀ {z:List D} {us:List Value} (n:Nat),RPL Φ z us->RPL Φ (a1y z n) (List.replicate n us).flatten
 | z,us,0,_=>by simp [a1y,RPL]
 | z,us,n+1,h=>by
   have app:∀ (ds:List D) (vs:List Value) (es:List D) (ws:List Value),RPL Φ ds vs->RPL Φ es ws->RPL Φ (ds++es) (vs++ws):=by
    intro ds
    induction ds with
    | nil=>intro vs es ws h1 h2;simp only [RPL] at h1;subst h1;simpa using h2
    | cons d ds ih =>
      intro vs es ws h1 h2
      simp only [RPL] at h1
      obtain ⟨u,us',rfl,e1,e2⟩:=h1
      simp only [List.cons_append,RPL]
      exact ⟨u,us'++ws,rfl,e1,ih _ _ _ e2 h2⟩
   simp only [a1y,List.replicate_succ,List.flatten_cons]
   exact app _ _ _ _ h (a8g n h)
theorem b1o (us:List Value) (n:Nat) (h:us.length≠0):((Array.range (n*us.length)).map (us.toArray[· % us.toArray.size]!)).toList=(List.replicate n us).flatten:=by
 apply List.ext_getElem?
 intro i
 simp only [Array.toList_map,Array.toList_range,List.getElem?_map]
 by_cases hi:i<n*us.length
 ·have hm:i % us.length<us.length:=Nat.mod_lt _ (by omega)
  rw [List.getElem?_range hi]
  simp only [Option.map_some,List.size_toArray]
  have hd:i / us.length<n:=Nat.div_lt_of_lt_mul (by rw [Nat.mul_comm];exact hi)
  have:∀ (m i:Nat),i<m*us.length->(List.replicate m us).flatten[i]?=us[i % us.length]?:=by
   intro m
   induction m with
   | zero=>intro i hi;simp at hi
   | succ m ih =>
     intro i hi
     rw [List.replicate_succ,List.flatten_cons]
     by_cases h1:i<us.length
     ·rw [List.getElem?_append_left h1,Nat.mod_eq_of_lt h1]
     ·have h2:us.length<=i:=by omega
      rw [List.getElem?_append_right h2,ih (i-us.length) (by rw [Nat.add_mul] at hi;omega),Nat.mod_eq_sub_mod h2]
  rw [this n i hi]
  simp [hm]
 ·have h1:(List.range (n*us.length))[i]?=none:=by rw [List.getElem?_eq_none_iff];simp;omega
  rw [h1,Option.map_none]
  symm
  rw [List.getElem?_eq_none_iff]
  simp
  omega
theorem b2M (w:World) (ob:Obj):(w.alloc ob).heap[w.heap.size]?=some ob:=by
 show (w.heap.push ob)[w.heap.size]?=_
 simp
theorem a5p {μ':Mu} {cs:List D} {e:TypeId} {arr:Array Value} {vs tail:List Value} (h1:arr.toList=vs++tail) (h2:RL μ' Φ cs vs) (h3:cs.all M8=true) :
 a0E μ' Φ (w.alloc (.cells arr e)) w.heap.size 0 arr.size (.cells cs) :=
 ⟨arr,e,vs,tail,b2M _ _,rfl,by simpa using h1,h2,h3⟩
theorem a6P {Φ':Phi}:∀ {ds:List D} {vs:List Value},RPL Φ' ds vs->vs.length=ds.length
 | [],vs,e=>by simp only [RPL] at e;simp [e]
 | d::ds,vs,e=>by
   simp only [RPL] at e
   obtain ⟨u,us,rfl,_,e3⟩:=e
   simp [a6P e3]
theorem b5w {n:Nat} (he:a0d μ Φ env a):∀ {l:List (Nat×Operand)} {ps:List (Nat×Opd)},a5Z l=some ps ->
 (ps.map fun (i,x)=>(i*n,n,x)).length=(l.map fun (i,x)=>(i,a.eval x)).length /\
 ∀ (j:Nat) (p:Nat×Nat×Opd) (q:Nat×Value),(ps.map fun (i,x)=>(i*n,n,x))[j]?=some p->(l.map fun (i,x)=>(i,a.eval x))[j]?=some q ->
   (fun i=>some (i*n,n)) q.1=some (p.1,p.2.1)/\R μ Φ (env.ev p.2.2) q.2
 | [],ps,h=>by simp [a5Z] at h;subst h;simp
 | (i,x)::l,ps,h=>by
   simp only [a5Z] at h
   split at h
   ·rename_i y l' hy hl
    simp at h;subst h
    have ih:=b5w (n:=n) he hl
    refine ⟨by simpa using ih.1,?_⟩
    intro j p q hp hq
    cases j with
    | zero =>
      simp at hp hq
      subst hp;subst hq
      exact ⟨rfl,S7 he hy⟩
    | succ j=>exact ih.2 j p q (by simpa using hp) (by simpa using hq)
   ·simp at h
theorem b3Y {n:Int} (h1:0<=n) (h2:n<2 ^ 62):IntKind.i64.wrap n=n:=IntWalk.i64_in n (by omega)
theorem b7a {o:Oper} {ao:AOp} (hres:a1f P md o=some (.a ao)) (he:a0d μ Φ env a) {vo:O3} {m:P3} (hev:evA env ao=some (vo,m)) (w:World) (id:Nat) (hid:μ id=none) :
 ∃v ob z,(execOp a.eval o).run P w=.ok (.value v) (w.alloc ob)/\a0E (a0n μ id (w.heap.size,0,z)) Φ (w.alloc ob) w.heap.size 0 z vo/\R (a0n μ id (w.heap.size,0,z)) Φ (m.at id) v:=by
 have hm:∀z,a0n μ id (w.heap.size,0,z) id=some (w.heap.size,0,z):=fun z=>by simp [a0n]
 have hle:∀z,μ.le (a0n μ id (w.heap.size,0,z)):=fun z=>a4X hid
 obtain ⟨dst,op,type,pos,after,guard⟩:=o
 cases op<;>simp only [a1f] at hres
 case alloc t =>
  obtain ⟨z,hz,e⟩:=map_some hres
  cases e
  simp only [evA] at hev
  cases hev
  obtain ⟨i,v,hi,hv,hr,hone⟩:=a5E (Φ:=Φ) hz
  refine ⟨.pointer (some ⟨w.heap.size,0,none⟩),.cells v.cells t,v.cells.size,?_,a5p (vs:=v.cells.toList) (tail:=[]) (by simp) (RL_of_RPL _ _ hr) hone,?_⟩
  ·simp only [execOp,Instr.alloc,Sem.run_bind,a42 hi hv,Result.andThen_ok,newVar,newRow,run_newObj,Sem.run_pure]
   rfl
  ·simp only [P3.at,R]
   exact ⟨_,_,_,hm _,rfl⟩
 case box t x =>
  obtain ⟨y,hy,e⟩:=map_some hres
  cases e
  simp only [evA] at hev
  split at hev
  ·rename_i hall
   cases hev
   obtain ⟨h1,h2⟩:=b0M (S7 he hy) hall
   refine ⟨.pointer (some ⟨w.heap.size,0,none⟩),.cells (a.eval x).cells t,(a.eval x).cells.size,?_,a5p (vs:=(a.eval x).cells.toList) (tail:=[]) (by simp) (RL_mono (hle _) (Phi.le_refl _) _ _ h1) hall,?_⟩
   ·simp only [execOp,Instr.box,Sem.run_bind,newVar,newRow,run_newObj,Result.andThen_ok,Sem.run_pure]
    rfl
   ·simp only [P3.at,R]
    exact ⟨_,_,_,hm _,rfl⟩
  ·simp at hev
 case buildSlice t len parts =>
  split at hres
  ·rename_i e l hel hl
   split at hres
   ·rename_i n z hn hz
    split at hres
    ·rename_i hc
     cases hres
     simp only [evA] at hev
     obtain ⟨cs,hcs,e1⟩:=map_some hev
     cases e1
     obtain ⟨i,zv,hi,hzv,hzr,hone⟩:=a5E (Φ:=Φ) hz
     have htu:P.underlying t=some (.slice e):=by
      unfold a2K at hel
      split at hel
      ·rename_i hu;simp at hel;rw [hu,hel]
      ·simp at hel
     obtain ⟨p1,p2⟩:=b5w (n:=n) he hl
     have hzl:zv.cells.toList.length=n:=by rw [a6P hzr,hc.1]
     obtain ⟨ws,w1,w2,w3⟩:=b0v (μ:=μ) (Φ:=Φ) (fun i=>some (i*n,n)) _ _ (a1y z len) cs (List.replicate len zv.cells.toList).flatten p1 p2 (RL_of_RPL _ _ (a8g len hzr)) hcs
     have hstart:∀ (zz:Array Value),(len*n=0/\zz=#[]∨len*n≠0/\zz=zv.cells)->((Array.range (len*n)).map (zz[· % zz.size]!))=(List.replicate len zv.cells.toList).flatten.toArray:=by
      intro zz hzz
      apply Array.ext'
      rcases hzz with ⟨h0,rfl⟩ | ⟨h0,rfl⟩
      ·rw [h0]
       have:(List.replicate len zv.cells.toList).flatten=[]:=by
        apply List.eq_nil_of_length_eq_zero
        rw [List.length_flatten]
        simp [hzl]
        exact h0
       simp [this]
      ·have hne:zv.cells.toList.length≠0:=by
        intro h
        apply h0
        rw [<- hzl,h]
        simp
       have:=b1o zv.cells.toList len hne
       rw [hzl] at this
       simpa using this
     refine ⟨.slice (some ⟨w.heap.size,0,none⟩) len len,.cells ws.toArray e,ws.toArray.size,?_,a5p (vs:=ws) (tail:=[]) (by simp) (RL_mono (hle _) (Phi.le_refl _) _ _ w2) (b1I (a9Q hone len) hcs),?_⟩
     ·have hlim:¬ (len*n>2 ^ 24):=by omega
      have hpl:(parts.map fun (i,x)=>(i,a.eval x)).toList=parts.toList.map fun (i,x)=>(i,a.eval x):=Array.toList_map
      simp only [execOp,Instr.buildSlice,Sem.run_bind,run_underlying htu,Result.andThen_ok,a1Y hn,hlim,if_false,Sem.run_pure,hpl]
      by_cases h0:len*n=0
      ·rw [if_pos h0]
       simp only [Sem.run_pure,Result.andThen_ok,hstart #[] (.inl ⟨h0,rfl⟩),w1,Sem.run_bind,newRow,run_newObj]
       rfl
      ·rw [if_neg h0]
       simp only [Sem.run_bind,a42 hi hzv,Sem.run_pure,Result.andThen_ok,hstart zv.cells (.inr ⟨h0,rfl⟩),w1,newRow,run_newObj]
       rfl
     ·simp only [P3.at,R]
      refine ⟨_,_,_,len,hm _,rfl,Nat.le_refl _,?_⟩
      have:ws.length=len*n:=by
       rw [w3,List.length_flatten]
       simp [hzl]
      simp [this]
    ·simp at hres
   ·simp at hres
  ·simp at hres
 case makeSlice t lx cx =>
  split at hres
  ·rename_i e l c hel hl hc
   split at hres
   ·rename_i i z hi hz
    split at hres
    ·rename_i hzl
     cases hres
     simp only [evA] at hev
     split at hev
     ·rename_i n mm hn hmm
      split at hev
      ·rename_i hcond
       obtain ⟨c1,c2,c3,c4⟩:=hcond
       cases hev
       have rl:=S7 he hl
       have rc:=S7 he hc
       rw [hn] at rl
       rw [hmm] at rc
       simp only [R] at rl rc
       obtain ⟨i',zv,hi',hzv,hzr,hone⟩:=a5E (Φ:=Φ) hz
       rw [hi] at hi'
       cases hi'
       have htu:P.underlying t=some (.slice e):=by
        unfold a2K at hel
        split at hel
        ·rename_i hu;simp at hel;rw [hu,hel]
        ·simp at hel
       have hsz:Z2 P e=some i.size:=by simp [Z2,hi]
       have hzl2:zv.cells.toList.length=i.size:=by rw [a6P hzr,hzl]
       obtain ⟨nn,rfl⟩:=Int.eq_ofNat_of_zero_le c1
       obtain ⟨mn,rfl⟩:=Int.eq_ofNat_of_zero_le (show 0<=mm by omega)
       have hnm:nn<=mn:=by omega
       have hw1:IntKind.i64.wrap (nn:Int)=nn:=b3Y (by omega) (by omega)
       have hw2:IntKind.i64.wrap (mn:Int)=mn:=b3Y (by omega) (by omega)
       have hstart:∀ (zz:Array Value),(mn*i.size=0/\zz=#[]∨mn*i.size≠0/\zz=zv.cells)->((Array.range (mn*i.size)).map (zz[· % zz.size]!))=(List.replicate mn zv.cells.toList).flatten.toArray:=by
        intro zz hzz
        apply Array.ext'
        rcases hzz with ⟨h0,rfl⟩ | ⟨h0,rfl⟩
        ·rw [h0]
         have:(List.replicate mn zv.cells.toList).flatten=[]:=by
          apply List.eq_nil_of_length_eq_zero
          rw [List.length_flatten]
          simp [hzl2]
          exact h0
         simp [this]
        ·have hne:zv.cells.toList.length≠0:=by
          intro h
          apply h0
          rw [<- hzl2,h]
          simp
         have:=b1o zv.cells.toList mn hne
         rw [hzl2] at this
         simpa using this
       have hflen:(List.replicate mn zv.cells.toList).flatten.length=mn*i.size:=by
        rw [List.length_flatten];simp [hzl2]
       refine ⟨.slice (some ⟨w.heap.size,0,none⟩) nn mn,.cells (List.replicate mn zv.cells.toList).flatten.toArray e,_,?_,
        a5p (vs:=(List.replicate nn zv.cells.toList).flatten) (tail:=(List.replicate (mn-nn) zv.cells.toList).flatten) ?_ (RL_of_RPL _ _ (a8g nn hzr)) (a9Q hone nn),?_⟩
       ·have hlim:¬ ((i.bytes:Int)*(mn:Int)>2 ^ 48):=by omega
        have t1:(decide ((mn:Int)<0)||decide ((i.bytes:Int)*(mn:Int)>2 ^ 48))=false:=by simp;omega
        have hcnd:¬ (((decide ((mn:Int)<0)||decide ((i.bytes:Int)*(mn:Int)>2 ^ 48))||decide ((nn:Int)<0)||decide ((nn:Int)>(mn:Int)))=true):=by
         rw [t1];simp;omega
        simp only [execOp,Instr.makeSlice,Sem.run_bind,run_underlying htu,Result.andThen_ok,rl,rc,asInt,asIntOf,Sem.run_pure,typeInfo,run_program,hi,hw1,hw2,hcnd,Sem.run_ite]
        rw [if_neg (by simp)]
        simp only [Result.andThen_ok,run_askRoom,Int.toNat_natCast,a1Y hsz]
        by_cases h0:mn*i.size=0
        ·simp only [h0,if_true,Sem.run_pure,Result.andThen_ok,newRow,run_newObj,Sem.run_bind]
         have:=hstart #[] (.inl ⟨h0,rfl⟩)
         rw [h0] at this
         rw [this]
         rfl
        ·simp only [h0,if_false,Sem.run_bind,a42 hi hzv,Sem.run_pure,Result.andThen_ok,hstart zv.cells (.inr ⟨h0,rfl⟩),newRow,run_newObj]
         rfl
       ·simp only
        rw [<- List.flatten_append,List.replicate_append_replicate]
        congr 2
        omega
       ·simp only [P3.at,R,Int.toNat_natCast]
        refine ⟨_,_,_,mn,hm _,rfl,hnm,?_⟩
        simp [hflen]
      ·simp at hev
     ·simp at hev
    ·simp at hres
   ·simp at hres
  ·simp at hres
 case makeMap t r =>
  cases r with
  | some _=>simp at hres
  | none =>
    simp at hres
    subst hres
    simp only [evA] at hev
    cases hev
    refine ⟨.map (some w.heap.size),.map #[] 0,0,?_,⟨#[],0,b2M _ _,by simp [RKV]⟩,?_⟩
    ·simp only [execOp,Instr.makeMap,Option.map_none,Sem.run_bind,Sem.run_pure,Result.andThen_ok,run_newObj]
     rfl
    ·simp only [P3.at,R]
     exact ⟨_,_,_,hm _,rfl⟩
 case move x=>obtain ⟨z,_,e⟩:=map_some hres;cases e
 case assign x=>obtain ⟨z,_,e⟩:=map_some hres;cases e
 case nilCheck x=>obtain ⟨z,_,e⟩:=map_some hres;cases e
 case binOp op t x y yt=>obtain ⟨z,_,e⟩:=map_some hres;cases e
 case unOp op t x=>obtain ⟨z,_,e⟩:=map_some hres;cases e
 case extract x i=>obtain ⟨z,_,e⟩:=map_some hres;cases e
 case pick c x y=>split at hres<;>simp at hres
 case load t x=>split at hres<;>simp at hres
 case store t x y=>split at hres<;>simp at hres
 case fieldAddr t x f =>
  split at hres
  ·split at hres<;>simp at hres
  ·simp at hres
 case field t x f =>
  split at hres
  ·split at hres<;>simp at hres
  ·simp at hres
 case indexAddr t x f =>
  split at hres
  ·split at hres<;>simp at hres
  ·split at hres
   ·split at hres<;>simp at hres
   ·simp at hres
 case mapUpdate t m k v =>
  split at hres
  ·split at hres<;>simp at hres
  ·simp at hres
 case build t parts =>
  split at hres
  ·split at hres
   ·split at hres<;>simp at hres
   ·simp at hres
  ·simp at hres
 case lookup t m k ok =>
  split at hres
  ·split at hres
   ·split at hres<;>simp at hres
   ·simp at hres
  ·simp at hres
 case index t x f =>
  split at hres
  ·simp at hres
  ·split at hres<;>simp at hres
  ·simp at hres
 case convert src dst' x =>
  split at hres
  ·simp at hres
  ·split at hres<;>simp at hres
  ·simp at hres
 case slice t x lo hi mx =>
  cases mx with
  | some _=>simp at hres
  | none =>
    simp only at hres
    split at hres
    ·simp at hres
    ·split at hres<;>simp at hres
    ·simp at hres
 case makeFunc fn first caps =>
  cases fn<;>simp only at hres<;>try (cases hres;done)
  split at hres
  ·obtain ⟨z,_,e⟩:=map_some hres;cases e
  ·simp at hres
 case call c =>
  obtain ⟨callee,args,types⟩:=c
  cases callee with
  | invoke _ _=>simp at hres
  | value f=>simp only at hres;split at hres<;>simp at hres
  | builtin b =>
    simp only [a4W] at hres
    split at hres
    ·split at hres
     ·split at hres<;>simp at hres
     ·simp at hres
    ·split at hres<;>simp at hres
    ·split at hres<;>simp at hres
    ·split at hres
     ·split at hres
      ·split at hres
       ·split at hres<;>simp at hres
       ·simp at hres
      ·simp at hres
     ·simp at hres
    ·simp at hres
 all_goals (cases hres;done)
theorem b6T {A vs tail new:List Value} {o off:Nat} (h:A.drop o=vs++tail) (hl:off+new.length<=vs.length) :
 (A.take (o+off)++new++A.drop (o+off+new.length)).drop o=(vs.take off++new++vs.drop (off+new.length))++tail:=by
 have hA:o+vs.length<=A.length∨vs=[]:=by
  by_cases hv:vs=[]
  ·exact .inr hv
  ·left
   have:=congrArg List.length h
   simp at this
   have:0<vs.length:=by cases vs<;>simp at hv ⊢
   omega
 have e1:A.drop (o+off+new.length)=vs.drop (off+new.length)++tail:=by
  rw [Nat.add_assoc,<- List.drop_drop,h,List.drop_append_of_le_length hl]
 have e2:(A.take (o+off)).drop o=vs.take off:=by
  rw [List.drop_take,h]
  have:o+off-o=off:=by omega
  rw [this,List.take_append_of_le_length (by omega)]
 rcases hA with hA | hA
 ·rw [List.append_assoc,List.drop_append_of_le_length (by simp;omega),e2,e1]
  simp [List.append_assoc]
 ·subst hA
  simp at hl
  obtain ⟨rfl,hn⟩:=hl
  subst hn
  simp at h ⊢
  exact h
theorem c2V {o:Oper} {n:Nat} {ad x:Opd} (hres:a1f P md o=some (.w n ad x)) (he:a0d μ Φ env a) (hs:Sim μ Φ g w) {id:Nat} {vo:O3} (hev:evW env g n ad x=some (id,vo)) :
 ∃w' b o' z vo0,(execOp a.eval o).run P w=.ok .skip w'/\g id=some vo0/\μ id=some (b,o',z)/\a1W b w w'/\a0E μ Φ w' b o' z vo:=by
 obtain ⟨dst,op,type,pos,after,guard⟩:=o
 cases op<;>simp only [a1f] at hres
 case store t xa xv =>
  split at hres
  ·rename_i ya yv n0 hya hyv hn
   cases hres
   unfold evW at hev
   have ra:=S7 he hya
   have rv:=S7 he hyv
   split at hev
   ·rename_i id' off hx
    rw [hx] at ra
    simp only [R] at ra
    obtain ⟨b,o',z,hm,e⟩:=ra
    split at hev
    ·rename_i cs hg
     simp only at hev
     split at hev
     ·rename_i hc
      obtain ⟨c1,c2,c3,c4⟩:=hc
      simp at hev
      obtain ⟨rfl,rfl⟩:=hev
      obtain ⟨b',o'',z',m1,m2,_⟩:=hs.obj id' _ hg
      rw [hm] at m1
      cases m1
      obtain ⟨arr,et,vs,tail,h1,h2,h3,h4,h5⟩:=m2
      obtain ⟨d1,d2⟩:=b0M rv c3
      have hl1:=a1b h4
      have hl2:=a1b d1
      have hlen:=congrArg List.length h3
      simp at hlen hl2
      have hfit:o'+off+0+(a.eval xv).cells.toList.length<=arr.size:=by
       simp
       omega
      obtain ⟨w',arr',r1,r2,r3,r4,r5⟩:=a8K P b (o'+off) et (a.eval xv).cells.toList 0 w arr h1 d2 hfit
      refine ⟨w',b,o',z,_,?_,hg,hm,r2,arr',et,_,tail,r3,by rw [r4];exact h2,?_,b2g h4 d1,b3R h5 c3⟩
      ·have hsz:¬ ((a.eval xv).cells.size≠n):=by omega
       simp only [execOp,Instr.storeAt,storeVar,e,Instr.sureAddr,Sem.run_bind,Sem.run_pure,Result.andThen_ok,a1Y hn,hsz,if_false,r1]
      ·rw [r5]
       simp only [Nat.add_zero]
       exact b6T h3 (by simp;omega)
     ·simp at hev
    ·simp at hev
   ·simp at hev
  ·simp at hres
 case move x=>obtain ⟨z,_,e⟩:=map_some hres;cases e
 case assign x=>obtain ⟨z,_,e⟩:=map_some hres;cases e
 case nilCheck x=>obtain ⟨z,_,e⟩:=map_some hres;cases e
 case binOp op t x y yt=>obtain ⟨z,_,e⟩:=map_some hres;cases e
 case unOp op t x=>obtain ⟨z,_,e⟩:=map_some hres;cases e
 case extract x i=>obtain ⟨z,_,e⟩:=map_some hres;cases e
 case alloc t=>obtain ⟨z,_,e⟩:=map_some hres;cases e
 case box t x=>obtain ⟨z,_,e⟩:=map_some hres;cases e
 case pick c x y=>split at hres<;>simp at hres
 case load t x=>split at hres<;>simp at hres
 case fieldAddr t x f =>
  split at hres
  ·split at hres<;>simp at hres
  ·simp at hres
 case field t x f =>
  split at hres
  ·split at hres<;>simp at hres
  ·simp at hres
 case indexAddr t x f =>
  split at hres
  ·split at hres<;>simp at hres
  ·split at hres
   ·split at hres<;>simp at hres
   ·simp at hres
 case mapUpdate t m k v =>
  split at hres
  ·split at hres<;>simp at hres
  ·simp at hres
 case build t parts =>
  split at hres
  ·split at hres
   ·split at hres<;>simp at hres
   ·simp at hres
  ·simp at hres
 case buildSlice t len parts =>
  split at hres
  ·split at hres
   ·split at hres<;>simp at hres
   ·simp at hres
  ·simp at hres
 case makeSlice t l c =>
  split at hres
  ·split at hres
   ·split at hres<;>simp at hres
   ·simp at hres
  ·simp at hres
 case lookup t m k ok =>
  split at hres
  ·split at hres
   ·split at hres<;>simp at hres
   ·simp at hres
  ·simp at hres
 case index t x f =>
  split at hres
  ·simp at hres
  ·split at hres<;>simp at hres
  ·simp at hres
 case convert src dst' x =>
  split at hres
  ·simp at hres
  ·split at hres<;>simp at hres
  ·simp at hres
 case slice t x lo hi mx =>
  cases mx with
  | some _=>simp at hres
  | none =>
    simp only at hres
    split at hres
    ·simp at hres
    ·split at hres<;>simp at hres
    ·simp at hres
 case makeFunc fn first caps =>
  cases fn<;>simp only at hres<;>try (cases hres;done)
  split at hres
  ·obtain ⟨z,_,e⟩:=map_some hres;cases e
  ·simp at hres
 case makeMap t r=>cases r<;>simp at hres
 case call c =>
  obtain ⟨callee,args,types⟩:=c
  cases callee with
  | invoke _ _=>simp at hres
  | value f=>simp only at hres;split at hres<;>simp at hres
  | builtin b =>
    simp only [a4W] at hres
    split at hres
    ·split at hres
     ·split at hres<;>simp at hres
     ·simp at hres
    ·split at hres<;>simp at hres
    ·split at hres<;>simp at hres
    ·split at hres
     ·split at hres
      ·split at hres
       ·split at hres<;>simp at hres
       ·simp at hres
      ·simp at hres
     ·simp at hres
    ·simp at hres
 all_goals (cases hres;done)
end
end Go.V
namespace Go.V
section
variable {P:Program} {md:FuncId->a0a} {μ:Mu} {Φ:Phi} {env:Env} {a:Act} {d:D} {g:P8} {w:World}
theorem Sim.move (h:Sim μ Φ g w) {id id' b o o' z:Nat} {vo vo':O3} (hg:g id=some vo) (hid:μ id=some (b,o,z)) {w':World} (hw:a1W b w w') (hn:μ id'=none) (hgn:g id'=none)
 (hob:a0E (a0n μ id' (b,o',z)) Φ w' b o' z vo') :
 Sim (a0n μ id' (b,o',z)) Φ (upd (upd g id none) id' (some vo')) w'/\Evo μ Φ g w (a0n μ id' (b,o',z)) Φ (upd (upd g id none) id' (some vo')) w' id' (id'+1):=by
 have hne:id≠id':=fun e=>by subst e;rw [hn] at hid;cases hid
 have hown:a18 μ g b:=⟨id,o,z,by rw [hg];simp,hid⟩
 have hpb:Φ b=none:=by
  obtain ⟨b',o',z',e1,_,e3⟩:=h.obj id vo hg
  rw [hid] at e1
  cases e1
  exact e3
 have hle:=a4X (l:=(b,o',z)) hn
 have hid2:a0n μ id' (b,o',z) id'=some (b,o',z):=by simp [a0n]
 have hid3:∀i,i≠id'->a0n μ id' (b,o',z) i=μ i:=fun i hi=>by simp [a0n,hi]
 have hgi:∀i,i≠id'->i≠id->upd (upd g id none) id' (some vo') i=g i:=fun i h1 h2=>by simp [upd,h1,h2]
 have hgid:upd (upd g id none) id' (some vo') id=none:=by simp [upd,hne]
 have blk:∀i o1 z1,i≠id'->i≠id->g i≠none->μ i=some (b,o1,z1)->False:=by
  intro i o1 z1 h1 h2 h3 h4
  exact h2 (h.inj i id _ _ _ _ _ h3 (by rw [hg];simp) h4 hid)
 refine ⟨⟨?_,?_,?_⟩,⟨hle,?_,Phi.le_refl _,hw.os,hw.tape,hw.output,by rw [hw.size];exact Nat.le_refl _,?_,fun _ _ h=>.inl h,?_⟩⟩
 ·intro b' ob e
  rw [hw.block b' (fun e'=>by subst e';rw [hpb] at e;cases e)]
  exact h.phi b' ob e
 ·intro i ob e
  by_cases hi:i=id'
  ·subst hi
   simp only [upd,if_true] at e
   cases e
   exact ⟨b,o',z,hid2,hob,hpb⟩
  ·by_cases hi2:i=id
   ·subst hi2;rw [hgid] at e;cases e
   ·rw [hgi i hi hi2] at e
    obtain ⟨b',o1,z1,e1,e2,e3⟩:=h.obj i ob e
    refine ⟨b',o1,z1,by rw [hid3 i hi];exact e1,a6F (hw.block b' ?_) (a5F hle (Phi.le_refl _) e2),e3⟩
    intro e'
    subst e'
    exact blk i o1 z1 hi hi2 (by rw [e];simp) e1
 ·intro i i' b1 o1 z1 o2 z2 h1 h2 e1 e2
  by_cases hi:i=id'
  ·by_cases hi':i'=id'
   ·rw [hi,hi']
   ·exfalso
    subst hi
    rw [hid2] at e1
    cases e1
    rw [hid3 i' hi'] at e2
    by_cases hii:i'=id
    ·subst hii;exact h2 hgid
    ·rw [hgi i' hi' hii] at h2
     exact blk i' _ _ hi' hii h2 e2
  ·by_cases hi':i'=id'
   ·exfalso
    subst hi'
    rw [hid2] at e2
    cases e2
    rw [hid3 i hi] at e1
    by_cases hii:i=id
    ·subst hii;exact h1 hgid
    ·rw [hgi i hi hii] at h1
     exact blk i _ _ hi hii h1 e1
   ·rw [hid3 i hi] at e1
    rw [hid3 i' hi'] at e2
    have f:∀j,j≠id'->upd (upd g id none) id' (some vo') j≠none->g j≠none:=by
     intro j h1 h2
     by_cases h3:j=id
     ·subst h3;exact absurd hgid h2
     ·rwa [hgi j h1 h3] at h2
    exact h.inj i i' _ _ _ _ _ (f i hi h1) (f i' hi' h2) e1 e2
 ·intro i hi
  exact hid3 i (by omega)
 ·intro b' _ hn'
  exact hw.block b' (fun e=>by subst e;exact hn' hown)
 ·rintro b' ⟨i,o2,z2,h1,h2⟩
  by_cases hi:i=id'
  ·subst hi
   rw [hid2] at h2
   cases h2
   exact .inl hown
  ·rw [hid3 i hi] at h2
   refine .inl ⟨i,o2,z2,?_,h2⟩
   by_cases h3:i=id
   ·subst h3;rw [hg];simp
   ·rwa [hgi i hi h3] at h1
theorem Evo.fewer {g':P8} (hg:∀id ob,g' id=some ob->g id=some ob) (n:Nat) {w':World} (h1:w'.heap=w.heap) (h2:w'.os=w.os) (h3:w'.tape=w.tape) (h4:w'.output=w.output) :
 Evo μ Φ g w μ Φ g' w' n n:=by
 refine ⟨Mu.le_refl _,fun _ _=>rfl,Phi.le_refl _,h2,h3,h4,by rw [h1];exact Nat.le_refl _,fun _ _ _=>by rw [h1],fun _ _ h=>.inl h,?_⟩
 rintro b ⟨q,o,zz,h1,h2⟩
 refine .inl ⟨q,o,zz,?_,h2⟩
 intro h3
 cases hq:g' q with
 | none=>exact h1 hq
 | some ob=>rw [hg _ _ hq] at h3;cases h3
theorem b5b (s:f6) (id:Nat) (o:Option O3) (ob:O3) (h:id<s.next) (i:Nat):((s.set id o).push ob).get i=upd (upd s.get id o) s.next (some ob) i:=by
 rw [f6.get_push,f6.get_set]
 simp only [upd,f6.next_set]
 by_cases h1:i=s.next
 ·simp [h1]
 ·by_cases h2:i=id
  ·subst h2;simp [h1,h]
  ·simp [h1,h2]
theorem b4V (s:f6) (ob:O3) (i:Nat):(s.push ob).get i=upd s.get s.next (some ob) i:=by
 rw [f6.get_push];rfl
theorem b1l (s:f6) (id:Nat) (o:Option O3) (h:id<s.next) (i:Nat):(s.set id o).get i=upd s.get id o i:=by
 rw [f6.get_set]
 simp only [upd]
 by_cases h2:i=id
 ·simp [h2,h]
 ·simp [h2]
theorem a6N {s:f6} {id:Nat} {ob:O3} (h:s.get id=some ob):id<s.next:=by
 unfold f6.get at h
 split at h
 ·assumption
 ·simp at h
theorem c6y (size n:Nat) (b o l c:Nat) (us:List Value) (hl:us.length=n*size) (h:∀j u,us[j]?=some u->w.cell? ⟨b,o+j,none⟩=some u) :
 (Builtin.firstCells size n (.slice (some ⟨b,o,none⟩) l c)).run P w=.ok us.toArray w:=by
 simp only [Builtin.firstCells]
 rw [<- hl]
 exact a96 P w b o us h
theorem c1S (need cap bytes:Nat) (h1:cap<need) (h2:need*bytes<=2 ^ 45) (h3:bytes<=2 ^ 20):¬ (Builtin.nextslicecap need cap*bytes>2 ^ 48):=by
 have h4:Builtin.nextslicecap need cap<=2*need+192*4:=by
  unfold Builtin.nextslicecap
  split
  ·omega
  ·split
   ·omega
   ·have:∀ (r c:Nat),c<=2*need->Builtin.growBy need r c<=2*need+192*4:=by
     intro r
     induction r with
     | zero=>intro c hc;simp [Builtin.growBy];omega
     | succ r ih =>
       intro c hc
       simp only [Builtin.growBy]
       split
       ·omega
       ·by_cases h5:c+(c+768) / 4<=2*need
        ·exact ih _ h5
        ·have:∀ (r c:Nat),need<=c->Builtin.growBy need r c=c:=by
          intro r c hc
          cases r with
          | zero=>rfl
          | succ r=>simp [Builtin.growBy,hc]
         rw [this r _ (by omega)]
         omega
    exact this 4 cap (by omega)
 have h5:Builtin.nextslicecap need cap*bytes<=(2*need+192*4)*bytes:=Nat.mul_le_mul_right _ h4
 have h6:(2*need+192*4)*bytes=2*(need*bytes)+768*bytes:=by rw [Nat.add_mul,Nat.mul_assoc]
 omega
theorem c5r {t u e e':TypeId} {i:TypeInfo} {z:Value} (ht:P.underlying t=some (.slice e)) (hu:P.underlying u=some (.slice e')) (hi:P.info? e=some i) (hz:i.zero=some z)
 {base:Option Addr} {sLen sCap n:Nat} {vx:Value} (hx:(Builtin.lenOf vx).run P w=.ok n w) (hgrow:sCap<sLen+n) (hb:(sLen+n)*i.bytes<=2 ^ 45) (hb2:i.bytes<=2 ^ 20) (hb3:sLen+n<=2 ^ 45)
 {old new:List Value} (hold:(Builtin.firstCells i.size sLen (.slice base sLen sCap)).run P w.drew=.ok old.toArray w.drew)
 (hnew:(Builtin.firstCells i.size n vx).run P w.drew=.ok new.toArray w.drew) (ty:TypeId) :
 ∃cap rest,sLen+n<=cap/\rest=(Builtin.zeroCells z.cells (cap-(sLen+n))).toList /\
  (Builtin.append_ #[t,u] ty #[.slice base sLen sCap,vx]).run P w=.ok (.slice (some ⟨w.heap.size,0,none⟩) (sLen+n) cap) (w.drew.alloc (.cells (old++new++rest).toArray e)):=by
 refine ⟨(Question.appendCap (sLen+n) sCap e).cut (w.tape w.drawn (Question.appendCap (sLen+n) sCap e)),_,by simp [Question.cut],rfl,?_⟩
 have h1:¬ (sLen+n<=sCap):=by omega
 have h2:¬ (9223372036854775807<(sLen:Int)+(n:Int)/\i.bytes=0):=by omega
 have h3:=c1S (sLen+n) sCap i.bytes hgrow hb hb2
 simp [Builtin.append_,run_underlying ht,run_underlying hu,sizeOf,typeInfo,zeroValue,hi,hz,hx,h1,h3,Question.forced,newRow]
 rw [if_neg h2,hold]
 simp only [Result.andThen_ok,hnew]
 congr 2
 congr 1
 apply Array.ext'
 simp
theorem b7m {t u e e':TypeId} {i:TypeInfo} (ht:P.underlying t=some (.slice e)) (hu:P.underlying u=some (.slice e')) (hi:P.info? e=some i)
 {b o sLen sCap n:Nat} {vx:Value} (hx:(Builtin.lenOf vx).run P w=.ok n w) (hroom:sLen+n<=sCap) {new:List Value} (hnew:(Builtin.firstCells i.size n vx).run P w=.ok new.toArray w)
 {w':World} (hst:(storeCells ⟨b,o+sLen*i.size,none⟩ new).run P w=.ok () w') (ty:TypeId) :
 (Builtin.append_ #[t,u] ty #[.slice (some ⟨b,o,none⟩) sLen sCap,vx]).run P w=.ok (.slice (some ⟨b,o,none⟩) (sLen+n) sCap) w':=by
 simp [Builtin.append_,run_underlying ht,run_underlying hu,sizeOf,typeInfo,hi,hx,hroom,hnew,a2k,hst]
theorem c25 {t u e e':TypeId} {i:TypeInfo} (ht:P.underlying t=some (.slice e)) (hu:P.underlying u=some (.slice e')) (hi:P.info? e=some i)
 {base:Option Addr} {sLen sCap:Nat} {vx:Value} (hx:(Builtin.lenOf vx).run P w=.ok 0 w) (hroom:sLen<=sCap) (hnew:(Builtin.firstCells i.size 0 vx).run P w=.ok #[] w) (ty:TypeId) :
 (Builtin.append_ #[t,u] ty #[.slice base sLen sCap,vx]).run P w=.ok (.slice base sLen sCap) w:=by
 cases base<;>simp [Builtin.append_,run_underlying ht,run_underlying hu,sizeOf,typeInfo,hi,hx,hroom,hnew,storeCells]
theorem b8D {t u e e':TypeId} {i:TypeInfo} {zl:List D} (ht:P.underlying t=some (.slice e)) (hu:P.underlying u=some (.slice e')) (hi:P.info? e=some i) (hz:a3J P e=some zl) (hsz:i.size≠0) (hzlen:zl.length=i.size)
 {st st':f6} (hs:Sim μ Φ st.get w) (hfr0:st'.next=st.next∨μ st.next=none) {s x:D} {vs vx:Value} (rs:R μ Φ s vs) (rx:R μ Φ x vx) (hev:V3 i.size i.bytes s x st=some (d,st')) (ty:TypeId) :
 ∃v w' μ',(Builtin.append_ #[t,u] ty #[vs,vx]).run P w=.ok v w'/\Sim μ' Φ st'.get w'/\Evo μ Φ st.get w μ' Φ st'.get w' st.next st'.next/\R μ' Φ d v:=by
 obtain ⟨i',zv,hi',hzv,hzr,_⟩:=a5E (Φ:=Φ) hz
 rw [hi] at hi'
 cases hi'
 unfold V3 at hev
 split at hev
 ·rename_i new n hrow hlen
  split at hev
  ·rename_i hc
   simp only [Bool.and_eq_true,decide_eq_true_eq] at hc
   obtain ⟨hsrc,hby⟩:=hc
   obtain ⟨us,n',hn',hul,hur,hone,hus⟩:=b3P hs rx hrow hsrc
   rw [hlen] at hn'
   cases hn'
   have hx:∀w,(Builtin.lenOf vx).run P w=.ok n w:=by
    intro w
    rcases hus with ⟨e1,_,e3⟩ | ⟨ad,cap,e1,_⟩
    ·rw [e1,e3];rfl
    ·rw [e1];rfl
   have hnew:∀w1:World,w1.heap=w.heap->(Builtin.firstCells i.size n vx).run P w1=.ok us.toArray w1:=by
    intro w1 hw1
    rcases hus with ⟨e1,e2,e3⟩ | ⟨ad,cap,e1,_,hcell⟩
    ·rw [e1,e2];rfl
    ·rw [e1]
     simp only [Builtin.firstCells]
     rw [<- hul]
     exact hcell w1 hw1
   have grow:∀ (g':P8) (base:Option Addr) (sLen sCap:Nat) (old:List D) (ov:List Value),vs=.slice base sLen sCap->sCap<sLen+n->(sLen+n)*i.bytes<=2 ^ 45->sLen+n<=2 ^ 45 ->
    RL μ Φ old ov->old.all M8=true->ov.length=sLen*i.size->(∀w1:World,w1.heap=w.heap->(Builtin.firstCells i.size sLen (.slice base sLen sCap)).run P w1=.ok ov.toArray w1) ->
    (∀id ob,g' id=some ob->st.get id=some ob)->(∀j,st'.get j=upd g' st.next (some (.cells (old++new))) j)->st'.next=st.next+1->d=.arr st.next 0 (sLen+n) i.size ->
    ∃v w' μ',(Builtin.append_ #[t,u] ty #[vs,vx]).run P w=.ok v w'/\Sim μ' Φ st'.get w'/\Evo μ Φ st.get w μ' Φ st'.get w' st.next st'.next/\R μ' Φ d v:=by
    intro g' base sLen sCap old ov hvs hgr hb1 hb3 hro hoo hol hold hg' hst' hnx hd
    have hfr:μ st.next=none:=hfr0.resolve_left (by omega)
    obtain ⟨cap,rest,hcap,hrest,hrun⟩:=c5r (w:=w) (base:=base) (sCap:=sCap) ht hu hi hzv (hx w) hgr hb1 hby hb3 (hold w.drew rfl) (hnew w.drew rfl) ty
    have hs1:Sim μ Φ g' w.drew:=(hs.fewer hg').drew _
    have hle:=a4X (l:=(w.drew.heap.size,0,(old++new).length+rest.length)) hfr
    have hgn:g' st.next=none:=by
     cases hq:g' st.next with
     | none=>rfl
     | some ob=>have:=hg' _ _ hq;rw [f6.get_none _ _ (Nat.le_refl _)] at this;cases this
    have hnl:=a1b hur
    have hol2:=a1b hro
    have hpush:=hs1.push (ob:=.cells (ov++us++rest).toArray e) (vo:=.cells (old++new)) (z:=(ov++us++rest).toArray.size) hfr hgn
     (a5p (w:=w.drew) (vs:=ov++us) (tail:=rest) (by simp) (RL_mono (a4X hfr) (Phi.le_refl _) _ _ (a5c hro hur)) (a6a hoo hone))
    refine ⟨_,_,_,by rw [hvs];exact hrun,hpush.1.congr hst',?_,?_⟩
    ·have he:=hpush.2
     have:Evo μ Φ st.get w μ Φ g' w.drew st.next st.next:=Evo.fewer hg' _ rfl rfl rfl rfl
     have h2:=this.trans (Nat.le_refl _) (Nat.le_succ _) he
     rw [hnx]
     have hfn:st'.get=upd g' st.next (some (.cells (old++new))):=funext hst'
     rw [hfn]
     exact h2
    ·rw [hd]
     simp only [R]
     refine ⟨_,_,_,cap,by simp [a0n];rfl,rfl,hcap,?_⟩
     have hzc:zv.cells.size=i.size:=by
      have:=a6P hzr
      simp at this
      omega
     have hzl:rest.length=(cap-(sLen+n))*i.size:=by
      rw [hrest]
      simp [Builtin.zeroCells,hzc]
     simp [hol,hul,hzl]
     have:(sLen+n)*i.size+(cap-(sLen+n))*i.size=cap*i.size:=by rw [<- Nat.add_mul];congr 1;omega
     have h2:(sLen+n)*i.size=sLen*i.size+n*i.size:=Nat.add_mul _ _ _
     omega
   have none0:∀ (base:Option Addr) (sLen sCap:Nat),vs=.slice base sLen sCap->sLen<=sCap->n=0->d=s->st'=st ->
    ∃v w' μ',(Builtin.append_ #[t,u] ty #[vs,vx]).run P w=.ok v w'/\Sim μ' Φ st'.get w'/\Evo μ Φ st.get w μ' Φ st'.get w' st.next st'.next/\R μ' Φ d v:=by
    intro base sLen sCap hvs hle hn0 hd hst
    subst hd;subst hst
    have hus0:us=[]:=by
     apply List.eq_nil_of_length_eq_zero
     rw [hul,hn0];simp
    have h1:=hnew w rfl
    rw [hn0,hus0] at h1
    have h2:=hx w
    rw [hn0] at h2
    refine ⟨vs,w,μ,?_,hs,Evo.refl _ _ _ _ _,rs⟩
    rw [hvs]
    exact c25 ht hu hi h2 hle h1 ty
   split at hev
   ·-- onto nil
    simp only [R] at rs
    split at hev
    ·rename_i hn0
     cases hev
     exact none0 none 0 0 rs (Nat.le_refl _) hn0 rfl rfl
    ·rename_i hn0
     split at hev
     ·rename_i hb
      cases hev
      exact grow st.get none 0 0 [] [] rs (by omega) (by simpa using hb.1) (by simpa using hb.2) (by simp [RL]) rfl (by simp) (fun w1 _=>rfl) (fun _ _ h=>h) (fun j=>b4V st _ j) rfl (by simp)
     ·simp at hev
   ·-- onto a row of its own
    rename_i id off len sz'
    simp only [R] at rs
    obtain ⟨b,o,z,cap,hm,hv,hlc,hz2⟩:=rs
    split at hev
    ·rename_i cs hg
     split at hev
     ·rename_i hcc
      obtain ⟨rfl,hend⟩:=hcc
      split at hev
      ·rename_i hn0
       cases hev
       exact none0 _ _ _ hv hlc hn0 rfl rfl
      ·rename_i hn0
       split at hev
       ·rename_i hb
        cases hev
        have hidlt:=a6N hg
        obtain ⟨b',o',z',m1,m2,m3⟩:=hs.obj id _ hg
        rw [hm] at m1
        cases m1
        by_cases hroom:len+n<=cap
        ·-- in place
         have hfr:μ st.next=none:=hfr0.resolve_left (by simp)
         obtain ⟨arr,et,wv,tail,q1,q2,q3,q4,q5⟩:=m2
         have hwl:=a1b q4
         have hones:∀v∈us,a3Z v=true:=a90 hone hur
         have hpos:0<n*i.size:=Nat.mul_pos (Nat.pos_of_ne_zero hn0) (Nat.pos_of_ne_zero hsz)
         have hfit:o+off+len*i.size+0+us.length<=arr.size:=by
          rw [hul,q2]
          have:(len+n)*i.size<=cap*i.size:=Nat.mul_le_mul_right _ hroom
          rw [Nat.add_mul] at this
          omega
         obtain ⟨w',arr',r1,r2,r3,r4,r5⟩:=a8K P b (o+off+len*i.size) et us 0 w arr q1 hones hfit
         have hrun:=b7m (P:=P) (b:=b) (o:=o+off) (sLen:=len) (sCap:=cap) ht hu hi (hx w) hroom (hnew w rfl) r1 ty
         have hob:a0E (a0n μ st.next (b,o+off,z)) Φ w' b (o+off) z (.cells (cs.drop off++new)):=by
          refine ⟨arr',et,wv.drop off++us,tail.drop us.length,r3,by rw [r4];exact q2,?_,RL_mono (a4X hfr) (Phi.le_refl _) _ _ (a5c (a5b off q4) hur),a6a (a46 q5 fun _ hx=>List.mem_of_mem_drop hx) hone⟩
          rw [r5]
          simp only [Nat.add_zero]
          have e1:o+off+len*i.size=o+wv.length:=by omega
          rw [e1]
          have hA:o+wv.length+us.length<=arr.toList.length:=by simp;omega
          have e2:arr.toList.take (o+wv.length)=arr.toList.take o++wv:=by
           have:arr.toList=arr.toList.take o++(wv++tail):=by rw [<- q3];simp
           conv=>lhs;rw [this]
           rw [List.take_append,List.take_of_length_le (by simp;omega)]
           congr 1
           have:o+wv.length-(arr.toList.take o).length=wv.length:=by simp;omega
           rw [this]
           simp
          have e3:arr.toList.drop (o+wv.length+us.length)=tail.drop us.length:=by
           rw [Nat.add_assoc,<- List.drop_drop,q3,List.drop_append]
           have:wv.length+us.length-wv.length=us.length:=by omega
           rw [this]
           simp
          rw [e2,e3]
          have hlen1:(arr.toList.take o).length=o:=by simp;omega
          rw [<- List.drop_drop,List.append_assoc,List.append_assoc]
          rw [List.drop_append_of_le_length (by omega)]
          have:List.drop o (arr.toList.take o)=[]:=by simp
          rw [this,List.nil_append,List.drop_append_of_le_length (by omega)]
          simp [List.append_assoc]
         have hmv:=hs.move hg hm r2 hfr (f6.get_none _ _ (Nat.le_refl _)) hob
         have hfn:((st.set id none).push (.cells (cs.drop off++new))).get=upd (upd st.get id none) st.next (some (.cells (cs.drop off++new))):=funext fun j=>b5b st id none _ hidlt j
         refine ⟨_,w',_,by rw [hv];exact hrun,by rw [hfn];exact hmv.1,by rw [hfn];exact hmv.2,?_⟩
         simp only [R]
         refine ⟨b,o+off,z,cap,by simp [a0n],by simp,hroom,?_⟩
         omega
        ·-- a new row
         obtain ⟨ov,ov1,ov2⟩:=m2.values
         have hovl:=a1b ov1
         refine grow (upd st.get id none) _ len cap (cs.drop off) (ov.drop off) hv (by omega) hb.1 hb.2 (a5b off ov1) (a46 m2.one fun _ hx=>List.mem_of_mem_drop hx) (by simp;omega) ?_ ?_ ?_ rfl rfl
         ·intro w1 hw1
          refine c6y (w:=w1) i.size len b (o+off) len cap (ov.drop off) (by simp;omega) ?_
          intro j q hj
          rw [List.getElem?_drop] at hj
          have:=ov2 _ _ hj
          simp only [World.cell?,hw1] at this ⊢
          rw [Nat.add_assoc]
          exact this
         ·intro q ob hq
          by_cases e:q=id
          ·subst e;simp [upd] at hq
          ·simpa [upd,e] using hq
         ·exact fun j=>b5b st id none _ hidlt j
       ·simp at hev
     ·simp at hev
    ·simp at hev
   ·-- onto a list: nothing
    rename_i sz' xs
    split at hev
    ·rename_i hn0
     cases hev
     simp only [R,RP] at rs
     have rs':=rs
     obtain ⟨b,o,cap,sp,e1,e2,_⟩:=rs'
     exact none0 _ _ _ e1 e2 hn0 rfl rfl
    ·simp at hev
   ·simp at hev
  ·simp at hev
 ·simp at hev
theorem b5m {t:TypeId} {ks:List SK} (ht:a1i P t=some ks) {k:List D} {x:D} {us:List Value} (hk:RL μ Φ k us):∀ {kvs kvs':List (D×D)} {es:List MapEntry} (i:Nat),RKV μ Φ kvs es->a4s ks k x kvs=some kvs' ->
 (kvs'=kvs++[(.agg k,x)]/\(Instr.findAsking t (.agg us.toArray) es i).run P w=.ok none w) ∨
 ∃j v l e,kvs'=kvs.set j (.agg k,x)/\(Instr.findAsking t (.agg us.toArray) es i).run P w=.ok (some (i+j,v)) w/\es[j]?=some e/\R μ Φ (.agg l) e.key/\a0H ks k l=some true
 | [],kvs',es,i,hr,h=>by
   simp only [RKV] at hr
   subst hr
   simp [a4s] at h
   exact .inl ⟨by simp [h],by simp [Instr.findAsking]⟩
 | (k',v')::kvs,kvs',es,i,hr,h=>by
   simp only [RKV] at hr
   obtain ⟨e,l,rfl,h1,h2,h3⟩:=hr
   by_cases hagg:∃b',k'=.agg b'
   ·obtain ⟨b',rfl⟩:=hagg
    simp only [a4s] at h
    have h1':=h1
    simp only [R] at h1
    obtain ⟨ws,hw,hws⟩:=h1
    split at h
    ·rename_i hsame
     simp at h;subst h
     have:=a57 (w:=w) ht hk hws hsame
     exact .inr ⟨0,e.val,b',e,by simp,by simp [Instr.findAsking,hw,this],by simp,h1',hsame⟩
    ·rename_i hsame
     obtain ⟨kvs1,hp,e1⟩:=map_some h
     subst e1
     have:=a57 (w:=w) ht hk hws hsame
     rcases b5m ht hk (i+1) h3 hp with ⟨q0,q⟩ | ⟨j,v,l2,e2,q0,q,q2,q3,q4⟩
     ·exact .inl ⟨by simp [q0],by simp [Instr.findAsking,hw,this,q]⟩
     ·refine .inr ⟨j+1,v,l2,e2,by simp [q0],?_,by simpa using q2,q3,q4⟩
      simp only [Instr.findAsking,Sem.run_bind,hw,this,Result.andThen_ok,Bool.false_eq_true,if_false,q]
      congr 3
      omega
    ·simp at h
   ·cases k'<;>first | exact absurd ⟨_,rfl⟩ hagg | (simp [a4s] at h)
theorem b2x:∀ {kvs:List (D×D)} {es:List MapEntry} {k v:D} {e:MapEntry},RKV μ Φ kvs es->R μ Φ k e.key->R μ Φ v e.val->RKV μ Φ (kvs++[(k,v)]) (es++[e])
 | [],es,k,v,e,h,h1,h2=>by
   simp only [RKV] at h
   subst h
   simp only [List.nil_append,RKV]
   exact ⟨e,[],rfl,h1,h2,rfl⟩
 | (k',v')::r,es,k,v,e,h,h1,h2=>by
   simp only [RKV] at h
   obtain ⟨e',l,rfl,q1,q2,q3⟩:=h
   simp only [List.cons_append,RKV]
   exact ⟨e',l++[e],rfl,q1,q2,b2x q3 h1 h2⟩
theorem b4M:∀ {kvs:List (D×D)} {es:List MapEntry} (j:Nat) {k v:D} (f:MapEntry->MapEntry),RKV μ Φ kvs es->(∀e,R μ Φ k (f e).key/\R μ Φ v (f e).val)->RKV μ Φ (kvs.set j (k,v)) (es.modify j f)
 | [],es,j,k,v,f,h,_=>by
   simp only [RKV] at h
   subst h
   simp [RKV]
 | (k',v')::r,es,j,k,v,f,h,hf=>by
   simp only [RKV] at h
   obtain ⟨e',l,rfl,q1,q2,q3⟩:=h
   cases j with
   | zero=>simp only [List.set_cons_zero,List.modify_zero_cons,RKV];exact ⟨_,_,rfl,(hf e').1,(hf e').2,q3⟩
   | succ j=>simp only [List.set_cons_succ,List.modify_succ_cons,RKV];exact ⟨_,_,rfl,q1,q2,b4M j f q3 hf⟩
theorem b7s {a b:ByteArray} (h:(a==b)=true):a=b:=by
 rw [beq_toListBytes,ByteArray.toList_eq,ByteArray.toList_eq] at h
 obtain ⟨⟨x⟩⟩:=a
 obtain ⟨⟨y⟩⟩:=b
 simp at h
 subst h
 rfl
theorem c0v (a:ByteArray):(a==a)=true:=by
 rw [beq_toListBytes];simp
theorem b4K:∀ {ks:List SK} {k l:List D} {us vs:List Value},a0H ks k l=some true->RL μ Φ k us->RL μ Φ l vs->us=vs/\∀n x,x∈us->Instr.sameBits n x x=true
 | [],[],[],us,vs,_,h1,h2=>by
   simp only [RL] at h1 h2
   subst h1;subst h2
   simp
 | [],[],_::_,_,_,h,_,_=>by simp [a0H] at h
 | [],_::_,_,_,_,h,_,_=>by simp [a0H] at h
 | _::_,[],_,_,_,h,_,_=>by simp [a0H] at h
 | _::_,_::_,[],_,_,h,_,_=>by simp [a0H] at h
 | t::ks,x::k,y::l,us,vs,h,h1,h2=>by
   simp only [a0H] at h
   split at h
   ·rename_i p q hp hq
    simp at h
    obtain ⟨rfl,rfl⟩:=h
    simp only [RL] at h1 h2
    obtain ⟨u,us',rfl,r1,r2⟩:=h1
    obtain ⟨v,vs',rfl,r3,r4⟩:=h2
    obtain ⟨e1,e2⟩:=b4K hq r2 r4
    have huv:u=v/\∀n,Instr.sameBits n u u=true:=by
     cases t<;>cases x<;>cases y<;>simp [a3X] at hp<;>simp only [R] at r1 r3<;>subst r1<;>subst r3
     ·obtain ⟨rfl,rfl⟩:=hp;exact ⟨rfl,fun n=>by cases n<;>simp [Instr.sameBits]⟩
     ·subst hp;exact ⟨rfl,fun n=>by cases n<;>simp [Instr.sameBits]⟩
     ·have:=b7s hp
      subst this
      exact ⟨rfl,fun n=>by cases n<;>simp [Instr.sameBits,c0v]⟩
    refine ⟨by rw [huv.1,e1],?_⟩
    intro n z hz
    rcases List.mem_cons.1 hz with rfl | hz
    ·exact huv.2 n
    ·exact e2 n z hz
   ·simp at h
theorem c6d (n:Nat) (us:List Value) (h:∀n x,x∈us->Instr.sameBits n x x=true):Instr.sameBits (n+1) (.agg us.toArray) (.agg us.toArray)=true:=by
 simp only [Instr.sameBits,beq_self_eq_true,Bool.true_and]
 rw [List.all_eq_true]
 intro p hp
 obtain ⟨x,y⟩:=p
 have hxy:x=y/\x∈us:=by
  have:∀ (l:List Value),(x,y)∈l.zip l->x=y/\x∈l:=by
   intro l
   induction l with
   | nil=>simp
   | cons a l ih =>
     intro hm
     simp at hm
     rcases hm with ⟨rfl,rfl⟩ | hm
     ·simp
     ·have:=ih hm;exact ⟨this.1,by simp [this.2]⟩
  exact this us hp
 simp only
 rw [<- hxy.1]
 exact h n x hxy.2
theorem b7S {t kt et:TypeId} {ks:List SK} (hu:P.underlying t=some (.map kt et)) (hks:a1i P kt=some ks) {st:f6} (hs:Sim μ Φ st.get w) {id:Nat} {kvs kvs':List (D×D)} (hg:st.get id=some (.map kvs))
 {m k v:Value} {kd:List D} {vd:D} (rm:R μ Φ (.map id) m) (rk:R μ Φ (.agg kd) k) (hkl:kd.length=ks.length) (rv:R μ Φ vd v) (hput:a4s ks kd vd kvs=some kvs') :
 ∃w',(Instr.mapUpdate t m k v).run P w=.ok () w'/\Sim μ Φ (st.set id (some (.map kvs'))).get w'/\Evo μ Φ st.get w μ Φ (st.set id (some (.map kvs'))).get w' st.next st.next:=by
 simp only [R] at rm rk
 obtain ⟨b,o,z,hm,rfl⟩:=rm
 obtain ⟨us,rfl,hus⟩:=rk
 obtain ⟨b',o',z',m1,m2,_⟩:=hs.obj id _ hg
 rw [hm] at m1
 cases m1
 obtain ⟨es,clock,hb,hkv⟩:=m2
 have hck:=b1Y (P:=P) (w:=w) (em:=false) hks us (by rw [a1b hus,hkl];exact Nat.le_refl _)
 have hgo:=MapKept.run_getObj_map (P:=P) hb
 have hidlt:=a6N hg
 have hfn:∀x,(st.set id x).get=upd st.get id x:=fun x=>funext fun j=>b1l st id x hidlt j
 have fin:∀ (es':Array MapEntry) (clock':Nat),RKV μ Φ kvs' es'.toList ->
  Sim μ Φ (st.set id (some (.map kvs'))).get { w with heap:=w.heap.setIfInBounds b (.map es' clock') } /\
  Evo μ Φ st.get w μ Φ (st.set id (some (.map kvs'))).get { w with heap:=w.heap.setIfInBounds b (.map es' clock') } st.next st.next:=by
  intro es' clock' hk'
  have hlt:b<w.heap.size:=(Array.getElem?_eq_some_iff.1 hb).1
  have hsb:a1W b w { w with heap:=w.heap.setIfInBounds b (.map es' clock') } :=
   ⟨rfl,rfl,rfl,by simp,fun j hj=>by simp only;rw [Array.getElem?_setIfInBounds_ne (fun e=>hj e.symm)]⟩
  have hw:=hs.write hg hm hsb (vo':=.map kvs') ⟨es',clock',by simp [hlt],hk'⟩ st.next
  rw [hfn]
  exact hw
 rcases b5m (w:=w) hks hus 0 hkv hput with ⟨e1,hf⟩ | ⟨j,v0,l,e,e1,hf,hej,hrk,hsame⟩
 ·have hfk:(Instr.findKey kt (.agg us.toArray) es.toList).run P w=.ok none w:=by rw [a9V hks];exact hf
  refine ⟨_,?_,fin (es.push { key:=.agg us.toArray,val:=v,born:=clock }) (clock+1) ?_⟩
  ·simp [Instr.mapUpdate,run_underlying hu,hgo,hck,hfk,MapKept.run_setObj_map _ hb]
  ·rw [e1]
   simp only [Array.toList_push]
   exact b2x hkv (by simp only [R];exact ⟨us,rfl,hus⟩) rv
 ·have hfk:(Instr.findKey kt (.agg us.toArray) es.toList).run P w=.ok (some (0+j,v0)) w:=by rw [a9V hks];exact hf
  rw [Nat.zero_add] at hfk
  simp only [R] at hrk
  obtain ⟨vs,ek,hvs⟩:=hrk
  obtain ⟨q1,q2⟩:=b4K hsame hus hvs
  have hsb:Instr.sameBits 10000 (.agg us.toArray) (.agg us.toArray)=true:=c6d 9999 us q2
  have hkey:es[j]?=some e:=by simpa using hej
  refine ⟨_,?_,fin (es.modify j fun e=>{ e with key:=.agg us.toArray,val:=v }) clock ?_⟩
  ·have hstay:(Instr.keyThatStays (((es[j]?).map (·.key)).getD (.agg us.toArray)) (.agg us.toArray)).run P w=.ok (.agg us.toArray) w:=by
    rw [hkey]
    simp only [Option.map_some,Option.getD_some,ek,<- q1,Instr.keyThatStays,hsb,if_true,Sem.run_pure]
   simp only [Instr.mapUpdate,Sem.run_bind,run_underlying hu,Result.andThen_ok,hgo,hck,hfk,hstay,MapKept.run_setObj_map _ hb]
  ·rw [e1,Array.toList_modify]
   exact b4M j _ hkv (fun e=>⟨by simp only [R];exact ⟨us,rfl,hus⟩,rv⟩)
end
end Go.V
namespace Go.V
def a2M (μ:Mu) (n0 n1:Nat):Prop:=∀id,n0<=id->id<n1->μ id=none
def a1G (P:Program) (C:W6):Prop:=∀f args s d s',C f args s=some (d,s')->s.next<=s'.next/\(∃fn,P.funcs[f]?=some fn/\fn.body.isSome=true/\(fn.name=="runtime.NumGoroutine")=false) /\
 ∀μ Φ w vs,Sim μ Φ s.get w->RL μ Φ args vs->a2M μ s.next s'.next ->
  Calls P f vs.toArray w fun e w'=>∃v μ' Φ',e=.returned v/\Sim μ' Φ' s'.get w'/\R μ' Φ' d v/\Evo μ Φ s.get w μ' Φ' s'.get w' s.next s'.next
section
variable {P:Program} {md:FuncId->a0a} {μ:Mu} {Φ:Phi} {env:Env} {a:Act} {d:D} {g:P8} {w:World}
theorem b2P {sz:Nat}:∀ (n:Nat) {l:List D} {b o:Nat},RC Φ l b o->l.length=n*sz->RG Φ sz (a2t sz n l) b o
 | 0,l,b,o,_,_=>by simp [a2t,RG]
 | n+1,l,b,o,h,hl=>by
   simp only [a2t,RG]
   rw [Nat.add_mul] at hl
   exact ⟨by simp;omega,b3d sz h,b2P n (b15 sz h) (by simp;omega)⟩
theorem a8D (sz:Nat):∀ (n:Nat) (l:List D),(a2t sz n l).length=n
 | 0,_=>rfl
 | n+1,l=>by simp [a2t,a8D sz n]
theorem b3Q {f:D->Option D}:∀ {l l':List D},N1 f l=some l'->l'.length=l.length
 | [],l',h=>by simp [N1] at h;subst h;rfl
 | d::l,l',h=>by
   simp only [N1] at h
   split at h
   ·rename_i h2;simp at h;subst h;simp [b3Q h2]
   ·simp at h
theorem b9n {n:Nat} {d d':D} (h:ice g n d=some d') (ho:M8 d=true):M8 d'=true:=by
 cases n with
 | zero=>simp [ice] at h
 | succ n =>
   cases d<;>simp [M8] at ho<;>simp only [ice] at h<;>first
    | (cases h;rfl)
    | (split at h
       ·obtain ⟨l,_,e⟩:=map_some h;subst e;rfl
       ·simp at h)
    | (simp at h)
theorem b04 {Φ2:Phi} (hs:Sim μ Φ g w) (hle:Φ.le Φ2) (how:∀b,a18 μ g b->Φ2 b=w.heap[b]?):∀ (n:Nat) (d d':D) (v:Value),ice g n d=some d'->R μ Φ d v->RP Φ2 d' v:=by
 intro n
 induction n with
 | zero=>intro d d' v h;simp [ice] at h
 | succ n ih =>
   have hlist:∀ (l l':List D) (vs:List Value),N1 (ice g n) l=some l'->RL μ Φ l vs->RPL Φ2 l' vs:=by
    intro l
    induction l with
    | nil=>intro l' vs h hr;simp [N1] at h;subst h;simp only [RL] at hr;simp only [RPL];exact hr
    | cons d l il =>
      intro l' vs h hr
      simp only [N1] at h
      split at h
      ·rename_i x l1 h1 h2
       simp at h;subst h
       simp only [RL] at hr
       obtain ⟨u,us,rfl,r1,r2⟩:=hr
       simp only [RPL]
       exact ⟨u,us,rfl,ih _ _ _ h1 r1,il _ _ h2 r2⟩
      ·simp at h
   have hcells:∀ (l l':List D) (b o:Nat),N1 (ice g n) l=some l'->l.all M8=true->(∀j e,l[j]?=some e->∃u,Φ2.cell b (o+j)=some u/\R μ Φ e u)->RC Φ2 l' b o:=by
    intro l
    induction l with
    | nil=>intro l' b o h _ _;simp [N1] at h;subst h;simp only [RC]
    | cons d l il =>
      intro l' b o h ho hr
      simp only [N1] at h
      split at h
      ·rename_i x l1 h1 h2
       simp at h;subst h
       simp only [List.all_cons,Bool.and_eq_true] at ho
       simp only [RC]
       obtain ⟨u,u1,u2⟩:=hr 0 d (by simp)
       refine ⟨⟨b9n h1 ho.1,u,u1,ih _ _ _ h1 u2⟩,il _ _ _ h2 ho.2 ?_⟩
       intro j e hj
       obtain ⟨u,u1,u2⟩:=hr (j+1) e (by simpa using hj)
       exact ⟨u,by rw [<- u1];congr 1;omega,u2⟩
      ·simp at h
   intro d d' v h hr
   cases d<;>simp only [ice] at h
   case undef=>simp at h
   case int k x=>cases h;simpa only [R,RP] using hr
   case bool b=>cases h;simpa only [R,RP] using hr
   case str s=>cases h;simpa only [R,RP] using hr
   case nilp=>cases h;simpa only [R,RP] using hr
   case ptr id off=>simp at h
   case fp cs o=>cases h;simp only [R] at hr;exact a4V hle _ _ hr
   case nils=>cases h;simpa only [R,RP] using hr
   case lst sz xs=>cases h;simp only [R] at hr;exact a4V hle _ _ hr
   case arr id off len sz =>
    simp only [R] at hr
    obtain ⟨b,o,z,cap,hm,e,hlc,hz⟩:=hr
    split at h
    ·rename_i cs hrow
     obtain ⟨l,hl,e1⟩:=map_some h
     subst e1
     simp only [Z8] at hrow
     split at hrow
     ·rename_i cs0 hg
      split at hrow
      ·rename_i hfit
       cases hrow
       obtain ⟨b',o',z',m1,m2,_⟩:=hs.obj id _ hg
       rw [hm] at m1
       cases m1
       have hb:Φ2 b=w.heap[b]?:=how b ⟨id,o,z,by rw [hg];simp,hm⟩
       have hone:=m2.one
       obtain ⟨arr,et,vs,tail,q1,q2,q3,q4,_⟩:=m2
       have hrc:RC Φ2 l b (o+off):=by
        refine hcells _ _ _ _ hl (a46 hone fun x hx=>List.mem_of_mem_drop (List.mem_of_mem_take hx)) ?_
        intro j e hj
        rw [List.getElem?_take] at hj
        split at hj
        ·rw [List.getElem?_drop] at hj
         obtain ⟨u,u1,u2⟩:=a40 q4 hj
         refine ⟨u,?_,u2⟩
         simp only [Phi.cell,hb,q1]
         have h5:(arr.toList.drop o)[off+j]?=some u:=by
          rw [q3,List.getElem?_append_left (List.getElem?_eq_some_iff.1 u1).1]
          exact u1
         rw [List.getElem?_drop,Array.getElem?_toList] at h5
         rw [<- h5];congr 1;omega
        ·simp at hj
       have hll:l.length=len*sz:=by
        rw [b3Q hl]
        simp
        omega
       simp only [RP]
       exact ⟨b,o+off,cap,none,by rw [e,a8D],by rw [a8D];exact hlc,.inl rfl,b2P len hrc hll⟩
      ·simp at hrow
     ·simp at hrow
    ·simp at h
   case agg cs =>
    obtain ⟨l,hl,e1⟩:=map_some h
    subst e1
    simp only [R] at hr
    obtain ⟨vs,e,hv⟩:=hr
    simp only [RP]
    exact ⟨vs,e,hlist _ _ _ hl hv⟩
   case tup cs =>
    obtain ⟨l,hl,e1⟩:=map_some h
    subst e1
    simp only [R] at hr
    obtain ⟨vs,e,hv⟩:=hr
    simp only [RP]
    exact ⟨vs,e,hlist _ _ _ hl hv⟩
   case fn f cs=>simp at h
   case nilf=>cases h;simpa only [R,RP] using hr
   case nilm=>cases h;simpa only [R,RP] using hr
   case map id=>simp at h
theorem b5p {Φ2:Phi} (hs:Sim μ Φ g w) (hle:Φ.le Φ2) (how:∀b,a18 μ g b->Φ2 b=w.heap[b]?) (n:Nat):∀ {l l':List D} {vs:List Value},N1 (ice g n) l=some l'->RL μ Φ l vs->RPL Φ2 l' vs
 | [],l',vs,h,hr=>by simp [N1] at h;subst h;simp only [RL] at hr;simp only [RPL];exact hr
 | d::l,l',vs,h,hr=>by
   simp only [N1] at h
   split at h
   ·rename_i x l1 h1 h2
    simp at h;subst h
    simp only [RL] at hr
    obtain ⟨u,us,rfl,r1,r2⟩:=hr
    simp only [RPL]
    exact ⟨u,us,rfl,b04 hs hle how n _ _ _ h1 r1,b5p hs hle how n h2 r2⟩
   ·simp at h
mutual
theorem b56 {Φ Φ':Phi}:∀ (d:D) (v:Value),a0q d=true->RP Φ d v->RP Φ' d v
 | .int _ _,_,_,e=>by simpa only [RP] using e
 | .bool _,_,_,e=>by simpa only [RP] using e
 | .str _,_,_,e=>by simpa only [RP] using e
 | .nilp,_,_,e=>by simpa only [RP] using e
 | .fp cs off,v,h,e=>by simp [a0q] at h
 | .nils,_,_,e=>by simpa only [RP] using e
 | .lst sz xs,v,h,e=>by simp [a0q] at h
 | .agg cs,v,h,e=>by
   simp only [a0q] at h
   simp only [RP] at e ⊢
   obtain ⟨vs,e1,e2⟩:=e
   exact ⟨vs,e1,scalar_RPL cs vs h e2⟩
 | .tup cs,v,h,e=>by
   simp only [a0q] at h
   simp only [RP] at e ⊢
   obtain ⟨vs,e1,e2⟩:=e
   exact ⟨vs,e1,scalar_RPL cs vs h e2⟩
 | .nilf,_,_,e=>by simpa only [RP] using e
 | .nilm,_,_,e=>by simpa only [RP] using e
 | .undef,_,_,e=>by simp only [RP] at e
 | .ptr _ _,_,_,e=>by simp only [RP] at e
 | .arr _ _ _ _,_,_,e=>by simp only [RP] at e
 | .fn _ _,_,_,e=>by simp only [RP] at e
 | .map _,_,_,e=>by simp only [RP] at e
theorem scalar_RPL {Φ Φ':Phi}:∀ (ds:List D) (vs:List Value),scalarL ds=true->RPL Φ ds vs->RPL Φ' ds vs
 | [],_,_,e=>by simpa only [RPL] using e
 | d::ds,vs,h,e=>by
   simp only [scalarL,Bool.and_eq_true] at h
   simp only [RPL] at e ⊢
   obtain ⟨u,us,e1,e2,e3⟩:=e
   exact ⟨u,us,e1,b56 d u h.1 e2,scalar_RPL ds us h.2 e3⟩
end
mutual
theorem b7v:∀ (d:D) (v:Value),W3 d=true->R μ Φ d v->RP Φ d v
 | .int _ _,_,_,e=>by simpa only [R,RP] using e
 | .bool _,_,_,e=>by simpa only [R,RP] using e
 | .str _,_,_,e=>by simpa only [R,RP] using e
 | .nilp,_,_,e=>by simpa only [R,RP] using e
 | .fp cs off,v,h,e=>by simp only [R] at e;exact e
 | .nils,_,_,e=>by simpa only [R,RP] using e
 | .lst sz xs,v,h,e=>by simp only [R] at e;exact e
 | .agg cs,v,h,e=>by
   simp only [W3] at h
   simp only [R,RP] at e ⊢
   obtain ⟨vs,e1,e2⟩:=e
   exact ⟨vs,e1,pure_RPL cs vs h e2⟩
 | .tup cs,v,h,e=>by simp [W3] at h
 | .nilf,_,_,e=>by simpa only [R,RP] using e
 | .nilm,_,_,e=>by simpa only [R,RP] using e
 | .undef,_,h,_=>by simp [W3] at h
 | .ptr _ _,_,h,_=>by simp [W3] at h
 | .arr _ _ _ _,_,h,_=>by simp [W3] at h
 | .fn _ _,_,h,_=>by simp [W3] at h
 | .map _,_,h,_=>by simp [W3] at h
theorem pure_RPL:∀ (ds:List D) (vs:List Value),pureL ds=true->RL μ Φ ds vs->RPL Φ ds vs
 | [],_,_,e=>by simpa only [RL,RPL] using e
 | d::ds,vs,h,e=>by
   simp only [pureL,Bool.and_eq_true] at h
   simp only [RL,RPL] at e ⊢
   obtain ⟨u,us,e1,e2,e3⟩:=e
   exact ⟨u,us,e1,b7v d u h.1 e2,pure_RPL ds us h.2 e3⟩
end
mutual
theorem c4r:∀ (d:D) (n:Nat) (d':D),W3 d=true->ice g n d=some d'->d'=d
 | .agg cs,n,d',h,e=>by
   cases n with
   | zero=>simp [ice] at e
   | succ n =>
     simp only [W3] at h
     simp only [ice] at e
     obtain ⟨l,hl,e1⟩:=map_some e
     rw [<- e1,ice_pureL cs n l h hl]
 | .int _ _,n,d',_,e=>by cases n<;>simp [ice] at e;exact e.symm
 | .bool _,n,d',_,e=>by cases n<;>simp [ice] at e;exact e.symm
 | .str _,n,d',_,e=>by cases n<;>simp [ice] at e;exact e.symm
 | .nilp,n,d',_,e=>by cases n<;>simp [ice] at e;exact e.symm
 | .fp _ _,n,d',_,e=>by cases n<;>simp [ice] at e;exact e.symm
 | .nils,n,d',_,e=>by cases n<;>simp [ice] at e;exact e.symm
 | .lst _ _,n,d',_,e=>by cases n<;>simp [ice] at e;exact e.symm
 | .nilf,n,d',_,e=>by cases n<;>simp [ice] at e;exact e.symm
 | .nilm,n,d',_,e=>by cases n<;>simp [ice] at e;exact e.symm
 | .tup _,_,_,h,_=>by simp [W3] at h
 | .undef,_,_,h,_=>by simp [W3] at h
 | .ptr _ _,_,_,h,_=>by simp [W3] at h
 | .arr _ _ _ _,_,_,h,_=>by simp [W3] at h
 | .fn _ _,_,_,h,_=>by simp [W3] at h
 | .map _,_,_,h,_=>by simp [W3] at h
theorem ice_pureL:∀ (ds:List D) (n:Nat) (l:List D),pureL ds=true->N1 (ice g n) ds=some l->l=ds
 | [],n,l,_,e=>by simp [N1] at e;exact e
 | d::ds,n,l,h,e=>by
   simp only [pureL,Bool.and_eq_true] at h
   simp only [N1] at e
   split at e
   ·rename_i x l1 h1 h2
    simp at e
    rw [<- e,c4r d n x h.1 h1,ice_pureL ds n l1 h.2 h2]
   ·simp at e
end
theorem b0w {Φ:Phi} (h:∀b ob,Φ b=some ob->w.heap[b]?=some ob):Sim (fun _=>none) Φ f6.empty.get w :=
 ⟨h,fun id ob e=>by simp at e,fun id id' b o z o' z' h1 _ _ _=>by simp at h1⟩
theorem b1d (b:Nat):¬ a18 (fun _=>none) f6.empty.get b:=by
 rintro ⟨id,o,z,h,_⟩
 simp at h
theorem a9X {C:W6} (hC:a1G P C) {m:a0a} {f:FuncId} {caps args:List D} {s s':f6} (hev:a1d C m (.fn f caps) args s=some (d,s')) :
 s.next<=s'.next/\(∃fn,P.funcs[f]?=some fn/\fn.body.isSome=true/\(fn.name=="runtime.NumGoroutine")=false) /\
 ∀μ Φ w vs,Sim μ Φ s.get w->RL μ Φ (args++caps) vs->a2M μ s.next s'.next ->
  Calls P f vs.toArray w fun e w'=>∃v μ' Φ',e=.returned v/\Sim μ' Φ' s'.get w'/\R μ' Φ' d v/\Evo μ Φ s.get w μ' Φ' s'.get w' s.next s'.next:=by
 cases m with
 | raw=>exact hC f (args++caps) s d s' hev
 | iso =>
   simp only [a1d] at hev
   split at hev
   ·simp at hev
   ·rename_i args' hargs
    split at hev
    ·simp at hev
    ·rename_i r s1 hcall
     split at hev
     ·simp at hev
     ·rename_i r' hr'
      split at hev
      ·rename_i hcond
       simp at hev
       obtain ⟨rfl,rfl⟩:=hev
       obtain ⟨h0,h1,h2⟩:=hC f args' f6.empty r s1 hcall
       refine ⟨Nat.le_refl _,h1,?_⟩
       intro μ Φ w vs hs hr _
       have keepSim:∀ (Φc:Phi) (μ1:Mu) (Φ1:Phi) (w':World),Evo (fun _=>none) Φc f6.empty.get w μ1 Φ1 s1.get w' f6.empty.next s1.next->∀b,b<w.heap.size->w'.heap[b]?=w.heap[b]? :=
        fun Φc μ1 Φ1 w' he b hb=>he.keep b hb (b1d b)
       by_cases hsc:a0q r'=true
       ·-- all of memory is frozen for the call
        let Φc:Phi:=fun b=>w.heap[b]?
        have hle:Φ.le Φc:=fun b ob e=>hs.phi b ob e
        have ha:=b5p hs hle (fun _ _=>rfl) 20 hargs hr
        refine (h2 (fun _=>none) Φc w vs (b0w fun _ _ e=>e) (RL_of_RPL _ _ ha) (fun _ _ _=>rfl)).mono ?_
        rintro e w' ⟨v,μ1,Φ1,rfl,hs1,hr1,he⟩
        have hk:=keepSim Φc μ1 Φ1 w' he
        let Φ2:Phi:=fun b=>w'.heap[b]?
        have hp:=b04 (Φ2:=Φ2) hs1 (fun b ob e=>hs1.phi b ob e) (fun _ _=>rfl) 20 _ _ _ hr' hr1
        refine ⟨v,μ,Φ,rfl,hs.world (fun b ob e=>hk b (hs.phi_lt e)) (fun b ho=>hk b (hs.owned_lt ho)),a6s _ _ (b56 _ _ hsc hp),?_⟩
        exact ⟨Mu.le_refl _,fun _ _=>rfl,Phi.le_refl _,he.os,he.tape,he.output,he.size,fun b hb _=>hk b hb,fun _ _ h=>.inl h,fun _ h=>.inl h⟩
       ·-- the arguments are plain
        have hpure:pureL (args++caps)=true:=by
         simp only [Bool.or_eq_true] at hcond
         rcases hcond with h | h
         ·exact absurd h hsc
         ·exact h
        have heq:=ice_pureL _ _ _ hpure hargs
        subst heq
        have ha:=pure_RPL _ _ hpure hr
        refine (h2 (fun _=>none) Φ w vs (b0w fun b ob e=>hs.phi b ob e) (RL_of_RPL _ _ ha) (fun _ _ _=>rfl)).mono ?_
        rintro e w' ⟨v,μ1,Φ1,rfl,hs1,hr1,he⟩
        have hk:=keepSim Φ μ1 Φ1 w' he
        let Φ2:Phi:=fun b=>if b<w.heap.size then Φ b else w'.heap[b]?
        have h02:Φ.le Φ2:=fun b ob e=>by
         have:=hs.phi_lt e
         simp only [Φ2,this,if_true]
         exact e
        have h12:Φ1.le Φ2:=fun b ob e=>by
         rcases he.phiNew b ob e with h | h
         ·exact h02 b ob h
         ·simp only [Φ2,Nat.not_lt.2 h,if_false]
          exact hs1.phi b ob e
        have hown:∀b,a18 μ1 s1.get b->Φ2 b=w'.heap[b]?:=fun b ho=>by
         rcases he.ownNew b ho with h | h
         ·exact absurd h (b1d b)
         ·simp only [Φ2,Nat.not_lt.2 h,if_false]
        have hp:=b04 (Φ2:=Φ2) hs1 h12 hown 20 _ _ _ hr' hr1
        have hs':Sim μ Φ s.get w':=hs.world (fun b ob e=>hk b (hs.phi_lt e)) (fun b ho=>hk b (hs.owned_lt ho))
        refine ⟨v,μ,Φ2,rfl,⟨?_,?_,hs.inj⟩,a6s _ _ hp,?_⟩
        ·intro b ob e
         by_cases hb:b<w.heap.size
         ·simp only [Φ2,hb,if_true] at e
          exact hs'.phi b ob e
         ·simp only [Φ2,hb,if_false] at e
          exact e
        ·intro id ob e
         obtain ⟨b,o,z,e1,e2,e3⟩:=hs'.obj id ob e
         refine ⟨b,o,z,e1,a5F (Mu.le_refl _) h02 e2,?_⟩
         have hb:b<w.heap.size:=hs.owned_lt ⟨id,o,z,by rw [e];simp,e1⟩
         simp only [Φ2,hb,if_true]
         exact e3
        ·exact ⟨Mu.le_refl _,fun _ _=>rfl,h02,he.os,he.tape,he.output,he.size,fun b hb _=>hk b hb,fun b ob e=>by
          by_cases hb:b<w.heap.size
          ·simp only [Φ2,hb,if_true] at e;exact .inl e
          ·exact .inr (Nat.not_lt.1 hb),fun _ h=>.inl h⟩
      ·simp at hev
end
end Go.V
namespace Go.V
section
variable {P:Program} {md:FuncId->a0a} {μ:Mu} {Φ:Phi} {env:Env} {a:Act} {d:D} {g:P8} {w:World} {K:Act->World->Prop} {Q:Exit->Act->World->Prop}
theorem b3E {o:Oper} (h:a1F P μ Φ (execOp a.eval o) w d) (hK:∀v,R μ Φ d v->K (a.put o.dst v) w):o.wp P a w K Q:=by
 obtain ⟨v,h1,h2⟩:=h
 unfold Oper.wp
 rw [h1]
 exact hK v h2
theorem b12 {o:Oper} {po:POp} (hres:a1f P md o=some (.p po)) (he:a0d μ Φ env a) (hev:evP env po=some d) (hK:∀v,R μ Φ d v->K (a.put o.dst v) w):o.wp P a w K Q :=
 b3E (b8x hres he hev w) hK
theorem b4P {o:Oper} {ro:ROp} (hres:a1f P md o=some (.r ro)) (he:a0d μ Φ env a) (hs:Sim μ Φ g w) (hev:evR env g ro=some d) (hK:∀v,R μ Φ d v->K (a.put o.dst v) w):o.wp P a w K Q :=
 b3E (c32 hres he hs hev) hK
theorem b3W {o:Oper} {ao:AOp} (hres:a1f P md o=some (.a ao)) (he:a0d μ Φ env a) (hs:Sim μ Φ g w) {vo:O3} {m:P3} (hev:evA env ao=some (vo,m)) {id:Nat} (hid:μ id=none) (hg:g id=none)
 (hK:∀v w' μ',Sim μ' Φ (upd g id (some vo)) w'->R μ' Φ (m.at id) v->Evo μ Φ g w μ' Φ (upd g id (some vo)) w' id (id+1)->K (a.put o.dst v) w'):o.wp P a w K Q:=by
 obtain ⟨v,ob,z,h1,h2,h3⟩:=b7a hres he hev w id hid
 obtain ⟨h4,h5⟩:=hs.push hid hg h2
 unfold Oper.wp
 rw [h1]
 exact hK v _ _ h4 h3 h5
theorem b2v {o:Oper} {n:Nat} {ad x:Opd} (hres:a1f P md o=some (.w n ad x)) (he:a0d μ Φ env a) (hs:Sim μ Φ g w) {id:Nat} {vo:O3} (hev:evW env g n ad x=some (id,vo)) (k:Nat)
 (hK:∀w',Sim μ Φ (upd g id (some vo)) w'->Evo μ Φ g w μ Φ (upd g id (some vo)) w' k k->K (a.put o.dst undef) w'):o.wp P a w K Q:=by
 obtain ⟨w',b,o',z,vo0,h1,h2,h3,h4,h5⟩:=c2V hres he hs hev
 obtain ⟨h6,h7⟩:=hs.write h2 h3 h4 h5 k
 unfold Oper.wp
 rw [h1]
 exact hK w' h6 h7
theorem a6x:R μ Φ (.tup []) undef:=by
 simp only [R]
 exact ⟨[],rfl,by simp [RL]⟩
theorem b3I {C:W6} (hC:a1G P C) {o:Oper} {mo:MOp} (hres:a1f P md o=some (.m mo)) (he:a0d μ Φ env a) {s s':f6} (hs:Sim μ Φ s.get w) (hev:evM C env s mo=some (d,s')) :
 s.next<=s'.next/\(a2M μ s.next s'.next->(∀v w' μ' Φ',Sim μ' Φ' s'.get w'->R μ' Φ' d v->Evo μ Φ s.get w μ' Φ' s'.get w' s.next s'.next->K (a.put o.dst v) w')->o.wp P a w K Q):=by
 obtain ⟨dst,op,type,pos,after,guard⟩:=o
 cases op<;>simp only [a1f] at hres
 case mapUpdate t m k v =>
  split at hres
  ·rename_i m' k' v' kt et hm hk hv hu
   split at hres
   ·rename_i ks hks
    cases hres
    simp only [evM] at hev
    split at hev
    ·rename_i id hx
     split at hev
     ·rename_i kvs hg
      split at hev
      ·rename_i kl hkl
       split at hev
       ·rename_i hone
        obtain ⟨kvs',hput,e⟩:=map_some hev
        cases e
        refine ⟨Nat.le_refl _,fun _ hK=>?_⟩
        have rm:=S7 he hm
        have rk:=S7 he hk
        have rv:=S7 he hv
        rw [hx] at rm
        unfold a5I at hkl
        split at hkl
        ·rename_i k0 hk0
         split at hkl
         ·rename_i hlen
          simp at hkl;subst hkl
          rw [hk0] at rk
          obtain ⟨w',h1,h2,h3⟩:=b7S (P:=P) hu hks hs hg rm rk hlen.1 rv hput
          unfold Oper.wp
          have:(execOp a.eval ⟨dst,.mapUpdate t m k v,type,pos,after,guard⟩).run P w=.ok .skip w':=by
           simp [execOp,h1]
          rw [this]
          exact hK undef w' μ Φ h2 a6x h3
         ·simp at hkl
        ·simp at hkl
       ·simp at hev
      ·simp at hev
     ·simp at hev
    ·simp at hev
   ·simp at hres
  ·simp at hres
 case call c =>
  obtain ⟨callee,args,types⟩:=c
  cases callee with
  | invoke _ _=>simp at hres
  | value f =>
    simp only at hres
    split at hres
    ·rename_i f' l hf hl
     cases hres
     simp only [evM] at hev
     have rf:=S7 he hf
     have rl:=a6g he hl
     generalize hfd:env.ev f'=fd at hev rf
     cases fd<;>try (simp [a1d] at hev;done)
     rename_i ff caps
     simp only [R] at rf
     obtain ⟨cv,ef,hcv⟩:=rf
     obtain ⟨h0,⟨fn,hfn,hbody,hname⟩,h2⟩:=a9X hC hev
     refine ⟨h0,fun hfr hK=>?_⟩
     have hcalls:=h2 μ Φ w _ hs (a5c rl hcv) hfr
     unfold Oper.wp
     have hbn:fn.body.isNone=false:=by cases hb:fn.body<;>simp [hb] at hbody ⊢
     have hrun:(execOp a.eval ⟨dst,.call ⟨.value f,args,types⟩,type,pos,after,guard⟩).run P w=.ok (.enter ff ((args.toList.map a.eval)++cv).toArray) w:=by
      simp only [execOp,resolve,Sem.run_bind,ef,Deferred.ofValue,Sem.run_pure,Result.andThen_ok,invoke,callFunc,run_program,hfn,hname,hbn,Bool.false_eq_true,if_false]
      congr 2
      apply Array.ext'
      simp
     rw [hrun]
     refine hcalls.mono ?_
     rintro e w' ⟨v,μ',Φ',rfl,h3,h4,h5⟩
     exact hK v w' μ' Φ' h3 h4 h5
    ·simp at hres
  | builtin b =>
    simp only [a4W] at hres
    split at hres
    ·split at hres
     ·split at hres<;>simp at hres
     ·simp at hres
    ·split at hres<;>simp at hres
    ·split at hres<;>simp at hres
    ·rename_i s0 x0 hargs
     split at hres
     ·rename_i sy xy t u hsy hxy htypes
      split at hres
      ·rename_i e e' hel hel'
       split at hres
       ·rename_i i zl hi hz
        split at hres
        ·simp at hres
        ·rename_i hcnd
         cases hres
         simp only [evM] at hev
         have htu:P.underlying t=some (.slice e):=by
          unfold a2K at hel
          split at hel
          ·rename_i hu;simp at hel;rw [hu,hel]
          ·simp at hel
         have htu':P.underlying u=some (.slice e'):=by
          unfold a2K at hel'
          split at hel'
          ·rename_i hu;simp at hel';rw [hu,hel']
          ·simp at hel'
         have ha:args=#[s0,x0]:=by rw [<- Array.toArray_toList (xs:=args),hargs]
         have htt:types=#[t,u]:=by rw [<- Array.toArray_toList (xs:=types),htypes]
         have hnx:s.next<=s'.next/\(s'.next<=s.next+1):=by
          unfold V3 at hev
          split at hev
          ·split at hev
           ·split at hev
            ·split at hev
             ·cases hev;exact ⟨Nat.le_refl _,Nat.le_succ _⟩
             ·split at hev
              ·cases hev;exact ⟨Nat.le_succ _,Nat.le_refl _⟩
              ·simp at hev
            ·split at hev
             ·split at hev
              ·split at hev
               ·cases hev;exact ⟨Nat.le_refl _,Nat.le_succ _⟩
               ·split at hev
                ·cases hev;exact ⟨Nat.le_succ _,Nat.le_refl _⟩
                ·simp at hev
              ·simp at hev
             ·simp at hev
            ·split at hev
             ·cases hev;exact ⟨Nat.le_refl _,Nat.le_succ _⟩
             ·simp at hev
            ·simp at hev
           ·simp at hev
          ·simp at hev
         refine ⟨hnx.1,fun hfr hK=>?_⟩
         subst ha;subst htt
         have main:∀hf:s'.next=s.next∨μ s.next=none,(⟨dst,.call ⟨.builtin .append,#[s0,x0],#[t,u]⟩,type,pos,after,guard⟩:Oper).wp P a w K Q:=by
          intro hf
          obtain ⟨v,w',μ',h1,h2,h3,h4⟩:=b8D (P:=P) htu htu' hi hz (by simp at hcnd;exact hcnd.1) (by simp at hcnd;exact hcnd.2) hs hf (S7 he hsy) (S7 he hxy) hev type
          unfold Oper.wp
          have hrun:(execOp a.eval ⟨dst,.call ⟨.builtin .append,#[s0,x0],#[t,u]⟩,type,pos,after,guard⟩).run P w=.ok (.value v) w':=by
           simp only [execOp,resolve,Sem.run_bind,Sem.run_pure,Result.andThen_ok,invoke,builtin]
           have:(#[s0,x0].map a.eval)=#[a.eval s0,a.eval x0]:=by simp
           rw [this,h1]
           rfl
          rw [hrun]
          exact hK v w' μ' Φ h2 h4 h3
         by_cases hgrow:s'.next=s.next
         ·exact main (.inl hgrow)
         ·exact main (.inr (hfr s.next (Nat.le_refl _) (by omega)))
       ·simp at hres
      ·simp at hres
     ·simp at hres
    ·simp at hres
 case move x=>obtain ⟨z,_,e⟩:=map_some hres;cases e
 case assign x=>obtain ⟨z,_,e⟩:=map_some hres;cases e
 case nilCheck x=>obtain ⟨z,_,e⟩:=map_some hres;cases e
 case binOp op t x y yt=>obtain ⟨z,_,e⟩:=map_some hres;cases e
 case unOp op t x=>obtain ⟨z,_,e⟩:=map_some hres;cases e
 case extract x i=>obtain ⟨z,_,e⟩:=map_some hres;cases e
 case alloc t=>obtain ⟨z,_,e⟩:=map_some hres;cases e
 case box t x=>obtain ⟨z,_,e⟩:=map_some hres;cases e
 case pick c x y=>split at hres<;>simp at hres
 case load t x=>split at hres<;>simp at hres
 case store t x y=>split at hres<;>simp at hres
 case fieldAddr t x f =>
  split at hres
  ·split at hres<;>simp at hres
  ·simp at hres
 case field t x f =>
  split at hres
  ·split at hres<;>simp at hres
  ·simp at hres
 case indexAddr t x f =>
  split at hres
  ·split at hres<;>simp at hres
  ·split at hres
   ·split at hres<;>simp at hres
   ·simp at hres
 case build t parts =>
  split at hres
  ·split at hres
   ·split at hres<;>simp at hres
   ·simp at hres
  ·simp at hres
 case buildSlice t len parts =>
  split at hres
  ·split at hres
   ·split at hres<;>simp at hres
   ·simp at hres
  ·simp at hres
 case makeSlice t l c =>
  split at hres
  ·split at hres
   ·split at hres<;>simp at hres
   ·simp at hres
  ·simp at hres
 case lookup t m k ok =>
  split at hres
  ·split at hres
   ·split at hres<;>simp at hres
   ·simp at hres
  ·simp at hres
 case index t x f =>
  split at hres
  ·simp at hres
  ·split at hres<;>simp at hres
  ·simp at hres
 case convert src dst' x =>
  split at hres
  ·simp at hres
  ·split at hres<;>simp at hres
  ·simp at hres
 case slice t x lo hi mx =>
  cases mx with
  | some _=>simp at hres
  | none =>
    simp only at hres
    split at hres
    ·simp at hres
    ·split at hres<;>simp at hres
    ·simp at hres
 case makeFunc fn first caps =>
  cases fn<;>simp only at hres<;>try (cases hres;done)
  split at hres
  ·obtain ⟨z,_,e⟩:=map_some hres;cases e
  ·simp at hres
 case makeMap t r=>cases r<;>simp at hres
 all_goals (cases hres;done)
end
end Go.V
namespace Go.V
def b2V (ops:Array Oper):Option (Nat×Bool)->Option (Option (Nat×Bool))
 | none=>some none
 | some (j,want)=>match (ops[j]?).bind (·.dst) with
   | some t=>some (some (t,want))
   | none=>none
def a4B (N:Nat):Option Nat->Bool
 | some t=>decide (t<N)
 | none=>true
def a09 (P:Program) (md:FuncId->a0a) (N:Nat) (ops:Array Oper) (o:Oper):Option P1 :=
 match a1f P md o,b2V ops o.guard with
 | some v,some g=>if a4B N o.dst then some ⟨o.dst,v,g⟩ else none
 | _,_=>none
structure FrR (N:Nat) (μ:Mu) (Φ:Phi) (env:Env) (a:Act):Prop where
 env:a0d μ Φ env a
 size:N<=a.tmps.size
 defers:a.defers=[]
theorem FrR.mono {N:Nat} {μ μ':Mu} {Φ Φ':Phi} {env:Env} {a:Act} (hm:μ.le μ') (h:Φ.le Φ') (e:FrR N μ Φ env a):FrR N μ' Φ' env a:=⟨e.env.mono hm h,e.size,e.defers⟩
theorem b0u {a:Act} {t:Nat} {v:Value} (t':Nat) (h:t<a.tmps.size):(a.put (some t) v).tmps.getD t' undef=if t'=t then v else a.tmps.getD t' undef:=by
 simp only [Act.put,Array.getD_eq_getD_getElem?]
 by_cases e:t'=t
 ·subst e;simp [h]
 ·simp [e,Array.getElem?_setIfInBounds_ne (fun x=>e x.symm)]
theorem FrR.put {N:Nat} {μ:Mu} {Φ:Phi} {env:Env} {a:Act} (h:FrR N μ Φ env a) {dst:Option Nat} (hd:a4B N dst=true) {d:D} {v:Value} (hr:R μ Φ d v):FrR N μ Φ (env.put dst d) (a.put dst v):=by
 cases dst with
 | none=>exact h
 | some t =>
   have ht:t<a.tmps.size:=Nat.lt_of_lt_of_le (by simpa [a4B] using hd) h.size
   refine ⟨fun t'=>?_,?_,h.defers⟩
   ·rw [b0u t' ht]
    simp only [Env.put,Env.get]
    by_cases e:t'=t
    ·subst e;simp [hr]
    ·have e2:¬ t=t':=fun x=>e x.symm
     simp only [e,e2,if_false]
     exact h.env t'
   ·simpa [Act.put] using h.size
theorem FrR.keep {N:Nat} {μ:Mu} {Φ:Phi} {env:Env} {a:Act} (h:FrR N μ Φ env a) (vars:List Nat):FrR N μ Φ (env.keep vars) a:=by
 refine ⟨fun t=>?_,h.size,h.defers⟩
 have:∀l:List Nat,R μ Φ (Env.get (l.map fun t=>(t,Env.get env t)) t) (a.tmps.getD t undef):=by
  intro l
  induction l with
  | nil=>simp [Env.get,R]
  | cons x l ih =>
    simp only [List.map_cons,Env.get]
    by_cases e:x=t
    ·subst e;simp only [if_true];exact h.env x
    ·simp only [e,if_false];exact ih
 exact this vars
theorem a7M {P:Program} {md:FuncId->a0a} {N:Nat} {μ:Mu} {Φ:Phi} {env:Env} {a:Act} {ops:Array Oper} {o:Oper} {vo:P1} (hc:a09 P md N ops o=some vo) (he:a0d μ Φ env a) {b:Bool}
 (h:a0t env vo.guard=some b):Region.wanted o (yielded ops a.tmps)=b:=by
 unfold a09 at hc
 split at hc
 ·rename_i v g hv hg
  split at hc
  ·simp at hc;subst hc
   simp only at h
   unfold b2V at hg
   split at hg
   ·rename_i hgd
    simp at hg;subst hg
    simp [a0t] at h;subst h
    simp [Region.wanted,hgd]
   ·rename_i j want hgd
    split at hg
    ·rename_i t ht
     simp at hg;subst hg
     have hr:=he t
     simp only [a0t] at h
     simp only [Region.wanted,hgd,yielded,ht,Option.bind_some]
     split at h
     ·rename_i b' hb
      rw [hb] at hr
      simp only [R,Array.getD_eq_getD_getElem?] at hr
      simp at h;subst h
      cases hx:a.tmps[t]? with
      | none=>simp [hx,undef] at hr
      | some x =>
        simp [hx] at hr
        subst hr
        cases b'<;>cases want<;>rfl
     ·rename_i hb
      rw [hb] at hr
      simp only [R,RL,Array.getD_eq_getD_getElem?] at hr
      obtain ⟨vs,e1,e2⟩:=hr
      subst e2
      simp at h;subst h
      cases hx:a.tmps[t]? with
      | none=>rfl
      | some x =>
        simp [hx] at e1
        subst e1
        rfl
     ·simp at h
    ·simp at hg
  ·simp at hc
 ·simp at hc
theorem b3x {P:Program} {md:FuncId->a0a} {N:Nat} {ops:Array Oper} {o:Oper} {vo:P1} (hc:a09 P md N ops o=some vo):a1f P md o=some vo.op/\vo.dst=o.dst/\a4B N o.dst=true:=by
 unfold a09 at hc
 split at hc
 ·rename_i v g hv hg
  split at hc
  ·rename_i hd
   simp at hc;subst hc
   exact ⟨hv,rfl,hd⟩
  ·simp at hc
 ·simp at hc
section
variable {P:Program} {md:FuncId->a0a} {N:Nat} {μ:Mu} {Φ:Phi} {env:Env} {a:Act} {d:D} {w:World} {K:Act->World->Prop} {Q:Exit->Act->World->Prop}
theorem c2a {C:W6} (hC:a1G P C) {o:Oper} {vo:VOp} (hres:a1f P md o=some vo) (he:a0d μ Φ env a) {s s':f6} (hs:Sim μ Φ s.get w) (hev:Q0 C env s vo=some (d,s')) :
 s.next<=s'.next/\(a2M μ s.next s'.next->(∀v w' μ' Φ',Sim μ' Φ' s'.get w'->R μ' Φ' d v->Evo μ Φ s.get w μ' Φ' s'.get w' s.next s'.next->K (a.put o.dst v) w')->o.wp P a w K Q):=by
 cases vo with
 | p po =>
   simp only [Q0] at hev
   obtain ⟨d',h1,e⟩:=map_some hev
   cases e
   exact ⟨Nat.le_refl _,fun _ hK=>b12 hres he h1 fun v hv=>hK v w μ Φ hs hv (Evo.refl _ _ _ _ _)⟩
 | r ro =>
   simp only [Q0] at hev
   obtain ⟨d',h1,e⟩:=map_some hev
   cases e
   exact ⟨Nat.le_refl _,fun _ hK=>b4P hres he hs h1 fun v hv=>hK v w μ Φ hs hv (Evo.refl _ _ _ _ _)⟩
 | a ao =>
   simp only [Q0] at hev
   split at hev
   ·rename_i ob m h1
    cases hev
    refine ⟨Nat.le_succ _,fun hf hK=>b3W hres he hs h1 (hf s.next (Nat.le_refl _) (Nat.lt_succ_self _)) (f6.get_none _ _ (Nat.le_refl _)) fun v w' μ' h2 h3 h4=>?_⟩
    have hfn:(s.push ob).get=upd s.get s.next (some ob):=funext fun j=>b4V s ob j
    exact hK v w' μ' Φ (by rw [hfn];exact h2) h3 (by rw [hfn];exact h4)
   ·simp at hev
 | w n ad x =>
   simp only [Q0] at hev
   split at hev
   ·rename_i id ob h1
    cases hev
    have hlt:id<s.next:=by
     unfold evW at h1
     split at h1
     ·split at h1
      ·rename_i hg
       simp only at h1
       split at h1
       ·simp at h1;rw [<- h1.1];exact a6N hg
       ·simp at h1
      ·simp at h1
     ·simp at h1
    refine ⟨Nat.le_refl _,fun _ hK=>b2v hres he hs h1 s.next fun w' h2 h3=>?_⟩
    have hfn:(s.set id (some ob)).get=upd s.get id (some ob):=funext fun j=>b1l s id _ hlt j
    exact hK undef w' μ Φ (by rw [hfn];exact h2) a6x (by rw [hfn];exact h3)
   ·simp at hev
 | m mo=>exact b3I hC hres he hs hev
theorem b4o (j:Tr):∀l:List Tr,a0p [] j l=true
 | []=>rfl
 | i::l=>by simp [a0p,b4o j l]
def a4c (N:Nat) (μ:Mu) (Φ:Phi) (s:f6) (w:World) (env':Env) (s':f6) (K:Act->World->Prop):Prop :=
 ∀a' w' μ' Φ',FrR N μ' Φ' env' a'->Sim μ' Φ' s'.get w'->Evo μ Φ s.get w μ' Φ' s'.get w' s.next s'.next->K a' w'
theorem a5h {C:W6} (hC:a1G P C) {ops:Array Oper} {pairs:List (Nat×Nat)}:∀ {vl:List (Nat×P1)} {tr:List Tr} {env env':Env} {s s':f6},
 (∀x∈vl,∃o,a09 P md N ops o=some x.2)->X0 C pairs vl tr env s=some (env',s')->s.next<=s'.next
 | [],tr,env,env',s,s',_,h=>by simp [X0] at h;rw [h.2];exact Nat.le_refl _
 | (i,o)::vl,tr,env,env',s,s',hx,h=>by
   simp only [X0] at h
   split at h
   ·simp at h
   ·exact a5h hC (fun x hm=>hx x (by simp [hm])) h
   ·split at h
    ·simp at h
    ·rename_i d1 s1 h1
     split at h
     ·have h2:=a5h hC (fun x hm=>hx x (by simp [hm])) h
      obtain ⟨o',ho'⟩:=hx (i,o) (by simp)
      have h3:s.next<=s1.next:=by
       cases hop:o.op with
       | p po=>rw [hop] at h1;simp only [Q0] at h1;obtain ⟨_,_,e⟩:=map_some h1;cases e;exact Nat.le_refl _
       | r po=>rw [hop] at h1;simp only [Q0] at h1;obtain ⟨_,_,e⟩:=map_some h1;cases e;exact Nat.le_refl _
       | a ao=>rw [hop] at h1;simp only [Q0] at h1;split at h1<;>simp at h1;rw [<- h1.2];exact Nat.le_succ _
       | w n ad x=>rw [hop] at h1;simp only [Q0] at h1;split at h1<;>simp at h1;rw [<- h1.2];exact Nat.le_refl _
       | m mo =>
         rw [hop] at h1
         simp only [Q0] at h1
         cases mo with
         | call md' f args =>
           simp only [evM] at h1
           generalize env.ev f=fd at h1
           cases fd<;>try (simp [a1d] at h1;done)
           exact (a9X hC h1).1
         | append sz bytes sx x =>
           simp only [evM,V3] at h1
           split at h1
           ·split at h1
            ·split at h1
             ·split at h1
              ·cases h1;exact Nat.le_refl _
              ·split at h1
               ·cases h1;exact Nat.le_succ _
               ·simp at h1
             ·split at h1
              ·split at h1
               ·split at h1
                ·cases h1;exact Nat.le_refl _
                ·split at h1
                 ·cases h1;exact Nat.le_succ _
                 ·simp at h1
               ·simp at h1
              ·simp at h1
             ·split at h1
              ·cases h1;exact Nat.le_refl _
              ·simp at h1
             ·simp at h1
            ·simp at h1
           ·simp at h1
         | mapset ks m k v =>
           simp only [evM] at h1
           split at h1
           ·split at h1
            ·split at h1
             ·split at h1
              ·obtain ⟨_,_,e⟩:=map_some h1;cases e;exact Nat.le_refl _
              ·simp at h1
             ·simp at h1
            ·simp at h1
           ·simp at h1
      omega
     ·simp at h
theorem b0N {C:W6} (hC:a1G P C) {ops:Array Oper}:∀ {l:List Oper} {vl:List (Nat×P1)} {tr:List Tr} {env env':Env} {s s':f6} {μ:Mu} {Φ:Phi} {a:Act} {w:World},
 vl.length=l.length->(∀ (j:Nat) (o:Oper) (x:Nat×P1),l[j]?=some o->vl[j]?=some x->a09 P md N ops o=some x.2)->X0 C [] vl tr env s=some (env',s') ->
 FrR N μ Φ env a->Sim μ Φ s.get w->a2M μ s.next s'.next->a4c N μ Φ s w env' s' (fun a w=>Q .normal a w)->wpList P ops Q l a w
 | [],vl,tr,env,env',s,s',μ,Φ,a,w,hl,_,h,hf,hs,_,hQ=>by
   cases vl with
   | cons _ _=>simp at hl
   | nil =>
     simp [X0] at h
     obtain ⟨rfl,rfl⟩:=h
     exact hQ a w μ Φ hf hs (Evo.refl _ _ _ _ _)
 | o::l,vl,tr,env,env',s,s',μ,Φ,a,w,hl,hx,h,hf,hs,hfr,hQ=>by
   cases vl with
   | nil=>simp at hl
   | cons v vl =>
     obtain ⟨i,vo⟩:=v
     have hc:=hx 0 o (i,vo) (by simp) (by simp)
     obtain ⟨hres,hdst,hdok⟩:=b3x hc
     have hx':∀ (j:Nat) (o:Oper) (x:Nat×P1),l[j]?=some o->vl[j]?=some x->a09 P md N ops o=some x.2:=fun j o x h1 h2=>hx (j+1) o x (by simpa using h1) (by simpa using h2)
     have hl':vl.length=l.length:=by simpa using hl
     have hall:∀x∈vl,∃o,a09 P md N ops o=some x.2:=by
      intro x hm
      obtain ⟨j,hj⟩:=List.getElem?_of_mem hm
      have hlt:j<l.length:=by rw [<- hl'];exact (List.getElem?_eq_some_iff.1 hj).1
      exact ⟨l[j],hx' j _ x (by simp [hlt]) hj⟩
     simp only [X0] at h
     split at h
     ·simp at h
     ·rename_i hw
      have hwant:=a7M hc hf.env hw
      unfold wpList
      rw [hwant]
      simp only [Bool.false_eq_true,if_false]
      have hf':=hf.put hdok (d:=.tup []) (v:=undef) a6x
      rw [<- hdst] at hf'
      rw [<- hdst]
      exact b0N hC hl' hx' h hf' hs hfr hQ
     ·rename_i hw
      have hwant:=a7M hc hf.env hw
      split at h
      ·simp at h
      ·rename_i d1 s1 h1
       simp only [b4o,if_true] at h
       have hn:=a5h (P:=P) (md:=md) (N:=N) hC hall h
       unfold wpList
       rw [hwant]
       simp only [if_true]
       left
       obtain ⟨hn1,hwp⟩:=c2a (K:=wpList P ops Q l) (Q:=Q) hC hres hf.env hs h1
       refine hwp (fun id h2 h3=>hfr id h2 (by omega)) ?_
       intro v w' μ' Φ' hs' hr he
       have hf':=(hf.mono he.mu he.phi).put hdok hr
       rw [<- hdst] at hf'
       rw [<- hdst]
       refine b0N hC hl' hx' h hf' hs' ?_ ?_
       ·intro id h2 h3
        rw [he.muOut id (.inr h2)]
        exact hfr id (by omega) h3
       ·intro a2 w2 μ2 Φ2 g1 g2 g3
        exact hQ a2 w2 μ2 Φ2 g1 g2 (he.trans hn1 hn g3)
end
end Go.V
namespace Go.V
def Opd.slot:Opd->List Nat
 | .tmp t=>[t]
 | .cst _=>[]
def a5g:List Opd->List Nat
 | []=>[]
 | x::r=>x.slot++a5g r
def a7X:Option Opd->List Nat
 | some x=>x.slot
 | none=>[]
def a4K:List (Nat×Nat×Opd)->List Nat
 | []=>[]
 | (_,_,x)::r=>x.slot++a4K r
def a7L:List (Nat×Opd)->List Nat
 | []=>[]
 | (_,x)::r=>x.slot++a7L r
def POp.slots:POp->List Nat
 | .mov x=>x.slot
 | .pick c a b=>c.slot++(a.slot++b.slot)
 | .nilchk x=>x.slot
 | .bin _ x y=>x.slot++y.slot
 | .eqB _ x y=>x.slot++y.slot
 | .eqAgg _ _ x y=>x.slot++y.slot
 | .eqNil _ _ x=>x.slot
 | .un _ x=>x.slot
 | .conv _ x=>x.slot
 | .build _ ps=>a4K ps
 | .fieldA _ x=>x.slot
 | .field _ _ x=>x.slot
 | .idxA _ x i=>x.slot++i.slot
 | .idxS x i=>x.slot++i.slot
 | .idxV _ _ _ x i=>x.slot++i.slot
 | .len _ x=>x.slot
 | .minmax _ x xs=>x.slot++a5g xs
 | .slice _ x lo hi=>x.slot++(a7X lo++a7X hi)
 | .extract x _=>x.slot
 | .mkfn _ xs=>a5g xs
def ROp.slots:ROp->List Nat
 | .load _ x=>x.slot
 | .lookup _ _ _ m k=>m.slot++k.slot
 | .b2s x=>x.slot
def AOp.slots:AOp->List Nat
 | .alloc _=>[]
 | .box x=>x.slot
 | .bslice _ _ _ ps=>a7L ps
 | .mkslice _ _ _ l c=>l.slot++c.slot
 | .mkmap=>[]
def MOp.slots:MOp->List Nat
 | .call _ f xs=>f.slot++a5g xs
 | .append _ _ s x=>s.slot++x.slot
 | .mapset _ m k v=>m.slot++(k.slot++v.slot)
def VOp.slots:VOp->List Nat
 | .p o=>o.slots
 | .r o=>o.slots
 | .a o=>o.slots
 | .w _ ad x=>ad.slot++x.slot
 | .m o=>o.slots
def a7H:Option (Nat×Bool)->List Nat
 | some (t,_)=>[t]
 | none=>[]
def P1.looks (o:P1):List Nat:=a7H o.guard++o.op.slots
section
variable {env env':Env}
def a0V (env env':Env) (l:List Nat):Prop:=∀t∈l,env.get t=env'.get t
theorem a0V.left {l m:List Nat} (h:a0V env env' (l++m)):a0V env env' l:=fun t ht=>h t (by simp [ht])
theorem a0V.right {l m:List Nat} (h:a0V env env' (l++m)):a0V env env' m:=fun t ht=>h t (by simp [ht])
theorem a0g {x:Opd} (h:a0V env env' x.slot):env.ev x=env'.ev x:=by
 cases x with
 | tmp t=>exact h t (by simp [Opd.slot])
 | cst d=>rfl
theorem a7W:∀ {xs:List Opd},a0V env env' (a5g xs)->env.evL xs=env'.evL xs
 | [],_=>rfl
 | x::xs,h=>by simp only [Env.evL,a5g] at h ⊢;rw [a0g h.left,a7W h.right]
theorem b2i {x:Option Opd} (h:a0V env env' (a7X x)):env.evO x=env'.evO x:=by
 cases x with
 | none=>rfl
 | some x=>simp only [Env.evO,a7X] at h ⊢;rw [a0g h]
theorem b0l:∀ {ps:List (Nat×Nat×Opd)} (cs:List D),a0V env env' (a4K ps)->a1V env cs ps=a1V env' cs ps
 | [],cs,_=>rfl
 | (off,size,x)::ps,cs,h=>by
   simp only [a1V,a4K] at h ⊢
   rw [a0g h.left]
   split
   ·exact b0l _ h.right
   ·rfl
theorem b6d (sz:Nat):∀ps:List (Nat×Opd),a4K (ps.map fun (i,x)=>(i*sz,sz,x))=a7L ps
 | []=>rfl
 | (i,x)::ps=>by simp only [List.map_cons,a4K,a7L,b6d sz ps]
theorem b7p {po:POp} (h:a0V env env' po.slots):evP env po=evP env' po:=by
 cases po<;>simp only [POp.slots] at h<;>simp only [evP]<;>first
  | rw [a0g h]
  | rw [a0g h.left,a0g h.right.left,a0g h.right.right]
  | rw [a0g h.left,a0g h.right]
  | rw [b0l _ h]
  | rw [a0g h.left,a7W h.right]
  | rw [a0g h.left,b2i h.right.left,b2i h.right.right]
  | rw [a7W h]
theorem c3c {ro:ROp} {g:P8} (h:a0V env env' ro.slots):evR env g ro=evR env' g ro:=by
 cases ro<;>simp only [ROp.slots] at h<;>simp only [evR]<;>first
  | rw [a0g h.left,a0g h.right]
  | rw [a0g h]
theorem c4G {ao:AOp} (h:a0V env env' ao.slots):evA env ao=evA env' ao:=by
 cases ao with
 | alloc z=>rfl
 | box x=>simp only [evA];rw [a0g h]
 | bslice sz len z ps=>simp only [evA];rw [b0l _ (by rw [b6d];exact h)]
 | mkslice sz b z l c=>simp only [evA];simp only [AOp.slots] at h;rw [a0g h.left,a0g h.right]
 | mkmap=>rfl
theorem b9o {g:P8} {n:Nat} {ad x:Opd} (h:a0V env env' (ad.slot++x.slot)):evW env g n ad x=evW env' g n ad x:=by
 simp only [evW];rw [a0g h.left,a0g h.right]
theorem c1Y {C:W6} {s:f6} {mo:MOp} (h:a0V env env' mo.slots):evM C env s mo=evM C env' s mo:=by
 cases mo with
 | call m f xs=>simp only [evM];simp only [MOp.slots] at h;rw [a0g h.left,a7W h.right]
 | append sz b s x=>simp only [evM];simp only [MOp.slots] at h;rw [a0g h.left,a0g h.right]
 | mapset ks m k v=>simp only [evM];simp only [MOp.slots] at h;rw [a0g h.left,a0g h.right.left,a0g h.right.right]
theorem b54 {g:Option (Nat×Bool)} (h:a0V env env' (a7H g)):a0t env g=a0t env' g:=by
 cases g with
 | none=>rfl
 | some p =>
   obtain ⟨t,b⟩:=p
   simp only [a0t]
   rw [h t (by simp [a7H])]
end
theorem b9N {env:Env} {ro:ROp} {g g':P8} (h:∀id,rdR env ro=some id->g id=g' id):evR env g ro=evR env g' ro:=by
 cases ro with
 | load n x =>
   simp only [evR,rdR] at h ⊢
   split
   ·rename_i id off hx
    rw [hx] at h
    rw [h id rfl]
   ·rfl
   ·rfl
 | lookup ks z ok m k =>
   simp only [evR,rdR] at h ⊢
   split
   ·rename_i id hx
    rw [hx] at h
    rw [h id rfl]
   ·rfl
 | b2s x =>
   simp only [evR,rdR] at h ⊢
   have:Z8 g (env.ev x)=Z8 g' (env.ev x):=by
    generalize env.ev x=d at h ⊢
    cases d<;>simp only [Z8]
    rw [h _ rfl]
   rw [this]
theorem c2E {env:Env} {n:Nat} {ad x:Opd} {g g':P8} (h:∀id,rdW env ad=some id->g id=g' id):evW env g n ad x=evW env g' n ad x:=by
 simp only [evW,rdW] at h ⊢
 split
 ·rename_i id off hx
  rw [hx] at h
  rw [h id rfl]
 ·rfl
def isP:VOp->Bool | .p _=>true | _=>false
def isR:VOp->Bool | .r _=>true | _=>false
def isA:VOp->Bool | .a _=>true | _=>false
def isW:VOp->Bool | .w _ _ _=>true | _=>false
def isM:VOp->Bool | .m _=>true | _=>false
def a1X (pairs:List (Nat×Nat)) (i j:Nat) (x y:VOp):Bool :=
 isP x||isP y||(isR x&&isR y)||(isA y)||(!(isM x&&isM y)&&!(isM x&&isW y)&&!(isW x&&isM y)&&!(isA x&&isM y)&&pairs.contains (i,j))
def a75 (d:Option Nat) (l:List Nat):Bool :=
 match d with
 | some t=>!l.contains t
 | none=>true
def a39 (x y:P1):Bool :=
 a75 x.dst y.looks&&a75 y.dst x.looks&&(match x.dst,y.dst with | some t,some u=>t != u | _,_=>true)
def maskOf (acc:List Nat):List Edge->Nat
 | []=>0
 | e::es=>(if Region.binds .any e then 2 ^ e.on ||| acc.getD e.on 0 else 0) ||| maskOf acc es
def a2w:List Oper->List Nat->List Nat
 | [],acc=>acc
 | o::r,acc=>a2w r (acc++[maskOf acc o.after.toList])
def a3E (ms:List Nat) (pairs:List (Nat×Nat)) (x y:Nat×P1):Bool :=
 !(ms.getD x.1 0).testBit y.1&&((ms.getD y.1 0).testBit x.1||(a39 x.2 y.2&&a1X pairs x.1 y.1 x.2.op y.2.op))
def a7g (f:Nat×P1->Nat×P1->Bool):List (Nat×P1)->Bool
 | []=>true
 | x::r=>r.all (f x)&&a7g f r
def a3O:List Oper->Nat->Bool
 | [],_=>true
 | o::r,i=>o.after.toList.all (fun e=>!Region.binds .any e||decide (e.on<i))&&a3O r (i+1)
def a7I (ops:Array Oper) (l:List (Nat×P1)) (pairs:List (Nat×Nat)):Bool :=
 decide (l.map (·.1)).Nodup&&decide (l.length=ops.size)&&l.all (fun x=>decide (x.1<ops.size))&&a3O ops.toList 0&&(List.range ops.size).all (fun i=>(l.map (·.1)).contains i)&&a7g (a3E (a2w ops.toList []) pairs) l
def On (L:Array Bool) (i:Nat):Prop:=L.getD i false=true
def a9I (ops:Array Oper) (L:Array Bool):Prop:=∀ (j:Nat) (o:Oper),ops[j]?=some o->On L j->∀e∈o.after.toList,Region.binds .any e=true->On L e.on
theorem b3A {acc:List Nat}:∀ {es:List Edge} {i:Nat},(maskOf acc es).testBit i=true->∃e∈es,Region.binds .any e=true/\(e.on=i∨(acc.getD e.on 0).testBit i=true)
 | [],i,h=>by simp [maskOf] at h
 | e::es,i,h=>by
   simp only [maskOf,Nat.testBit_or,Bool.or_eq_true] at h
   rcases h with h | h
   ·split at h
    ·rename_i hb
     simp only [Nat.testBit_or,Bool.or_eq_true] at h
     rcases h with h | h
     ·refine ⟨e,by simp,hb,.inl ?_⟩
      by_cases he:e.on=i
      ·exact he
      ·rw [Nat.testBit_two_pow_of_ne he] at h;cases h
     ·exact ⟨e,by simp,hb,.inr h⟩
    ·simp at h
   ·obtain ⟨e',h1,h2,h3⟩:=b3A h
    exact ⟨e',by simp [h1],h2,h3⟩
theorem b4T:∀ (l:List Oper) (acc:List Nat),∃ms,a2w l acc=acc++ms/\ms.length=l.length/\∀ (j:Nat) (o:Oper),l[j]?=some o->ms[j]?=some (maskOf (acc++ms.take j) o.after.toList)
 | [],acc=>⟨[],by simp [a2w],rfl,by simp⟩
 | o::l,acc=>by
   obtain ⟨ms,h1,h2,h3⟩:=b4T l (acc++[maskOf acc o.after.toList])
   refine ⟨maskOf acc o.after.toList::ms,by simp [a2w,h1],by simp [h2],?_⟩
   intro j o' hj
   cases j with
   | zero=>simp at hj;subst hj;simp
   | succ j =>
     simp at hj
     have:=h3 j o' hj
     simpa using this
theorem a8q:∀ {l:List Oper} {i:Nat},a3O l i=true->∀ (j:Nat) (o:Oper),l[j]?=some o->∀e∈o.after.toList,Region.binds .any e=true->e.on<i+j
 | [],i,_,j,o,h=>by simp at h
 | o::l,i,hb,j,o',hj=>by
   simp only [a3O,Bool.and_eq_true,List.all_eq_true] at hb
   intro e he hbe
   cases j with
   | zero =>
     simp at hj;subst hj
     have:=hb.1 e he
     simp [hbe] at this
     omega
   | succ j =>
     have:=a8q hb.2 j o' (by simpa using hj) e he hbe
     omega
theorem b4w {ops:Array Oper} {L:Array Bool} (hb:a3O ops.toList 0=true) (hs:a9I ops L):∀ (j:Nat) (o:Oper),ops[j]?=some o->(∀e∈o.after.toList,Region.binds .any e=true->On L e.on) ->
 ∀i,((a2w ops.toList []).getD j 0).testBit i=true->On L i:=by
 obtain ⟨ms,h1,h2,h3⟩:=b4T ops.toList []
 simp only [List.nil_append] at h1
 intro j
 induction j using Nat.strongRecOn with
 | _ j ih =>
   intro o ho hpre i hi
   have hm:=h3 j o (by simpa using ho)
   rw [h1] at hi
   simp only [List.nil_append] at hm
   rw [List.getD_eq_getElem?_getD,hm,Option.getD_some] at hi
   obtain ⟨e,he,hbe,hcase⟩:=b3A hi
   have hon:=hpre e he hbe
   rcases hcase with rfl | hbit
   ·exact hon
   ·have hlt:e.on<j:=by
     have:=a8q hb j o (by simpa using ho) e he hbe
     omega
    rw [List.getD_eq_getElem?_getD,List.getElem?_take_of_lt hlt,<- List.getD_eq_getElem?_getD] at hbit
    have hjs:j<ops.size:=(Array.getElem?_eq_some_iff.1 ho).1
    have hoe:ops[e.on]?=some ops[e.on]:=by simp
    refine ih e.on hlt _ hoe (hs e.on _ hoe hon) i ?_
    rw [h1]
    exact hbit
structure Rec where
 i:Nat
 o:P1
 env:Env
 s:f6
 d:D
 s':f6
 rd:Option Nat
def Rec.ok (C:W6) (r:Rec):Prop :=
 (a0t r.env r.o.guard=some false/\r.d=.tup []/\r.s'=r.s/\r.rd=none) ∨
 (a0t r.env r.o.guard=some true/\Q0 C r.env r.s r.o.op=some (r.d,r.s')/\r.rd=W9 r.env r.o.op)
def a08 (C:W6):Env->f6->List Rec->Env->f6->Prop
 | env,s,[],env',s'=>env'=env/\s'=s
 | env,s,r::rs,env',s'=>r.env=env/\r.s=s/\r.ok C/\a08 C (r.env.put r.o.dst r.d) r.s' rs env' s'
def a21 (pairs:List (Nat×Nat)) (p q:Rec):Prop:=pairs.contains (p.i,q.i)=true->Z7 q.s q.s' p.rd=true/\Z7 p.s p.s' q.rd=true
theorem b21 (s:f6) (rd:Option Nat):Z7 s s rd=true:=by
 cases rd with
 | none=>rfl
 | some id=>exact a6H _
theorem b29 {pairs:List (Nat×Nat)} {j:Tr}:∀ {l:List Tr},a0p pairs j l=true->∀i∈l,pairs.contains (i.idx,j.idx)=true->Z7 j.pre j.post i.rd=true/\Z7 i.pre i.post j.rd=true
 | [],_,i,hi=>by simp at hi
 | t::l,h,i,hi=>by
   simp only [a0p,Bool.and_eq_true] at h
   rcases List.mem_cons.1 hi with rfl | hi
   ·intro hp
    have:=h.1
    rw [hp] at this
    simpa using this
   ·exact b29 h.2 i hi
theorem b0i {C:W6} {pairs:List (Nat×Nat)} (hne:pairs.isEmpty=false):∀ {l:List (Nat×P1)} {tr:List Tr} {env env':Env} {s s':f6},X0 C pairs l tr env s=some (env',s') ->
 ∃rs:List Rec,rs.map (fun r=>(r.i,r.o))=l/\a08 C env s rs env' s'/\rs.Pairwise (a21 pairs) /\
  ∀t∈tr,∀r∈rs,pairs.contains (t.idx,r.i)=true->Z7 r.s r.s' t.rd=true/\Z7 t.pre t.post r.rd=true
 | [],tr,env,env',s,s',h=>by
   simp [X0] at h
   exact ⟨[],rfl,⟨h.1.symm,h.2.symm⟩,.nil,by simp⟩
 | (i,o)::l,tr,env,env',s,s',h=>by
   simp only [X0] at h
   split at h
   ·simp at h
   ·rename_i hw
    obtain ⟨rs,h1,h2,h3,h4⟩:=b0i hne h
    refine ⟨⟨i,o,env,s,.tup [],s,none⟩::rs,by simp [h1],⟨rfl,rfl,.inl ⟨hw,rfl,rfl,rfl⟩,h2⟩,?_,?_⟩
    ·refine List.pairwise_cons.2 ⟨?_,h3⟩
     intro q _ _
     exact ⟨rfl,b21 _ _⟩
    ·intro t ht r hr hp
     rcases List.mem_cons.1 hr with rfl | hr
     ·exact ⟨b21 _ _,rfl⟩
     ·exact h4 t ht r hr hp
   ·rename_i hw
    split at h
    ·simp at h
    ·rename_i d1 s1 h1
     split at h
     ·rename_i hpk
      simp only [hne,Bool.false_eq_true,if_false] at h
      obtain ⟨rs,g1,g2,g3,g4⟩:=b0i hne h
      refine ⟨⟨i,o,env,s,d1,s1,W9 env o.op⟩::rs,by simp [g1],⟨rfl,rfl,.inr ⟨hw,h1,rfl⟩,g2⟩,?_,?_⟩
      ·refine List.pairwise_cons.2 ⟨?_,g3⟩
       intro q hq hp
       exact g4 ⟨i,W9 env o.op,s,s1⟩ (by simp) q hq hp
      ·intro t ht r hr hp
       rcases List.mem_cons.1 hr with rfl | hr
       ·exact b29 hpk t ht hp
       ·exact g4 t (by simp [ht]) r hr hp
     ·simp at h
theorem a8L {C:W6} {pairs:List (Nat×Nat)} (hne:pairs.isEmpty=true):∀ {l:List (Nat×P1)} {tr:List Tr} {env env':Env} {s s':f6},X0 C pairs l tr env s=some (env',s') ->
 ∃rs:List Rec,rs.map (fun r=>(r.i,r.o))=l/\a08 C env s rs env' s'/\rs.Pairwise (a21 pairs)
 | [],tr,env,env',s,s',h=>by
   simp [X0] at h
   exact ⟨[],rfl,⟨h.1.symm,h.2.symm⟩,.nil⟩
 | (i,o)::l,tr,env,env',s,s',h=>by
   have hst:∀p q,a21 pairs p q:=by
    intro p q hp
    have:pairs=[]:=by simpa using hne
    rw [this] at hp
    simp at hp
   simp only [X0] at h
   split at h
   ·simp at h
   ·rename_i hw
    obtain ⟨rs,h1,h2,h3⟩:=a8L hne h
    exact ⟨⟨i,o,env,s,.tup [],s,none⟩::rs,by simp [h1],⟨rfl,rfl,.inl ⟨hw,rfl,rfl,rfl⟩,h2⟩,List.pairwise_cons.2 ⟨fun q _=>hst _ q,h3⟩⟩
   ·rename_i hw
    split at h
    ·simp at h
    ·rename_i d1 s1 h1
     split at h
     ·obtain ⟨rs,g1,g2,g3⟩:=a8L hne h
      exact ⟨⟨i,o,env,s,d1,s1,W9 env o.op⟩::rs,by simp [g1],⟨rfl,rfl,.inr ⟨hw,h1,rfl⟩,g2⟩,List.pairwise_cons.2 ⟨fun q _=>hst _ q,g3⟩⟩
     ·simp at h
section
open Classical
variable {V:Type}
noncomputable def cur (pre post:Rec->V) (L:Array Bool):V->List Rec->V
 | v,[]=>v
 | v,r::rs=>cur pre post L (if On L r.i/\pre r≠post r then post r else v) rs
def a1k (pre post:Rec->V):V->List Rec->V->Prop
 | v,[],v'=>v'=v
 | v,r::rs,v'=>pre r=v/\a1k pre post (post r) rs v'
theorem a5O {pre post:Rec->V} {L:Array Bool}:∀ {rs:List Rec} (v:V),(∀q∈rs,On L q.i->pre q=post q)->cur pre post L v rs=v
 | [],v,_=>rfl
 | r::rs,v,h=>by
   simp only [cur]
   have:¬ (On L r.i/\pre r≠post r):=fun ⟨h1,h2⟩=>h2 (h r (by simp) h1)
   rw [if_neg this]
   exact a5O v fun q hq=>h q (by simp [hq])
theorem a4M {pre post:Rec->V} {L:Array Bool} {r:Rec} {B:List Rec} {v':V}:∀ {A:List Rec} {v:V},a1k pre post v (A++r::B) v'->(∀q∈A,¬ On L q.i->pre q=post q)->(¬ On L r.i∨pre r=post r)->(∀q∈B,On L q.i->pre q=post q) ->
 cur pre post L v (A++r::B)=pre r
 | [],v,hc,_,hr,hB=>by
   simp only [List.nil_append,a1k] at hc
   simp only [List.nil_append,cur]
   have:¬ (On L r.i/\pre r≠post r):=by
    rintro ⟨h1,h2⟩
    rcases hr with h | h
    ·exact h h1
    ·exact h2 h
   rw [if_neg this,a5O _ hB]
   exact hc.1.symm
 | q::A,v,hc,hA,hr,hB=>by
   simp only [List.cons_append,a1k] at hc
   simp only [List.cons_append,cur]
   have hq:(if On L q.i/\pre q≠post q then post q else v)=post q:=by
    by_cases h1:On L q.i
    ·by_cases h2:pre q=post q
     ·rw [if_neg (by simp [h2]),<- hc.1];exact h2
     ·rw [if_pos ⟨h1,h2⟩]
    ·rw [if_neg (by simp [h1]),<- hc.1];exact hA q (by simp) h1
   rw [hq]
   exact a4M hc.2 (fun p hp=>hA p (by simp [hp])) hr hB
theorem a5z {pre post:Rec->V} {L:Array Bool} {r:Rec} {B:List Rec} {v':V}:∀ {A:List Rec} {v:V},a1k pre post v (A++r::B) v'->(∀q∈A,¬ On L q.i->pre q=post q)->On L r.i->(∀q∈B,On L q.i->pre q=post q) ->
 cur pre post L v (A++r::B)=post r
 | [],v,hc,_,hr,hB=>by
   simp only [List.nil_append,a1k] at hc
   simp only [List.nil_append,cur]
   by_cases h2:pre r=post r
   ·rw [if_neg (by simp [h2]),a5O _ hB,<- hc.1];exact h2
   ·rw [if_pos ⟨hr,h2⟩,a5O _ hB]
 | q::A,v,hc,hA,hr,hB=>by
   simp only [List.cons_append,a1k] at hc
   simp only [List.cons_append,cur]
   have hq:(if On L q.i/\pre q≠post q then post q else v)=post q:=by
    by_cases h1:On L q.i
    ·by_cases h2:pre q=post q
     ·rw [if_neg (by simp [h2]),<- hc.1];exact h2
     ·rw [if_pos ⟨h1,h2⟩]
    ·rw [if_neg (by simp [h1]),<- hc.1];exact hA q (by simp) h1
   rw [hq]
   exact a5z hc.2 (fun p hp=>hA p (by simp [hp])) hr hB
theorem b4U {pre post:Rec->V} {L L':Array Bool}:∀ {rs:List Rec} (v:V),(∀q∈rs,(On L' q.i↔On L q.i)∨pre q=post q)->cur pre post L' v rs=cur pre post L v rs
 | [],v,_=>rfl
 | r::rs,v,h=>by
   simp only [cur]
   have:(if On L' r.i/\pre r≠post r then post r else v)=(if On L r.i/\pre r≠post r then post r else v):=by
    rcases h r (by simp) with h1 | h1
    ·simp [h1]
    ·simp [h1]
   rw [this]
   exact b4U _ fun q hq=>h q (by simp [hq])
theorem a94 {pre post:Rec->V} {L:Array Bool} {v':V}:∀ {rs:List Rec} {v:V},a1k pre post v rs v'->(∀q∈rs,On L q.i)->cur pre post L v rs=v'
 | [],v,hc,_=>by simp only [a1k] at hc;simp only [cur];exact hc.symm
 | r::rs,v,hc,h=>by
   simp only [a1k] at hc
   simp only [cur]
   have:(if On L r.i/\pre r≠post r then post r else v)=post r:=by
    by_cases h2:pre r=post r
    ·rw [if_neg (by simp [h2]),<- hc.1];exact h2
    ·rw [if_pos ⟨h r (by simp),h2⟩]
   rw [this]
   exact a94 hc.2 fun q hq=>h q (by simp [hq])
theorem b6e {pre post:Rec->V} {L:Array Bool} {rs:List Rec} (v:V) (h:∀q∈rs,¬ On L q.i):cur pre post L v rs=v:=a5O v fun q hq h1=>absurd h1 (h q hq)
end
end Go.V
