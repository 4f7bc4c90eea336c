/- Texts one behind the other. -/
import Derived.Orders
import Derived.WalkKit
import Derived.Laws.StructEq
import Derived.Laws.BytesArg
import Derived.MapKept
set_option linter.unusedSimpArgs false
set_option linter.unusedVariables false
set_option maxRecDepth 100000
set_option maxHeartbeats 8000000
namespace Go.V
inductive D where
 | undef
 | int (k:IntKind) (n:Int)
 | bool (b:Bool)
 | str (s:ByteArray)
 | bf
 | ptr (id off:Nat)
 | fp (cs:List D) (off:Nat)
 | ag
 | bg (sz:Nat) (xs:List (List D))
 | arr (id off len sz:Nat)
 | agg (cs:List D)
 | aR (vs:List D)
 | fn (f:FuncId) (ir:List D)
 | bx
 | bz
 | map (id:Nat)
 deriving Inhabited
inductive Y1 where
 | cells (cs:List D)
 | map (cF:List (D×D))
 deriving Inhabited
inductive T where
 | leaf
 | node (v:Option Y1) (l r:T)
 deriving Inhabited
def T.get:T->Nat->Option Y1
 | .leaf,_=>none
 | .node v _ _,0=>v
 | .node _ l r,n+1=>if n % 2=0 then l.get (n / 2) else r.get (n / 2)
def T.bJ:Nat->T->Nat->Option Y1->T
 | _,.leaf,0,v=>.node v .leaf .leaf
 | _,.node _ l r,0,v=>.node v l r
 | 0,t,_+1,_=>t
 | f+1,.leaf,n+1,v=>if n % 2=0 then .node none (T.bJ f .leaf (n / 2) v) .leaf else .node none .leaf (T.bJ f .leaf (n / 2) v)
 | f+1,.node x l r,n+1,v=>if n % 2=0 then .node x (T.bJ f l (n / 2) v) r else .node x l (T.bJ f r (n / 2) v)
def T.set (t:T) (n:Nat) (v:Option Y1):T:=T.bJ n t n v
theorem T.get_setF:∀ (f:Nat) (t:T) (n:Nat) (v:Option Y1) (m:Nat),n<=f->(T.bJ f t n v).get m=if m=n then v else t.get m:=by
 intro f;induction f with
 | zero =>
   intro t n v m h;have:n=0:=by omega
   subst this;cases t<;>cases m<;>simp [T.bJ,T.get]
 | succ f ih =>
   intro t n v m h;cases n with
   | zero=>cases t<;>cases m<;>simp [T.bJ,T.get]
   | succ n =>
     have hn:n / 2<=f:=by omega
     cases t with
     | leaf =>
       by_cases hp:n % 2=0
       ·cases m with
        | zero=>simp [T.bJ,T.get,hp]
        | succ m =>
          by_cases hq:m % 2=0
          ·simp only [T.bJ,hp,if_true,T.get,hq,ih _ _ _ _ hn]
           by_cases e:m=n
           ·subst e;simp
           ·have:¬ m / 2=n / 2:=by omega
            simp [e,this]
          ·simp only [T.bJ,hp,if_true,T.get,hq,if_false]
           have:¬ m=n:=by intro e;subst e;exact hq hp
           simp [this]
       ·cases m with
        | zero=>simp [T.bJ,T.get,hp]
        | succ m =>
          by_cases hq:m % 2=0
          ·simp only [T.bJ,hp,if_false,T.get,hq,if_true]
           have:¬ m=n:=by intro e;subst e;exact hp hq
           simp [this]
          ·simp only [T.bJ,hp,if_false,T.get,hq,ih _ _ _ _ hn]
           by_cases e:m=n
           ·subst e;simp
           ·have:¬ m / 2=n / 2:=by omega
            simp [e,this]
     | node x l r =>
       by_cases hp:n % 2=0
       ·cases m with
        | zero=>simp [T.bJ,T.get,hp]
        | succ m =>
          by_cases hq:m % 2=0
          ·simp only [T.bJ,hp,if_true,T.get,hq,ih _ _ _ _ hn]
           by_cases e:m=n
           ·subst e;simp
           ·have:¬ m / 2=n / 2:=by omega
            simp [e,this]
          ·simp only [T.bJ,hp,if_true,T.get,hq,if_false]
           have:¬ m=n:=by intro e;subst e;exact hq hp
           simp [this]
       ·cases m with
        | zero=>simp [T.bJ,T.get,hp]
        | succ m =>
          by_cases hq:m % 2=0
          ·simp only [T.bJ,hp,if_false,T.get,hq,if_true]
           have:¬ m=n:=by intro e;subst e;exact hp hq
           simp [this]
          ·simp only [T.bJ,hp,if_false,T.get,hq,ih _ _ _ _ hn]
           by_cases e:m=n
           ·subst e;simp
           ·have:¬ m / 2=n / 2:=by omega
            simp [e,this]
theorem T.aX (t:T) (n:Nat) (v:Option Y1) (m:Nat):(t.set n v).get m=if m=n then v else t.get m:=T.get_setF n t n v m (Nat.le_refl _)
structure k4 where
 objs:T
 next:Nat
 deriving Inhabited
def k4.empty:k4:=⟨.leaf,0⟩
def k4.get (s:k4) (id:Nat):Option Y1:=if id<s.next then s.objs.get id else none
def k4.set (s:k4) (id:Nat) (o:Option Y1):k4:=⟨s.objs.set id o,s.next⟩
def k4.push (s:k4) (o:Y1):k4:=⟨s.objs.set s.next (some o),s.next+1⟩
@[simp] theorem k4.get_empty (id:Nat):k4.empty.get id=none:=by simp [k4.get,k4.empty]
theorem k4.aX (s:k4) (id:Nat) (o:Option Y1) (i:Nat):(s.set id o).get i=if i=id/\id<s.next then o else s.get i:=by
 simp only [k4.get,k4.set,T.aX];by_cases h:i=id
 ·subst h;by_cases h2:i<s.next<;>simp [h2]
 ·simp [h]
theorem k4.aM (s:k4) (o:Y1) (i:Nat):(s.push o).get i=if i=s.next then some o else s.get i:=by
 simp only [k4.get,k4.push,T.aX];by_cases h:i=s.next
 ·subst h;simp
 ·by_cases h2:i<s.next
  ·simp [h,h2,Nat.lt_succ_of_lt h2]
  ·have:¬ i<s.next+1:=by omega
   simp [h,h2,this]
@[simp] theorem k4.aq (s:k4) (id:Nat) (o:Option Y1):(s.set id o).next=s.next:=rfl
@[simp] theorem k4.ai (s:k4) (o:Y1):(s.push o).next=s.next+1:=rfl
theorem k4.get_none (s:k4) (i:Nat) (h:s.next<=i):s.get i=none:=by simp [k4.get,Nat.not_lt.2 h]
mutual
def beq:D->D->Bool
 | .undef,.undef=>true
 | .int k n,.int k' n'=>decide (k=k')&&decide (n=n')
 | .bool a,.bool b=>a==b
 | .str a,.str b=>decide (a=b)
 | .bf,.bf=>true
 | .ptr a b,.ptr c d=>decide (a=c)&&decide (b=d)
 | .fp a n,.fp b m=>cT a b&&decide (n=m)
 | .ag,.ag=>true
 | .bg a x,.bg b y=>decide (a=b)&&cZ x y
 | .arr a b c d,.arr a' b' c' d'=>decide (a=a')&&decide (b=b')&&decide (c=c')&&decide (d=d')
 | .agg a,.agg b=>cT a b
 | .aR a,.aR b=>cT a b
 | .fn f a,.fn g b=>decide (f=g)&&cT a b
 | .bx,.bx=>true
 | .bz,.bz=>true
 | .map a,.map b=>decide (a=b)
 | _,_=>false
def cT:List D->List D->Bool
 | [],[]=>true
 | a::x,b::y=>beq a b&&cT x y
 | _,_=>false
def cZ:List (List D)->List (List D)->Bool
 | [],[]=>true
 | a::x,b::y=>cT a b&&cZ x y
 | _,_=>false
end
mutual
theorem b31:∀ (a b:D),beq a b=true->a=b
 | .undef,b,h=>by cases b<;>simp_all [beq]
 | .int k n,b,h=>by cases b<;>simp_all [beq]
 | .bool a,b,h=>by cases b<;>simp_all [beq]
 | .str a,b,h=>by cases b<;>simp_all [beq]
 | .bf,b,h=>by cases b<;>simp_all [beq]
 | .ptr _ _,b,h=>by cases b<;>simp_all [beq]
 | .fp a n,b,h=>by
   cases b<;>simp_all [beq];exact bW _ _ h.1
 | .ag,b,h=>by cases b<;>simp_all [beq]
 | .bg a x,b,h=>by
   cases b<;>simp_all [beq];exact eO _ _ h.2
 | .arr _ _ _ _,b,h=>by cases b<;>simp_all [beq]
 | .agg a,b,h=>by
   cases b<;>simp_all [beq];exact bW _ _ h
 | .aR a,b,h=>by
   cases b<;>simp_all [beq];exact bW _ _ h
 | .fn f a,b,h=>by
   cases b<;>simp_all [beq];exact bW _ _ h.2
 | .bx,b,h=>by cases b<;>simp_all [beq]
 | .bz,b,h=>by cases b<;>simp_all [beq]
 | .map _,b,h=>by cases b<;>simp_all [beq]
theorem bW:∀ (a b:List D),cT a b=true->a=b
 | [],b,h=>by cases b<;>simp_all [cT]
 | a::x,b,h=>by
   cases b with
   | nil=>simp [cT] at h
   | cons b y =>
     simp [cT] at h;rw [b31 _ _ h.1,bW _ _ h.2]
theorem eO:∀ (a b:List (List D)),cZ a b=true->a=b
 | [],b,h=>by cases b<;>simp_all [cZ]
 | a::x,b,h=>by
   cases b with
   | nil=>simp [cZ] at h
   | cons b y =>
     simp [cZ] at h;rw [bW _ _ h.1,eO _ _ h.2]
end
mutual
theorem b9h:∀ (a:D),beq a a=true
 | .undef=>rfl
 | .int k n=>by simp [beq]
 | .bool a=>by simp [beq]
 | .str a=>by simp [beq]
 | .bf=>rfl
 | .ptr _ _=>by simp [beq]
 | .fp a n=>by simp [beq,bh a]
 | .ag=>rfl
 | .bg a x=>by simp [beq,dD x]
 | .arr _ _ _ _=>by simp [beq]
 | .agg a=>by simp [beq,bh a]
 | .aR a=>by simp [beq,bh a]
 | .fn f a=>by simp [beq,bh a]
 | .bx=>rfl
 | .bz=>rfl
 | .map _=>by simp [beq]
theorem bh:∀ (a:List D),cT a a=true
 | []=>rfl
 | a::x=>by simp [cT,b9h a,bh x]
theorem dD:∀ (a:List (List D)),cZ a a=true
 | []=>rfl
 | a::x=>by simp [cZ,bh a,dD x]
end
def a6y:List (D×D)->List (D×D)->Bool
 | [],[]=>true
 | (a,b)::x,(c,d)::y=>beq a c&&beq b d&&a6y x y
 | _,_=>false
theorem b7P:∀ (a b:List (D×D)),a6y a b=true->a=b
 | [],b,h=>by cases b<;>simp_all [a6y]
 | (a,c)::x,b,h=>by
   cases b with
   | nil=>simp [a6y] at h
   | cons b y =>
     obtain ⟨b,d⟩:=b;simp [a6y] at h;rw [b31 _ _ h.1.1,b31 _ _ h.1.2,b7P _ _ h.2]
theorem b6W:∀ (a:List (D×D)),a6y a a=true
 | []=>rfl
 | (a,c)::x=>by simp [a6y,b9h,b6W x]
def a7k:Option Y1->Option Y1->Bool
 | none,none=>true
 | some (.cells a),some (.cells b)=>cT a b
 | some (.map a),some (.map b)=>a6y a b
 | _,_=>false
theorem c00 (a b:Option Y1) (h:a7k a b=true):a=b:=by
 cases a with
 | none=>cases b<;>simp_all [a7k]
 | some a =>
   cases b with
   | none=>cases a<;>simp [a7k] at h
   | some b =>
     cases a<;>cases b<;>simp [a7k] at h
     ·rw [bW _ _ h]
     ·rw [b7P _ _ h]
theorem a9S (a:Option Y1):a7k a a=true:=by
 cases a with
 | none=>rfl
 | some a=>cases a<;>simp [a7k,bh,b6W]
inductive X7 where
 | tmp (t:Nat)
 | aG (d:D)
 deriving Inhabited
inductive a1Q where
 | raw
 | fF
 deriving Inhabited,DecidableEq
inductive SK where
 | i
 | b
 | s
 deriving Inhabited,DecidableEq
inductive NK where
 | p
 | s
 | m
 | f
 deriving Inhabited,DecidableEq
inductive fG where
 | mov (x:X7)
 | pick (c a b:X7)
 | aK (x:X7)
 | bin (op:BinOp) (x y:X7)
 | eqB (neg:Bool) (x y:X7)
 | eP (neg:Bool) (ks:List SK) (x y:X7)
 | dE (neg:Bool) (k:NK) (x:X7)
 | un (op:UnOp) (x:X7)
 | conv (k:IntKind) (x:X7)
 | build (zero:List D) (parts:List (Nat×Nat×X7))
 | cm (off:Nat) (x:X7)
 | field (n:Option Nat) (off:Nat) (x:X7)
 | aA (sz:Nat) (x i:X7)
 | cN (x i:X7)
 | idxV (n:Option Nat) (len sz:Nat) (x i:X7)
 | len (isStr:Bool) (x:X7)
 | bE (isMax:Bool) (x:X7) (xs:List X7)
 | slice (n:Option Nat) (x:X7) (lo hi:Option X7)
 | extract (x:X7) (i:Nat)
 | eQ (f:FuncId) (ir:List X7)
 deriving Inhabited
inductive ROp where
 | load (n:Option Nat) (x:X7)
 | lookup (ks:List SK) (zero:D) (ok:Bool) (m k:X7)
 | b2s (x:X7)
 deriving Inhabited
inductive AOp where
 | alloc (zero:List D)
 | box (x:X7)
 | aw (sz len:Nat) (zero:List D) (parts:List (Nat×X7))
 | aE (sz bytes:Nat) (zero:List D) (len cap:X7)
 | eR
 deriving Inhabited
inductive MOp where
 | call (md:a1Q) (f:X7) (args:List X7)
 | append (sz bytes:Nat) (s x:X7)
 | cI (ks:List SK) (m k v:X7)
 | copy (d x:X7)
 deriving Inhabited
inductive fy where
 | p (o:fG)
 | r (o:ROp)
 | a (o:AOp)
 | w (n:Nat) (addr val:X7)
 | m (o:MOp)
 deriving Inhabited
structure Z3 where
 dst:Option Nat
 op:fy
 guard:Option (Nat×Bool)
 deriving Inhabited
structure b2m where
 ops:List (Nat×Z3)
 ae:List (Nat×Nat)
 draw:Bool
 deriving Inhabited
inductive a1a where
 | skip
 | region (r:b2m)
 | seq (a b:a1a)
 | cond (c:X7) (thn els:a1a)
 | block (id:Nat) (body:a1a)
 | loop (body:a1a)
 | exit (id:Nat)
 | ret
 deriving Inhabited
structure U3 where
 vars:List Nat
 code:a1a
 res:List (Nat×Option (Option Nat))
 deriving Inhabited
abbrev q8:=List (Nat×D)
def q8.get:q8->Nat->D
 | [],_=>.undef
 | (s,d)::r,t=>if s=t then d else q8.get r t
def q8.ev (env:q8):X7->D
 | .tmp t=>env.get t
 | .aG d=>d
def q8.aP (env:q8):List X7->List D
 | []=>[]
 | x::r=>env.ev x::q8.aP env r
def q8.put (env:q8) (dst:Option Nat) (d:D):q8 :=
 match dst with
 | some t=>(t,d)::env
 | none=>env
def a3f (op:BinOp) (k:IntKind) (x y:Int):Option D :=
 match op with
 | .add=>some (.int k (k.wrap (x+y)))
 | .sub=>some (.int k (k.wrap (x-y)))
 | .mul=>some (.int k (k.wrap (x*y)))
 | .quo=>if y=0 then none else some (.int k (k.wrap (x.tdiv y)))
 | .rem=>if y=0 then none else some (.int k (x.tmod y))
 | .and=>some (.int k (k.wrap (BitVec.ofInt k.bits x &&& BitVec.ofInt k.bits y).toNat))
 | .or=>some (.int k (k.wrap (BitVec.ofInt k.bits x ||| BitVec.ofInt k.bits y).toNat))
 | .xor=>some (.int k (k.wrap (BitVec.ofInt k.bits x ^^^ BitVec.ofInt k.bits y).toNat))
 | .andNot=>some (.int k (k.wrap (BitVec.ofInt k.bits x &&& ~~~ BitVec.ofInt k.bits y).toNat))
 | .eql=>some (.bool (x==y))
 | .neq=>some (.bool (x != y))
 | .lss=>some (.bool (x<y))
 | .leq=>some (.bool (x<=y))
 | .gtr=>some (.bool (x>y))
 | .geq=>some (.bool (x >= y))
 | _=>none
def a44 (op:BinOp) (k:IntKind) (x y:Int):Option D :=
 if y<0 then none else
 match op with
 | .shl=>some (.int k (k.wrap (x*2 ^ (min y.toNat k.bits))))
 | .shr=>some (.int k (x.fdiv (2 ^ (min y.toNat k.bits))))
 | _=>none
def b0K (op:BinOp) (x y:ByteArray):Option D :=
 match op with
 | .add=>if x.size+y.size<2 ^ 62 then some (.str (x++y)) else none
 | .eql=>some (.bool (x.toList==y.toList))
 | .neq=>some (.bool !(x.toList==y.toList))
 | .lss=>some (.bool (Op.bytesLess x.toList y.toList))
 | .leq=>some (.bool (Op.bytesLess x.toList y.toList||x.toList==y.toList))
 | .gtr=>some (.bool !(Op.bytesLess x.toList y.toList||x.toList==y.toList))
 | .geq=>some (.bool !(Op.bytesLess x.toList y.toList))
 | _=>none
def b1h (op:BinOp) (x y:D):Option D :=
 match x,y with
 | .int k a,.int k' b =>
   match op with
   | .shl | .shr=>a44 op k a b
   | _=>if k=k' then a3f op k a b else none
 | .str a,.str b=>b0K op a b
 | _,_=>none
def a8a:SK->D->D->Option Bool
 | .i,.int k a,.int k' b=>if k=k' then some (a==b) else none
 | .b,.bool a,.bool b=>some (a==b)
 | .s,.str a,.str b=>some (a==b)
 | _,_,_=>none
def a23:List SK->List D->List D->Option Bool
 | [],[],[]=>some true
 | t::ts,a::x,b::y=>match a8a t a b,a23 ts x y with
   | some p,some q=>some (p&&q)
   | _,_=>none
 | _,_,_=>none
def a31:NK->D->Option Bool
 | .p,.bf=>some true
 | .p,.ptr _ _=>some false
 | .p,.fp _ _=>some false
 | .s,.ag=>some true
 | .s,.bg _ _=>some false
 | .s,.arr _ _ _ _=>some false
 | .m,.bz=>some true
 | .m,.map _=>some false
 | .f,.bx=>some true
 | .f,.fn _ _=>some false
 | _,_=>none
def unV (op:UnOp) (x:D):Option D :=
 match op,x with
 | .neg,.int k n=>some (.int k (k.wrap (0-n)))
 | .xor,.int k n=>some (.int k (k.wrap (BitVec.ofInt k.bits (if k.signed then -1 else k.max) ^^^ BitVec.ofInt k.bits n).toNat))
 | .not,.bool b=>some (.bool !b)
 | _,_=>none
def cellsOf:D->List D
 | .agg cs=>cs
 | d=>[d]
def V1:D->Bool
 | .agg _ | .aR _ | .undef=>false
 | _=>true
def a2J (n:Option Nat) (off:Nat) (cs:List D):Option D :=
 match n with
 | none=>match cs[off]? with
   | some d=>if V1 d then some d else none
   | none=>none
 | some n=>if off+n<=cs.length then some (.agg ((cs.drop off).take n)) else none
def a43 (cs:List D) (off:Nat) (new:List D):List D:=cs.take off++new++cs.drop (off+new.length)
def a4r (env:q8) (cs:List D):List (Nat×Nat×X7)->Option (List D)
 | []=>some cs
 | (off,size,x)::rest =>
   let new:=cellsOf (env.ev x)
   if new.length=size/\off+size<=cs.length/\new.all V1 then a4r env (a43 cs off new) rest else none
def intArg:D->Option Int
 | .int _ n=>some n
 | _=>none
def a6j (isMax:Bool) (x:D):List D->Option D
 | []=>some x
 | y::r =>
   match x,y with
   | .int k a,.int _ b=>a6j isMax (.int k (if isMax then (if b>a then b else a) else (if b<a then b else a))) r
   | _,_=>none
def a13 (d:Option D) (rJ:Nat):Option Nat :=
 match d with
 | none=>some rJ
 | some (.int _ n)=>if 0<=n then some n.toNat else none
 | some _=>none
def a25 (n:Option Nat) (x:D) (lo hi:Option D):Option D :=
 match n,x with
 | none,.str s =>
   match a13 hi s.size,a13 lo 0 with
   | some h,some l=>if h<=s.size/\l<=h then some (.str (s.extract l h)) else none
   | _,_=>none
 | some _,.ag =>
   match a13 hi 0,a13 lo 0 with
   | some h,some l=>if h<=0/\l<=h then some .ag else none
   | _,_=>none
 | some n,.bg sz xs =>
   match a13 hi xs.length,a13 lo 0 with
   | some h,some l=>if sz=n/\h<=xs.length/\l<=h then some (.bg sz ((xs.take h).drop l)) else none
   | _,_=>none
 | some n,.arr id off len sz =>
   match a13 hi len,a13 lo 0 with
   | some h,some l=>if sz=n/\h<=len/\l<=h then (if l<len then some (.arr id (off+l*sz) (h-l) sz) else some (.bg sz [])) else none
   | _,_=>none
 | _,_=>none
def a0C:Bool->D->Option D
 | true,.str s=>some (.int .i64 s.size)
 | false,.ag=>some (.int .i64 0)
 | false,.bg _ xs=>some (.int .i64 xs.length)
 | false,.arr _ _ len _=>some (.int .i64 len)
 | _,_=>none
def W1 (sz:Nat) (x i:D):Option D :=
 match x,i with
 | .bg s xs,.int _ n=>if s=sz/\0<=n then (xs[n.toNat]?).map (fun g=>.fp g 0) else none
 | .arr id off len s,.int _ n=>if s=sz/\0<=n/\n<len then some (.ptr id (off+n.toNat*sz)) else none
 | _,_=>none
def a9b (x i:D):Option D :=
 match x,i with
 | .str s,.int _ n=>if 0<=n then (s[n.toNat]?).map (fun b=>.int .u8 b.toNat) else none
 | _,_=>none
def q8.evO (env:q8):Option X7->Option D
 | some x=>some (env.ev x)
 | none=>none
def bH (env:q8):fG->Option D
 | .mov x=>some (env.ev x)
 | .pick c a b=>match env.ev c with
   | .bool t=>some (if t then env.ev a else env.ev b)
   | _=>none
 | .aK x=>match env.ev x with
   | .ptr id off=>some (.ptr id off)
   | .fp cs off=>some (.fp cs off)
   | .fn f ir=>some (.fn f ir)
   | _=>none
 | .bin op x y=>b1h op (env.ev x) (env.ev y)
 | .eqB neg x y=>match env.ev x,env.ev y with
   | .bool a,.bool b=>some (.bool (if neg then !(a==b) else (a==b)))
   | _,_=>none
 | .eP neg ks x y=>match env.ev x,env.ev y with
   | .agg a,.agg b=>(a23 ks a b).map (fun t=>.bool (if neg then !t else t))
   | _,_=>none
 | .dE neg k x=>(a31 k (env.ev x)).map (fun t=>.bool (if neg then !t else t))
 | .un op x=>unV op (env.ev x)
 | .conv k x=>match env.ev x with
   | .int _ n=>some (.int k (k.wrap n))
   | _=>none
 | .build zero parts=>(a4r env zero parts).map .agg
 | .cm off x=>match env.ev x with
   | .ptr id o=>some (.ptr id (o+off))
   | .fp cs o=>some (.fp cs (o+off))
   | _=>none
 | .field n off x=>match env.ev x with
   | .agg cs=>a2J n off cs
   | _=>none
 | .aA sz x i=>W1 sz (env.ev x) (env.ev i)
 | .cN x i=>a9b (env.ev x) (env.ev i)
 | .idxV n len sz x i=>match env.ev x,env.ev i with
   | .agg cs,.int _ k=>if 0<=k/\k<len then a2J n (k.toNat*sz) cs else none
   | _,_=>none
 | .len i x=>a0C i (env.ev x)
 | .bE isMax x xs=>a6j isMax (env.ev x) (env.aP xs)
 | .slice n x lo hi=>a25 n (env.ev x) (env.evO lo) (env.evO hi)
 | .extract x i=>match env.ev x with
   | .aR vs=>vs[i]?
   | _=>none
 | .eQ f ir=>some (.fn f (env.aP ir))
abbrev a0k:=Nat->Option Y1
def a70 (ks:List SK) (k:List D):List (D×D)->Option (Option D)
 | []=>some none
 | (k',v)::r=>match k' with
   | .agg b=>match a23 ks k b with
     | some true=>some (some v)
     | some false=>a70 ks k r
     | none=>none
   | _=>none
def a7x (ks:List SK) (k:List D) (v:D):List (D×D)->Option (List (D×D))
 | []=>some [(.agg k,v)]
 | (k',v')::r=>match k' with
   | .agg b=>match a23 ks k b with
     | some true=>some ((.agg k,v)::r)
     | some false=>(a7x ks k v r).map ((k',v')::·)
     | none=>none
   | _=>none
def a9M (ks:List SK):D->Option (List D)
 | .agg k=>if k.length=ks.length/\k.all V1 then some k else none
 | _=>none
def b47:D->Option UInt8
 | .int .u8 n=>if 0<=n/\n<256 then some (UInt8.ofNat n.toNat) else none
 | _=>none
def a8L:List D->Option (List UInt8)
 | []=>some []
 | d::r=>match b47 d,a8L r with
   | some b,some l=>some (b::l)
   | _,_=>none
def a3i:D->Option Nat
 | .ag=>some 0
 | .bg _ xs=>some xs.length
 | .arr _ _ len _=>some len
 | _=>none
def a1O (sz:Nat):D->Bool
 | .bg s _=>s==sz
 | .arr _ _ _ s=>s==sz
 | .ag=>true
 | _=>false
def a1h (g:a0k):D->Option (List D)
 | .ag=>some []
 | .bg _ xs=>some xs.flatten
 | .arr id off len sz=>match g id with
   | some (.cells cs)=>if off+len*sz<=cs.length then some ((cs.drop off).take (len*sz)) else none
   | _=>none
 | _=>none
def cO (env:q8) (g:a0k):ROp->Option D
 | .load n x=>match env.ev x with
   | .ptr id off=>match g id with
     | some (.cells cs)=>a2J n off cs
     | _=>none
   | .fp cs off=>a2J n off cs
   | _=>none
 | .lookup ks zero ok m k=>match env.ev m with
   | .map id=>match g id with
     | some (.map cF)=>match a9M ks (env.ev k) with
       | some kl=>match a70 ks kl cF with
         | some (some v)=>some (if ok then .aR [v,.bool true] else v)
         | some none=>some (if ok then .aR [zero,.bool false] else zero)
         | none=>none
       | none=>none
     | _=>none
   | _=>none
 | .b2s x=>match a1h g (env.ev x),a1O 1 (env.ev x) with
   | some cs,true=>(a8L cs).map (fun l=>.str ⟨l.toArray⟩)
   | _,_=>none
def fV (env:q8):ROp->Option Nat
 | .load _ x=>match env.ev x with
   | .ptr id _=>some id
   | _=>none
 | .lookup _ _ _ m _=>match env.ev m with
   | .map id=>some id
   | _=>none
 | .b2s x=>match env.ev x with
   | .arr id _ _ _=>some id
   | _=>none
inductive a0f where
 | ptr
 | arr (len sz:Nat)
 | map
def a0f.at:a0f->Nat->D
 | .ptr,id=>.ptr id 0
 | .arr len sz,id=>.arr id 0 len sz
 | .map,id=>.map id
def a2Q (zero:List D):Nat->List D
 | 0=>[]
 | n+1=>zero++a2Q zero n
def dW (env:q8):AOp->Option (Y1×a0f)
 | .alloc zero=>some (.cells zero,.ptr)
 | .box x=>if (cellsOf (env.ev x)).all V1 then some (.cells (cellsOf (env.ev x)),.ptr) else none
 | .aw sz len zero parts=>(a4r env (a2Q zero len) (parts.map fun (i,x)=>(i*sz,sz,x))).map fun cs=>(.cells cs,.arr len sz)
 | .aE sz bytes zero l c=>match env.ev l,env.ev c with
   | .int .i64 n,.int .i64 m=>if 0<=n/\n<=m/\bytes*m<=2 ^ 47/\m<2 ^ 62 then some (.cells (a2Q zero n.toNat),.arr n.toNat sz) else none
   | _,_=>none
 | .eR=>some (.map [],.map)
def dh (env:q8) (g:a0k) (n:Nat) (addr val:X7):Option (Nat×Y1) :=
 match env.ev addr with
 | .ptr id off=>match g id with
   | some (.cells cs) =>
     let new:=cellsOf (env.ev val)
     if new.length=n/\off+n<=cs.length/\new.all V1/\0<n then some (id,.cells (a43 cs off new)) else none
   | _=>none
 | _=>none
def rdW (env:q8) (addr:X7):Option Nat :=
 match env.ev addr with
 | .ptr id _=>some id
 | _=>none
def X2 (f:D->Option D):List D->Option (List D)
 | []=>some []
 | d::r=>match f d,X2 f r with
   | some x,some l=>some (x::l)
   | _,_=>none
def a48 (sz:Nat):Nat->List D->List (List D)
 | 0,_=>[]
 | n+1,l=>l.take sz::a48 sz n (l.drop sz)
def aL (g:a0k):Nat->D->Option D
 | 0,_=>none
 | n+1,.agg cs=>(X2 (aL g n) cs).map .agg
 | n+1,.aR cs=>(X2 (aL g n) cs).map .aR
 | n+1,.arr id off len sz=>match a1h g (.arr id off len sz) with
   | some cs=>(X2 (aL g n) cs).map fun l=>.bg sz (a48 sz len l)
   | none=>none
 | _+1,.int k x=>some (.int k x)
 | _+1,.bool b=>some (.bool b)
 | _+1,.str s=>some (.str s)
 | _+1,.bf=>some .bf
 | _+1,.fp cs o=>some (.fp cs o)
 | _+1,.ag=>some .ag
 | _+1,.bg sz xs=>some (.bg sz xs)
 | _+1,.bx=>some .bx
 | _+1,.bz=>some .bz
 | _+1,_=>none
mutual
def a2d:D->Bool
 | .int _ _ | .bool _ | .str _ | .bf | .ag | .bx | .bz=>true
 | .agg cs=>bj cs
 | .aR cs=>bj cs
 | _=>false
def bj:List D->Bool
 | []=>true
 | d::r=>a2d d&&bj r
end
mutual
def a0Y:D->Bool
 | .int _ _ | .bool _ | .str _ | .bf | .ag | .bx | .bz | .bg _ _ | .fp _ _=>true
 | .agg cs=>aJ cs
 | _=>false
def aJ:List D->Bool
 | []=>true
 | d::r=>a0Y d&&aJ r
end
abbrev a09:=FuncId->List D->k4->Option (D×k4)
def a2U (C:a09) (md:a1Q) (f:D) (args:List D) (s:k4):Option (D×k4) :=
 match f with
 | .fn f ir =>
   match md with
   | .raw=>C f (args++ir) s
   | .fF =>
     match X2 (aL s.get 20) (args++ir) with
     | none=>none
     | some kn=>match C f kn k4.empty with
       | none=>none
       | some (r,s1)=>match aL s1.get 20 r with
         | none=>none
         | some r'=>if a2d r'||aJ (args++ir) then some (r',s) else none
 | _=>none
def Z6 (sz bytes:Nat) (s x:D) (st:k4):Option (D×k4) :=
 match a1h st.get x,a3i x with
 | some new,some n =>
   if a1O sz x&&decide (bytes<=2 ^ 20) then
    match s with
    | .ag=>if n=0 then some (.ag,st) else if n*bytes<=2 ^ 45/\n<=2 ^ 45 then some (.arr st.next 0 n sz,st.push (.cells new)) else none
    | .arr id off len sz' =>
      match st.get id with
      | some (.cells cs) =>
        if sz'=sz/\off+len*sz=cs.length then
         if n=0 then some (.arr id off len sz',st)
         else if (len+n)*bytes<=2 ^ 45/\len+n<=2 ^ 45 then some (.arr st.next 0 (len+n) sz,(st.set id none).push (.cells (cs.drop off++new)))
         else none
        else none
      | _=>none
    | .bg sz' xs=>if n=0 then some (.bg sz' xs,st) else none
    | _=>none
   else none
 | _,_=>none
def a6b (s x:D) (st:k4):Option (D×k4):=match s,a1h st.get x,a3i x with
 | .arr id off len 1,some new,some n=>match st.get id with
   | some (.cells cs)=>if a1O 1 x=true/\0<n/\n<=len/\off+len<=cs.length then some (.int .i64 n,st.set id (some (.cells (a43 cs off new)))) else none
   | _=>none
 | _,_,_=>none
def bZ (C:a09) (env:q8) (s:k4):MOp->Option (D×k4)
 | .call md f args=>a2U C md (env.ev f) (env.aP args) s
 | .append sz bytes a x=>Z6 sz bytes (env.ev a) (env.ev x) s
 | .copy a x=>a6b (env.ev a) (env.ev x) s
 | .cI ks m k v=>match env.ev m with
   | .map id=>match s.get id with
     | some (.map cF)=>match a9M ks (env.ev k) with
       | some kl=>if V1 (env.ev v) then (a7x ks kl (env.ev v) cF).map fun jF=>(.aR [],s.set id (some (.map jF))) else none
       | none=>none
     | _=>none
   | _=>none
def a0i (C:a09) (env:q8) (s:k4):fy->Option (D×k4)
 | .p o=>(bH env o).map fun d=>(d,s)
 | .r o=>(cO env s.get o).map fun d=>(d,s)
 | .a o=>match dW env o with
   | some (ob,m)=>some (m.at s.next,s.push ob)
   | none=>none
 | .w n a v=>match dh env s.get n a v with
   | some (id,ob)=>some (.aR [],s.set id (some ob))
   | none=>none
 | .m o=>bZ C env s o
def a1p (env:q8):fy->Option Nat
 | .r o=>fV env o
 | .w _ a _=>rdW env a
 | _=>none
def a2c (env:q8):Option (Nat×Bool)->Option Bool
 | none=>some true
 | some (t,want)=>match env.get t with
   | .bool b=>some (b==want)
   | .aR []=>some false
   | _=>none
structure Tr where
 idx:Nat
 rd:Option Nat
 pre:k4
 post:k4
def a1N (pre post:k4):Option Nat->Bool
 | none=>true
 | some id=>a7k (pre.get id) (post.get id)
def a1q (ae:List (Nat×Nat)) (j:Tr):List Tr->Bool
 | []=>true
 | i::r=>(if ae.contains (i.idx,j.idx) then a1N j.pre j.post i.rd&&a1N i.pre i.post j.rd else true)&&a1q ae j r
def a01 (C:a09) (ae:List (Nat×Nat)):List (Nat×Z3)->List Tr->q8->k4->Option (q8×k4)
 | [],_,env,s=>some (env,s)
 | (i,o)::rest,tr,env,s =>
   match a2c env o.guard with
   | none=>none
   | some false=>a01 C ae rest tr (env.put o.dst (.aR [])) s
   | some true =>
     match a0i C env s o.op with
     | none=>none
     | some (d,s') =>
       let t:Tr:=⟨i,a1p env o.op,s,s'⟩
       if a1q ae t tr then a01 C ae rest (if ae.isEmpty then tr else t::tr) (env.put o.dst d) s' else none
inductive a1n where
 | normal
 | exit (id:Nat)
 | ret
 deriving Inhabited,DecidableEq
abbrev Out:=a1n×q8×k4
def q8.aF (vars:List Nat) (env:q8):q8:=vars.map fun t=>(t,env.get t)
def a1t (env:q8) (s:k4):Nat×Option (Option Nat)->Option D
 | (t,none)=>some (env.get t)
 | (t,some n)=>match env.get t with
   | .ptr id off=>match s.get id with
     | some (.cells cs)=>a2J n off cs
     | _=>none
   | _=>none
def a1g (env:q8) (s:k4):List (Nat×Option (Option Nat))->Option (List D)
 | []=>some []
 | x::r=>match a1t env s x,a1g env s r with
   | some d,some l=>some (d::l)
   | _,_=>none
def a04 (env:q8) (s:k4) (l:List (Nat×Option (Option Nat))):Option D :=
 match a1g env s l with
 | some [d]=>some d
 | some l=>some (.aR l)
 | none=>none
def a2j (fs:FuncId->Option U3) (ex:List Nat->a1a->q8->k4->Option Out):a09:=fun f args s =>
 match fs f with
 | none=>none
 | some vf =>
   match ex vf.vars vf.code (vf.vars.map fun t=>(t,args.getD t .undef)) s with
   | some (.normal,env,s') | some (.ret,env,s')=>(a04 env s' vf.res).map fun d=>(d,s')
   | _=>none
def a0a (fs:FuncId->Option U3):Nat->List Nat->a1a->q8->k4->Option Out
 | 0,_,_,_,_=>none
 | n+1,vars,c,env,s =>
   match c with
   | .skip=>some (.normal,env,s)
   | .region r=>match a01 (a2j fs (a0a fs n)) r.ae r.ops [] env s with
     | some (gQ,s')=>some (.normal,gQ.aF vars,s')
     | none=>none
   | .seq a b=>match a0a fs n vars a env s with
     | some (.normal,gQ,s')=>a0a fs n vars b gQ s'
     | r=>r
   | .cond c x y=>match env.ev c with
     | .bool true=>a0a fs n vars x env s
     | .bool false=>a0a fs n vars y env s
     | _=>none
   | .block id b=>match a0a fs n vars b env s with
     | some (.exit iA,gQ,s')=>if iA=id then some (.normal,gQ,s') else some (.exit iA,gQ,s')
     | r=>r
   | .loop b=>match a0a fs n vars b env s with
     | some (.normal,gQ,s')=>a0a fs n vars (.loop b) gQ s'
     | r=>r
   | .exit id=>some (.exit id,env,s)
   | .ret=>some (.ret,env,s)
def a7W (fs:FuncId->Option U3) (n:Nat):a09:=a2j fs (a0a fs n)
end Go.V
namespace Go.V
abbrev W0:=Nat->Option Obj
abbrev Mu:=Nat->Option (Nat×Nat×Nat)
def W0.cell (Φ:W0) (b o:Nat):Option Value :=
 match Φ b with
 | some (.cells c _ _)=>c[o]?
 | _=>none
mutual
def RP (Φ:W0):D->Value->Prop
 | .int k n,v=>v=.int k n
 | .bool b,v=>v=.bool b
 | .str s,v=>v=.string s
 | .bf,v=>v=.pointer none
 | .fp cs off,v=>∃b o,v=.pointer (some ⟨b,o+off,none⟩)/\RC Φ cs b o
 | .ag,v=>v=.slice none 0 0
 | .bg sz xs,v=>∃b o cap sp,v=.slice (some ⟨b,o,sp⟩) xs.length cap/\xs.length<=cap/\(sp=none∨xs=[])/\RG Φ sz xs b o
 | .agg cs,v=>∃vs:List Value,v=.agg vs.toArray/\aV Φ cs vs
 | .aR cs,v=>∃vs:List Value,v=.tuple vs.toArray/\aV Φ cs vs
 | .bx,v=>v=.nilFunc
 | .bz,v=>v=.map none
 | .undef,_=>False
 | .ptr _ _,_=>False
 | .arr _ _ _ _,_=>False
 | .fn _ _,_=>False
 | .map _,_=>False
def aV (Φ:W0):List D->List Value->Prop
 | [],vs=>vs=[]
 | d::ds,vs=>∃u us,vs=u::us/\RP Φ d u/\aV Φ ds us
def RC (Φ:W0):List D->Nat->Nat->Prop
 | [],_,_=>True
 | d::ds,b,o=>(V1 d=true/\∃u,Φ.cell b o=some u/\RP Φ d u)/\RC Φ ds b (o+1)
def RG (Φ:W0) (sz:Nat):List (List D)->Nat->Nat->Prop
 | [],_,_=>True
 | g::gs,b,o=>g.length=sz/\RC Φ g b o/\RG Φ sz gs b (o+sz)
end
mutual
def R (μ:Mu) (Φ:W0):D->Value->Prop
 | .undef,_=>True
 | .ptr id off,v=>∃b o z,μ id=some (b,o,z)/\v=.pointer (some ⟨b,o+off,none⟩)
 | .arr id off len sz,v=>∃b o z cap,μ id=some (b,o,z)/\v=.slice (some ⟨b,o+off,none⟩) len cap/\len<=cap/\o+off+cap*sz<=z
 | .agg cs,v=>∃vs:List Value,v=.agg vs.toArray/\RL μ Φ cs vs
 | .aR cs,v=>∃vs:List Value,v=.tuple vs.toArray/\RL μ Φ cs vs
 | .fn f cs,v=>∃vs:List Value,v=.func (.func f) #[] vs.toArray/\RL μ Φ cs vs
 | .map id,v=>∃b o z,μ id=some (b,o,z)/\v=.map (some b)
 | .int k n,v=>v=.int k n
 | .bool b,v=>v=.bool b
 | .str s,v=>v=.string s
 | .bf,v=>v=.pointer none
 | .fp cs off,v=>RP Φ (.fp cs off) v
 | .ag,v=>v=.slice none 0 0
 | .bg sz xs,v=>RP Φ (.bg sz xs) v
 | .bx,v=>v=.nilFunc
 | .bz,v=>v=.map none
def RL (μ:Mu) (Φ:W0):List D->List Value->Prop
 | [],vs=>vs=[]
 | d::ds,vs=>∃u us,vs=u::us/\R μ Φ d u/\RL μ Φ ds us
end
def W0.le (Φ Φ':W0):Prop:=∀b ob,Φ b=some ob->Φ' b=some ob
def Mu.le (μ μ':Mu):Prop:=∀id l,μ id=some l->μ' id=some l
theorem W0.le_refl (Φ:W0):Φ.le Φ:=fun _ _ h=>h
theorem W0.le_trans {a b c:W0} (h:a.le b) (k:b.le c):a.le c:=fun _ _ e=>k _ _ (h _ _ e)
theorem Mu.le_refl (μ:Mu):μ.le μ:=fun _ _ h=>h
theorem Mu.le_trans {a b c:Mu} (h:a.le b) (k:b.le c):a.le c:=fun _ _ e=>k _ _ (h _ _ e)
theorem W0.gA {Φ Φ':W0} (h:Φ.le Φ') {b o:Nat} {u:Value} (e:Φ.cell b o=some u):Φ'.cell b o=some u:=by
 unfold W0.cell at *;cases hb:Φ b with
 | none=>simp [hb] at e
 | some ob=>rw [h b ob hb];rw [hb] at e;exact e
mutual
theorem a7K {Φ Φ':W0} (h:Φ.le Φ'):∀ (d:D) (v:Value),RP Φ d v->RP Φ' d v
 | .int _ _,_,e=>by simpa only [RP] using e
 | .bool _,_,e=>by simpa only [RP] using e
 | .str _,_,e=>by simpa only [RP] using e
 | .bf,_,e=>by simpa only [RP] using e
 | .fp cs off,v,e=>by
   simp only [RP] at e ⊢;obtain ⟨b,o,e1,e2⟩:=e;exact ⟨b,o,e1,eD h cs b o e2⟩
 | .ag,_,e=>by simpa only [RP] using e
 | .bg sz xs,v,e=>by
   simp only [RP] at e ⊢;obtain ⟨b,o,cap,sp,e1,e2,e4,e3⟩:=e;exact ⟨b,o,cap,sp,e1,e2,e4,fW h sz xs b o e3⟩
 | .agg cs,v,e=>by
   simp only [RP] at e ⊢;obtain ⟨vs,e1,e2⟩:=e;exact ⟨vs,e1,dF h cs vs e2⟩
 | .aR cs,v,e=>by
   simp only [RP] at e ⊢;obtain ⟨vs,e1,e2⟩:=e;exact ⟨vs,e1,dF h cs vs e2⟩
 | .bx,_,e=>by simpa only [RP] using e
 | .bz,_,e=>by simpa only [RP] using e
 | .undef,_,e=>by simp only [RP] at e
 | .ptr _ _,_,e=>by simp only [RP] at e
 | .arr _ _ _ _,_,e=>by simp only [RP] at e
 | .fn _ _,_,e=>by simp only [RP] at e
 | .map _,_,e=>by simp only [RP] at e
theorem dF {Φ Φ':W0} (h:Φ.le Φ'):∀ (ds:List D) (vs:List Value),aV Φ ds vs->aV Φ' ds vs
 | [],_,e=>by simpa only [aV] using e
 | d::ds,vs,e=>by
   simp only [aV] at e ⊢;obtain ⟨u,us,e1,e2,e3⟩:=e;exact ⟨u,us,e1,a7K h d u e2,dF h ds us e3⟩
theorem eD {Φ Φ':W0} (h:Φ.le Φ'):∀ (ds:List D) (b o:Nat),RC Φ ds b o->RC Φ' ds b o
 | [],_,_,_=>by simp only [RC]
 | d::ds,b,o,e=>by
   simp only [RC] at e ⊢;obtain ⟨⟨e0,u,e1,e2⟩,e3⟩:=e;exact ⟨⟨e0,u,W0.gA h e1,a7K h d u e2⟩,eD h ds b (o+1) e3⟩
theorem fW {Φ Φ':W0} (h:Φ.le Φ') (sz:Nat):∀ (ds:List (List D)) (b o:Nat),RG Φ sz ds b o->RG Φ' sz ds b o
 | [],_,_,_=>by simp only [RG]
 | d::ds,b,o,e=>by
   simp only [RG] at e ⊢;exact ⟨e.1,eD h d b o e.2.1,fW h sz ds b (o+sz) e.2.2⟩
end
mutual
theorem a9Y {μ μ':Mu} {Φ Φ':W0} (hm:μ.le μ') (h:Φ.le Φ'):∀ (d:D) (v:Value),R μ Φ d v->R μ' Φ' d v
 | .undef,_,_=>by simp only [R]
 | .ptr id off,v,e=>by
   simp only [R] at e ⊢;obtain ⟨b,o,z,e1,e2⟩:=e;exact ⟨b,o,z,hm _ _ e1,e2⟩
 | .arr _ _ _ _,v,e=>by
   simp only [R] at e ⊢;obtain ⟨b,o,z,cap,e1,e2⟩:=e;exact ⟨b,o,z,cap,hm _ _ e1,e2⟩
 | .agg cs,v,e=>by
   simp only [R] at e ⊢;obtain ⟨vs,e1,e2⟩:=e;exact ⟨vs,e1,bB hm h cs vs e2⟩
 | .aR cs,v,e=>by
   simp only [R] at e ⊢;obtain ⟨vs,e1,e2⟩:=e;exact ⟨vs,e1,bB hm h cs vs e2⟩
 | .fn f cs,v,e=>by
   simp only [R] at e ⊢;obtain ⟨vs,e1,e2⟩:=e;exact ⟨vs,e1,bB hm h cs vs e2⟩
 | .map id,v,e=>by
   simp only [R] at e ⊢;obtain ⟨b,o,z,e1,e2⟩:=e;exact ⟨b,o,z,hm _ _ e1,e2⟩
 | .int _ _,_,e=>by simpa only [R] using e
 | .bool _,_,e=>by simpa only [R] using e
 | .str _,_,e=>by simpa only [R] using e
 | .bf,_,e=>by simpa only [R] using e
 | .fp cs off,v,e=>by simp only [R] at e ⊢;exact a7K h _ _ e
 | .ag,_,e=>by simpa only [R] using e
 | .bg sz xs,v,e=>by simp only [R] at e ⊢;exact a7K h _ _ e
 | .bx,_,e=>by simpa only [R] using e
 | .bz,_,e=>by simpa only [R] using e
theorem bB {μ μ':Mu} {Φ Φ':W0} (hm:μ.le μ') (h:Φ.le Φ'):∀ (ds:List D) (vs:List Value),RL μ Φ ds vs->RL μ' Φ' ds vs
 | [],_,e=>by simpa only [RL] using e
 | d::ds,vs,e=>by
   simp only [RL] at e ⊢;obtain ⟨u,us,e1,e2,e3⟩:=e;exact ⟨u,us,e1,a9Y hm h d u e2,bB hm h ds us e3⟩
end
mutual
theorem a8W {μ:Mu} {Φ:W0}:∀ (d:D) (v:Value),RP Φ d v->R μ Φ d v
 | .int _ _,_,e=>by simpa only [RP,R] using e
 | .bool _,_,e=>by simpa only [RP,R] using e
 | .str _,_,e=>by simpa only [RP,R] using e
 | .bf,_,e=>by simpa only [RP,R] using e
 | .fp cs off,v,e=>by simp only [R];exact e
 | .ag,_,e=>by simpa only [RP,R] using e
 | .bg sz xs,v,e=>by simp only [R];exact e
 | .agg cs,v,e=>by
   simp only [RP,R] at e ⊢;obtain ⟨vs,e1,e2⟩:=e;exact ⟨vs,e1,aO cs vs e2⟩
 | .aR cs,v,e=>by
   simp only [RP,R] at e ⊢;obtain ⟨vs,e1,e2⟩:=e;exact ⟨vs,e1,aO cs vs e2⟩
 | .bx,_,e=>by simpa only [RP,R] using e
 | .bz,_,e=>by simpa only [RP,R] using e
 | .undef,_,e=>by simp only [RP] at e
 | .ptr _ _,_,e=>by simp only [RP] at e
 | .arr _ _ _ _,_,e=>by simp only [RP] at e
 | .fn _ _,_,e=>by simp only [RP] at e
 | .map _,_,e=>by simp only [RP] at e
theorem aO {μ:Mu} {Φ:W0}:∀ (ds:List D) (vs:List Value),aV Φ ds vs->RL μ Φ ds vs
 | [],_,e=>by simpa only [aV,RL] using e
 | d::ds,vs,e=>by
   simp only [aV,RL] at e ⊢;obtain ⟨u,us,e1,e2,e3⟩:=e;exact ⟨u,us,e1,a8W d u e2,aO ds us e3⟩
end
section
variable {μ:Mu} {Φ:W0}
theorem a2P:∀ {ds:List D} {vs:List Value},RL μ Φ ds vs->vs.length=ds.length
 | [],vs,e=>by simp only [RL] at e;simp [e]
 | d::ds,vs,e=>by
   simp only [RL] at e;obtain ⟨u,us,rfl,_,e3⟩:=e;simp [a2P e3]
theorem a81:∀ {ds:List D} {vs:List Value},RL μ Φ ds vs->∀ {j:Nat} {d:D},ds[j]?=some d->∃u,vs[j]?=some u/\R μ Φ d u
 | [],vs,e,j,d,h=>by simp at h
 | d::ds,vs,e,j,d',h=>by
   simp only [RL] at e;obtain ⟨u,us,rfl,e2,e3⟩:=e;cases j with
   | zero=>simp at h;subst h;exact ⟨u,by simp,e2⟩
   | succ j=>simp at h;obtain ⟨x,hx,hr⟩:=a81 e3 h;exact ⟨x,by simpa using hx,hr⟩
theorem a8n:∀ {ds:List D} {vs:List Value} {es:List D} {us:List Value},RL μ Φ ds vs->RL μ Φ es us->RL μ Φ (ds++es) (vs++us)
 | [],vs,es,us,e,f=>by simp only [RL] at e;subst e;simpa using f
 | d::ds,vs,es,us,e,f=>by
   simp only [RL] at e;obtain ⟨u,ws,rfl,e2,e3⟩:=e;simp only [List.cons_append,RL];exact ⟨u,ws++us,rfl,e2,a8n e3 f⟩
theorem b0D:∀ {ds:List D} {vs:List Value} (n:Nat),RL μ Φ ds vs->RL μ Φ (ds.take n) (vs.take n)
 | [],vs,n,e=>by simp only [RL] at e;subst e;simp [RL]
 | d::ds,vs,n,e=>by
   simp only [RL] at e;obtain ⟨u,ws,rfl,e2,e3⟩:=e;cases n with
   | zero=>simp [RL]
   | succ n=>simp only [List.take_succ_cons,RL];exact ⟨u,_,rfl,e2,b0D n e3⟩
theorem a7Z:∀ {ds:List D} {vs:List Value} (n:Nat),RL μ Φ ds vs->RL μ Φ (ds.drop n) (vs.drop n)
 | [],vs,n,e=>by simp only [RL] at e;subst e;simp [RL]
 | d::ds,vs,n,e=>by
   cases n with
   | zero=>simpa using e
   | succ n =>
     simp only [RL] at e;obtain ⟨u,ws,rfl,e2,e3⟩:=e;simpa using a7Z n e3
theorem RL_one {d:D} {v:Value} (h:R μ Φ d v):RL μ Φ [d] [v]:=by simp only [RL];exact ⟨v,[],rfl,h,rfl⟩
theorem b5G:∀ {ds:List D} {b o:Nat} (n:Nat),RC Φ ds b o->RC Φ (ds.drop n) b (o+n)
 | [],b,o,n,_=>by simp [RC]
 | d::ds,b,o,n,e=>by
   cases n with
   | zero=>simpa using e
   | succ n =>
     simp only [RC] at e;have:=b5G n e.2;simpa [Nat.add_assoc,Nat.add_comm 1 n] using this
theorem b7V:∀ {ds:List D} {b o:Nat} (n:Nat),RC Φ ds b o->RC Φ (ds.take n) b o
 | [],b,o,n,_=>by simp [RC]
 | d::ds,b,o,n,e=>by
   cases n with
   | zero=>simp [RC]
   | succ n =>
     simp only [RC] at e;simp only [List.take_succ_cons,RC];exact ⟨e.1,b7V n e.2⟩
theorem b87:∀ {ds es:List D} {b o:Nat},RC Φ ds b o->RC Φ es b (o+ds.length)->RC Φ (ds++es) b o
 | [],es,b,o,_,f=>by simpa using f
 | d::ds,es,b,o,e,f=>by
   simp only [RC] at e;simp only [List.cons_append,RC];exact ⟨e.1,b87 e.2 (by simpa [Nat.add_assoc,Nat.add_comm 1 ds.length] using f)⟩
theorem b78:∀ {ds:List D} {b o:Nat},RC Φ ds b o->ds.all V1=true
 | [],_,_,_=>rfl
 | d::ds,b,o,e=>by
   simp only [RC] at e;simp only [List.all_cons,Bool.and_eq_true];exact ⟨e.1.1,b78 e.2⟩
theorem b1N:∀ {ds:List D} {b o:Nat},RC Φ ds b o->∃vs,aV Φ ds vs/\∀j u,vs[j]?=some u->Φ.cell b (o+j)=some u
 | [],b,o,_=>⟨[],by simp [aV],by simp⟩
 | d::ds,b,o,e=>by
   simp only [RC] at e;obtain ⟨⟨_,u,e1,e2⟩,e3⟩:=e;obtain ⟨vs,h1,h2⟩:=b1N e3;refine ⟨u::vs,by simp only [aV];exact ⟨u,vs,rfl,e2,h1⟩,?_⟩;intro j x hx;cases j with
   | zero=>simp at hx;subst hx;exact e1
   | succ j=>simp at hx;have:=h2 j x hx;rw [<- this];congr 1;omega
theorem b5b {sz:Nat}:∀ {xs:List (List D)} {b o:Nat},RG Φ sz xs b o->∀ {i:Nat} {g:List D},xs[i]?=some g->g.length=sz/\RC Φ g b (o+i*sz)
 | [],b,o,e,j,d,h=>by simp at h
 | x::xs,b,o,e,i,g,h=>by
   simp only [RG] at e;cases i with
   | zero=>simp at h;subst h;exact ⟨e.1,by simpa using e.2.1⟩
   | succ i =>
     simp at h;have:=b5b e.2.2 h;refine ⟨this.1,?_⟩;have h2:=this.2;have ee:o+sz+i*sz=o+(i+1)*sz:=by rw [Nat.add_mul];omega
     rwa [ee] at h2
theorem b6K {sz:Nat}:∀ {xs:List (List D)} {b o:Nat} (n:Nat),n<=xs.length->RG Φ sz xs b o->RG Φ sz (xs.drop n) b (o+n*sz)
 | [],b,o,n,hn,_=>by simp [RG]
 | x::xs,b,o,n,hn,e=>by
   cases n with
   | zero=>simpa using e
   | succ n =>
     simp only [RG] at e;have h2:=b6K n (by simpa using hn) e.2.2;have ee:o+sz+n*sz=o+(n+1)*sz:=by rw [Nat.add_mul];omega
     rw [ee] at h2;simpa using h2
theorem b5c {sz:Nat}:∀ {xs:List (List D)} {b o:Nat} (n:Nat),RG Φ sz xs b o->RG Φ sz (xs.take n) b o
 | [],b,o,n,_=>by simp [RG]
 | x::xs,b,o,n,e=>by
   cases n with
   | zero=>simp [RG]
   | succ n =>
     simp only [RG] at e;simp only [List.take_succ_cons,RG];exact ⟨e.1,e.2.1,b5c n e.2.2⟩
theorem a8B {sz:Nat}:∀ {xs:List (List D)} {b o:Nat},RG Φ sz xs b o->RC Φ xs.flatten b o/\xs.flatten.length=xs.length*sz
 | [],b,o,_=>by simp [RC]
 | x::xs,b,o,e=>by
   simp only [RG] at e;have:=a8B e.2.2;refine ⟨?_,?_⟩
   ·simp only [List.flatten_cons]
    exact b87 e.2.1 (by rw [e.1];exact this.1)
   ·simp only [List.flatten_cons,List.length_append,this.2,e.1,List.length_cons,Nat.add_mul]
    omega
end
end Go.V
namespace Go.V
def cU (μ:Mu) (Φ:W0):List (D×D)->List MapEntry->Prop
 | [],es=>es=[]
 | (k,v)::r,es=>∃e l,es=e::l/\R μ Φ k e.key/\R μ Φ v e.val/\cU μ Φ r l
theorem b6y {μ μ':Mu} {Φ Φ':W0} (hm:μ.le μ') (h:Φ.le Φ'):∀ (ds:List (D×D)) (es:List MapEntry),cU μ Φ ds es->cU μ' Φ' ds es
 | [],_,e=>by simpa only [cU] using e
 | (k,v)::r,es,e=>by
   simp only [cU] at e ⊢;obtain ⟨x,l,e1,e2,e3,e4⟩:=e;exact ⟨x,l,e1,a9Y hm h k _ e2,a9Y hm h v _ e3,b6y hm h r l e4⟩
def a2F (μ:Mu) (Φ:W0) (w:World) (b o z:Nat):Y1->Prop
 | .cells cs=>∃ (a:Array Value) (e:TypeId) (vs tail:List Value),w.heap[b]?=some (.cells a e (0,0))/\a.size=z/\a.toList.drop o=vs++tail/\RL μ Φ cs vs/\cs.all V1=true
 | .map cF=>∃es clock,w.heap[b]?=some (.map es clock)/\cU μ Φ cF es.toList
structure Y4 (μ:Mu) (Φ:W0) (g:a0k) (w:World):Prop where
 df:∀b ob,Φ b=some ob->w.heap[b]?=some ob
 obj:∀id ob,g id=some ob->∃b o z,μ id=some (b,o,z)/\a2F μ Φ w b o z ob/\Φ b=none
 inj:∀id iA b o z o' z',g id≠none->g iA≠none->μ id=some (b,o,z)->μ iA=some (b,o',z')->id=iA
def a4S (μ:Mu) (g:a0k) (b:Nat):Prop:=∃id o z,g id≠none/\μ id=some (b,o,z)
structure br (μ:Mu) (Φ:W0) (g:a0k) (w:World) (μ':Mu) (Φ':W0) (g':a0k) (w':World) (n0 n1:Nat):Prop where
 mu:μ.le μ'
 bI:∀id,id<n0∨n1<=id->μ' id=μ id
 df:Φ.le Φ'
 os:w'.os=w.os
 tape:w'.tape=w.tape
 output:w'.output=w.output
 size:w.heap.size<=w'.heap.size
 aF:∀b,b<w.heap.size->¬ a4S μ g b->w'.heap[b]?=w.heap[b]?
 bM:∀b ob,Φ' b=some ob->Φ b=some ob∨w.heap.size<=b
 bp:∀b,a4S μ' g' b->a4S μ g b∨w.heap.size<=b
theorem br.refl (μ:Mu) (Φ:W0) (g:a0k) (w:World) (n:Nat):br μ Φ g w μ Φ g w n n :=
 ⟨Mu.le_refl _,fun _ _=>rfl,W0.le_refl _,rfl,rfl,rfl,Nat.le_refl _,fun _ _ _=>rfl,fun _ _ h=>.inl h,fun _ h=>.inl h⟩
theorem br.trans {μ μ1 μ2:Mu} {Φ Φ1 Φ2:W0} {g g1 g2:a0k} {w w1 w2:World} {n0 n1 n2:Nat} (h01:n0<=n1) (qf:n1<=n2)
 (h:br μ Φ g w μ1 Φ1 g1 w1 n0 n1) (k:br μ1 Φ1 g1 w1 μ2 Φ2 g2 w2 n1 n2):br μ Φ g w μ2 Φ2 g2 w2 n0 n2 where
 mu:=Mu.le_trans h.mu k.mu
 bI id gX:=by rw [k.bI id (by omega),h.bI id (by omega)]
 df:=W0.le_trans h.df k.df
 os:=k.os.trans h.os
 tape:=k.tape.trans h.tape
 output:=k.output.trans h.output
 size:=Nat.le_trans h.size k.size
 aF b hb hn:=by
  rw [k.aF b (Nat.lt_of_lt_of_le hb h.size) (fun ho=>by rcases h.bp b ho with h1 | h1;exact hn h1;omega),h.aF b hb hn]
 bM b ob hb:=by
  rcases k.bM b ob hb with h1 | h1
  ·exact h.bM b ob h1
  ·exact .inr (Nat.le_trans h.size h1)
 bp b hb:=by
  rcases k.bp b hb with h1 | h1
  ·exact h.bp b h1
  ·exact .inr (Nat.le_trans h.size h1)
theorem br.widen {μ μ1:Mu} {Φ Φ1:W0} {g g1:a0k} {w w1:World} {n0 n1 m0 m1:Nat} (h0:m0<=n0) (h1:n1<=m1)
 (h:br μ Φ g w μ1 Φ1 g1 w1 n0 n1):br μ Φ g w μ1 Φ1 g1 w1 m0 m1 :=
 { h with bI:=fun id gX=>h.bI id (by omega) }
def bo (g:a0k) (id:Nat) (o:Option Y1):a0k:=fun i=>if i=id then o else g i
def a12 (μ:Mu) (id:Nat) (l:Nat×Nat×Nat):Mu:=fun i=>if i=id then some l else μ i
theorem a7E {μ:Mu} {id:Nat} {l:Nat×Nat×Nat} (h:μ id=none):μ.le (a12 μ id l):=by
 intro i x hx;unfold a12;by_cases e:i=id
 ·subst e;rw [h] at hx;cases hx
 ·rw [if_neg e];exact hx
theorem b0b {μ μ':Mu} {Φ Φ':W0} {w:World} {b o z:Nat} {ob:Y1} (hm:μ.le μ') (h:Φ.le Φ') (e:a2F μ Φ w b o z ob):a2F μ' Φ' w b o z ob:=by
 cases ob with
 | cells cs =>
   obtain ⟨a,t,vs,tail,e1,e2,e3,e4⟩:=e;exact ⟨a,t,vs,tail,e1,e2,e3,bB hm h _ _ e4.1,e4.2⟩
 | map cF =>
   obtain ⟨es,clock,e1,e2⟩:=e;exact ⟨es,clock,e1,b6y hm h _ _ e2⟩
theorem a8p {μ:Mu} {Φ:W0} {w w':World} {b o z:Nat} {ob:Y1} (hw:w'.heap[b]?=w.heap[b]?) (e:a2F μ Φ w b o z ob):a2F μ Φ w' b o z ob:=by
 cases ob with
 | cells cs =>
   obtain ⟨a,t,vs,tail,e1,e2⟩:=e;exact ⟨a,t,vs,tail,by rw [hw];exact e1,e2⟩
 | map cF =>
   obtain ⟨es,clock,e1,e2⟩:=e;exact ⟨es,clock,by rw [hw];exact e1,e2⟩
theorem a2F.lt {μ:Mu} {Φ:W0} {w:World} {b o z:Nat} {ob:Y1} (e:a2F μ Φ w b o z ob):b<w.heap.size:=by
 cases ob with
 | cells cs =>
   obtain ⟨a,t,vs,tail,e1,_⟩:=e;exact (Array.getElem?_eq_some_iff.1 e1).1
 | map cF =>
   obtain ⟨es,clock,e1,_⟩:=e;exact (Array.getElem?_eq_some_iff.1 e1).1
section
variable {μ:Mu} {Φ:W0} {g:a0k} {w:World}
theorem Y4.cq (h:Y4 μ Φ g w) {b:Nat} (ho:a4S μ g b):b<w.heap.size:=by
 obtain ⟨id,o,z,h1,h2⟩:=ho;cases hg:g id with
 | none=>exact absurd hg h1
 | some ob =>
   obtain ⟨b',o',z',e1,e2,_⟩:=h.obj id ob hg;rw [h2] at e1;cases e1;exact e2.lt
theorem Y4.dI (h:Y4 μ Φ g w) {b:Nat} {ob:Obj} (ho:Φ b=some ob):b<w.heap.size :=
 (Array.getElem?_eq_some_iff.1 (h.df b ob ho)).1
theorem Y4.fX (h:Y4 μ Φ g w) {g':a0k} (hg:∀id ob,g' id=some ob->g id=some ob):Y4 μ Φ g' w:=by
 have iw:∀id,g' id≠none->g id≠none:=by
  intro id h1 h2;cases hx:g' id with
  | none=>exact h1 hx
  | some ob=>rw [hg id ob hx] at h2;cases h2
 exact ⟨h.df,fun id ob e=>h.obj id ob (hg id ob e),fun id iA b o z o' z' h1 h2=>h.inj id iA b o z o' z' (iw id h1) (iw iA h2)⟩
theorem Y4.world (h:Y4 μ Φ g w) {w':World} (hp:∀b ob,Φ b=some ob->w'.heap[b]?=w.heap[b]?) (ho:∀b,a4S μ g b->w'.heap[b]?=w.heap[b]?):Y4 μ Φ g w' where
 df b ob e:=by rw [hp b ob e];exact h.df b ob e
 obj id ob e:=by
  obtain ⟨b,o,z,e1,e2,e3⟩:=h.obj id ob e;exact ⟨b,o,z,e1,a8p (ho b ⟨id,o,z,by rw [e];simp,e1⟩) e2,e3⟩
 inj:=h.inj
theorem Y4.drew (h:Y4 μ Φ g w) (n:Nat):Y4 μ Φ g { w with drawn:=n }:=h.world (fun _ _ _=>rfl) (fun _ _=>rfl)
theorem Y4.congr (h:Y4 μ Φ g w) {g':a0k} (e:∀i,g' i=g i):Y4 μ Φ g' w:=by
 have:g'=g:=funext e;rw [this];exact h
theorem Y4.push (h:Y4 μ Φ g w) {id:Nat} (gX:μ id=none) (hg:g id=none) {ob:Obj} {vo:Y1} {z:Nat}
 (nJ:a2F (a12 μ id (w.heap.size,0,z)) Φ (w.alloc ob) w.heap.size 0 z vo) :
 Y4 (a12 μ id (w.heap.size,0,z)) Φ (bo g id (some vo)) (w.alloc ob) /\
 br μ Φ g w (a12 μ id (w.heap.size,0,z)) Φ (bo g id (some vo)) (w.alloc ob) id (id+1):=by
 have hle:=a7E (l:=(w.heap.size,0,z)) gX;have pj:∀k,k<w.heap.size->(w.alloc ob).heap[k]?=w.heap[k]?:=fun k hk=>RowKit.Below.heap_alloc w ob k hk
 have kR:a12 μ id (w.heap.size,0,z) id=some (w.heap.size,0,z):=by simp [a12]
 have jN:∀i,i≠id->a12 μ id (w.heap.size,0,z) i=μ i:=fun i hi=>by simp [a12,hi]
 have rB:∀i,i≠id->bo g id (some vo) i=g i:=fun i hi=>by simp [bo,hi]
 have jt:w.heap.size<=(w.alloc ob).heap.size:=by simp
 refine ⟨⟨?_,?_,?_⟩,⟨hle,?_,W0.le_refl _,rfl,rfl,rfl,jt,fun b hb _=>pj b hb,fun _ _ h=>.inl h,?_⟩⟩
 ·intro b o e
  rw [pj b (h.dI e)];exact h.df b o e
 ·intro i o e
  by_cases hi:i=id
  ·subst hi
   simp only [bo,if_true] at e;cases e;refine ⟨_,_,_,kR,nJ,?_⟩;cases hp:Φ w.heap.size with
   | none=>rfl
   | some x=>have:=h.dI hp;omega
  ·rw [rB i hi] at e
   obtain ⟨b,o2,z2,e1,e2,e3⟩:=h.obj i o e;exact ⟨b,o2,z2,by rw [jN i hi];exact e1,a8p (pj b e2.lt) (b0b hle (W0.le_refl _) e2),e3⟩
 ·intro i i' b o1 z1 o2 z2 h1 h2 e1 e2
  by_cases hi:i=id
  ·subst hi
   by_cases iD:i'=i
   ·exact iD.symm
   ·rw [kR] at e1
    cases e1;rw [jN i' iD] at e2;rw [rB i' iD] at h2;have:=h.cq ⟨i',_,_,h2,e2⟩;omega
  ·by_cases iD:i'=id
   ·subst iD
    rw [kR] at e2;cases e2;rw [jN i hi] at e1;rw [rB i hi] at h1;have:=h.cq ⟨i,_,_,h1,e1⟩;omega
   ·rw [jN i hi] at e1
    rw [jN i' iD] at e2;rw [rB i hi] at h1;rw [rB i' iD] at h2;exact h.inj i i' _ _ _ _ _ h1 h2 e1 e2
 ·intro i hi
  exact jN i (by omega)
 ·rintro b ⟨i,o2,z2,h1,h2⟩
  by_cases hi:i=id
  ·subst hi
   rw [kR] at h2;cases h2;exact .inr (Nat.le_refl _)
  ·rw [jN i hi] at h2
   rw [rB i hi] at h1;exact .inl ⟨i,o2,z2,h1,h2⟩
structure a4C (b:Nat) (w w':World):Prop where
 os:w'.os=w.os
 tape:w'.tape=w.tape
 output:w'.output=w.output
 size:w'.heap.size=w.heap.size
 block:∀k,k≠b->w'.heap[k]?=w.heap[k]?
theorem a4C.refl (b:Nat) (w:World):a4C b w w:=⟨rfl,rfl,rfl,rfl,fun _ _=>rfl⟩
theorem a4C.trans {b:Nat} {w w1 w2:World} (h:a4C b w w1) (k:a4C b w1 w2):a4C b w w2 :=
 ⟨k.os.trans h.os,k.tape.trans h.tape,k.output.trans h.output,k.size.trans h.size,fun i hi=>(k.block i hi).trans (h.block i hi)⟩
theorem Y4.write (h:Y4 μ Φ g w) {id b o z:Nat} {vo pf:Y1} (hg:g id=some vo) (gX:μ id=some (b,o,z)) {w':World} (hw:a4C b w w')
 (nJ:a2F μ Φ w' b o z pf) (n:Nat):Y4 μ Φ (bo g id (some pf)) w'/\br μ Φ g w μ Φ (bo g id (some pf)) w' n n:=by
 have oD:a4S μ g b:=⟨id,o,z,by rw [hg];simp,gX⟩
 have mr:Φ b=none:=by
  obtain ⟨b',o',z',e1,_,e3⟩:=h.obj id vo hg;rw [gX] at e1;cases e1;exact e3
 refine ⟨⟨?_,?_,?_⟩,⟨Mu.le_refl _,fun _ _=>rfl,W0.le_refl _,hw.os,hw.tape,hw.output,by rw [hw.size];exact Nat.le_refl _,?_,fun _ _ h=>.inl h,?_⟩⟩
 ·intro b' ob e
  rw [hw.block b' (fun e'=>by subst e';rw [mr] at e;cases e)];exact h.df b' ob e
 ·intro i ob e
  by_cases hi:i=id
  ·subst hi
   simp only [bo,if_true] at e;cases e;exact ⟨b,o,z,gX,nJ,mr⟩
  ·simp only [bo,hi,if_false] at e
   obtain ⟨b',o',z',e1,e2,e3⟩:=h.obj i ob e;refine ⟨b',o',z',e1,a8p (hw.block b' ?_) e2,e3⟩;intro e';subst e';exact hi (h.inj i id _ _ _ _ _ (by rw [e];simp) (by rw [hg];simp) e1 gX)
 ·intro i i' b1 o1 z1 o2 z2 h1 h2
  have f:∀j,bo g id (some pf) j≠none->g j≠none:=by
   intro j hj;by_cases uM:j=id
   ·subst uM;rw [hg];simp
   ·simpa [bo,uM] using hj
  exact h.inj i i' b1 o1 z1 o2 z2 (f i h1) (f i' h2)
 ·intro b' _ hn
  exact hw.block b' (fun e=>by subst e;exact hn oD)
 ·rintro b' ⟨i,o2,z2,h1,h2⟩
  refine .inl ⟨i,o2,z2,?_,h2⟩;by_cases uM:i=id
  ·subst uM;rw [hg];simp
  ·simpa [bo,uM] using h1
end
theorem a42 (b o n:Nat):(⟨b,o,none⟩:Addr).add n=⟨b,o+n,none⟩:=by
 unfold Addr.add;split
 ·rename_i h;subst h;rfl
 ·rfl
theorem b4C {w:World} {b:Nat} {a:Array Value} {e:TypeId} {f:Nat×Nat} (h:w.heap[b]?=some (.cells a e f)) (o:Nat):w.cell? ⟨b,o,none⟩=a[o]?:=by
 simp [World.cell?,h]
theorem Y4.cellP {μ:Mu} {Φ:W0} {g:a0k} {w:World} (h:Y4 μ Φ g w) {b o:Nat} {u:Value} (e:Φ.cell b o=some u):w.cell? ⟨b,o,none⟩=some u:=by
 unfold W0.cell at e;cases hb:Φ b with
 | none=>simp [hb] at e
 | some ob =>
   rw [hb] at e;cases ob with
   | cells c t f =>
     have:=h.df b _ hb;rw [b4C this];exact e
   | _=>simp at e
theorem b8m (P:Program) (w:World) (b o:Nat):∀ (us:List Value) (i:Nat) (acc:Array Value),
 (∀j u,us[j]?=some u->w.cell? ⟨b,o+i+j,none⟩=some u)->(loadCellsFrom ⟨b,o,none⟩ i us.length acc).run P w=.ok (acc++us.toArray) w
 | [],i,acc,_=>by simp [loadCellsFrom]
 | u::us,i,acc,h=>by
   have h0:=h 0 u (by simp);simp only [Nat.add_zero] at h0;have ih:=b8m P w b o us (i+1) (acc.push u) (fun j x hx=>by
    have:=h (j+1) x (by simpa using hx);rw [<- this];congr 2
    omega)
   simp only [List.length_cons,loadCellsFrom,Sem.run_bind,run_load,a42,h0,Result.andThen_ok,ih];simp
theorem b2S (P:Program) (w:World) (b o:Nat) (us:List Value) (h:∀j u,us[j]?=some u->w.cell? ⟨b,o+j,none⟩=some u) :
 (loadCells ⟨b,o,none⟩ us.length).run P w=.ok us.toArray w:=by
 have:=b8m P w b o us 0 #[] (by simpa using h);simpa [loadCells] using this
theorem b94 {w:World} {b:Nat} {a:Array Value} {e:TypeId} (h:w.heap[b]?=some (.cells a e (0,0))) (o:Nat):w.frozen? ⟨b,o,none⟩=false:=by
 simp [World.frozen?,h]
theorem c5n {w:World} {b:Nat} {a:Array Value} {e:TypeId} (h:w.heap[b]?=some (.cells a e (0,0))) (o:Nat) (v:Value) :
 (w.setCell ⟨b,o,none⟩ v).heap[b]?=some (.cells (a.setIfInBounds o v) e (0,0)):=by
 simp [World.setCell,Array.getElem?_modify,h]
theorem c1w (w:World) (b o:Nat) (v:Value):a4C b w (w.setCell ⟨b,o,none⟩ v) :=
 ⟨rfl,rfl,rfl,by simp [World.setCell],fun k hk=>RowKit.Below.heap_setCell _ _ _ _ hk⟩
def a6Q:Value->Bool
 | .agg _ | .tuple _=>false
 | _=>true
theorem b09 (P:Program) (b k:Nat) (e:TypeId):∀ (vs:List Value) (i:Nat) (w:World) (a:Array Value),w.heap[b]?=some (.cells a e (0,0)) ->
 (∀v∈vs,a6Q v=true)->k+i+vs.length<=a.size ->
 ∃w' a',(storeCells ⟨b,k,none⟩ vs i).run P w=.ok () w'/\a4C b w w'/\w'.heap[b]?=some (.cells a' e (0,0))/\a'.size=a.size /\
  a'.toList=a.toList.take (k+i)++vs++a.toList.drop (k+i+vs.length)
 | [],i,w,a,h,_,_=>⟨w,a,by simp [storeCells],a4C.refl _ _,h,rfl,by simp⟩
 | v::vs,i,w,a,h,hv,hs=>by
   have iS:v.oneCell'=true:=by
    have:=hv v (by simp);cases v<;>simp_all [a6Q,Value.oneCell']
   simp only [List.length_cons] at hs;have iC:k+i<a.size:=by omega
   have hc:w.cell? ⟨b,k+i,none⟩=some a[k+i]:=by
    rw [b4C h];simp [iC]
   have lU:=c5n h (k+i) v;obtain ⟨w',a',r1,r2,r3,r4,r5⟩:=b09 P b k e vs (i+1) (w.setCell ⟨b,k+i,none⟩ v) _ lU (fun x hx=>hv x (by simp [hx])) (by simp;omega);refine ⟨w',a',?_,(c1w w b (k+i) v).trans r2,r3,by simpa using r4,?_⟩
   ·simp only [storeCells,Sem.run_bind,a42,run_store P w _ v .plain iS,hc,b94 h,Bool.false_eq_true,if_false,Result.andThen_ok,r1]
   ·rw [r5]
    simp only [Array.toList_setIfInBounds,List.length_cons];have e1:k+(i+1)=(k+i)+1:=by omega
    rw [e1,List.take_succ_eq_append_getElem (by simp;omega)];have e2:k+i+1+vs.length=k+i+(vs.length+1):=by omega
    rw [e2,List.take_set_of_le (Nat.le_refl _),List.drop_set_of_lt (by omega)];simp
end Go.V
namespace Go.V
def a6p:Value->Option D
 | .int k n=>some (.int k n)
 | .bool b=>some (.bool b)
 | .string s=>some (.str s)
 | .pointer none=>some .bf
 | .slice none 0 0=>some .ag
 | .map none=>some .bz
 | .nilFunc=>some .bx
 | _=>none
def a6k:List Value->Option (List D)
 | []=>some []
 | v::r=>match a6p v,a6k r with
   | some d,some l=>some (d::l)
   | _,_=>none
def ofV:Value->Option D
 | .agg cs=>(a6k cs.toList).map .agg
 | v=>a6p v
theorem b1U {Φ:W0} {v:Value} {d:D} (h:a6p v=some d):RP Φ d v:=by
 unfold a6p at h;split at h<;>simp at h<;>subst h<;>simp [RP]
theorem b4l {Φ:W0}:∀ {vs:List Value} {ds:List D},a6k vs=some ds->aV Φ ds vs
 | [],ds,h=>by simp [a6k] at h;subst h;simp [aV]
 | v::vs,ds,h=>by
   simp only [a6k] at h;split at h
   ·rename_i d l h1 h2
    simp at h;subst h;simp only [aV];exact ⟨v,vs,rfl,b1U h1,b4l h2⟩
   ·simp at h
theorem b75 {Φ:W0} {v:Value} {d:D} (h:ofV v=some d):RP Φ d v:=by
 unfold ofV at h;split at h
 ·rename_i cs
  cases hl:a6k cs.toList with
  | none=>simp [hl] at h
  | some l =>
    simp [hl] at h;subst h;simp only [RP];exact ⟨cs.toList,by simp,b4l hl⟩
 ·exact b1U h
def a0r:Operand->Option X7
 | .tmp t=>some (.tmp t)
 | .const v=>(ofV v).map .aG
 | .func f=>some (.aG (.fn f []))
 | .global _=>none
def a6r:List Operand->Option (List X7)
 | []=>some []
 | x::r=>match a0r x,a6r r with
   | some y,some l=>some (y::l)
   | _,_=>none
def a1S (μ:Mu) (Φ:W0) (env:q8) (a:Act):Prop:=∀t,R μ Φ (env.get t) (a.tmps.getD t undef)
theorem a1S.mono {μ μ':Mu} {Φ Φ':W0} {env:q8} {a:Act} (hm:μ.le μ') (h:Φ.le Φ') (e:a1S μ Φ env a):a1S μ' Φ' env a :=
 fun t=>a9Y hm h _ _ (e t)
theorem a0q {μ:Mu} {Φ:W0} {env:q8} {a:Act} (he:a1S μ Φ env a) {x:Operand} {y:X7} (h:a0r x=some y):R μ Φ (env.ev y) (a.eval x):=by
 cases x with
 | tmp t=>simp [a0r] at h;subst h;exact he t
 | const v =>
   simp only [a0r] at h;cases hv:ofV v with
   | none=>simp [hv] at h
   | some d=>simp [hv] at h;subst h;exact a8W _ _ (b75 hv)
 | global g=>simp [a0r] at h
 | func f =>
   simp [a0r] at h;subst h;simp only [q8.ev,Act.eval,R];exact ⟨[],rfl,by simp [RL]⟩
theorem a9T {μ:Mu} {Φ:W0} {env:q8} {a:Act} (he:a1S μ Φ env a):∀ {xs:List Operand} {ys:List X7},a6r xs=some ys->RL μ Φ (env.aP ys) (xs.map a.eval)
 | [],ys,h=>by simp [a6r] at h;subst h;simp [q8.aP,RL]
 | x::xs,ys,h=>by
   simp only [a6r] at h;split at h
   ·rename_i y l h1 h2
    simp at h;subst h;simp only [q8.aP,List.map_cons,RL];exact ⟨_,_,rfl,a0q he h1,a9T he h2⟩
   ·simp at h
def a1A (P:Program) (t:TypeId):Option Nat:=(P.info? t).map (·.size)
def b4d (P:Program) (t:TypeId):Option Bool :=
 match P.underlying t with
 | some (.struct _) | some (.array _ _)=>some true
 | some _=>some false
 | none=>none
def a6N (P:Program) (t:TypeId):Option (Option Nat) :=
 match b4d P t,a1A P t with
 | some true,some n=>some (some n)
 | some false,some _=>some none
 | _,_=>none
def a6v (P:Program) (t:TypeId):Option (List D) :=
 match P.info? t with
 | some i=>match i.zero with
   | some v=>(ofV v).map cellsOf
   | none=>none
 | none=>none
def b7e (P:Program) (t:TypeId):Option D :=
 match P.info? t with
 | some i=>match i.zero with
   | some v=>a6p v
   | none=>none
 | none=>none
def b2l (P:Program) (t:TypeId) (i:Operand):Option Nat :=
 match P.underlying t,i with
 | some (.array len e),.const (.int _ n)=>match a1A P e with
   | some (s+1)=>if 0<=n/\n<len then some (n.toNat*(s+1)) else none
   | _=>none
 | _,_=>none
theorem c4n {P:Program} {t:TypeId} {i:Operand} {off:Nat} (h:b2l P t i=some off):∃len e k n s,P.underlying t=some (.array len e)/\i=.const (.int k n)/\a1A P e=some s/\(0<=n/\n<(len:Int))/\off=n.toNat*s:=by
 unfold b2l at h;split at h
 ·rename_i len e k n hu
  split at h
  ·rename_i s hs
   split at h
   ·rename_i hb
    cases h;exact ⟨len,e,k,n,s+1,hu,rfl,hs,hb,rfl⟩
   ·cases h
  ·cases h
 ·cases h
def a4A (P:Program) (t:TypeId):Option TypeId :=
 match P.underlying t with
 | some (.slice e)=>some e
 | _=>none
def b1w (P:Program) (t:TypeId) (f:Nat):Option Field :=
 match P.underlying t with
 | some (.struct fs)=>fs[f]?
 | _=>none
def a64 (P:Program) (t:TypeId) (y:Operand):Option NK :=
 match y,P.underlying t with
 | .const (.pointer none),some (.pointer _)=>some .p
 | .const (.slice none 0 0),some (.slice _)=>some .s
 | .const (.map none),some (.map _ _)=>some .m
 | .const .nilFunc,some (.func _ _ _)=>some .f
 | _,_=>none
def b08 (P:Program) (t:TypeId):Bool :=
 match P.underlying t with
 | some .bool=>true
 | _=>false
def b3b (P:Program) (t:TypeId):Bool :=
 match P.underlying t with
 | some (.int _) | some .string=>true
 | _=>false
def a7v (P:Program) (t:TypeId):Option SK :=
 match P.underlying t with
 | some (.int _)=>some .i
 | some .bool=>some .b
 | some .string=>some .s
 | _=>none
def a5U (P:Program):List Field->Nat->Option (List SK)
 | [],_=>some []
 | f::r,n=>if f.offset=n/\f.name≠"_" then
    match a7v P f.type,a5U P r (n+1) with
    | some k,some l=>some (k::l)
    | _,_=>none
   else none
def a3y (P:Program) (t:TypeId):Option (List SK) :=
 match P.underlying t with
 | some (.struct fs)=>if !P.stoodInHeld t&&!P.eqGuardType P.depth t then a5U P fs.toList 0 else none
 | _=>none
def a9N (P:Program) (fs:Array Field):List (Nat×Operand)->Option (List (Nat×Nat×X7))
 | []=>some []
 | (i,x)::r=>match fs[i]?,a0r x,a9N P fs r with
   | some f,some y,some l=>match a1A P f.type with
     | some n=>some ((f.offset,n,y)::l)
     | none=>none
   | _,_,_=>none
def a9r:List (Nat×Operand)->Option (List (Nat×X7))
 | []=>some []
 | (i,x)::r=>match a0r x,a9r r with
   | some y,some l=>some ((i,y)::l)
   | _,_=>none
def b5u (P:Program) (fs:Array Field):Bool:=fs.toList.all fun f=>(a1A P f.type).isSome
def a8R:Option Operand->Option (Option X7)
 | none=>some none
 | some x=>(a0r x).map some
def b3t (P:Program) (op:BinOp) (t:TypeId) (x y:Operand):Option fG :=
 match a0r x,a0r y with
 | some a,some b =>
   match op with
   | .eql =>
     if b3b P t then some (.bin .eql a b)
     else if b08 P t then some (.eqB false a b)
     else match a3y P t with
      | some ks=>some (.eP false ks a b)
      | none=>(a64 P t y).map fun k=>.dE false k a
   | .neq =>
     if b3b P t then some (.bin .neq a b)
     else if b08 P t then some (.eqB true a b)
     else match a3y P t with
      | some ks=>some (.eP true ks a b)
      | none=>(a64 P t y).map fun k=>.dE true k a
   | op=>some (.bin op a b)
 | _,_=>none
def a8o (P:Program) (b:Builtin) (args:List Operand) (types:List TypeId):Option fy :=
 match b,args with
 | .len,[x]=>match a0r x,types with
   | some y,[t]=>match P.underlying t with
     | some (.slice _)=>some (.p (.len false y))
     | some .string=>some (.p (.len true y))
     | _=>none
   | _,_=>none
 | .min,x::r=>match a0r x,a6r r with
   | some y,some l=>some (.p (.bE false y l))
   | _,_=>none
 | .max,x::r=>match a0r x,a6r r with
   | some y,some l=>some (.p (.bE true y l))
   | _,_=>none
 | .append,[s,x]=>match a0r s,a0r x,types with
   | some s,some x,[t,u]=>match a4A P t,a4A P u with
     | some e,some _=>match P.info? e,a6v P e with
       | some i,some z=>if i.size=0∨z.length≠i.size then none else some (.m (.append i.size i.bytes s x))
       | _,_=>none
     | _,_=>none
   | _,_,_=>none
 | .copy,[s,x]=>match a0r s,a0r x,types with
   | some s,some x,[t,u]=>match a4A P t with
     | some e=>match P.info? e with
       | some i=>if i.size=1 then some (.m (.copy s x)) else none
       | none=>none
     | none=>none
   | _,_,_=>none
 | _,_=>none
def a3p (P:Program) (md:FuncId->a1Q) (o:Oper):Option fy :=
 match o.op with
 | .move x=>(a0r x).map fun y=>.p (.mov y)
 | .assign x=>(a0r x).map fun y=>.p (.mov y)
 | .pick c a b=>match a0r c,a0r a,a0r b with
   | some c,some a,some b=>some (.p (.pick c a b))
   | _,_,_=>none
 | .nilCheck x=>(a0r x).map fun y=>.p (.aK y)
 | .binOp op t x y _=>(b3t P op t x y).map .p
 | .unOp op _ x=>(a0r x).map fun y=>.p (.un op y)
 | .convert src dst x=>match a0r x,P.underlying src,P.underlying dst with
   | some y,some (.int _),some (.int k)=>some (.p (.conv k y))
   | some y,some (.slice e),some .string=>match P.underlying e with
     | some (.int .u8)=>some (.r (.b2s y))
     | _=>none
   | _,_,_=>none
 | .build t parts=>match P.underlying t,a6v P t with
   | some (.struct fs),some z=>match a9N P fs parts.toList with
     | some l=>if b5u P fs then some (.p (.build z l)) else none
     | none=>none
   | _,_=>none
 | .fieldAddr t x f=>match a0r x,b1w P t f with
   | some y,some fd=>match a1A P fd.type with
     | some (_+1)=>some (.p (.cm fd.offset y))
     | _=>none
   | _,_=>none
 | .field t x f=>match a0r x,b1w P t f with
   | some y,some fd=>match a6N P fd.type with
     | some n=>some (.p (.field n fd.offset y))
     | none=>none
   | _,_=>none
 | .indexAddr t x i=>match b2l P t i with
   | some off=>match a0r x with
     | some y=>some (.p (.cm off y))
     | none=>none
   | none=>match a0r x,a0r i,a4A P t with
     | some y,some j,some e=>match a1A P e with
       | some n=>some (.p (.aA n y j))
       | none=>none
     | _,_,_=>none
 | .index t x i=>match a0r x,a0r i,P.underlying t with
   | some y,some j,some .string=>some (.p (.cN y j))
   | some y,some j,some (.array len e)=>match a6N P e,a1A P e with
     | some n,some s=>some (.p (.idxV n len s y j))
     | _,_=>none
   | _,_,_=>none
 | .slice t x lo hi none=>match a0r x,a8R lo,a8R hi,P.underlying t with
   | some y,some l,some h,some .string=>some (.p (.slice none y l h))
   | some y,some l,some h,some (.slice e)=>match a1A P e with
     | some n=>some (.p (.slice (some n) y l h))
     | none=>none
   | _,_,_,_=>none
 | .extract x i=>(a0r x).map fun y=>.p (.extract y i)
 | .makeFunc (.func f) first ir=>if first.size=0 then (a6r ir.toList).map fun l=>.p (.eQ f l) else none
 | .load t x=>match a0r x,a6N P t with
   | some y,some n=>some (.r (.load n y))
   | _,_=>none
 | .lookup t m k ok=>match a0r m,a0r k,P.underlying t with
   | some m,some k,some (.map kt et)=>match b7e P et with
     | some z=>match a3y P kt with
       | some ks=>some (.r (.lookup ks z ok m k))
       | none=>none
     | _=>none
   | _,_,_=>none
 | .alloc t=>(a6v P t).map fun z=>.a (.alloc z)
 | .box _ x=>(a0r x).map fun y=>.a (.box y)
 | .buildSlice t len parts=>match a4A P t,a9r parts.toList with
   | some e,some l=>match a1A P e,a6v P e with
     | some n,some z=>if z.length=n/\len*n<=2 ^ 24 then some (.a (.aw n len z l)) else none
     | _,_=>none
   | _,_=>none
 | .makeSlice t l c=>match a4A P t,a0r l,a0r c with
   | some e,some l,some c=>match P.info? e,a6v P e with
     | some i,some z=>if z.length=i.size then some (.a (.aE i.size i.bytes z l c)) else none
     | _,_=>none
   | _,_,_=>none
 | .makeMap _ none=>some (.a .eR)
 | .store t a x=>match a0r a,a0r x,a1A P t with
   | some a,some x,some n=>some (.w n a x)
   | _,_,_=>none
 | .mapUpdate t m k v=>match a0r m,a0r k,a0r v,P.underlying t with
   | some m,some k,some v,some (.map kt _)=>match a3y P kt with
     | some ks=>some (.m (.cI ks m k v))
     | none=>none
   | _,_,_,_=>none
 | .call c=>match c.callee with
   | .builtin b=>a8o P b c.args.toList c.argTypes.toList
   | .value f=>match a0r f,a6r c.args.toList with
     | some f',some l=>some (.m (.call (match f with | .func g=>md g | _=>.raw) f' l))
     | _,_=>none
   | .invoke _ _=>none
 | _=>none
end Go.V
namespace Go.V
section
variable {P:Program} {μ:Mu} {Φ:W0}
def a4l (P:Program) (μ:Mu) (Φ:W0) (s:Sem Next) (w:World) (d:D):Prop:=∃v,s.run P w=.ok (.value v) w/\R μ Φ d v
theorem c4I {op:BinOp} {t:TypeId} {k:IntKind} {x y:Int} {d:D} {ox oy:Operand} {ρ:Operand->Value} (hx:ρ ox=.int k x) (hy:ρ oy=.int k y)
 (BI:op≠.shl/\op≠.shr) (h:a3f op k x y=some d) (w:World) (yt:TypeId) (dst pos after guard type) :
 a4l P μ Φ (execOp ρ ⟨dst,.binOp op t ox oy yt,type,pos,after,guard⟩) w d:=by
 unfold a3f at h;cases op<;>simp at h BI <;>
  first
  | (subst h;exact ⟨_,by simp [execOp,hx,hy,eqGuard,binOp,Op.intArith,Op.intBits,Op.intCmp];rfl,by simp only [R]⟩)
  | (obtain ⟨hz,h⟩:=h;subst h;exact ⟨_,by simp [execOp,hx,hy,eqGuard,binOp,Op.intDiv,hz];rfl,by simp only [R]⟩)
theorem b5w {op:BinOp} {t:TypeId} {k k':IntKind} {x y:Int} {d:D} {ox oy:Operand} {ρ:Operand->Value} (hx:ρ ox=.int k x) (hy:ρ oy=.int k' y)
 (hs:op=.shl∨op=.shr) (h:a44 op k x y=some d) (w:World) (yt:TypeId) (dst pos after guard type) :
 a4l P μ Φ (execOp ρ ⟨dst,.binOp op t ox oy yt,type,pos,after,guard⟩) w d:=by
 unfold a44 at h;rcases hs with rfl | rfl<;>simp at h
 ·obtain ⟨hz,h⟩:=h
  subst h;exact ⟨_,by simp [execOp,hx,hy,eqGuard,binOp,Op.shift,Int.not_lt.2 hz];rfl,by simp only [R]⟩
 ·obtain ⟨hz,h⟩:=h
  subst h;exact ⟨_,by simp [execOp,hx,hy,eqGuard,binOp,Op.shift,Int.not_lt.2 hz];rfl,by simp only [R]⟩
theorem c20 {op:BinOp} {t:TypeId} {x y:ByteArray} {d:D} {ox oy:Operand} {ρ:Operand->Value} (hx:ρ ox=.string x) (hy:ρ oy=.string y)
 (h:b0K op x y=some d) (w:World) (yt:TypeId) (dst pos after guard type) :
 a4l P μ Φ (execOp ρ ⟨dst,.binOp op t ox oy yt,type,pos,after,guard⟩) w d:=by
 unfold b0K at h;cases op<;>simp at h <;>
  first
  | (subst h;exact ⟨_,by simp [execOp,hx,hy,eqGuard,binOp,Op.stringOp];rfl,by simp only [R]⟩)
  | (obtain ⟨hz,h⟩:=h;subst h
     have:¬ (IntKind.i64.max<((x.size+y.size:Nat):Int)):=by
      have:IntKind.i64.max=9223372036854775807:=by decide
      rw [this];omega
     refine ⟨.string (x++y),?_,by simp only [R]⟩;simp only [execOp,hx,hy,eqGuard,binOp,Op.stringOp,GT.gt,this,if_false];rfl)
theorem c4E (n:Nat) {t:TypeId} (hb:P.underlying t=some .bool) (x y:Bool) (w:World):(Op.equalIn (n+1) t (.bool x) (.bool y)).run P w=.ok (x==y) w:=by
 simp only [Op.equalIn,Sem.run_bind,run_underlying hb,Result.andThen_ok,Sem.run_pure]
theorem b9o {t:TypeId} (hb:P.underlying t=some .bool) (x y:Bool) (w:World):(Op.equal t (.bool x) (.bool y)).run P w=.ok (x==y) w:=c4E 9999 hb x y w
theorem c4N {neg:Bool} {t:TypeId} {x y:Bool} {ox oy:Operand} {ρ:Operand->Value} (hb:P.underlying t=some .bool) (hx:ρ ox=.bool x) (hy:ρ oy=.bool y)
 (w:World) (yt:TypeId) (dst pos after guard type) :
 a4l P μ Φ (execOp ρ ⟨dst,.binOp (if neg then .neq else .eql) t ox oy yt,type,pos,after,guard⟩) w (.bool (if neg then !(x==y) else (x==y))):=by
 cases neg
 ·refine ⟨.bool (x==y),?_,by simp only [R];rfl⟩
  simp only [execOp,hx,hy,eqGuard,binOp,Sem.run_bind,b9o hb,Bool.false_eq_true,if_false,Sem.run_pure,Result.andThen_ok];rfl
 ·refine ⟨.bool (!(x==y)),?_,by simp only [R];rfl⟩
  simp only [execOp,hx,hy,eqGuard,binOp,Sem.run_bind,b9o hb,if_true,Sem.run_pure,Result.andThen_ok];rfl
theorem b3M {t:TypeId} {k:SK} (ht:a7v P t=some k) {cs:Array Value} {o:Nat} {v:Value} (hv:cs[o]?=some v) (w:World):(part t cs o).run P w=.ok v w:=by
 unfold a7v at ht;split at ht<;>first
  | (rename_i hu;simp [part,isAgg,run_underlying hu,hv];done)
  | simp at ht
theorem c0i (n:Nat) {t:TypeId} {k:SK} (ht:a7v P t=some k) {a b:D} {u v:Value} (ha:R μ Φ a u) (hb:R μ Φ b v) {r:Bool} (h:a8a k a b=some r) (w:World) :
 (Op.equalIn (n+1) t u v).run P w=.ok r w:=by
 unfold a7v at ht;split at ht
 ·rename_i q hu
  simp at ht;subst ht;cases a<;>cases b<;>simp [a8a] at h;obtain ⟨rfl,rfl⟩:=h;simp only [R] at ha hb;subst ha;subst hb;simp [Op.equalIn,run_underlying hu]
 ·rename_i hu
  simp at ht;subst ht;cases a<;>cases b<;>simp [a8a] at h;subst h;simp only [R] at ha hb;subst ha;subst hb;simp [Op.equalIn,run_underlying hu]
 ·rename_i hu
  simp at ht;subst ht;cases a<;>cases b<;>simp [a8a] at h;subst h;simp only [R] at ha hb;subst ha;subst hb;simp [Op.equalIn,run_underlying hu]
 ·simp at ht
theorem b8f (n:Nat):∀ (fs:List Field) (k:Nat) (ks:List SK) (as bs:List D) (us vs:List Value) (xs ys:Array Value) (r:Bool) (w:World),a5U P fs k=some ks ->
 RL μ Φ as us->RL μ Φ bs vs->(∀j u,us[j]?=some u->xs[k+j]?=some u)->(∀j u,vs[j]?=some u->ys[k+j]?=some u)->a23 ks as bs=some r ->
 (Op.eqFields (n+1) xs ys fs).run P w=.ok r w
 | [],k,ks,as,bs,us,vs,xs,ys,r,w,hf,ha,hb,hx,hy,h=>by
   simp [a5U] at hf;subst hf;cases as<;>cases bs<;>simp [a23] at h;subst h;simp [Op.eqFields]
 | f::fs,k,ks,as,bs,us,vs,xs,ys,r,w,hf,ha,hb,hx,hy,h=>by
   simp only [a5U] at hf;split at hf
   ·rename_i jK
    split at hf
    ·rename_i kk l hk hl
     simp at hf;subst hf;cases as with
     | nil=>cases bs<;>simp [a23] at h
     | cons a as =>
       cases bs with
       | nil=>simp [a23] at h
       | cons b bs =>
         simp only [a23] at h;split at h
         ·rename_i p q hp hq
          simp at h;subst h;simp only [RL] at ha hb;obtain ⟨u,vn,rfl,hu,hus⟩:=ha;obtain ⟨v,tW,rfl,hv,hvs⟩:=hb;have hx0:xs[f.offset]?=some u:=by rw [jK.1];simpa using hx 0 u (by simp)
          have hy0:ys[f.offset]?=some v:=by rw [jK.1];simpa using hy 0 v (by simp)
          have ih:=b8f n fs (k+1) l as bs vn tW xs ys q w hl hus hvs
           (fun j x hj=>by have:=hx (j+1) x (by simpa using hj);rw [<- this];congr 1;omega)
           (fun j x hj=>by have:=hy (j+1) x (by simpa using hj);rw [<- this];congr 1;omega) hq
          simp only [Op.eqFields,jK.2,ne_eq,not_false_eq_true,if_true,Sem.run_bind,b3M hk hx0,b3M hk hy0,c0i n hk hu hv hp,Result.andThen_ok,Sem.run_ite,ih];cases p<;>simp
         ·simp at h
    ·simp at hf
   ·simp at hf
theorem a9v {t:TypeId} {ks:List SK} (ht:a3y P t=some ks) {as bs:List D} {us vs:List Value} (ha:RL μ Φ as us) (hb:RL μ Φ bs vs) {r:Bool} (h:a23 ks as bs=some r) (w:World) :
 (Op.equal t (.agg us.toArray) (.agg vs.toArray)).run P w=.ok r w:=by
 unfold a3y at ht;split at ht
 ·rename_i fs hu
  split at ht
  ·rename_i hc
   have jj:P.fieldsOf t=fs:=by simp [Program.fieldsOf,hu]
   have hs:P.stoodInHeld t=false:=by simp at hc;exact hc.1
   have h1:(Op.equalIn (9999+1) t (.agg us.toArray) (.agg vs.toArray)).run P w=_:=run_equalIn_struct w 9999 t us.toArray vs.toArray (by rw [jj];exact hu) hs;rw [jj] at h1;have h2:=b8f (P:=P) (μ:=μ) (Φ:=Φ) 9998 fs.toList 0 ks as bs us vs us.toArray vs.toArray r w ht ha hb (by simp) (by simp) h;exact h1.trans h2
  ·simp at ht
 ·simp at ht
theorem c1C {neg:Bool} {t:TypeId} {ks:List SK} (ht:a3y P t=some ks) {x y:List D} {ox oy:Operand} {ρ:Operand->Value} (hx:R μ Φ (.agg x) (ρ ox)) (hy:R μ Φ (.agg y) (ρ oy))
 {r:Bool} (h:a23 ks x y=some r) (w:World) (yt:TypeId) (dst pos after guard type) :
 a4l P μ Φ (execOp ρ ⟨dst,.binOp (if neg then .neq else .eql) t ox oy yt,type,pos,after,guard⟩) w (.bool (if neg then !r else r)):=by
 simp only [R] at hx hy;obtain ⟨us,zO,tF⟩:=hx;obtain ⟨vs,mR,ky⟩:=hy;have hg:P.eqGuardType P.depth t=false:=by
  unfold a3y at ht;split at ht
  ·split at ht
   ·rename_i hc;simp at hc;exact hc.2
   ·simp at ht
  ·simp at ht
 have hr:=a9v (w:=w) ht tF ky h;cases neg
 ·refine ⟨.bool r,?_,by simp only [R];rfl⟩
  simp only [execOp,zO,mR,eqGuard,binOp,Sem.run_bind,hr,Bool.false_eq_true,if_false,Sem.run_pure,Result.andThen_ok,run_program,hg,Sem.run_ite,Bool.not_true,Bool.not_false,if_true]
 ·refine ⟨.bool (!r),?_,by simp only [R];rfl⟩
  simp only [execOp,zO,mR,eqGuard,binOp,Sem.run_bind,hr,if_true,Sem.run_pure,Result.andThen_ok,run_program,hg,Sem.run_ite,Bool.not_true,Bool.not_false,Bool.false_eq_true,if_false]
theorem b5j {n:Option Nat} {off:Nat} {cs:List D} {d:D} (h:a2J n off cs=some d) {us:List Value} (hr:RL μ Φ cs us) :
 match n with
 | none=>∃u,us[off]?=some u/\R μ Φ d u
 | some k=>off+k<=us.length/\R μ Φ d (.agg ((us.drop off).take k).toArray):=by
 unfold a2J at h;cases n with
 | none =>
   simp only at h ⊢;cases hc:cs[off]? with
   | none=>simp [hc] at h
   | some e =>
     simp [hc] at h;obtain ⟨_,rfl⟩:=h;exact a81 hr hc
 | some k =>
   simp only at h ⊢;split at h
   ·rename_i hle
    simp at h;subst h;rw [a2P hr];refine ⟨hle,?_⟩;simp only [R];exact ⟨_,rfl,b0D k (a7Z off hr)⟩
   ·simp at h
theorem b5C {d:D} {v:Value} (h1:V1 d=true) (h2:R μ Φ d v):a6Q v=true:=by
 cases d<;>simp only [V1] at h1<;>simp only [R] at h2<;>first
  | (cases h1;done)
  | (subst h2;rfl)
  | (obtain ⟨b,o,z,_,rfl⟩:=h2;rfl)
  | (obtain ⟨b,o,z,cap,_,rfl,_⟩:=h2;rfl)
  | (obtain ⟨vs,rfl,_⟩:=h2;rfl)
  | (simp only [RP] at h2;obtain ⟨b,o,rfl,_⟩:=h2;rfl)
  | (simp only [RP] at h2;obtain ⟨b,o,cap,sp,rfl,_⟩:=h2;rfl)
theorem b0s:∀ {ds:List D} {vs:List Value},ds.all V1=true->RL μ Φ ds vs->∀x∈vs,a6Q x=true
 | [],vs,_,hr=>by simp only [RL] at hr;subst hr;simp
 | d::ds,vs,ha,hr=>by
   simp only [RL] at hr;obtain ⟨u,us,rfl,h1,h2⟩:=hr;simp only [List.all_cons,Bool.and_eq_true] at ha;intro x hx;rcases List.mem_cons.1 hx with rfl | hx
   ·exact b5C ha.1 h1
   ·exact b0s ha.2 h2 x hx
theorem c2E {v:Value} (h:a6Q v=true):v.cells=#[v]:=by cases v<;>first | rfl | cases h
theorem b26 {d:D} {v:Value} (h:R μ Φ d v) (hu:(cellsOf d).all V1=true):RL μ Φ (cellsOf d) v.cells.toList/\∀x∈v.cells.toList,a6Q x=true:=by
 by_cases ha:∃cs,d=.agg cs
 ·obtain ⟨cs,rfl⟩:=ha
  simp only [R] at h;obtain ⟨vs,rfl,hv⟩:=h;simp only [cellsOf] at hu ⊢;exact ⟨by simpa [Value.cells] using hv,by simpa [Value.cells] using b0s hu hv⟩
 ·have hc:cellsOf d=[d]:=by
   cases d<;>first | rfl | exact absurd ⟨_,rfl⟩ ha
  rw [hc] at hu ⊢;simp only [List.all_cons,List.all_nil,Bool.and_true] at hu;have h1:=b5C hu h;rw [c2E h1];exact ⟨RL_one h,by simpa using h1⟩
theorem c2J (cs:Array Value) (off:Nat):∀ (new:List Value) (k:Nat),off+k+new.length<=cs.size ->
 ((new.zipIdx k).foldl (fun (a:Array Value) (p:Value×Nat)=>a.setIfInBounds (off+p.2) p.1) cs).toList=cs.toList.take (off+k)++new++cs.toList.drop (off+k+new.length):=by
 intro new;induction new generalizing cs with
 | nil=>intro k _;simp
 | cons v vs ih =>
   intro k hk;simp only [List.length_cons] at hk;rw [List.zipIdx_cons,List.foldl_cons,ih _ (k+1) (by simp;omega)];simp only [Array.toList_setIfInBounds,List.length_cons];have e1:off+(k+1)=(off+k)+1:=by omega
   rw [e1,List.take_succ_eq_append_getElem (by simp;omega)];have e2:off+k+1+vs.length=off+k+(vs.length+1):=by omega
   rw [e2,List.take_set_of_le (Nat.le_refl _),List.drop_set_of_lt (by omega)];simp
theorem b2d {cs new:List D} {us vs:List Value} {off:Nat} (h1:RL μ Φ cs us) (h2:RL μ Φ new vs) :
 RL μ Φ (a43 cs off new) (us.take off++vs++us.drop (off+vs.length)):=by
 unfold a43;rw [a2P h2];exact a8n (a8n (b0D off h1) h2) (a7Z _ h1)
theorem b3m {env:q8} (place:Nat->Option (Nat×Nat)):∀ (ps:List (Nat×Nat×X7)) (qs:List (Nat×Value)) (cs out:List D) (us:List Value),
 ps.length=qs.length->(∀ (j:Nat) (p:Nat×Nat×X7) (q:Nat×Value),ps[j]?=some p->qs[j]?=some q->place q.1=some (p.1,p.2.1)/\R μ Φ (env.ev p.2.2) q.2)->RL μ Φ cs us->a4r env cs ps=some out ->
 ∃ws:List Value,Instr.fill place us.toArray qs=some ws.toArray/\RL μ Φ out ws/\ws.length=us.length
 | [],qs,cs,out,us,hl,_,hr,hf=>by
   cases qs with
   | nil=>simp [a4r] at hf;subst hf;exact ⟨us,by simp [Instr.fill],hr,rfl⟩
   | cons _ _=>simp at hl
 | (off,size,x)::ps,qs,cs,out,us,hl,hp,hr,hf=>by
   cases qs with
   | nil=>simp at hl
   | cons q qs =>
     obtain ⟨i,v⟩:=q;obtain ⟨jE,vk⟩:=hp 0 (off,size,x) (i,v) (by simp) (by simp);simp only at jE vk;simp only [a4r] at hf;split at hf
     ·rename_i hc
      obtain ⟨c1,c2,c3⟩:=hc;obtain ⟨d1,d2⟩:=b26 vk c3;have hlen:=a2P d1;have ny:=a2P hr;simp only [Array.length_toList] at hlen;have mM:=b3m place ps qs (a43 cs off (cellsOf (env.ev x))) out (us.take off++v.cells.toList++us.drop (off+v.cells.toList.length)) (by simpa using hl)
       (fun j p q h1 h2=>hp (j+1) p q (by simpa using h1) (by simpa using h2)) (b2d hr d1) hf
      obtain ⟨ws,w1,w2,w3⟩:=mM;refine ⟨ws,?_,w2,?_⟩
      ·simp only [Instr.fill,jE]
       have jt:¬ (v.cells.size≠size||decide (off+v.cells.size>us.toArray.size))=true:=by
        simp;omega
       rw [if_neg jt,<- w1];congr 1
       apply Array.ext';have:=c2J us.toArray off v.cells.toList 0 (by simp;omega);simp only [Nat.add_zero] at this;rw [<- this];rw [<- Array.foldl_toList];simp [Array.toList_zipIdx]
      ·rw [w3]
       simp only [List.length_append,List.length_take,List.length_drop,Array.length_toList];omega
     ·simp at hf
end
end Go.V
namespace Go.V
section
variable {P:Program} {md:FuncId->a1Q} {μ:Mu} {Φ:W0} {env:q8} {a:Act} {d:D}
theorem map_some {α β:Type} {f:α->β} {x:Option α} {y:β} (h:x.map f=some y):∃z,x=some z/\f z=y:=by
 cases x with
 | none=>simp at h
 | some z=>exact ⟨z,rfl,by simpa using h⟩
theorem b7y {op:BinOp} {t:TypeId} {ox oy:Operand} {x y:D} (hx:R μ Φ x (a.eval ox)) (hy:R μ Φ y (a.eval oy)) (h:b1h op x y=some d) (w:World) (yt:TypeId) (dst type pos after guard) :
 a4l P μ Φ (execOp a.eval ⟨dst,.binOp op t ox oy yt,type,pos,after,guard⟩) w d:=by
 unfold b1h at h;split at h
 ·rename_i k n k' n'
  simp only [R] at hx hy;split at h
  ·exact b5w hx hy (.inl rfl) h w yt dst pos after guard type
  ·exact b5w hx hy (.inr rfl) h w yt dst pos after guard type
  ·rename_i h1 h2
   split at h
   ·rename_i hk
    subst hk;exact c4I hx hy ⟨fun e=>h1 e,fun e=>h2 e⟩ h w yt dst pos after guard type
   ·simp at h
 ·simp only [R] at hx hy
  exact c20 hx hy h w yt dst pos after guard type
 ·simp at h
theorem c3J (n:Nat) {t:TypeId} {y:Operand} {k:NK} (hk:a64 P t y=some k) {x:D} {u:Value} (hx:R μ Φ x u) {r:Bool} (hr:a31 k x=some r) (w:World) :
 (Op.equalIn (n+1) t u (a.eval y)).run P w=.ok r w:=by
 unfold a64 at hk;split at hk<;>simp at hk<;>subst hk<;>rename_i hu<;>simp only [Op.equalIn,Sem.run_bind,run_underlying hu,Result.andThen_ok,Act.eval] <;>
  cases x<;>simp only [a31] at hr<;>simp only [R] at hx<;>first
   | (cases hr;done)
   | (obtain ⟨b1,o1,z1,_,rfl⟩:=hx;cases hr;rfl)
   | (obtain ⟨b1,o1,z1,tU,_,rfl,_⟩:=hx;cases hr;rfl)
   | (obtain ⟨vs1,rfl,_⟩:=hx;cases hr;rfl)
   | (subst hx;cases hr;rfl)
   | (simp only [RP] at hx;obtain ⟨b1,o1,rfl,_⟩:=hx;cases hr;rfl)
   | (simp only [RP] at hx;obtain ⟨b1,o1,tU,sp1,rfl,_⟩:=hx;cases hr;rfl)
theorem c2k {neg:Bool} {t:TypeId} {ox oy:Operand} {k:NK} (hk:a64 P t oy=some k) {x:D} (hx:R μ Φ x (a.eval ox)) {r:Bool} (hr:a31 k x=some r)
 (w:World) (yt:TypeId) (dst type pos after guard) :
 a4l P μ Φ (execOp a.eval ⟨dst,.binOp (if neg then .neq else .eql) t ox oy yt,type,pos,after,guard⟩) w (.bool (if neg then !r else r)):=by
 have h1:(Op.equal t (a.eval ox) (a.eval oy)).run P w=.ok r w:=c3J 9999 hk hx hr w;have hb:∀op,op=BinOp.eql∨op=BinOp.neq->(eqGuard op t ox oy (a.eval ox) (a.eval oy)).run P w=.ok () w /\
  (binOp op t (a.eval ox) (a.eval oy))=(Op.equal t (a.eval ox) (a.eval oy) >>= fun e=>pure (.bool (if op=.neq then !e else e))):=by
  intro op iX;unfold a64 at hk;split at hk<;>simp at hk<;>subst hk<;>cases x<;>simp only [a31] at hr<;>simp only [R] at hx<;>first
   | (cases hr;done)
   | (obtain ⟨b1,o1,z1,_,e⟩:=hx;rw [e];rcases iX with rfl | rfl<;>exact ⟨rfl,rfl⟩)
   | (obtain ⟨b1,o1,z1,tU,_,e,_⟩:=hx;rw [e];rcases iX with rfl | rfl<;>exact ⟨rfl,rfl⟩)
   | (obtain ⟨vs1,e,_⟩:=hx;rw [e];rcases iX with rfl | rfl<;>exact ⟨rfl,rfl⟩)
   | (rw [hx];rcases iX with rfl | rfl<;>exact ⟨rfl,rfl⟩)
   | (simp only [RP] at hx;obtain ⟨b1,o1,e,_⟩:=hx;rw [e];rcases iX with rfl | rfl;exact ⟨rfl,rfl⟩;exact ⟨rfl,rfl⟩)
   | (simp only [RP] at hx;obtain ⟨b1,o1,tU,sp1,e,_⟩:=hx;rw [e];rcases iX with rfl | rfl;exact ⟨rfl,rfl⟩;exact ⟨rfl,rfl⟩)
 cases neg
 ·obtain ⟨g1,g2⟩:=hb .eql (.inl rfl)
  refine ⟨.bool r,?_,by simp only [R];rfl⟩;simp only [execOp,Bool.false_eq_true,if_false,Sem.run_bind,g1,g2,Result.andThen_ok,h1,Sem.run_pure,reduceCtorEq]
 ·obtain ⟨g1,g2⟩:=hb .neq (.inr rfl)
  refine ⟨.bool (!r),?_,by simp only [R];rfl⟩;simp only [execOp,if_true,Sem.run_bind,g1,g2,Result.andThen_ok,h1,Sem.run_pure]
theorem c01 {op:BinOp} {t:TypeId} {ox oy:Operand} {po:fG} (gN:b3t P op t ox oy=some po) (he:a1S μ Φ env a) (gR:bH env po=some d) (w:World) (yt:TypeId) (dst type pos after guard) :
 a4l P μ Φ (execOp a.eval ⟨dst,.binOp op t ox oy yt,type,pos,after,guard⟩) w d:=by
 unfold b3t at gN;split at gN
 ·rename_i x y hx hy
  have rx:=a0q he hx;have ry:=a0q he hy;have key:∀ (neg:Bool) (po:fG),op=(if neg then .neq else .eql) ->
   ((b3b P t=true/\po=.bin op x y)∨(b08 P t=true/\po=.eqB neg x y)∨(∃ks,a3y P t=some ks/\po=.eP neg ks x y)∨(∃k,a64 P t oy=some k/\po=.dE neg k x)) ->
   bH env po=some d->a4l P μ Φ (execOp a.eval ⟨dst,.binOp op t ox oy yt,type,pos,after,guard⟩) w d:=by
   intro neg po iX ny gR;rcases ny with ⟨_,rfl⟩ | ⟨hb,rfl⟩ | ⟨ks,je,rfl⟩ | ⟨k,hk,rfl⟩
   ·simp only [bH] at gR
    exact b7y rx ry gR w yt dst type pos after guard
   ·simp only [bH] at gR
    split at gR
    ·rename_i p q hp hq
     rw [hp] at rx;rw [hq] at ry;simp only [R] at rx ry;simp at gR;subst gR;rw [iX];have mz:P.underlying t=some .bool:=by
      unfold b08 at hb;split at hb
      ·assumption
      ·simp at hb
     exact c4N mz rx ry w yt dst pos after guard type
    ·simp at gR
   ·simp only [bH] at gR
    split at gR
    ·rename_i p q hp hq
     rw [hp] at rx;rw [hq] at ry;obtain ⟨r,hr,hd⟩:=map_some gR;subst hd;rw [iX];exact c1C je rx ry hr w yt dst pos after guard type
    ·simp at gR
   ·simp only [bH] at gR
    obtain ⟨r,hr,hd⟩:=map_some gR;subst hd;rw [iX];exact c2k hk rx hr w yt dst type pos after guard
  split at gN
  ·refine key false po rfl ?_ gR
   split at gN
   ·simp at gN;exact .inl ⟨by assumption,gN.symm⟩
   ·split at gN
    ·simp at gN;exact .inr (.inl ⟨by assumption,gN.symm⟩)
    ·split at gN
     ·simp at gN;exact .inr (.inr (.inl ⟨_,by assumption,gN.symm⟩))
     ·obtain ⟨k,hk,e⟩:=map_some gN
      exact .inr (.inr (.inr ⟨k,hk,e.symm⟩))
  ·refine key true po rfl ?_ gR
   split at gN
   ·simp at gN;exact .inl ⟨by assumption,gN.symm⟩
   ·split at gN
    ·simp at gN;exact .inr (.inl ⟨by assumption,gN.symm⟩)
    ·split at gN
     ·simp at gN;exact .inr (.inr (.inl ⟨_,by assumption,gN.symm⟩))
     ·obtain ⟨k,hk,e⟩:=map_some gN
      exact .inr (.inr (.inr ⟨k,hk,e.symm⟩))
  ·simp at gN;subst gN
   simp only [bH] at gR;exact b7y rx ry gR w yt dst type pos after guard
 ·simp at gN
theorem c0p {b o cap:Nat} {sz:Nat} {xs:List (List D)} (h:RG Φ sz xs b o) {l hh:Nat} (h1:hh<=xs.length) (h2:l<=hh) (h3:xs.length<=cap) :
 RP Φ (.bg sz ((xs.take hh).drop l)) (.slice (if cap=l then some ⟨b,o,none⟩ else some ⟨b,o+l*sz,none⟩) (hh-l) (cap-l)):=by
 simp only [RP];have hlen:((xs.take hh).drop l).length=hh-l:=by simp;omega
 by_cases hc:cap=l
 ·have:(xs.take hh).drop l=[]:=by apply List.eq_nil_of_length_eq_zero;omega
  refine ⟨b,o,cap-l,none,by rw [if_pos hc,hlen],by omega,.inl rfl,?_⟩;rw [this];simp only [RG]
 ·refine ⟨b,o+l*sz,cap-l,none,by rw [if_neg hc,hlen],by omega,.inl rfl,?_⟩
  exact b6K l (by simp;omega) (b5c hh h)
def RO (μ:Mu) (Φ:W0):Option D->Option Value->Prop
 | some d,some v=>R μ Φ d v
 | none,none=>True
 | _,_=>False
theorem b0e {x:Option D} {y:Option Value} {rJ n:Nat} (h:a13 x rJ=some n) (pP:RO μ Φ x y) :
 (y=none/\n=rJ)∨∃k i,y=some (.int k i)/\0<=i/\i.toNat=n:=by
 cases x with
 | none =>
   cases y with
   | none=>simp [a13] at h;exact .inl ⟨rfl,h.symm⟩
   | some v=>exact pP.elim
 | some e =>
   cases y with
   | none=>exact pP.elim
   | some v =>
     cases e<;>simp [a13] at h;simp only [RO,R] at pP;subst pP;exact .inr ⟨_,_,rfl,h.1,h.2⟩
theorem b7t {isSlice:Bool} {len cap l h:Nat} {lo hi:Option Value} (hlen:len<=cap)
 (hh:(hi=none/\h=len)∨∃k i,hi=some (.int k i)/\0<=i/\i.toNat=h) (hl:(lo=none/\l=0)∨∃k i,lo=some (.int k i)/\0<=i/\i.toNat=l) (h1:h<=len) (h2:l<=h) (w:World) :
 (Instr.sliceBounds isSlice len cap lo hi none).run P w=.ok (l,h,cap) w:=by
 have e1:(match hi with | some v=>Instr.sliceBound v cap (if isSlice then .sliceAcap else .sliceAlen) | none=>pure len:Sem Nat).run P w=.ok h w:=by
  rcases hh with ⟨rfl,rfl⟩ | ⟨k,i,rfl,h0,rfl⟩
  ·rfl
  ·have:0<=i/\i<=(cap:Int):=⟨h0,by omega⟩
   simp [Instr.sliceBound,asIntOf,this]
 have e2:(match lo with | some v=>Instr.sliceBound v h .sliceB | none=>pure 0:Sem Nat).run P w=.ok l w:=by
  rcases hl with ⟨rfl,rfl⟩ | ⟨k,i,rfl,h0,rfl⟩
  ·rfl
  ·have:0<=i/\i<=(h:Int):=⟨h0,by omega⟩
   simp [Instr.sliceBound,asIntOf,this]
 cases hi<;>cases lo<;>simp_all [Instr.sliceBounds]
theorem b0E (he:a1S μ Φ env a) {x:Option Operand} {y:Option X7} (h:a8R x=some y):RO μ Φ (env.evO y) (x.map a.eval):=by
 cases x with
 | none=>simp [a8R] at h;subst h;simp [q8.evO,RO]
 | some x =>
   simp only [a8R] at h;obtain ⟨z,hz,e⟩:=map_some h;subst e;simp only [q8.evO,Option.map_some,RO];exact a0q he hz
theorem c16 {t:TypeId} {u:Value} {lo hi:Option Value} {x:D} {l h:Option D} (ht:P.underlying t=some .string)
 (hx:R μ Φ x u) (hl:RO μ Φ l lo) (hh:RO μ Φ h hi) (gR:a25 none x l h=some d) (w:World):∃v,(Instr.sliceAt t u lo hi none).run P w=.ok v w/\R μ Φ d v:=by
 cases x<;>simp only [a25] at gR<;>try (cases gR;done)
 rename_i s;simp only [R] at hx;subst hx;split at gR
 ·rename_i hn ln h1 h2
  split at gR
  ·rename_i hc
   simp at gR;subst gR;have hb:=b7t (P:=P) (isSlice:=false) (Nat.le_refl s.size) (b0e h1 hh) (b0e h2 hl) hc.1 hc.2 w;refine ⟨.string (s.extract ln hn),?_,by simp only [R]⟩;simp only [Instr.sliceAt,Sem.run_bind,run_underlying ht,Result.andThen_ok,Instr.slice,Option.isSome_none,Bool.false_eq_true,if_false,hb,Sem.run_pure]
  ·simp at gR
 ·simp at gR
theorem a4F {e:TypeId} {n:Nat} (h:a1A P e=some n) (w:World):(sizeOf e).run P w=.ok n w:=by
 unfold a1A at h;obtain ⟨i,hi,e⟩:=map_some h;simp [sizeOf,typeInfo,hi,e]
theorem c4d {t e:TypeId} {n:Nat} {u:Value} {lo hi:Option Value} {x:D} {l h:Option D} (ht:P.underlying t=some (.slice e)) (hn:a1A P e=some n)
 (hx:R μ Φ x u) (hl:RO μ Φ l lo) (hh:RO μ Φ h hi) (gR:a25 (some n) x l h=some d) (w:World):∃v,(Instr.sliceAt t u lo hi none).run P w=.ok v w/\R μ Φ d v:=by
 have go:∀ (ad:Option Addr) (len cap ln hn:Nat),u=.slice ad len cap->len<=cap->a13 h len=some hn->a13 l 0=some ln->hn<=len->ln<=hn ->
  (Instr.sliceAt t u lo hi none).run P w=.ok (.slice (if cap=ln then ad else ad.map (·.add (ln*n))) (hn-ln) (cap-ln)) w:=by
  intro ad len cap ln jH hu jM h1 h2 h3 h4;have hb:=b7t (P:=P) (isSlice:=true) jM (b0e h1 hh) (b0e h2 hl) h3 h4 w;subst hu;simp only [Instr.sliceAt,Sem.run_bind,run_underlying ht,Result.andThen_ok,Instr.slice,hb,a4F hn,Sem.run_pure]
 cases x<;>simp only [a25] at gR<;>try (cases gR;done)
 ·simp only [R] at hx
  split at gR
  ·rename_i jH ln h1 h2
   split at gR
   ·rename_i hc
    simp at gR;subst gR;have:=go none 0 0 ln jH hx (Nat.le_refl _) h1 h2 hc.1 hc.2;have e1:jH=0:=by omega
    have e2:ln=0:=by omega
    subst e1;subst e2;exact ⟨_,this,by simp only [R];rfl⟩
   ·simp at gR
  ·simp at gR
 ·simp only [R,RP] at hx
  obtain ⟨b,o,cap,sp,hu,jM,mE,hg⟩:=hx;split at gR
  ·rename_i jH ln h1 h2
   split at gR
   ·rename_i hc
    simp at gR;subst gR;obtain ⟨c0,c1,c2⟩:=hc;subst c0;rcases mE with rfl | rfl
    case inr =>
     have e1:jH=0:=by simpa using c1
     have e2:ln=0:=by omega
     subst e1;subst e2;refine ⟨_,go (some ⟨b,o,sp⟩) _ cap 0 0 hu jM h1 h2 c1 c2,?_⟩;simp only [R,RP];refine ⟨b,o,cap,sp,?_,by simp,.inr (by simp),by simp [RG]⟩;simp [Addr.add]
    have:=go (some ⟨b,o,none⟩) _ cap ln jH hu jM h1 h2 c1 c2;refine ⟨_,this,?_⟩;simp only [R];have:=c0p (cap:=cap) hg c1 c2 jM;simpa only [Option.map_some,a42] using this
   ·simp at gR
  ·simp at gR
 ·simp only [R] at hx
  obtain ⟨b,o,z,cap,hm,hu,jM,hz⟩:=hx;rename_i id off len sz;split at gR
  ·rename_i jH ln h1 h2
   split at gR
   ·rename_i hc
    obtain ⟨c0,c1,c2⟩:=hc;subst c0;have:=go (some ⟨b,o+off,none⟩) _ cap ln jH hu jM h1 h2 c1 c2;refine ⟨_,this,?_⟩;split at gR
    ·rename_i iC
     simp at gR;subst gR;have iw:cap≠ln:=by omega
     simp only [R,if_neg iw,Option.map_some,a42];refine ⟨b,o,z,cap-ln,hm,by simp [Nat.add_assoc],by omega,?_⟩;have:ln*sz+(cap-ln)*sz=cap*sz:=by rw [<- Nat.add_mul];congr 1;omega
     omega
    ·simp at gR;subst gR
     have:jH-ln=0:=by omega
     rw [this];simp only [R,RP];by_cases ku:cap=ln
     ·exact ⟨b,o+off,cap-ln,none,by simp [ku],by simp,.inl rfl,by simp only [RG]⟩
     ·exact ⟨b,o+off+ln*sz,cap-ln,none,by simp [ku,a42],by simp,.inl rfl,by simp only [RG]⟩
   ·simp at gR
  ·simp at gR
end
end Go.V
namespace Go.V
section
variable {P:Program} {md:FuncId->a1Q} {μ:Mu} {Φ:W0} {env:q8} {a:Act} {d:D}
theorem a30 {s:Sem Value} {w:World} (h:∃v,s.run P w=.ok v w/\R μ Φ d v):a4l P μ Φ (do pure (.value (<- s))) w d:=by
 obtain ⟨v,h1,h2⟩:=h;exact ⟨v,by simp [h1],h2⟩
theorem b0W {isMax:Bool}:∀ {xs:List D} {x:D} {us:List Value} {u:Value} (w:World),R μ Φ x u->RL μ Φ xs us->a6j isMax x xs=some d ->
 ∃v,(us.foldlM (if isMax then Builtin.max2 else Builtin.min2) u:Sem Value).run P w=.ok v w/\R μ Φ d v
 | [],x,us,u,w,hx,hr,h=>by
   simp only [RL] at hr;subst hr;simp [a6j] at h;subst h;exact ⟨u,by simp,hx⟩
 | y::xs,x,us,u,w,hx,hr,h=>by
   simp only [RL] at hr;obtain ⟨v,vs,rfl,hv,hvs⟩:=hr;simp only [a6j] at h;split at h
   ·rename_i k n k' m
    simp only [R] at hx hv;subst hx;subst hv;cases isMax
    ·obtain ⟨r,h1,h2⟩:=b0W (us:=vs) (u:=.int k (if m<n then m else n)) w (by simp only [R];rfl) hvs h
     exact ⟨r,by simpa [Builtin.min2] using h1,h2⟩
    ·obtain ⟨r,h1,h2⟩:=b0W (us:=vs) (u:=.int k (if m>n then m else n)) w (by simp only [R];rfl) hvs h
     exact ⟨r,by simpa [Builtin.max2] using h1,h2⟩
   ·simp at h
theorem b5J {t:TypeId} {n:Option Nat} (ht:a6N P t=some n) {off:Nat} {cs:List D} (h:a2J n off cs=some d) {us:List Value} (hr:RL μ Φ cs us) (w:World) :
 ∃v,(part t us.toArray off).run P w=.ok v w/\R μ Φ d v:=by
 have hp:=b5j h hr;unfold a6N b4d at ht;cases hu:P.underlying t with
 | none=>simp [hu] at ht
 | some td =>
   have lT:(∃k,a1A P t=some k/\n=some k)->(isAgg t).run P w=.ok true w->∃v,(part t us.toArray off).run P w=.ok v w/\R μ Φ d v:=by
    rintro ⟨k,hk,rfl⟩ tV;refine ⟨_,?_,hp.2⟩;have jt:(sizeOf t).run P w=.ok k w:=a4F hk w;simp only [part,Sem.run_bind,tV,Result.andThen_ok,if_true,jt,Sem.run_pure];congr 2
    simp [List.extract_eq_take_drop]
   have kQ:n=none->(isAgg t).run P w=.ok false w->∃v,(part t us.toArray off).run P w=.ok v w/\R μ Φ d v:=by
    rintro rfl tV;obtain ⟨u,h1,h2⟩:=hp;exact ⟨u,by simp [part,tV,h1],h2⟩
   cases td<;>simp only [hu] at ht<;>cases hs:a1A P t<;>simp [hs] at ht<;>first
    | (refine lT ⟨_,hs,ht.symm⟩ ?_;simp [isAgg,run_underlying hu])
    | (refine kQ ht.symm ?_;simp [isAgg,run_underlying hu])
theorem c1l {t e:TypeId} {n:Nat} (ht:a4A P t=some e) (hn:a1A P e=some n) {x i:D} {u j:Value} (hx:R μ Φ x u) (hi:R μ Φ i j) (h:W1 n x i=some d) (w:World) :
 ∃v,(Instr.indexAt t u j).run P w=.ok v w/\R μ Φ d v:=by
 have qH:P.underlying t=some (.slice e):=by
  unfold a4A at ht;split at ht
  ·rename_i e' hu;simp at ht;rw [hu,ht]
  ·simp at ht
 unfold W1 at h;split at h
 ·rename_i s xs k m
  simp only [R,RP] at hx hi;obtain ⟨b,o,cap,sp,rfl,_,mE,hg⟩:=hx;subst hi;split at h
  ·rename_i hc
   obtain ⟨rfl,h0⟩:=hc;obtain ⟨g,BQ,e1⟩:=map_some h;subst e1;have iC:m.toNat<xs.length:=(List.getElem?_eq_some_iff.1 BQ).1;obtain rfl:sp=none:=by rcases mE with h | h;exact h;simp [h] at iC
   refine ⟨.pointer (some ⟨b,o+m.toNat*s,none⟩),?_,?_⟩
   ·have hb:0<=m/\m<(xs.length:Int):=⟨h0,by omega⟩
    simp [Instr.indexAt,asIntOf,run_underlying qH,hb,a4F hn,a42]
   ·simp only [R,RP]
    exact ⟨b,o+m.toNat*s,rfl,(b5b hg BQ).2⟩
  ·simp at h
 ·rename_i id off len s k m
  simp only [R] at hx hi;obtain ⟨b,o,z,cap,hm,rfl,jM,hz⟩:=hx;subst hi;split at h
  ·rename_i hc
   obtain ⟨rfl,hb⟩:=hc;simp at h;subst h;refine ⟨.pointer (some ⟨b,o+off+m.toNat*s,none⟩),?_,?_⟩
   ·simp [Instr.indexAt,asIntOf,run_underlying qH,hb,a4F hn,a42]
   ·simp only [R]
    exact ⟨b,o,z,hm,by simp [Nat.add_assoc]⟩
  ·simp at h
 ·simp at h
theorem c1o {t:TypeId} (ht:P.underlying t=some .string) {x i:D} {u j:Value} (hx:R μ Φ x u) (hi:R μ Φ i j) (h:a9b x i=some d) (w:World) :
 ∃v,(Instr.index t u j).run P w=.ok v w/\R μ Φ d v:=by
 unfold a9b at h;split at h
 ·rename_i s k m
  simp only [R] at hx hi;subst hx;subst hi;split at h
  ·rename_i h0
   obtain ⟨b,hb,e1⟩:=map_some h;subst e1;exact ⟨.int .u8 b.toNat,by simp [Instr.index,asIntOf,run_underlying ht,h0,hb],by simp only [R]⟩
  ·simp at h
 ·simp at h
theorem b5x {t:TypeId} {i:Bool} (ht:if i then P.underlying t=some .string else ∃e,P.underlying t=some (.slice e)) {x:D} {u:Value} (hx:R μ Φ x u) (h:a0C i x=some d) (w:World) (ty:TypeId) :
 ∃v,(Builtin.len_ #[t] ty #[u]).run P w=.ok v w/\R μ Φ d v:=by
 unfold a0C at h;split at h
 ·simp only [R] at hx
  subst hx;simp at h;subst h;simp only [if_true] at ht;exact ⟨_,by simp [Builtin.len_,run_underlying ht,goInt];rfl,by simp only [R]⟩
 ·simp only [R] at hx
  subst hx;simp at h;subst h;obtain ⟨e,ht⟩:=ht;exact ⟨_,by simp [Builtin.len_,run_underlying ht,goInt];rfl,by simp only [R]⟩
 ·simp only [R,RP] at hx
  obtain ⟨b,o,cap,sp,rfl,_⟩:=hx;simp at h;subst h;obtain ⟨e,ht⟩:=ht;exact ⟨_,by simp [Builtin.len_,run_underlying ht,goInt];rfl,by simp only [R]⟩
 ·simp only [R] at hx
  obtain ⟨b,o,z,cap,_,rfl,_⟩:=hx;simp at h;subst h;obtain ⟨e,ht⟩:=ht;exact ⟨_,by simp [Builtin.len_,run_underlying ht,goInt];rfl,by simp only [R]⟩
 ·simp at h
theorem b1t {b:Builtin} {args:Array Operand} {types:Array TypeId} {s:Sem Value} {w:World} {ty:TypeId}
 (hb:∀consts,builtin b types ty consts (args.map a.eval)=(do pure (.value (<- s)))) (h:∃v,s.run P w=.ok v w/\R μ Φ d v) (dst pos after guard) :
 a4l P μ Φ (execOp a.eval ⟨dst,.call ⟨.builtin b,args,types⟩,ty,pos,after,guard⟩) w d:=by
 obtain ⟨v,h1,h2⟩:=h;refine ⟨v,?_,h2⟩;simp only [execOp,resolve,invoke,Sem.run_bind,Sem.run_pure,Result.andThen_ok,hb,h1]
theorem a9A {t:TypeId} {z:List D} (hz:a6v P t=some z):∃i v,P.info? t=some i/\i.zero=some v/\aV Φ z v.cells.toList/\z.all V1=true:=by
 unfold a6v at hz;split at hz
 ·rename_i i hi
  split at hz
  ·rename_i v hv
   obtain ⟨dz,mO,e⟩:=map_some hz;refine ⟨i,v,hi,hv,?_⟩;subst e;have bb:∀ (v:Value) (dz:D),a6p v=some dz->V1 dz=true:=by
    intro v dz h;unfold a6p at h;split at h<;>simp at h<;>subst h<;>rfl
   have hr:=b75 (Φ:=Φ) mO;unfold ofV at mO;split at mO
   ·rename_i c
    obtain ⟨l1,h1,e1⟩:=map_some mO;subst e1;simp only [cellsOf,Value.cells];refine ⟨b4l h1,?_⟩;have:∀ (vs:List Value) (l:List D),a6k vs=some l->l.all V1=true:=by
     intro vs;induction vs with
     | nil=>intro l h;simp [a6k] at h;subst h;rfl
     | cons v vs ih =>
       intro l h;simp only [a6k] at h;split at h
       ·rename_i d1 l1 h1 h2
        simp at h;subst h;simp [bb _ _ h1];simpa using ih _ h2
       ·simp at h
    exact this _ _ h1
   ·have:v.cells=#[v]/\cellsOf dz=[dz]:=by
     unfold a6p at mO;split at mO<;>simp at mO<;>subst mO<;>exact ⟨rfl,rfl⟩
    rw [this.1,this.2];refine ⟨by simp only [aV];exact ⟨v,[],rfl,hr,rfl⟩,by simp [bb _ _ mO]⟩
  ·simp at hz
 ·simp at hz
theorem a7C {t:TypeId} {i:TypeInfo} {v:Value} (h1:P.info? t=some i) (h2:i.zero=some v) (w:World):(zeroValue t).run P w=.ok v w:=by
 simp [zeroValue,typeInfo,h1,h2]
theorem c3b {fs:Array Field} (h:b5u P fs=true) (w:World) :
 (fs.mapM (fun f=>do pure (f.offset,<- sizeOf f.type)):Sem (Array (Nat×Nat))).run P w=.ok (fs.map fun f=>(f.offset,(a1A P f.type).getD 0)) w:=by
 rw [Array.mapM_eq_mapM_toList];have:∀ (l:List Field),l.all (fun f=>(a1A P f.type).isSome)=true ->
  (l.mapM (fun f=>do pure (f.offset,<- sizeOf f.type)):Sem (List (Nat×Nat))).run P w=.ok (l.map fun f=>(f.offset,(a1A P f.type).getD 0)) w:=by
  intro l;induction l with
  | nil=>intro _;simp
  | cons f l ih =>
    intro hl;simp only [List.all_cons,Bool.and_eq_true] at hl;obtain ⟨n,hn⟩:=Option.isSome_iff_exists.1 hl.1;simp only [List.mapM_cons,Sem.run_bind,a4F hn,Result.andThen_ok,Sem.run_pure,ih hl.2,List.map_cons,hn,Option.getD_some]
 have h2:=this fs.toList h;rw [Sem.run_map,h2];simp only [Result.andThen_ok];congr 1
 apply Array.ext';simp
theorem b6z {fs:Array Field} (he:a1S μ Φ env a):∀ {l:List (Nat×Operand)} {ps:List (Nat×Nat×X7)},a9N P fs l=some ps ->
 ps.length=(l.map fun (i,x)=>(i,a.eval x)).length /\
 ∀ (j:Nat) (p:Nat×Nat×X7) (q:Nat×Value),ps[j]?=some p->(l.map fun (i,x)=>(i,a.eval x))[j]?=some q ->
   (fs.map fun f=>(f.offset,(a1A P f.type).getD 0))[q.1]?=some (p.1,p.2.1)/\R μ Φ (env.ev p.2.2) q.2
 | [],ps,h=>by simp [a9N] at h;subst h;simp
 | (i,x)::l,ps,h=>by
   simp only [a9N] at h;split at h
   ·rename_i f y l' hf hy hl
    split at h
    ·rename_i n hn
     simp at h;subst h;have ih:=b6z he hl;refine ⟨by simpa using ih.1,?_⟩;intro j p q hp hq;cases j with
     | zero =>
       simp at hp hq;subst hp;subst hq;refine ⟨by simp [hf,hn],a0q he hy⟩
     | succ j=>exact ih.2 j p q (by simpa using hp) (by simpa using hq)
    ·simp at h
   ·simp at h
theorem b5B {f:Field} {n:Nat} (h:a1A P f.type=some (n+1)) (b o:Nat) (w:World):(fieldPlace ⟨b,o,none⟩ f).run P w=.ok ⟨b,o+f.offset,none⟩ w:=by
 simp [fieldPlace,a4F h,a42]
theorem b5i {t:TypeId} {f:Nat} {fd:Field} (h:b1w P t f=some fd):∃fs,P.underlying t=some (.struct fs)/\fs[f]?=some fd:=by
 unfold b1w at h;split at h
 ·rename_i fs hu;exact ⟨fs,hu,h⟩
 ·simp at h
theorem c1E {o:Oper} {po:fG} (gN:a3p P md o=some (.p po)) (he:a1S μ Φ env a) (gR:bH env po=some d) (w:World):a4l P μ Φ (execOp a.eval o) w d:=by
 obtain ⟨dst,op,type,pos,after,guard⟩:=o;cases op<;>simp only [a3p] at gN
 case move x =>
  obtain ⟨y,hy,e⟩:=map_some gN;cases e;simp only [bH] at gR;cases gR;exact ⟨a.eval x,by simp [execOp],a0q he hy⟩
 case assign x =>
  obtain ⟨y,hy,e⟩:=map_some gN;cases e;simp only [bH] at gR;cases gR;exact ⟨a.eval x,by simp [execOp],a0q he hy⟩
 case pick c x y =>
  split at gN
  ·rename_i c' x' y' hc hx hy
   cases gN;simp only [bH] at gR;split at gR
   ·rename_i t ht
    have rc:=a0q he hc;rw [ht] at rc;simp only [R] at rc;cases gR;cases t
    ·exact ⟨a.eval y,by simp [execOp,rc,asBool],a0q he hy⟩
    ·exact ⟨a.eval x,by simp [execOp,rc,asBool],a0q he hx⟩
   ·simp at gR
  ·simp at gN
 case nilCheck x =>
  obtain ⟨y,hy,e⟩:=map_some gN;cases e;have rx:=a0q he hy;simp only [bH] at gR;split at gR
  ·rename_i id off hx
   cases gR;rw [hx] at rx;refine ⟨a.eval x,?_,rx⟩;simp only [R] at rx;obtain ⟨b,o,z,_,e⟩:=rx;simp [execOp,e]
  ·rename_i cs off hx
   cases gR;rw [hx] at rx;refine ⟨a.eval x,?_,rx⟩;simp only [R,RP] at rx;obtain ⟨b,o,e,_⟩:=rx;simp [execOp,e]
  ·rename_i f ir hx
   cases gR;rw [hx] at rx;refine ⟨a.eval x,?_,rx⟩;simp only [R] at rx;obtain ⟨vs,e,_⟩:=rx;simp [execOp,e]
  ·simp at gR
 case binOp op t x y yt =>
  obtain ⟨p,hp,e⟩:=map_some gN;cases e;exact c01 hp he gR w yt dst type pos after guard
 case unOp op t x =>
  obtain ⟨y,hy,e⟩:=map_some gN;cases e;have rx:=a0q he hy;simp only [bH] at gR;refine a30 (s:=Op.unary op (a.eval x)) ?_;unfold unV at gR;split at gR
  ·rename_i k n hx
   rw [hx] at rx;simp only [R] at rx;cases gR;exact ⟨.int k (k.wrap (0-n)),by simp [rx,Op.unary,Op.intArith],by simp only [R]⟩
  ·rename_i k n hx
   rw [hx] at rx;simp only [R] at rx;cases gR;exact ⟨_,by rw [rx];rfl,by simp only [R]⟩
  ·rename_i b hx
   rw [hx] at rx;simp only [R] at rx;cases gR;exact ⟨_,by simp [rx,Op.unary];rfl,by simp only [R]⟩
  ·simp at gR
 case convert src dst' x =>
  split at gN
  ·rename_i y k0 k hy hs hd
   cases gN;have rx:=a0q he hy;simp only [bH] at gR;split at gR
   ·rename_i k1 n hx
    rw [hx] at rx;simp only [R] at rx;cases gR;exact ⟨_,by simp [execOp,convert,rx,run_underlying hs,run_underlying hd,Conv.intToInt];rfl,by simp only [R]⟩
   ·simp at gR
  ·split at gN<;>simp at gN
  ·simp at gN
 case build t parts =>
  split at gN
  ·rename_i fs z hu hz
   split at gN
   ·rename_i l hl
    split at gN
    rotate_left
    ·simp at gN
    rename_i zA;cases gN;simp only [bH] at gR;obtain ⟨cs,ny,e⟩:=map_some gR;subst e;obtain ⟨i,zv,hi,qE,pa,_⟩:=a9A (Φ:=Φ) hz;obtain ⟨p1,p2⟩:=b6z he hl;obtain ⟨ws,w1,w2,_⟩:=b3m (μ:=μ) (Φ:=Φ) ((fs.map fun f=>(f.offset,(a1A P f.type).getD 0))[·]?) l _ z cs zv.cells.toList p1 p2 (aO _ _ pa) ny;refine a30 (s:=Instr.build t (parts.map fun (i,x)=>(i,a.eval x))) ⟨.agg ws.toArray,?_,(by simp only [R];exact ⟨ws,rfl,w2⟩:R μ Φ (.agg cs) (.agg ws.toArray))⟩;have jE:(parts.map fun (i,x)=>(i,a.eval x)).toList=parts.toList.map fun (i,x)=>(i,a.eval x):=Array.toList_map
    simp only [Array.toArray_toList] at w1;simp only [Instr.build,Sem.run_bind,a7C hi qE,Result.andThen_ok,run_underlying hu,c3b zA,jE,w1,Sem.run_pure]
   ·simp at gN
  ·simp at gN
 case fieldAddr t x f =>
  split at gN
  ·rename_i y fd hy hf
   split at gN
   ·rename_i n hn
    cases gN;have rx:=a0q he hy;obtain ⟨fs,hu,iT⟩:=b5i hf;simp only [bH] at gR;refine a30 (s:=Instr.fieldAt t (a.eval x) f) ?_;split at gR
    ·rename_i id o hx
     rw [hx] at rx;simp only [R] at rx;obtain ⟨b,o',z,hm,e⟩:=rx;cases gR;refine ⟨_,by simp [Instr.fieldAt,run_underlying hu,iT,e,Instr.sureAddr,b5B hn];rfl,?_⟩;simp only [R];exact ⟨b,o',z,hm,by simp [Nat.add_assoc]⟩
    ·rename_i cs o hx
     rw [hx] at rx;simp only [R,RP] at rx;obtain ⟨b,o',e,hc⟩:=rx;cases gR;refine ⟨_,by simp [Instr.fieldAt,run_underlying hu,iT,e,Instr.sureAddr,b5B hn];rfl,?_⟩;simp only [R,RP];exact ⟨b,o',by simp [Nat.add_assoc],hc⟩
    ·simp at gR
   ·simp at gN
  ·simp at gN
 case field t x f =>
  split at gN
  ·rename_i y fd hy hf
   split at gN
   ·rename_i n hn
    cases gN;have rx:=a0q he hy;obtain ⟨fs,hu,iT⟩:=b5i hf;simp only [bH] at gR;refine a30 (s:=Instr.field t (a.eval x) f) ?_;split at gR
    ·rename_i cs hx
     rw [hx] at rx;simp only [R] at rx;obtain ⟨us,e,hr⟩:=rx;obtain ⟨v,h1,h2⟩:=b5J hn gR hr w;exact ⟨v,by simp [Instr.field,run_underlying hu,iT,e,asAgg,h1],h2⟩
    ·simp at gR
   ·simp at gN
  ·simp at gN
 case indexAddr t x i =>
  split at gN
  ·rename_i off ho
   split at gN
   ·rename_i y hy
    cases gN;have rx:=a0q he hy;obtain ⟨len,e,k,n,s,hu,rfl,hs,hb,rfl⟩:=c4n ho;simp only [bH] at gR;refine a30 (s:=Instr.indexAt t (a.eval x) (a.eval (.const (.int k n)))) ?_;have hc:a.eval (.const (.int k n))=.int k n:=rfl;rw [hc];split at gR
    ·rename_i id o hx
     rw [hx] at rx;simp only [R] at rx;obtain ⟨b,o',z,hm,e⟩:=rx;cases gR;refine ⟨_,by simp [Instr.indexAt,asIntOf,run_underlying hu,e,Instr.sureAddr,hb,a4F hs];rfl,?_⟩;simp only [R];exact ⟨b,o',z,hm,by simp [Nat.add_assoc,a42]⟩
    ·rename_i cs o hx
     rw [hx] at rx;simp only [R,RP] at rx;obtain ⟨b,o',e,hc⟩:=rx;cases gR;refine ⟨_,by simp [Instr.indexAt,asIntOf,run_underlying hu,e,Instr.sureAddr,hb,a4F hs];rfl,?_⟩;simp only [R,RP];exact ⟨b,o',by simp [Nat.add_assoc,a42],hc⟩
    ·simp at gR
   ·simp at gN
  ·split at gN
   ·rename_i y j e hy hj he'
    split at gN
    ·rename_i n hn
     cases gN;simp only [bH] at gR;exact a30 (c1l he' hn (a0q he hy) (a0q he hj) gR w)
    ·simp at gN
   ·simp at gN
 case index t x i =>
  split at gN
  ·rename_i y j hy hj hu
   cases gN;simp only [bH] at gR;exact a30 (c1o hu (a0q he hy) (a0q he hj) gR w)
  ·rename_i y j len e hy hj hu
   split at gN
   ·rename_i n s hn hs
    cases gN;simp only [bH] at gR;have rx:=a0q he hy;have ri:=a0q he hj;refine a30 (s:=Instr.index t (a.eval x) (a.eval i)) ?_;split at gR
    ·rename_i cs kk k hx hi
     rw [hx] at rx;rw [hi] at ri;simp only [R] at rx ri;obtain ⟨us,e1,hr⟩:=rx;split at gR
     ·rename_i hc
      obtain ⟨v,h1,h2⟩:=b5J hn gR hr w;refine ⟨v,?_,h2⟩;rw [e1,ri];simp [Instr.index,asIntOf,run_underlying hu,hc,a4F hs,h1]
     ·simp at gR
    ·simp at gR
   ·simp at gN
  ·simp at gN
 case slice t x lo hi mx =>
  cases mx with
  | some _=>simp at gN
  | none =>
    simp only at gN;split at gN
    ·rename_i y l h hy hl hh hu
     cases gN;simp only [bH] at gR;exact a30 (c16 hu (a0q he hy) (b0E he hl) (b0E he hh) gR w)
    ·rename_i y l h e hy hl hh hu
     split at gN
     ·rename_i n hn
      cases gN;simp only [bH] at gR;exact a30 (c4d hu hn (a0q he hy) (b0E he hl) (b0E he hh) gR w)
     ·simp at gN
    ·simp at gN
 case extract x i =>
  obtain ⟨y,hy,e⟩:=map_some gN;cases e;have rx:=a0q he hy;simp only [bH] at gR;split at gR
  ·rename_i vs hx
   rw [hx] at rx;simp only [R] at rx;obtain ⟨us,e,hr⟩:=rx;obtain ⟨u,h1,h2⟩:=a81 hr gR;exact a30 (s:=Instr.extract (a.eval x) i) ⟨u,by simp [Instr.extract,e,h1],h2⟩
  ·simp at gR
 case makeFunc fn first ir =>
  cases fn<;>simp only at gN<;>try (cases gN;done)
  rename_i f;split at gN
  ·rename_i h0
   obtain ⟨l,hl,e⟩:=map_some gN;cases e;simp only [bH] at gR;cases gR;have hr:=a9T he hl;refine a30 (s:=Instr.makeFunc (.func f) (first.map a.eval) (ir.map a.eval)) ⟨.func (.func f) #[] (ir.map a.eval),?_,?_⟩
   ·have:first=#[]:=Array.eq_empty_of_size_eq_zero h0
    simp [Instr.makeFunc,this]
   ·simp only [R]
    exact ⟨_,by apply congrArg;apply Array.ext';simp,hr⟩
  ·simp at gN
 case call c =>
  obtain ⟨callee,args,types⟩:=c;cases callee with
  | invoke _ _=>simp at gN
  | value f=>simp only at gN;split at gN<;>simp at gN
  | builtin b =>
    simp only [a8o] at gN;split at gN
    ·rename_i x hargs
     split at gN
     ·rename_i y t hy ht
      have ha:args=#[x]:=by rw [<- Array.toArray_toList (xs:=args),hargs]
      have xM:types=#[t]:=by rw [<- Array.toArray_toList (xs:=types),ht]
      subst ha;subst xM;split at gN
      ·rename_i e hu
       cases gN;simp only [bH] at gR;exact b1t (s:=Builtin.len_ #[t] type #[a.eval x]) (fun _=>by simp [builtin]) (b5x (t:=t) (i:=false) (by simp;exact ⟨e,hu⟩) (a0q he hy) gR w type) dst pos after guard
      ·rename_i hu
       cases gN;simp only [bH] at gR;exact b1t (s:=Builtin.len_ #[t] type #[a.eval x]) (fun _=>by simp [builtin]) (b5x (t:=t) (i:=true) (by simpa using hu) (a0q he hy) gR w type) dst pos after guard
      ·simp at gN
     ·simp at gN
    ·rename_i x r hargs
     split at gN
     ·rename_i y l hy hl
      cases gN;simp only [bH] at gR;have ha:args=(x::r).toArray:=by rw [<- hargs]
      subst ha;refine b1t (s:=Builtin.min_ types type ((x::r).toArray.map a.eval)) (fun _=>by simp [builtin]) ?_ dst pos after guard;obtain ⟨v,h1,h2⟩:=b0W (P:=P) (isMax:=false) w (a0q he hy) (a9T he hl) gR;exact ⟨v,by simpa [Builtin.min_] using h1,h2⟩
     ·simp at gN
    ·rename_i x r hargs
     split at gN
     ·rename_i y l hy hl
      cases gN;simp only [bH] at gR;have ha:args=(x::r).toArray:=by rw [<- hargs]
      subst ha;refine b1t (s:=Builtin.max_ types type ((x::r).toArray.map a.eval)) (fun _=>by simp [builtin]) ?_ dst pos after guard;obtain ⟨v,h1,h2⟩:=b0W (P:=P) (isMax:=true) w (a0q he hy) (a9T he hl) gR;exact ⟨v,by simpa [Builtin.max_] using h1,h2⟩
     ·simp at gN
    ·split at gN
     ·split at gN
      ·split at gN
       ·split at gN<;>simp at gN
       ·simp at gN
      ·simp at gN
     ·simp at gN
    ·split at gN
     ·split at gN
      ·split at gN
       ·split at gN<;>simp at gN
       ·simp at gN
      ·simp at gN
     ·simp at gN
    ·simp at gN
 case load t x=>split at gN<;>simp at gN
 case lookup t m k ok =>
  split at gN
  ·split at gN
   ·split at gN<;>simp at gN
   ·simp at gN
  ·simp at gN
 case alloc t=>obtain ⟨z,_,e⟩:=map_some gN;cases e
 case box t x=>obtain ⟨z,_,e⟩:=map_some gN;cases e
 case buildSlice t len parts =>
  split at gN
  ·split at gN
   ·split at gN<;>simp at gN
   ·simp at gN
  ·simp at gN
 case makeSlice t l c =>
  split at gN
  ·split at gN
   ·split at gN<;>simp at gN
   ·simp at gN
  ·simp at gN
 case makeMap t r=>cases r<;>simp at gN
 case store t x y=>split at gN<;>simp at gN
 case mapUpdate t m k v =>
  split at gN
  ·split at gN<;>simp at gN
  ·simp at gN
 all_goals (cases gN;done)
end
end Go.V
namespace Go.V
section
variable {P:Program} {md:FuncId->a1Q} {μ:Mu} {Φ:W0} {env:q8} {a:Act} {d:D} {g:a0k} {w:World}
theorem a2F.values {b o z:Nat} {cs:List D} (h:a2F μ Φ w b o z (.cells cs)):∃vs,RL μ Φ cs vs/\∀j u,vs[j]?=some u->w.cell? ⟨b,o+j,none⟩=some u:=by
 obtain ⟨arr,e,vs,tail,h1,h2,h3,h4,_⟩:=h;refine ⟨vs,h4,fun j u hu=>?_⟩;rw [b4C h1];have h5:(arr.toList.drop o)[j]?=some u:=by
  rw [h3,List.getElem?_append_left (List.getElem?_eq_some_iff.1 hu).1];exact hu
 rw [List.getElem?_drop,Array.getElem?_toList] at h5;exact h5
theorem a2F.one {b o z:Nat} {cs:List D} (h:a2F μ Φ w b o z (.cells cs)):cs.all V1=true:=by
 obtain ⟨arr,e,vs,tail,h1,h2,h3,h4,h5⟩:=h;exact h5
theorem a7A {cs ds:List D} (h:cs.all V1=true) (hs:∀x∈ds,x∈cs):ds.all V1=true:=by
 rw [List.all_eq_true] at h ⊢;exact fun x hx=>h x (hs x hx)
theorem a8r {cs ds:List D} (h:cs.all V1=true) (k:ds.all V1=true):(cs++ds).all V1=true:=by
 simp only [List.all_append,h,k,Bool.and_self]
theorem b2a {cs new:List D} {off:Nat} (h:cs.all V1=true) (k:new.all V1=true):(a43 cs off new).all V1=true :=
 a8r (a8r (a7A h fun _ hx=>List.mem_of_mem_take hx) k) (a7A h fun _ hx=>List.mem_of_mem_drop hx)
theorem b1K {z:List D} (h:z.all V1=true):∀n,(a2Q z n).all V1=true
 | 0=>rfl
 | n+1=>a8r h (b1K h n)
theorem b5v:∀ {ps:List (Nat×Nat×X7)} {cs out:List D},cs.all V1=true->a4r env cs ps=some out->out.all V1=true
 | [],cs,out,h,e=>by simp [a4r] at e;subst e;exact h
 | (off,size,x)::ps,cs,out,h,e=>by
   simp only [a4r] at e;split at e
   ·rename_i hc
    exact b5v (b2a h hc.2.2) e
   ·simp at e
theorem b2e {t:TypeId} {n:Option Nat} (ht:a6N P t=some n) {off b o:Nat} {cs:List D} (h:a2J n off cs=some d) {us:List Value} (hr:RL μ Φ cs us)
 (hc:∀j u,us[j]?=some u->w.cell? ⟨b,o+j,none⟩=some u):∃v,(Instr.loadAt t (.pointer (some ⟨b,o+off,none⟩))).run P w=.ok v w/\R μ Φ d v:=by
 have hp:=b5j h hr;unfold a6N b4d at ht;cases hu:P.underlying t with
 | none=>simp [hu] at ht
 | some td =>
   have lT:(∃k,a1A P t=some k/\n=some k)->(isAgg t).run P w=.ok true w->∃v,(Instr.loadAt t (.pointer (some ⟨b,o+off,none⟩))).run P w=.ok v w/\R μ Φ d v:=by
    rintro ⟨k,hk,rfl⟩ tV;refine ⟨_,?_,hp.2⟩;have hlen:((us.drop off).take k).length=k:=by have:=hp.1;simp;omega
    have hl:=b2S P w b (o+off) ((us.drop off).take k) (fun j u hj=>by
     rw [List.getElem?_take] at hj;split at hj
     ·rw [List.getElem?_drop] at hj
      rw [Nat.add_assoc];exact hc _ _ hj
     ·simp at hj)
    rw [hlen] at hl;simp only [Instr.loadAt,Instr.sureAddr,loadVar,Sem.run_bind,Sem.run_pure,tV,Result.andThen_ok,if_true,a4F hk,hl]
   have kQ:n=none->(isAgg t).run P w=.ok false w->∃v,(Instr.loadAt t (.pointer (some ⟨b,o+off,none⟩))).run P w=.ok v w/\R μ Φ d v:=by
    rintro rfl tV;obtain ⟨u,h1,h2⟩:=hp;have:=hc _ _ h1;exact ⟨u,by simp [Instr.loadAt,Instr.sureAddr,loadVar,tV,this],h2⟩
   cases td<;>simp only [hu] at ht<;>cases hs:a1A P t<;>simp [hs] at ht<;>first
    | (refine lT ⟨_,hs,ht.symm⟩ ?_;simp [isAgg,run_underlying hu])
    | (refine kQ ht.symm ?_;simp [isAgg,run_underlying hu])
theorem b3x (hs:Y4 μ Φ g w) {x:D} {v:Value} (hx:R μ Φ x v) {cs:List D} (h:a1h g x=some cs) {sz:Nat} (jt:a1O sz x=true) :
 ∃us n,a3i x=some n/\us.length=n*sz/\RL μ Φ cs us/\cs.all V1=true/\((v=.slice none 0 0/\us=[]/\n=0)∨∃a cap,v=.slice (some a) n cap/\n<=cap/\(∀w1:World,w1.heap=w.heap->(loadCells a us.length).run P w1=.ok us.toArray w1)):=by
 have pK:∀ (b o:Nat) (us:List Value),(∀j u,us[j]?=some u->w.cell? ⟨b,o+j,none⟩=some u)->∀w1:World,w1.heap=w.heap->(loadCells ⟨b,o,none⟩ us.length).run P w1=.ok us.toArray w1:=by
  intro b o us h w1 lF;refine b2S P w1 b o us fun j u hj=>?_
  have:=h j u hj;simp only [World.cell?,lF] at this ⊢;exact this
 unfold a1h at h;split at h
 ·simp only [R] at hx
  cases h;exact ⟨[],0,rfl,by simp,by simp [RL],rfl,.inl ⟨hx,rfl,rfl⟩⟩
 ·rename_i sz' xs
  cases h;have:sz'=sz:=by simpa [a1O] using jt
  subst this;simp only [R,RP] at hx;obtain ⟨b,o,cap,sp,e,h1,mE,h2⟩:=hx;obtain ⟨us,u1,u2⟩:=b1N (a8B h2).1;have hlen:us.length=xs.length*sz':=by rw [a2P (aO (μ:=μ) _ _ u1),(a8B h2).2]
  refine ⟨us,xs.length,rfl,?_,aO _ _ u1,b78 (a8B h2).1,.inr ⟨⟨b,o,sp⟩,cap,e,h1,?_⟩⟩
  case refine_2 =>
   rcases mE with rfl | rfl
   ·exact pK b o us fun j u hu=>hs.cellP (u2 j u hu)
   ·have:us=[]:=by apply List.eq_nil_of_length_eq_zero;simpa using hlen
    subst this;intro w1 _;rfl
  rw [a2P (aO (μ:=μ) _ _ u1),(a8B h2).2]
 ·rename_i id off len sz'
  have:sz'=sz:=by simpa [a1O] using jt
  subst this;simp only [R] at hx;obtain ⟨b,o,z,cap,hm,e,jM,hz⟩:=hx;split at h
  ·rename_i cs0 hg
   split at h
   ·rename_i hle
    cases h;obtain ⟨b',o',z',m1,m2,_⟩:=hs.obj id _ hg;rw [hm] at m1;cases m1;obtain ⟨us,u1,u2⟩:=m2.values;refine ⟨(us.drop off).take (len*sz'),len,rfl,?_,b0D _ (a7Z _ u1),a7A (m2.one) (fun x hx=>List.mem_of_mem_drop (List.mem_of_mem_take hx)),.inr ⟨⟨b,o+off,none⟩,cap,e,jM,pK b (o+off) _ ?_⟩⟩
    ·have:=a2P u1
     simp;omega
    intro j u hj;rw [List.getElem?_take] at hj;split at hj
    ·rw [List.getElem?_drop] at hj
     rw [Nat.add_assoc];exact u2 _ _ hj
    ·simp at hj
   ·simp at h
  ·simp at h
 ·simp at h
theorem b8e:∀ {cs:List D} {us:List Value} {l:List UInt8},RL μ Φ cs us->a8L cs=some l->∃ns:List Int,us=ns.map (Value.int .u8)/\l=ns.map fun n=>UInt8.ofNat n.toNat
 | [],us,l,hr,h=>by simp only [RL] at hr;simp [a8L] at h;subst hr;subst h;exact ⟨[],rfl,rfl⟩
 | c::cs,us,l,hr,h=>by
   simp only [RL] at hr;obtain ⟨u,vn,rfl,h1,h2⟩:=hr;simp only [a8L] at h;split at h
   ·rename_i b l' hb hl
    simp at h;subst h;obtain ⟨ns,e1,e2⟩:=b8e h2 hl;unfold b47 at hb;split at hb
    ·rename_i n
     simp only [R] at h1;split at hb
     ·simp at hb
      subst h1;subst hb;subst e1;subst e2;exact ⟨n::ns,rfl,rfl⟩
     ·simp at hb
    ·simp at hb
   ·simp at h
theorem c5e {em:Bool} (n:Nat) {t:TypeId} {k:SK} (ht:a7v P t=some k) (v:Value):(Instr.checkKey em (n+1) t v).run P w=.ok () w:=by
 unfold a7v at ht;split at ht<;>first
  | (rename_i hu;cases v<;>simp [Instr.checkKey,run_underlying hu];done)
  | simp at ht
def a6D (em:Bool) (d:Nat) (xs:Array Value):List Field->Sem Unit
 | []=>pure ()
 | f::fs=>if f.name≠"_" then do
    let v <- part f.type xs f.offset
    Instr.checkKey em d f.type v
    a6D em d xs fs
   else a6D em d xs fs
theorem b58 (em:Bool) (n:Nat):∀ (fs:List Field) (k:Nat) (ks:List SK) (xs:Array Value),a5U P fs k=some ks->k+fs.length<=xs.size->(a6D em (n+1) xs fs).run P w=.ok () w
 | [],k,ks,xs,_,_=>by simp [a6D]
 | f::fs,k,ks,xs,hf,hl=>by
   simp only [a5U] at hf;split at hf
   ·rename_i jK
    split at hf
    ·rename_i kk l hk jd
     simp only [List.length_cons] at hl;have ih:=b58 em n fs (k+1) l xs jd (by omega);have hx:xs[f.offset]?=some xs[k]:=by rw [jK.1];simp
     simp only [a6D,jK.2,ne_eq,not_false_eq_true,if_true,Sem.run_bind,b3M hk hx,Result.andThen_ok,c5e n hk,ih]
    ·simp at hf
   ·simp at hf
theorem b6G:∀ {fs:List Field} {k:Nat} {ks:List SK},a5U P fs k=some ks->ks.length=fs.length
 | [],k,ks,h=>by simp [a5U] at h;subst h;rfl
 | f::fs,k,ks,h=>by
   simp only [a5U] at h;split at h
   ·split at h
    ·rename_i h2
     simp at h;subst h;simp [b6G h2]
    ·simp at h
   ·simp at h
theorem c4X (em:Bool) (n:Nat) {t:TypeId} {fs:Array Field} (us:Array Value) (hu:P.underlying t=some (.struct fs)) (w:World) :
 (Instr.checkKey em (n+1) t (.agg us)).run P w=(a6D em n us fs.toList).run P w:=by
 simp only [Instr.checkKey,Sem.run_bind,run_underlying hu,Result.andThen_ok];rw [<- Array.forIn_toList];generalize fs.toList=l;clear hu;induction l generalizing w with
 | nil=>simp [a6D]
 | cons f l ih =>
   simp only [List.forIn_cons,a6D,Sem.run_bind,Sem.run_ite];split
   ·generalize (part f.type us f.offset).run P w=r1
    cases r1 with
    | halt h w1=>simp
    | ok v w1 =>
      simp only [Result.andThen_ok];generalize (Instr.checkKey em n f.type v).run P w1=r2;cases r2 with
      | halt h w2=>simp
      | ok _ w2=>simp only [Result.andThen_ok,Sem.run_pure];exact ih w2
   ·simp only [Sem.run_pure,Result.andThen_ok];exact ih w
theorem b6D {em:Bool} {t:TypeId} {ks:List SK} (ht:a3y P t=some ks) (us:List Value) (hl:ks.length<=us.length):(Instr.checkKey em 10000 t (.agg us.toArray)).run P w=.ok () w:=by
 unfold a3y at ht;split at ht
 ·rename_i fs hu
  split at ht
  ·have h2:=b58 (P:=P) (w:=w) em 9998 fs.toList 0 ks us.toArray ht (by rw [<- b6G ht];simpa using hl)
   exact (c4X em 9999 us.toArray hu w).trans h2
  ·simp at ht
 ·simp at ht
theorem b1S {t:TypeId} {ks:List SK} (ht:a3y P t=some ks) {k:List D} {us:List Value} (hk:RL μ Φ k us):∀ {cF:List (D×D)} {es:List MapEntry} (i:Nat) {r:Option D},cU μ Φ cF es->a70 ks k cF=some r ->
 (r=none/\(Instr.findAsking t (.agg us.toArray) es i).run P w=.ok none w)∨∃j v x,r=some x/\(Instr.findAsking t (.agg us.toArray) es i).run P w=.ok (some (i+j,v)) w/\R μ Φ x v/\(∃e,es[j]?=some e/\e.val=v/\∃kk,cF[j]?=some (kk,x)/\∃l,kk=.agg l/\a23 ks k l=some true)
 | [],es,i,r,hr,h=>by
   simp only [cU] at hr;subst hr;simp [a70] at h;exact .inl ⟨h.symm,by simp [Instr.findAsking]⟩
 | (k',v')::cF,es,i,r,hr,h=>by
   simp only [cU] at hr;obtain ⟨e,l,rfl,h1,h2,h3⟩:=hr;by_cases pE:∃b',k'=.agg b'
   ·obtain ⟨b',rfl⟩:=pE
    simp only [a70] at h;simp only [R] at h1;obtain ⟨ws,hw,hws⟩:=h1;split at h
    ·rename_i iV
     simp at h;subst h;have:=a9v (w:=w) ht hk hws iV;refine .inr ⟨0,e.val,v',rfl,?_,h2,e,by simp,rfl,_,by simp,b',rfl,iV⟩;simp [Instr.findAsking,hw,this]
    ·rename_i iV
     have:=a9v (w:=w) ht hk hws iV;rcases b1S ht hk (i+1) h3 h with ⟨rfl,q⟩ | ⟨j,v,x,rfl,q,q2,e2,q3,q4,kk,q5,q6⟩
     ·exact .inl ⟨rfl,by simp [Instr.findAsking,hw,this,q]⟩
     ·refine .inr ⟨j+1,v,x,rfl,?_,q2,e2,by simpa using q3,q4,kk,by simpa using q5,q6⟩
      simp only [Instr.findAsking,Sem.run_bind,hw,this,Result.andThen_ok,Bool.false_eq_true,if_false,q];congr 3
      omega
    ·simp at h
   ·cases k'<;>first | exact absurd ⟨_,rfl⟩ pE | (simp [a70] at h)
theorem b3B {t:TypeId} {ks:List SK} (ht:a3y P t=some ks) (us:List Value) (es:List MapEntry) :
 (Instr.findKey t (.agg us.toArray) es).run P w=(Instr.findAsking t (.agg us.toArray) es).run P w:=by
 unfold a3y at ht;split at ht
 ·rename_i fs hu
  cases es with
  | nil=>simp [Instr.findKey,run_underlying hu,Instr.findNow,Instr.findAsking]
  | cons e es=>simp [Instr.findKey,run_underlying hu,Instr.findNow,Instr.sameNow]
 ·simp at ht
theorem c3e {o:Oper} {ro:ROp} (gN:a3p P md o=some (.r ro)) (he:a1S μ Φ env a) (hs:Y4 μ Φ g w) (gR:cO env g ro=some d):a4l P μ Φ (execOp a.eval o) w d:=by
 obtain ⟨dst,op,type,pos,after,guard⟩:=o;cases op<;>simp only [a3p] at gN
 case load t x =>
  split at gN
  ·rename_i y n hy hn
   cases gN;have rx:=a0q he hy;simp only [cO] at gR;refine a30 (s:=Instr.loadAt t (a.eval x)) ?_;split at gR
   ·rename_i id off hx
    rw [hx] at rx;simp only [R] at rx;obtain ⟨b,o,z,hm,e⟩:=rx;split at gR
    ·rename_i cs hg
     obtain ⟨b',o',z',m1,m2,_⟩:=hs.obj id _ hg;rw [hm] at m1;cases m1;obtain ⟨us,u1,u2⟩:=m2.values;rw [e];exact b2e hn gR u1 u2
    ·simp at gR
   ·rename_i cs off hx
    rw [hx] at rx;simp only [R,RP] at rx;obtain ⟨b,o,e,hc⟩:=rx;obtain ⟨us,u1,u2⟩:=b1N hc;rw [e];exact b2e hn gR (aO _ _ u1) (fun j u hu=>hs.cellP (u2 j u hu))
   ·simp at gR
  ·simp at gN
 case lookup t m k ok =>
  split at gN
  ·rename_i m' k' kt et hm hk hu
   split at gN
   ·rename_i zd hz
    split at gN
    ·rename_i ks je
     cases gN;simp only [cO] at gR;have rm:=a0q he hm;have rk:=a0q he hk;refine a30 (s:=Instr.lookup t (a.eval m) (a.eval k) ok) ?_;split at gR
     ·rename_i id hx
      rw [hx] at rm;simp only [R] at rm;obtain ⟨b,o,z,hmu,e⟩:=rm;split at gR
      ·rename_i cF hg
       obtain ⟨b',o',z',m1,m2,_⟩:=hs.obj id _ hg;rw [hmu] at m1;cases m1;obtain ⟨es,clock,hb,uZ⟩:=m2;split at gR
       ·rename_i kl iZ
        unfold a9M at iZ;split at iZ
        ·rename_i k0 qG
         split at iZ
         ·rename_i hlen
          simp at iZ;subst iZ;rw [qG] at rk;simp only [R] at rk;obtain ⟨us,ek,hus⟩:=rk;have tN:=b6D (P:=P) (w:=w) (em:=es.isEmpty) je us (by rw [a2P hus,hlen.1];exact Nat.le_refl _);have qB:∃i v,P.info? et=some i/\i.zero=some v/\R μ Φ zd v:=by
           unfold b7e at hz;split at hz
           ·rename_i i hi
            split at hz
            ·rename_i v hv
             exact ⟨i,v,hi,hv,a8W _ _ (b1U hz)⟩
            ·simp at hz
           ·simp at hz
          obtain ⟨iz,zv,hi,qE,pa⟩:=qB;have tM:∀r,(Instr.findAsking kt (.agg us.toArray) es.toList).run P w=.ok r w->(Instr.findKey kt (.agg us.toArray) es.toList).run P w=.ok r w:=fun r hr=>by
           rw [b3B je];exact hr
          have rM:=MapKept.run_getObj_map (P:=P) hb;split at gR
          ·rename_i v hfv
           cases gR;rcases b1S (w:=w) je hus 0 uZ hfv with ⟨h0,_⟩ | ⟨j,v',x,h0,h1,h2,_⟩
           ·simp at h0
           ·simp at h0
            subst h0;have h3:=tM _ h1;cases ok
            ·exact ⟨v',by simp [Instr.lookup,run_underlying hu,e,rM,ek,tN,h3],h2⟩
            ·refine ⟨.tuple #[v',.bool true],by simp [Instr.lookup,run_underlying hu,e,rM,ek,tN,h3],?_⟩
             simp only [if_true,R];exact ⟨[v',.bool true],rfl,by simp only [RL];exact ⟨_,_,rfl,h2,_,_,rfl,by simp only [R],rfl⟩⟩
          ·rename_i hfv
           cases gR;rcases b1S (w:=w) je hus 0 uZ hfv with ⟨_,h1⟩ | ⟨j,v',x,h0,_⟩
           ·have h3:=tM _ h1
            cases ok
            ·exact ⟨zv,by simp [Instr.lookup,run_underlying hu,e,rM,ek,tN,h3,a7C hi qE],pa⟩
            ·refine ⟨.tuple #[zv,.bool false],by simp [Instr.lookup,run_underlying hu,e,rM,ek,tN,h3,a7C hi qE],?_⟩
             simp only [if_true,R];exact ⟨[zv,.bool false],rfl,by simp only [RL];exact ⟨_,_,rfl,pa,_,_,rfl,by simp only [R],rfl⟩⟩
           ·simp at h0
          ·simp at gR
         ·simp at iZ
        ·simp at iZ
       ·simp at gR
      ·simp at gR
     ·simp at gR
    ·simp at gN
   ·simp at gN
  ·simp at gN
 case convert src dst' x =>
  split at gN
  ·simp at gN
  ·rename_i y e hy oP hd
   split at gN
   ·rename_i hu8
    cases gN;simp only [cO] at gR;have rx:=a0q he hy;refine a30 (s:=convert src dst' (a.eval x)) ?_;split at gR
    ·rename_i cs ny jt
     obtain ⟨l,hl,e1⟩:=map_some gR;subst e1;obtain ⟨us,n,_,hlen,u1,_,u2⟩:=b3x hs rx ny jt;obtain ⟨ns,n1,n2⟩:=b8e u1 hl;subst n1;subst n2;rcases u2 with ⟨e2,e3,_⟩ | ⟨ad,cap,e2,_,hc⟩
     ·have:ns=[]:=by simpa using e3
      subst this;refine ⟨.string ByteArray.empty,?_,by simp only [R];rfl⟩;rw [e2,run_convert_bytes_string w src dst' e _ _ _ oP hu8 hd];simp [Conv.bytesToString]
     ·have jM:=hc w rfl
      have hn:(ns.map (Value.int .u8)).length=n:=by omega
      rw [hn] at jM;refine ⟨_,?_,by simp only [R];rfl⟩;rw [e2,run_convert_bytes_string w src dst' e _ _ _ oP hu8 hd,run_bytesToString w _ n cap ns jM,foldl_push_bytes];simp [ByteArray.empty,ByteArray.emptyWithCapacity];rfl
    ·simp at gR
   ·simp at gN
  ·simp at gN
 case move x=>obtain ⟨z,_,e⟩:=map_some gN;cases e
 case assign x=>obtain ⟨z,_,e⟩:=map_some gN;cases e
 case pick c x y=>split at gN<;>simp at gN
 case nilCheck x=>obtain ⟨z,_,e⟩:=map_some gN;cases e
 case binOp op t x y yt=>obtain ⟨z,_,e⟩:=map_some gN;cases e
 case unOp op t x=>obtain ⟨z,_,e⟩:=map_some gN;cases e
 case build t parts =>
  split at gN
  ·split at gN
   ·split at gN<;>simp at gN
   ·simp at gN
  ·simp at gN
 case fieldAddr t x f =>
  split at gN
  ·split at gN<;>simp at gN
  ·simp at gN
 case field t x f =>
  split at gN
  ·split at gN<;>simp at gN
  ·simp at gN
 case indexAddr t x f =>
  split at gN
  ·split at gN<;>simp at gN
  ·split at gN
   ·split at gN<;>simp at gN
   ·simp at gN
 case index t x f =>
  split at gN
  ·simp at gN
  ·split at gN<;>simp at gN
  ·simp at gN
 case slice t x lo hi mx =>
  cases mx with
  | some _=>simp at gN
  | none =>
    simp only at gN;split at gN
    ·simp at gN
    ·split at gN<;>simp at gN
    ·simp at gN
 case extract x i=>obtain ⟨z,_,e⟩:=map_some gN;cases e
 case makeFunc fn first ir =>
  cases fn<;>simp only at gN<;>try (cases gN;done)
  split at gN
  ·obtain ⟨z,_,e⟩:=map_some gN;cases e
  ·simp at gN
 case call c =>
  obtain ⟨callee,args,types⟩:=c;cases callee with
  | invoke _ _=>simp at gN
  | value f=>simp only at gN;split at gN<;>simp at gN
  | builtin b =>
    simp only [a8o] at gN;split at gN
    ·split at gN
     ·split at gN<;>simp at gN
     ·simp at gN
    ·split at gN<;>simp at gN
    ·split at gN<;>simp at gN
    ·split at gN
     ·split at gN
      ·split at gN
       ·split at gN<;>simp at gN
       ·simp at gN
      ·simp at gN
     ·simp at gN
    ·split at gN
     ·split at gN
      ·split at gN
       ·split at gN<;>simp at gN
       ·simp at gN
      ·simp at gN
     ·simp at gN
    ·simp at gN
 case alloc t=>obtain ⟨z,_,e⟩:=map_some gN;cases e
 case box t x=>obtain ⟨z,_,e⟩:=map_some gN;cases e
 case buildSlice t len parts =>
  split at gN
  ·split at gN
   ·split at gN<;>simp at gN
   ·simp at gN
  ·simp at gN
 case makeSlice t l c =>
  split at gN
  ·split at gN
   ·split at gN<;>simp at gN
   ·simp at gN
  ·simp at gN
 case makeMap t r=>cases r<;>simp at gN
 case store t x y=>split at gN<;>simp at gN
 case mapUpdate t m k v =>
  split at gN
  ·split at gN<;>simp at gN
  ·simp at gN
 all_goals (cases gN;done)
theorem b3I:∀ {z:List D} {us:List Value} (n:Nat),aV Φ z us->aV Φ (a2Q z n) (List.replicate n us).flatten
 | z,us,0,_=>by simp [a2Q,aV]
 | z,us,n+1,h=>by
   have app:∀ (ds:List D) (vs:List Value) (es:List D) (ws:List Value),aV Φ ds vs->aV Φ es ws->aV Φ (ds++es) (vs++ws):=by
    intro ds;induction ds with
    | nil=>intro vs es ws h1 h2;simp only [aV] at h1;subst h1;simpa using h2
    | cons d ds ih =>
      intro vs es ws h1 h2;simp only [aV] at h1;obtain ⟨u,vn,rfl,e1,e2⟩:=h1;simp only [List.cons_append,aV];exact ⟨u,vn++ws,rfl,e1,ih _ _ _ e2 h2⟩
   simp only [a2Q,List.replicate_succ,List.flatten_cons];exact app _ _ _ _ h (b3I n h)
theorem b4M (us:List Value) (n:Nat) (h:us.length≠0):((Array.range (n*us.length)).map (us.toArray[· % us.toArray.size]!)).toList=(List.replicate n us).flatten:=by
 apply List.ext_getElem?;intro i;simp only [Array.toList_map,Array.toList_range,List.getElem?_map];by_cases hi:i<n*us.length
 ·have hm:i % us.length<us.length:=Nat.mod_lt _ (by omega)
  rw [List.getElem?_range hi];simp only [Option.map_some,List.size_toArray];have hd:i / us.length<n:=Nat.div_lt_of_lt_mul (by rw [Nat.mul_comm];exact hi);have:∀ (m i:Nat),i<m*us.length->(List.replicate m us).flatten[i]?=us[i % us.length]?:=by
   intro m;induction m with
   | zero=>intro i hi;simp at hi
   | succ m ih =>
     intro i hi;rw [List.replicate_succ,List.flatten_cons];by_cases h1:i<us.length
     ·rw [List.getElem?_append_left h1,Nat.mod_eq_of_lt h1]
     ·have h2:us.length<=i:=by omega
      rw [List.getElem?_append_right h2,ih (i-us.length) (by rw [Nat.add_mul] at hi;omega),Nat.mod_eq_sub_mod h2]
  rw [this n i hi];simp [hm]
 ·have h1:(List.range (n*us.length))[i]?=none:=by rw [List.getElem?_eq_none_iff];simp;omega
  rw [h1,Option.map_none];symm;rw [List.getElem?_eq_none_iff];simp;omega
theorem b7c (w:World) (ob:Obj):(w.alloc ob).heap[w.heap.size]?=some ob:=by
 show (w.heap.push ob)[w.heap.size]?=_
 simp
theorem a8E {μ':Mu} {cs:List D} {e:TypeId} {arr:Array Value} {vs tail:List Value} (h1:arr.toList=vs++tail) (h2:RL μ' Φ cs vs) (h3:cs.all V1=true) :
 a2F μ' Φ (w.alloc (.cells arr e)) w.heap.size 0 arr.size (.cells cs) :=
 ⟨arr,e,vs,tail,b7c _ _,rfl,by simpa using h1,h2,h3⟩
theorem a96 {Φ':W0}:∀ {ds:List D} {vs:List Value},aV Φ' ds vs->vs.length=ds.length
 | [],vs,e=>by simp only [aV] at e;simp [e]
 | d::ds,vs,e=>by
   simp only [aV] at e;obtain ⟨u,us,rfl,_,e3⟩:=e;simp [a96 e3]
theorem b8i {n:Nat} (he:a1S μ Φ env a):∀ {l:List (Nat×Operand)} {ps:List (Nat×X7)},a9r l=some ps ->
 (ps.map fun (i,x)=>(i*n,n,x)).length=(l.map fun (i,x)=>(i,a.eval x)).length /\
 ∀ (j:Nat) (p:Nat×Nat×X7) (q:Nat×Value),(ps.map fun (i,x)=>(i*n,n,x))[j]?=some p->(l.map fun (i,x)=>(i,a.eval x))[j]?=some q ->
   (fun i=>some (i*n,n)) q.1=some (p.1,p.2.1)/\R μ Φ (env.ev p.2.2) q.2
 | [],ps,h=>by simp [a9r] at h;subst h;simp
 | (i,x)::l,ps,h=>by
   simp only [a9r] at h;split at h
   ·rename_i y l' hy hl
    simp at h;subst h;have ih:=b8i (n:=n) he hl;refine ⟨by simpa using ih.1,?_⟩;intro j p q hp hq;cases j with
    | zero =>
      simp at hp hq;subst hp;subst hq;exact ⟨rfl,a0q he hy⟩
    | succ j=>exact ih.2 j p q (by simpa using hp) (by simpa using hq)
   ·simp at h
theorem b8D {n:Int} (h1:0<=n) (h2:n<2 ^ 62):IntKind.i64.wrap n=n:=IntWalk.i64_in n (by omega)
theorem c48 {o:Oper} {ao:AOp} (gN:a3p P md o=some (.a ao)) (he:a1S μ Φ env a) {vo:Y1} {m:a0f} (gR:dW env ao=some (vo,m)) (w:World) (id:Nat) (gX:μ id=none) :
 ∃v ob z,(execOp a.eval o).run P w=.ok (.value v) (w.alloc ob)/\a2F (a12 μ id (w.heap.size,0,z)) Φ (w.alloc ob) w.heap.size 0 z vo/\R (a12 μ id (w.heap.size,0,z)) Φ (m.at id) v:=by
 have hm:∀z,a12 μ id (w.heap.size,0,z) id=some (w.heap.size,0,z):=fun z=>by simp [a12]
 have hle:∀z,μ.le (a12 μ id (w.heap.size,0,z)):=fun z=>a7E gX
 obtain ⟨dst,op,type,pos,after,guard⟩:=o;cases op<;>simp only [a3p] at gN
 case alloc t =>
  obtain ⟨z,hz,e⟩:=map_some gN;cases e;simp only [dW] at gR;cases gR;obtain ⟨i,v,hi,hv,hr,iS⟩:=a9A (Φ:=Φ) hz;refine ⟨.pointer (some ⟨w.heap.size,0,none⟩),.cells v.cells t,v.cells.size,?_,a8E (vs:=v.cells.toList) (tail:=[]) (by simp) (aO _ _ hr) iS,?_⟩
  ·simp only [execOp,Instr.alloc,Sem.run_bind,a7C hi hv,Result.andThen_ok,newVar,newRow,run_newObj,Sem.run_pure]
   rfl
  ·simp only [a0f.at,R]
   exact ⟨_,_,_,hm _,rfl⟩
 case box t x =>
  obtain ⟨y,hy,e⟩:=map_some gN;cases e;simp only [dW] at gR;split at gR
  ·rename_i gU
   cases gR;obtain ⟨h1,h2⟩:=b26 (a0q he hy) gU;refine ⟨.pointer (some ⟨w.heap.size,0,none⟩),.cells (a.eval x).cells t,(a.eval x).cells.size,?_,a8E (vs:=(a.eval x).cells.toList) (tail:=[]) (by simp) (bB (hle _) (W0.le_refl _) _ _ h1) gU,?_⟩
   ·simp only [execOp,Instr.box,Sem.run_bind,newVar,newRow,run_newObj,Result.andThen_ok,Sem.run_pure]
    rfl
   ·simp only [a0f.at,R]
    exact ⟨_,_,_,hm _,rfl⟩
  ·simp at gR
 case buildSlice t len parts =>
  split at gN
  ·rename_i e l jR hl
   split at gN
   ·rename_i n z hn hz
    split at gN
    ·rename_i hc
     cases gN;simp only [dW] at gR;obtain ⟨cs,ny,e1⟩:=map_some gR;cases e1;obtain ⟨i,zv,hi,qE,pa,iS⟩:=a9A (Φ:=Φ) hz;have qH:P.underlying t=some (.slice e):=by
      unfold a4A at jR;split at jR
      ·rename_i hu;simp at jR;rw [hu,jR]
      ·simp at jR
     obtain ⟨p1,p2⟩:=b8i (n:=n) he hl;have sk:zv.cells.toList.length=n:=by rw [a96 pa,hc.1]
     obtain ⟨ws,w1,w2,w3⟩:=b3m (μ:=μ) (Φ:=Φ) (fun i=>some (i*n,n)) _ _ (a2Q z len) cs (List.replicate len zv.cells.toList).flatten p1 p2 (aO _ _ (b3I len pa)) ny;have kM:∀ (zz:Array Value),(len*n=0/\zz=#[]∨len*n≠0/\zz=zv.cells)->((Array.range (len*n)).map (zz[· % zz.size]!))=(List.replicate len zv.cells.toList).flatten.toArray:=by
      intro zz hzz;apply Array.ext';rcases hzz with ⟨h0,rfl⟩ | ⟨h0,rfl⟩
      ·rw [h0]
       have:(List.replicate len zv.cells.toList).flatten=[]:=by
        apply List.eq_nil_of_length_eq_zero;rw [List.length_flatten];simp [sk];exact h0
       simp [this]
      ·have iw:zv.cells.toList.length≠0:=by
        intro h;apply h0;rw [<- sk,h];simp
       have:=b4M zv.cells.toList len iw;rw [sk] at this;simpa using this
     refine ⟨.slice (some ⟨w.heap.size,0,none⟩) len len,.cells ws.toArray e,ws.toArray.size,?_,a8E (vs:=ws) (tail:=[]) (by simp) (bB (hle _) (W0.le_refl _) _ _ w2) (b5v (b1K iS len) ny),?_⟩
     ·have xp:¬ (len*n>2 ^ 24):=by omega
      have jE:(parts.map fun (i,x)=>(i,a.eval x)).toList=parts.toList.map fun (i,x)=>(i,a.eval x):=Array.toList_map
      simp only [execOp,Instr.buildSlice,Sem.run_bind,run_underlying qH,Result.andThen_ok,a4F hn,xp,if_false,Sem.run_pure,jE];by_cases h0:len*n=0
      ·rw [if_pos h0]
       simp only [Sem.run_pure,Result.andThen_ok,kM #[] (.inl ⟨h0,rfl⟩),w1,Sem.run_bind,newRow,run_newObj];rfl
      ·rw [if_neg h0]
       simp only [Sem.run_bind,a7C hi qE,Sem.run_pure,Result.andThen_ok,kM zv.cells (.inr ⟨h0,rfl⟩),w1,newRow,run_newObj];rfl
     ·simp only [a0f.at,R]
      refine ⟨_,_,_,len,hm _,rfl,Nat.le_refl _,?_⟩;have:ws.length=len*n:=by
       rw [w3,List.length_flatten];simp [sk]
      simp [this]
    ·simp at gN
   ·simp at gN
  ·simp at gN
 case makeSlice t lx cx =>
  split at gN
  ·rename_i e l c jR hl hc
   split at gN
   ·rename_i i z hi hz
    split at gN
    ·rename_i sk
     cases gN;simp only [dW] at gR;split at gR
     ·rename_i n mm hn hmm
      split at gR
      ·rename_i hcond
       obtain ⟨c1,c2,c3,c4⟩:=hcond;cases gR;have rl:=a0q he hl;have rc:=a0q he hc;rw [hn] at rl;rw [hmm] at rc;simp only [R] at rl rc;obtain ⟨i',zv,iD,qE,pa,iS⟩:=a9A (Φ:=Φ) hz;rw [hi] at iD;cases iD;have qH:P.underlying t=some (.slice e):=by
        unfold a4A at jR;split at jR
        ·rename_i hu;simp at jR;rw [hu,jR]
        ·simp at jR
       have jt:a1A P e=some i.size:=by simp [a1A,hi]
       have rO:zv.cells.toList.length=i.size:=by rw [a96 pa,sk]
       obtain ⟨nn,rfl⟩:=Int.eq_ofNat_of_zero_le c1;obtain ⟨mn,rfl⟩:=Int.eq_ofNat_of_zero_le (show 0<=mm by omega);have qZ:nn<=mn:=by omega
       have lF:IntKind.i64.wrap (nn:Int)=nn:=b8D (by omega) (by omega);have rY:IntKind.i64.wrap (mn:Int)=mn:=b8D (by omega) (by omega);have kM:∀ (zz:Array Value),(mn*i.size=0/\zz=#[]∨mn*i.size≠0/\zz=zv.cells)->((Array.range (mn*i.size)).map (zz[· % zz.size]!))=(List.replicate mn zv.cells.toList).flatten.toArray:=by
        intro zz hzz;apply Array.ext';rcases hzz with ⟨h0,rfl⟩ | ⟨h0,rfl⟩
        ·rw [h0]
         have:(List.replicate mn zv.cells.toList).flatten=[]:=by
          apply List.eq_nil_of_length_eq_zero;rw [List.length_flatten];simp [rO];exact h0
         simp [this]
        ·have iw:zv.cells.toList.length≠0:=by
          intro h;apply h0;rw [<- rO,h];simp
         have:=b4M zv.cells.toList mn iw;rw [rO] at this;simpa using this
       have hflen:(List.replicate mn zv.cells.toList).flatten.length=mn*i.size:=by
        rw [List.length_flatten];simp [rO]
       refine ⟨.slice (some ⟨w.heap.size,0,none⟩) nn mn,.cells (List.replicate mn zv.cells.toList).flatten.toArray e,_,?_,
        a8E (vs:=(List.replicate nn zv.cells.toList).flatten) (tail:=(List.replicate (mn-nn) zv.cells.toList).flatten) ?_ (aO _ _ (b3I nn pa)) (b1K iS nn),?_⟩
       ·have xp:¬ ((i.bytes:Int)*(mn:Int)>2 ^ 48):=by omega
        have t1:(decide ((mn:Int)<0)||decide ((i.bytes:Int)*(mn:Int)>2 ^ 48))=false:=by simp;omega
        have nH:¬ (((decide ((mn:Int)<0)||decide ((i.bytes:Int)*(mn:Int)>2 ^ 48))||decide ((nn:Int)<0)||decide ((nn:Int)>(mn:Int)))=true):=by
         rw [t1];simp;omega
        simp only [execOp,Instr.makeSlice,Sem.run_bind,run_underlying qH,Result.andThen_ok,rl,rc,asInt,asIntOf,Sem.run_pure,typeInfo,run_program,hi,lF,rY,nH,Sem.run_ite];rw [if_neg (by simp)];simp only [Result.andThen_ok,run_askRoom,Int.toNat_natCast,a4F jt];by_cases h0:mn*i.size=0
        ·simp only [h0,if_true,Sem.run_pure,Result.andThen_ok,newRow,run_newObj,Sem.run_bind]
         have:=kM #[] (.inl ⟨h0,rfl⟩);rw [h0] at this;rw [this];rfl
        ·simp only [h0,if_false,Sem.run_bind,a7C hi qE,Sem.run_pure,Result.andThen_ok,kM zv.cells (.inr ⟨h0,rfl⟩),newRow,run_newObj]
         rfl
       ·simp only
        rw [<- List.flatten_append,List.replicate_append_replicate];congr 2
        omega
       ·simp only [a0f.at,R,Int.toNat_natCast]
        refine ⟨_,_,_,mn,hm _,rfl,qZ,?_⟩;simp [hflen]
      ·simp at gR
     ·simp at gR
    ·simp at gN
   ·simp at gN
  ·simp at gN
 case makeMap t r =>
  cases r with
  | some _=>simp at gN
  | none =>
    simp at gN;subst gN;simp only [dW] at gR;cases gR;refine ⟨.map (some w.heap.size),.map #[] 0,0,?_,⟨#[],0,b7c _ _,by simp [cU]⟩,?_⟩
    ·simp only [execOp,Instr.makeMap,Option.map_none,Sem.run_bind,Sem.run_pure,Result.andThen_ok,run_newObj]
     rfl
    ·simp only [a0f.at,R]
     exact ⟨_,_,_,hm _,rfl⟩
 case move x=>obtain ⟨z,_,e⟩:=map_some gN;cases e
 case assign x=>obtain ⟨z,_,e⟩:=map_some gN;cases e
 case nilCheck x=>obtain ⟨z,_,e⟩:=map_some gN;cases e
 case binOp op t x y yt=>obtain ⟨z,_,e⟩:=map_some gN;cases e
 case unOp op t x=>obtain ⟨z,_,e⟩:=map_some gN;cases e
 case extract x i=>obtain ⟨z,_,e⟩:=map_some gN;cases e
 case pick c x y=>split at gN<;>simp at gN
 case load t x=>split at gN<;>simp at gN
 case store t x y=>split at gN<;>simp at gN
 case fieldAddr t x f =>
  split at gN
  ·split at gN<;>simp at gN
  ·simp at gN
 case field t x f =>
  split at gN
  ·split at gN<;>simp at gN
  ·simp at gN
 case indexAddr t x f =>
  split at gN
  ·split at gN<;>simp at gN
  ·split at gN
   ·split at gN<;>simp at gN
   ·simp at gN
 case mapUpdate t m k v =>
  split at gN
  ·split at gN<;>simp at gN
  ·simp at gN
 case build t parts =>
  split at gN
  ·split at gN
   ·split at gN<;>simp at gN
   ·simp at gN
  ·simp at gN
 case lookup t m k ok =>
  split at gN
  ·split at gN
   ·split at gN<;>simp at gN
   ·simp at gN
  ·simp at gN
 case index t x f =>
  split at gN
  ·simp at gN
  ·split at gN<;>simp at gN
  ·simp at gN
 case convert src dst' x =>
  split at gN
  ·simp at gN
  ·split at gN<;>simp at gN
  ·simp at gN
 case slice t x lo hi mx =>
  cases mx with
  | some _=>simp at gN
  | none =>
    simp only at gN;split at gN
    ·simp at gN
    ·split at gN<;>simp at gN
    ·simp at gN
 case makeFunc fn first ir =>
  cases fn<;>simp only at gN<;>try (cases gN;done)
  split at gN
  ·obtain ⟨z,_,e⟩:=map_some gN;cases e
  ·simp at gN
 case call c =>
  obtain ⟨callee,args,types⟩:=c;cases callee with
  | invoke _ _=>simp at gN
  | value f=>simp only at gN;split at gN<;>simp at gN
  | builtin b =>
    simp only [a8o] at gN;split at gN
    ·split at gN
     ·split at gN<;>simp at gN
     ·simp at gN
    ·split at gN<;>simp at gN
    ·split at gN<;>simp at gN
    ·split at gN
     ·split at gN
      ·split at gN
       ·split at gN<;>simp at gN
       ·simp at gN
      ·simp at gN
     ·simp at gN
    ·split at gN
     ·split at gN
      ·split at gN
       ·split at gN<;>simp at gN
       ·simp at gN
      ·simp at gN
     ·simp at gN
    ·simp at gN
 all_goals (cases gN;done)
theorem b8X {A vs tail new:List Value} {o off:Nat} (h:A.drop o=vs++tail) (hl:off+new.length<=vs.length) :
 (A.take (o+off)++new++A.drop (o+off+new.length)).drop o=(vs.take off++new++vs.drop (off+new.length))++tail:=by
 have hA:o+vs.length<=A.length∨vs=[]:=by
  by_cases hv:vs=[]
  ·exact .inr hv
  ·left
   have:=congrArg List.length h;simp at this;have:0<vs.length:=by cases vs<;>simp at hv ⊢
   omega
 have e1:A.drop (o+off+new.length)=vs.drop (off+new.length)++tail:=by
  rw [Nat.add_assoc,<- List.drop_drop,h,List.drop_append_of_le_length hl]
 have e2:(A.take (o+off)).drop o=vs.take off:=by
  rw [List.drop_take,h];have:o+off-o=off:=by omega
  rw [this,List.take_append_of_le_length (by omega)]
 rcases hA with hA | hA
 ·rw [List.append_assoc,List.drop_append_of_le_length (by simp;omega),e2,e1]
  simp [List.append_assoc]
 ·subst hA
  simp at hl;obtain ⟨rfl,hn⟩:=hl;subst hn;simp at h ⊢;exact h
theorem c5u {o:Oper} {n:Nat} {ad x:X7} (gN:a3p P md o=some (.w n ad x)) (he:a1S μ Φ env a) (hs:Y4 μ Φ g w) {id:Nat} {vo:Y1} (gR:dh env g n ad x=some (id,vo)) :
 ∃w' b o' z vo0,(execOp a.eval o).run P w=.ok .skip w'/\g id=some vo0/\μ id=some (b,o',z)/\a4C b w w'/\a2F μ Φ w' b o' z vo:=by
 obtain ⟨dst,op,type,pos,after,guard⟩:=o;cases op<;>simp only [a3p] at gN
 case store t xa xv =>
  split at gN
  ·rename_i ya yv n0 hya hyv hn
   cases gN;unfold dh at gR;have ra:=a0q he hya;have rv:=a0q he hyv;split at gR
   ·rename_i iA off hx
    rw [hx] at ra;simp only [R] at ra;obtain ⟨b,o',z,hm,e⟩:=ra;split at gR
    ·rename_i cs hg
     simp only at gR;split at gR
     ·rename_i hc
      obtain ⟨c1,c2,c3,c4⟩:=hc;simp at gR;obtain ⟨rfl,rfl⟩:=gR;obtain ⟨b',o'',z',m1,m2,_⟩:=hs.obj iA _ hg;rw [hm] at m1;cases m1;obtain ⟨arr,et,vs,tail,h1,h2,h3,h4,h5⟩:=m2;obtain ⟨d1,d2⟩:=b26 rv c3;have yo:=a2P h4;have uU:=a2P d1;have hlen:=congrArg List.length h3;simp at hlen uU;have gT:o'+off+0+(a.eval xv).cells.toList.length<=arr.size:=by
       simp;omega
      obtain ⟨w',qh,r1,r2,r3,r4,r5⟩:=b09 P b (o'+off) et (a.eval xv).cells.toList 0 w arr h1 d2 gT;refine ⟨w',b,o',z,_,?_,hg,hm,r2,qh,et,_,tail,r3,by rw [r4];exact h2,?_,b2d h4 d1,b2a h5 c3⟩
      ·have jt:¬ ((a.eval xv).cells.size≠n):=by omega
       simp only [execOp,Instr.storeAt,storeVar,e,Instr.sureAddr,Sem.run_bind,Sem.run_pure,Result.andThen_ok,a4F hn,jt,if_false,r1]
      ·rw [r5]
       simp only [Nat.add_zero];exact b8X h3 (by simp;omega)
     ·simp at gR
    ·simp at gR
   ·simp at gR
  ·simp at gN
 case move x=>obtain ⟨z,_,e⟩:=map_some gN;cases e
 case assign x=>obtain ⟨z,_,e⟩:=map_some gN;cases e
 case nilCheck x=>obtain ⟨z,_,e⟩:=map_some gN;cases e
 case binOp op t x y yt=>obtain ⟨z,_,e⟩:=map_some gN;cases e
 case unOp op t x=>obtain ⟨z,_,e⟩:=map_some gN;cases e
 case extract x i=>obtain ⟨z,_,e⟩:=map_some gN;cases e
 case alloc t=>obtain ⟨z,_,e⟩:=map_some gN;cases e
 case box t x=>obtain ⟨z,_,e⟩:=map_some gN;cases e
 case pick c x y=>split at gN<;>simp at gN
 case load t x=>split at gN<;>simp at gN
 case fieldAddr t x f =>
  split at gN
  ·split at gN<;>simp at gN
  ·simp at gN
 case field t x f =>
  split at gN
  ·split at gN<;>simp at gN
  ·simp at gN
 case indexAddr t x f =>
  split at gN
  ·split at gN<;>simp at gN
  ·split at gN
   ·split at gN<;>simp at gN
   ·simp at gN
 case mapUpdate t m k v =>
  split at gN
  ·split at gN<;>simp at gN
  ·simp at gN
 case build t parts =>
  split at gN
  ·split at gN
   ·split at gN<;>simp at gN
   ·simp at gN
  ·simp at gN
 case buildSlice t len parts =>
  split at gN
  ·split at gN
   ·split at gN<;>simp at gN
   ·simp at gN
  ·simp at gN
 case makeSlice t l c =>
  split at gN
  ·split at gN
   ·split at gN<;>simp at gN
   ·simp at gN
  ·simp at gN
 case lookup t m k ok =>
  split at gN
  ·split at gN
   ·split at gN<;>simp at gN
   ·simp at gN
  ·simp at gN
 case index t x f =>
  split at gN
  ·simp at gN
  ·split at gN<;>simp at gN
  ·simp at gN
 case convert src dst' x =>
  split at gN
  ·simp at gN
  ·split at gN<;>simp at gN
  ·simp at gN
 case slice t x lo hi mx =>
  cases mx with
  | some _=>simp at gN
  | none =>
    simp only at gN;split at gN
    ·simp at gN
    ·split at gN<;>simp at gN
    ·simp at gN
 case makeFunc fn first ir =>
  cases fn<;>simp only at gN<;>try (cases gN;done)
  split at gN
  ·obtain ⟨z,_,e⟩:=map_some gN;cases e
  ·simp at gN
 case makeMap t r=>cases r<;>simp at gN
 case call c =>
  obtain ⟨callee,args,types⟩:=c;cases callee with
  | invoke _ _=>simp at gN
  | value f=>simp only at gN;split at gN<;>simp at gN
  | builtin b =>
    simp only [a8o] at gN;split at gN
    ·split at gN
     ·split at gN<;>simp at gN
     ·simp at gN
    ·split at gN<;>simp at gN
    ·split at gN<;>simp at gN
    ·split at gN
     ·split at gN
      ·split at gN
       ·split at gN<;>simp at gN
       ·simp at gN
      ·simp at gN
     ·simp at gN
    ·split at gN
     ·split at gN
      ·split at gN
       ·split at gN<;>simp at gN
       ·simp at gN
      ·simp at gN
     ·simp at gN
    ·simp at gN
 all_goals (cases gN;done)
end
end Go.V
namespace Go.V
section
variable {P:Program} {md:FuncId->a1Q} {μ:Mu} {Φ:W0} {env:q8} {a:Act} {d:D} {g:a0k} {w:World}
theorem Y4.move (h:Y4 μ Φ g w) {id iA b o o' z:Nat} {vo pf:Y1} (hg:g id=some vo) (gX:μ id=some (b,o,z)) {w':World} (hw:a4C b w w') (hn:μ iA=none) (Bo:g iA=none)
 (nJ:a2F (a12 μ iA (b,o',z)) Φ w' b o' z pf) :
 Y4 (a12 μ iA (b,o',z)) Φ (bo (bo g id none) iA (some pf)) w'/\br μ Φ g w (a12 μ iA (b,o',z)) Φ (bo (bo g id none) iA (some pf)) w' iA (iA+1):=by
 have iw:id≠iA:=fun e=>by subst e;rw [hn] at gX;cases gX
 have oD:a4S μ g b:=⟨id,o,z,by rw [hg];simp,gX⟩
 have mr:Φ b=none:=by
  obtain ⟨b',o',z',e1,_,e3⟩:=h.obj id vo hg;rw [gX] at e1;cases e1;exact e3
 have hle:=a7E (l:=(b,o',z)) hn;have kR:a12 μ iA (b,o',z) iA=some (b,o',z):=by simp [a12]
 have jN:∀i,i≠iA->a12 μ iA (b,o',z) i=μ i:=fun i hi=>by simp [a12,hi]
 have qV:∀i,i≠iA->i≠id->bo (bo g id none) iA (some pf) i=g i:=fun i h1 h2=>by simp [bo,h1,h2]
 have rI:bo (bo g id none) iA (some pf) id=none:=by simp [bo,iw]
 have zn:∀i o1 z1,i≠iA->i≠id->g i≠none->μ i=some (b,o1,z1)->False:=by
  intro i o1 z1 h1 h2 h3 h4;exact h2 (h.inj i id _ _ _ _ _ h3 (by rw [hg];simp) h4 gX)
 refine ⟨⟨?_,?_,?_⟩,⟨hle,?_,W0.le_refl _,hw.os,hw.tape,hw.output,by rw [hw.size];exact Nat.le_refl _,?_,fun _ _ h=>.inl h,?_⟩⟩
 ·intro b' ob e
  rw [hw.block b' (fun e'=>by subst e';rw [mr] at e;cases e)];exact h.df b' ob e
 ·intro i ob e
  by_cases hi:i=iA
  ·subst hi
   simp only [bo,if_true] at e;cases e;exact ⟨b,o',z,kR,nJ,mr⟩
  ·by_cases oK:i=id
   ·subst oK;rw [rI] at e;cases e
   ·rw [qV i hi oK] at e
    obtain ⟨b',o1,z1,e1,e2,e3⟩:=h.obj i ob e;refine ⟨b',o1,z1,by rw [jN i hi];exact e1,a8p (hw.block b' ?_) (b0b hle (W0.le_refl _) e2),e3⟩;intro e';subst e';exact zn i o1 z1 hi oK (by rw [e];simp) e1
 ·intro i i' b1 o1 z1 o2 z2 h1 h2 e1 e2
  by_cases hi:i=iA
  ·by_cases iD:i'=iA
   ·rw [hi,iD]
   ·exfalso
    subst hi;rw [kR] at e1;cases e1;rw [jN i' iD] at e2;by_cases uf:i'=id
    ·subst uf;exact h2 rI
    ·rw [qV i' iD uf] at h2
     exact zn i' _ _ iD uf h2 e2
  ·by_cases iD:i'=iA
   ·exfalso
    subst iD;rw [kR] at e2;cases e2;rw [jN i hi] at e1;by_cases uf:i=id
    ·subst uf;exact h1 rI
    ·rw [qV i hi uf] at h1
     exact zn i _ _ hi uf h1 e1
   ·rw [jN i hi] at e1
    rw [jN i' iD] at e2;have f:∀j,j≠iA->bo (bo g id none) iA (some pf) j≠none->g j≠none:=by
     intro j h1 h2;by_cases h3:j=id
     ·subst h3;exact absurd rI h2
     ·rwa [qV j h1 h3] at h2
    exact h.inj i i' _ _ _ _ _ (f i hi h1) (f i' iD h2) e1 e2
 ·intro i hi
  exact jN i (by omega)
 ·intro b' _ jH
  exact hw.block b' (fun e=>by subst e;exact jH oD)
 ·rintro b' ⟨i,o2,z2,h1,h2⟩
  by_cases hi:i=iA
  ·subst hi
   rw [kR] at h2;cases h2;exact .inl oD
  ·rw [jN i hi] at h2
   refine .inl ⟨i,o2,z2,?_,h2⟩;by_cases h3:i=id
   ·subst h3;rw [hg];simp
   ·rwa [qV i hi h3] at h1
theorem br.fX {g':a0k} (hg:∀id ob,g' id=some ob->g id=some ob) (n:Nat) {w':World} (h1:w'.heap=w.heap) (h2:w'.os=w.os) (h3:w'.tape=w.tape) (h4:w'.output=w.output) :
 br μ Φ g w μ Φ g' w' n n:=by
 refine ⟨Mu.le_refl _,fun _ _=>rfl,W0.le_refl _,h2,h3,h4,by rw [h1];exact Nat.le_refl _,fun _ _ _=>by rw [h1],fun _ _ h=>.inl h,?_⟩;rintro b ⟨q,o,zz,h1,h2⟩;refine .inl ⟨q,o,zz,?_,h2⟩;intro h3;cases hq:g' q with
 | none=>exact h1 hq
 | some ob=>rw [hg _ _ hq] at h3;cases h3
theorem b8Z (s:k4) (id:Nat) (o:Option Y1) (ob:Y1) (h:id<s.next) (i:Nat):((s.set id o).push ob).get i=bo (bo s.get id o) s.next (some ob) i:=by
 rw [k4.aM,k4.aX];simp only [bo,k4.aq];by_cases h1:i=s.next
 ·simp [h1]
 ·by_cases h2:i=id
  ·subst h2;simp [h1,h]
  ·simp [h1,h2]
theorem b6U (s:k4) (ob:Y1) (i:Nat):(s.push ob).get i=bo s.get s.next (some ob) i:=by
 rw [k4.aM];rfl
theorem b1R (s:k4) (id:Nat) (o:Option Y1) (h:id<s.next) (i:Nat):(s.set id o).get i=bo s.get id o i:=by
 rw [k4.aX];simp only [bo];by_cases h2:i=id
 ·simp [h2,h]
 ·simp [h2]
theorem a8F {s:k4} {id:Nat} {ob:Y1} (h:s.get id=some ob):id<s.next:=by
 unfold k4.get at h;split at h
 ·assumption
 ·simp at h
theorem c1W (size n:Nat) (b o l c:Nat) (us:List Value) (hl:us.length=n*size) (h:∀j u,us[j]?=some u->w.cell? ⟨b,o+j,none⟩=some u) :
 (Builtin.firstCells size n (.slice (some ⟨b,o,none⟩) l c)).run P w=.ok us.toArray w:=by
 simp only [Builtin.firstCells];rw [<- hl];exact b2S P w b o us h
theorem c1c (jO cap bytes:Nat) (h1:cap<jO) (h2:jO*bytes<=2 ^ 45) (h3:bytes<=2 ^ 20):¬ (Builtin.nextslicecap jO cap*bytes>2 ^ 48):=by
 have h4:Builtin.nextslicecap jO cap<=2*jO+192*4:=by
  unfold Builtin.nextslicecap;split
  ·omega
  ·split
   ·omega
   ·have:∀ (r c:Nat),c<=2*jO->Builtin.growBy jO r c<=2*jO+192*4:=by
     intro r;induction r with
     | zero=>intro c hc;simp [Builtin.growBy];omega
     | succ r ih =>
       intro c hc;simp only [Builtin.growBy];split
       ·omega
       ·by_cases h5:c+(c+768) / 4<=2*jO
        ·exact ih _ h5
        ·have:∀ (r c:Nat),jO<=c->Builtin.growBy jO r c=c:=by
          intro r c hc;cases r with
          | zero=>rfl
          | succ r=>simp [Builtin.growBy,hc]
         rw [this r _ (by omega)];omega
    exact this 4 cap (by omega)
 have h5:Builtin.nextslicecap jO cap*bytes<=(2*jO+192*4)*bytes:=Nat.mul_le_mul_right _ h4;have h6:(2*jO+192*4)*bytes=2*(jO*bytes)+768*bytes:=by rw [Nat.add_mul,Nat.mul_assoc]
 omega
theorem c1Q {t u e e':TypeId} {i:TypeInfo} {z:Value} (ht:P.underlying t=some (.slice e)) (hu:P.underlying u=some (.slice e')) (hi:P.info? e=some i) (hz:i.zero=some z)
 {base:Option Addr} {ij iG n:Nat} {vx:Value} (hx:(Builtin.lenOf vx).run P w=.ok n w) (pJ:iG<ij+n) (hb:(ij+n)*i.bytes<=2 ^ 45) (ja:i.bytes<=2 ^ 20) (jU:ij+n<=2 ^ 45)
 {bC new:List Value} (hold:(Builtin.firstCells i.size ij (.slice base ij iG)).run P w.drew=.ok bC.toArray w.drew)
 (lQ:(Builtin.firstCells i.size n vx).run P w.drew=.ok new.toArray w.drew) (ty:TypeId) :
 ∃cap rest,ij+n<=cap/\rest=(Builtin.zeroCells z.cells (cap-(ij+n))).toList /\
  (Builtin.append_ #[t,u] ty #[.slice base ij iG,vx]).run P w=.ok (.slice (some ⟨w.heap.size,0,none⟩) (ij+n) cap) (w.drew.alloc (.cells (bC++new++rest).toArray e)):=by
 refine ⟨(Question.appendCap (ij+n) iG e).cut (w.tape w.drawn (Question.appendCap (ij+n) iG e)),_,by simp [Question.cut],rfl,?_⟩;have h1:¬ (ij+n<=iG):=by omega
 have h2:¬ (9223372036854775807<(ij:Int)+(n:Int)/\i.bytes=0):=by omega
 have h3:=c1c (ij+n) iG i.bytes pJ hb ja;simp [Builtin.append_,run_underlying ht,run_underlying hu,sizeOf,typeInfo,zeroValue,hi,hz,hx,h1,h3,Question.forced,newRow];rw [if_neg h2,hold];simp only [Result.andThen_ok,lQ];congr 2
 congr 1
 apply Array.ext';simp
theorem c32 {t u e e':TypeId} {i:TypeInfo} (ht:P.underlying t=some (.slice e)) (hu:P.underlying u=some (.slice e')) (hi:P.info? e=some i)
 {b o ij iG n:Nat} {vx:Value} (hx:(Builtin.lenOf vx).run P w=.ok n w) (jh:ij+n<=iG) {new:List Value} (lQ:(Builtin.firstCells i.size n vx).run P w=.ok new.toArray w)
 {w':World} (jm:(storeCells ⟨b,o+ij*i.size,none⟩ new).run P w=.ok () w') (ty:TypeId) :
 (Builtin.append_ #[t,u] ty #[.slice (some ⟨b,o,none⟩) ij iG,vx]).run P w=.ok (.slice (some ⟨b,o,none⟩) (ij+n) iG) w':=by
 simp [Builtin.append_,run_underlying ht,run_underlying hu,sizeOf,typeInfo,hi,hx,jh,lQ,a42,jm]
theorem c4K {t u e e':TypeId} {i:TypeInfo} (ht:P.underlying t=some (.slice e)) (hu:P.underlying u=some (.slice e')) (hi:P.info? e=some i)
 {base:Option Addr} {ij iG:Nat} {vx:Value} (hx:(Builtin.lenOf vx).run P w=.ok 0 w) (jh:ij<=iG) (lQ:(Builtin.firstCells i.size 0 vx).run P w=.ok #[] w) (ty:TypeId) :
 (Builtin.append_ #[t,u] ty #[.slice base ij iG,vx]).run P w=.ok (.slice base ij iG) w:=by
 cases base<;>simp [Builtin.append_,run_underlying ht,run_underlying hu,sizeOf,typeInfo,hi,hx,jh,lQ,storeCells]
theorem c1F {t u e e':TypeId} {i:TypeInfo} {zl:List D} (ht:P.underlying t=some (.slice e)) (hu:P.underlying u=some (.slice e')) (hi:P.info? e=some i) (hz:a6v P e=some zl) (jt:i.size≠0) (hzlen:zl.length=i.size)
 {st iE:k4} (hs:Y4 μ Φ st.get w) (wu:iE.next=st.next∨μ st.next=none) {s x:D} {vs vx:Value} (rs:R μ Φ s vs) (rx:R μ Φ x vx) (gR:Z6 i.size i.bytes s x st=some (d,iE)) (ty:TypeId) :
 ∃v w' μ',(Builtin.append_ #[t,u] ty #[vs,vx]).run P w=.ok v w'/\Y4 μ' Φ iE.get w'/\br μ Φ st.get w μ' Φ iE.get w' st.next iE.next/\R μ' Φ d v:=by
 obtain ⟨i',zv,iD,qE,pa,_⟩:=a9A (Φ:=Φ) hz;rw [hi] at iD;cases iD;unfold Z6 at gR;split at gR
 ·rename_i new n gV hlen
  split at gR
  ·rename_i hc
   simp only [Bool.and_eq_true,decide_eq_true_eq] at hc;obtain ⟨oP,hby⟩:=hc;obtain ⟨us,n',jH,mZ,hur,iS,hus⟩:=b3x hs rx gV oP;rw [hlen] at jH;cases jH;have hx:∀w,(Builtin.lenOf vx).run P w=.ok n w:=by
    intro w;rcases hus with ⟨e1,_,e3⟩ | ⟨ad,cap,e1,_⟩
    ·rw [e1,e3];rfl
    ·rw [e1];rfl
   have lQ:∀w1:World,w1.heap=w.heap->(Builtin.firstCells i.size n vx).run P w1=.ok us.toArray w1:=by
    intro w1 lF;rcases hus with ⟨e1,e2,e3⟩ | ⟨ad,cap,e1,_,hcell⟩
    ·rw [e1,e2];rfl
    ·rw [e1]
     simp only [Builtin.firstCells];rw [<- mZ];exact hcell w1 lF
   have grow:∀ (g':a0k) (base:Option Addr) (ij iG:Nat) (bC:List D) (ov:List Value),vs=.slice base ij iG->iG<ij+n->(ij+n)*i.bytes<=2 ^ 45->ij+n<=2 ^ 45 ->
    RL μ Φ bC ov->bC.all V1=true->ov.length=ij*i.size->(∀w1:World,w1.heap=w.heap->(Builtin.firstCells i.size ij (.slice base ij iG)).run P w1=.ok ov.toArray w1) ->
    (∀id ob,g' id=some ob->st.get id=some ob)->(∀j,iE.get j=bo g' st.next (some (.cells (bC++new))) j)->iE.next=st.next+1->d=.arr st.next 0 (ij+n) i.size ->
    ∃v w' μ',(Builtin.append_ #[t,u] ty #[vs,vx]).run P w=.ok v w'/\Y4 μ' Φ iE.get w'/\br μ Φ st.get w μ' Φ iE.get w' st.next iE.next/\R μ' Φ d v:=by
    intro g' base ij iG bC ov hvs hgr lU jU hro hoo uC hold hg' hst' iL hd;have gY:μ st.next=none:=wu.resolve_left (by omega);obtain ⟨cap,rest,hcap,jY,im⟩:=c1Q (w:=w) (base:=base) (iG:=iG) ht hu hi qE (hx w) hgr lU hby jU (hold w.drew rfl) (lQ w.drew rfl) ty;have mD:Y4 μ Φ g' w.drew:=(hs.fX hg').drew _;have hle:=a7E (l:=(w.drew.heap.size,0,(bC++new).length+rest.length)) gY;have Bo:g' st.next=none:=by
     cases hq:g' st.next with
     | none=>rfl
     | some ob=>have:=hg' _ _ hq;rw [k4.get_none _ _ (Nat.le_refl _)] at this;cases this
    have nt:=a2P hur;have hol2:=a2P hro;have sA:=mD.push (ob:=.cells (ov++us++rest).toArray e) (vo:=.cells (bC++new)) (z:=(ov++us++rest).toArray.size) gY Bo
     (a8E (w:=w.drew) (vs:=ov++us) (tail:=rest) (by simp) (bB (a7E gY) (W0.le_refl _) _ _ (a8n hro hur)) (a8r hoo iS))
    refine ⟨_,_,_,by rw [hvs];exact im,sA.1.congr hst',?_,?_⟩
    ·have he:=sA.2
     have:br μ Φ st.get w μ Φ g' w.drew st.next st.next:=br.fX hg' _ rfl rfl rfl rfl;have h2:=this.trans (Nat.le_refl _) (Nat.le_succ _) he;rw [iL];have kF:iE.get=bo g' st.next (some (.cells (bC++new))):=funext hst';rw [kF];exact h2
    ·rw [hd]
     simp only [R];refine ⟨_,_,_,cap,by simp [a12];rfl,rfl,hcap,?_⟩;have hzc:zv.cells.size=i.size:=by
      have:=a96 pa;simp at this;omega
     have sk:rest.length=(cap-(ij+n))*i.size:=by
      rw [jY];simp [Builtin.zeroCells,hzc]
     simp [uC,mZ,sk];have:(ij+n)*i.size+(cap-(ij+n))*i.size=cap*i.size:=by rw [<- Nat.add_mul];congr 1;omega
     have h2:(ij+n)*i.size=ij*i.size+n*i.size:=Nat.add_mul _ _ _;omega
   have qk:∀ (base:Option Addr) (ij iG:Nat),vs=.slice base ij iG->ij<=iG->n=0->d=s->iE=st ->
    ∃v w' μ',(Builtin.append_ #[t,u] ty #[vs,vx]).run P w=.ok v w'/\Y4 μ' Φ iE.get w'/\br μ Φ st.get w μ' Φ iE.get w' st.next iE.next/\R μ' Φ d v:=by
    intro base ij iG hvs hle mQ hd jm;subst hd;subst jm;have hus0:us=[]:=by
     apply List.eq_nil_of_length_eq_zero;rw [mZ,mQ];simp
    have h1:=lQ w rfl;rw [mQ,hus0] at h1;have h2:=hx w;rw [mQ] at h2;refine ⟨vs,w,μ,?_,hs,br.refl _ _ _ _ _,rs⟩;rw [hvs];exact c4K ht hu hi h2 hle h1 ty
   split at gR
   ·-- onto nil
    simp only [R] at rs;split at gR
    ·rename_i mQ
     cases gR;exact qk none 0 0 rs (Nat.le_refl _) mQ rfl rfl
    ·rename_i mQ
     split at gR
     ·rename_i hb
      cases gR;exact grow st.get none 0 0 [] [] rs (by omega) (by simpa using hb.1) (by simpa using hb.2) (by simp [RL]) rfl (by simp) (fun w1 _=>rfl) (fun _ _ h=>h) (fun j=>b6U st _ j) rfl (by simp)
     ·simp at gR
   ·-- onto a row of its own
    rename_i id off len sz';simp only [R] at rs;obtain ⟨b,o,z,cap,hm,hv,jM,qI⟩:=rs;split at gR
    ·rename_i cs hg
     split at gR
     ·rename_i sE
      obtain ⟨rfl,tG⟩:=sE;split at gR
      ·rename_i mQ
       cases gR;exact qk _ _ _ hv jM mQ rfl rfl
      ·rename_i mQ
       split at gR
       ·rename_i hb
        cases gR;have lM:=a8F hg;obtain ⟨b',o',z',m1,m2,m3⟩:=hs.obj id _ hg;rw [hm] at m1;cases m1;by_cases jh:len+n<=cap
        ·-- in place
         have gY:μ st.next=none:=wu.resolve_left (by simp);obtain ⟨arr,et,wv,tail,q1,q2,q3,q4,q5⟩:=m2;have kY:=a2P q4;have qd:∀v∈us,a6Q v=true:=b0s iS hur;have ru:0<n*i.size:=Nat.mul_pos (Nat.pos_of_ne_zero mQ) (Nat.pos_of_ne_zero jt);have gT:o+off+len*i.size+0+us.length<=arr.size:=by
          rw [mZ,q2];have:(len+n)*i.size<=cap*i.size:=Nat.mul_le_mul_right _ jh;rw [Nat.add_mul] at this;omega
         obtain ⟨w',qh,r1,r2,r3,r4,r5⟩:=b09 P b (o+off+len*i.size) et us 0 w arr q1 qd gT;have im:=c32 (P:=P) (b:=b) (o:=o+off) (ij:=len) (iG:=cap) ht hu hi (hx w) jh (lQ w rfl) r1 ty;have nJ:a2F (a12 μ st.next (b,o+off,z)) Φ w' b (o+off) z (.cells (cs.drop off++new)):=by
          refine ⟨qh,et,wv.drop off++us,tail.drop us.length,r3,by rw [r4];exact q2,?_,bB (a7E gY) (W0.le_refl _) _ _ (a8n (a7Z off q4) hur),a8r (a7A q5 fun _ hx=>List.mem_of_mem_drop hx) iS⟩;rw [r5];simp only [Nat.add_zero];have e1:o+off+len*i.size=o+wv.length:=by omega
          rw [e1];have hA:o+wv.length+us.length<=arr.toList.length:=by simp;omega
          have e2:arr.toList.take (o+wv.length)=arr.toList.take o++wv:=by
           have:arr.toList=arr.toList.take o++(wv++tail):=by rw [<- q3];simp
           conv=>lhs;rw [this]
           rw [List.take_append,List.take_of_length_le (by simp;omega)];congr 1
           have:o+wv.length-(arr.toList.take o).length=wv.length:=by simp;omega
           rw [this];simp
          have e3:arr.toList.drop (o+wv.length+us.length)=tail.drop us.length:=by
           rw [Nat.add_assoc,<- List.drop_drop,q3,List.drop_append];have:wv.length+us.length-wv.length=us.length:=by omega
           rw [this];simp
          rw [e2,e3];have hlen1:(arr.toList.take o).length=o:=by simp;omega
          rw [<- List.drop_drop,List.append_assoc,List.append_assoc];rw [List.drop_append_of_le_length (by omega)];have:List.drop o (arr.toList.take o)=[]:=by simp
          rw [this,List.nil_append,List.drop_append_of_le_length (by omega)];simp [List.append_assoc]
         have jX:=hs.move hg hm r2 gY (k4.get_none _ _ (Nat.le_refl _)) nJ;have kF:((st.set id none).push (.cells (cs.drop off++new))).get=bo (bo st.get id none) st.next (some (.cells (cs.drop off++new))):=funext fun j=>b8Z st id none _ lM j
         refine ⟨_,w',_,by rw [hv];exact im,by rw [kF];exact jX.1,by rw [kF];exact jX.2,?_⟩;simp only [R];refine ⟨b,o+off,z,cap,by simp [a12],by simp,jh,?_⟩;omega
        ·-- a new row
         obtain ⟨ov,Ck,ov2⟩:=m2.values;have hovl:=a2P Ck;refine grow (bo st.get id none) _ len cap (cs.drop off) (ov.drop off) hv (by omega) hb.1 hb.2 (a7Z off Ck) (a7A m2.one fun _ hx=>List.mem_of_mem_drop hx) (by simp;omega) ?_ ?_ ?_ rfl rfl
         ·intro w1 lF
          refine c1W (w:=w1) i.size len b (o+off) len cap (ov.drop off) (by simp;omega) ?_;intro j q hj;rw [List.getElem?_drop] at hj;have:=ov2 _ _ hj;simp only [World.cell?,lF] at this ⊢;rw [Nat.add_assoc];exact this
         ·intro q ob hq
          by_cases e:q=id
          ·subst e;simp [bo] at hq
          ·simpa [bo,e] using hq
         ·exact fun j=>b8Z st id none _ lM j
       ·simp at gR
     ·simp at gR
    ·simp at gR
   ·-- onto a list: nothing
    rename_i sz' xs;split at gR
    ·rename_i mQ
     cases gR;simp only [R,RP] at rs;have yc:=rs;obtain ⟨b,o,cap,sp,e1,e2,_⟩:=yc;exact qk _ _ _ e1 e2 mQ rfl rfl
    ·simp at gR
   ·simp at gR
  ·simp at gR
 ·simp at gR
theorem b9O {t u e:TypeId} {i:TypeInfo} (ht:P.underlying t=some (.slice e)) (hi:P.info? e=some i) (jt:i.size=1)
 {st iE:k4} (hs:Y4 μ Φ st.get w) {s x:D} {vs vx:Value} (rs:R μ Φ s vs) (rx:R μ Φ x vx) (gR:a6b s x st=some (d,iE)) (ty:TypeId) :
 ∃v w',(Builtin.copy_ #[t,u] ty #[vs,vx]).run P w=.ok v w'/\Y4 μ Φ iE.get w'/\br μ Φ st.get w μ Φ iE.get w' st.next st.next/\R μ Φ d v:=by
 unfold a6b at gR;split at gR
 ·rename_i id off len new n gV hlen
  split at gR
  ·rename_i cs hg
   split at gR
   ·rename_i hc
    obtain ⟨oP,h0,nt,gT⟩:=hc;cases gR;obtain ⟨us,n',jH,mZ,hur,iS,hus⟩:=b3x (P:=P) hs rx gV oP;rw [hlen] at jH;cases jH;rw [Nat.mul_one] at mZ;rcases hus with ⟨_,_,e3⟩ | ⟨ad,cap,rfl,_,hcell⟩
    ·omega
    simp only [R] at rs;obtain ⟨b,o,z,cap2,hm,rfl,jM,_⟩:=rs;obtain ⟨b',o',z',m1,m2,_⟩:=hs.obj id _ hg;rw [hm] at m1;cases m1;obtain ⟨arr,et,wv,tail,q1,q2,q3,q4,q5⟩:=m2;have kY:=a2P q4;have hnw:=a2P hur;have qd:∀v∈us,a6Q v=true:=b0s iS hur;have hlen3:=congrArg List.length q3;simp at hlen3;have jh:o+off+0+us.length<=arr.size:=by omega
    obtain ⟨w',qh,r1,r2,r3,r4,r5⟩:=b09 P b (o+off) et us 0 w arr q1 qd jh;have nJ:a2F μ Φ w' b o z (.cells (a43 cs off new)):=by
     refine ⟨qh,et,_,tail,r3,by rw [r4];exact q2,?_,b2d q4 hur,b2a q5 iS⟩;rw [r5];simp only [Nat.add_zero];exact b8X q3 (by omega)
    have lM:=a8F hg;have hw:=hs.write hg hm r2 nJ st.next;have kF:∀y,(st.set id y).get=bo st.get id y:=fun y=>funext fun j=>b1R st id y lM j
    refine ⟨goInt n,w',?_,by rw [kF];exact hw.1,by rw [kF];exact hw.2,?_⟩
    ·have yB:=hcell w rfl
     have hmin:Nat.min n len=n:=Nat.min_eq_left nt;rw [mZ] at yB;simp [Builtin.copy_,run_underlying ht,Builtin.lenOf,Builtin.firstCells,sizeOf,typeInfo,hi,jt,hmin,yB,r1]
    ·simp [R,goInt]
   ·simp at gR
  ·simp at gR
 ·simp at gR
theorem b74 {t:TypeId} {ks:List SK} (ht:a3y P t=some ks) {k:List D} {x:D} {us:List Value} (hk:RL μ Φ k us):∀ {cF jF:List (D×D)} {es:List MapEntry} (i:Nat),cU μ Φ cF es->a7x ks k x cF=some jF ->
 (jF=cF++[(.agg k,x)]/\(Instr.findAsking t (.agg us.toArray) es i).run P w=.ok none w) ∨
 ∃j v l e,jF=cF.set j (.agg k,x)/\(Instr.findAsking t (.agg us.toArray) es i).run P w=.ok (some (i+j,v)) w/\es[j]?=some e/\R μ Φ (.agg l) e.key/\a23 ks k l=some true
 | [],jF,es,i,hr,h=>by
   simp only [cU] at hr;subst hr;simp [a7x] at h;exact .inl ⟨by simp [h],by simp [Instr.findAsking]⟩
 | (k',v')::cF,jF,es,i,hr,h=>by
   simp only [cU] at hr;obtain ⟨e,l,rfl,h1,h2,h3⟩:=hr;by_cases pE:∃b',k'=.agg b'
   ·obtain ⟨b',rfl⟩:=pE
    simp only [a7x] at h;have h1':=h1;simp only [R] at h1;obtain ⟨ws,hw,hws⟩:=h1;split at h
    ·rename_i iV
     simp at h;subst h;have:=a9v (w:=w) ht hk hws iV;exact .inr ⟨0,e.val,b',e,by simp,by simp [Instr.findAsking,hw,this],by simp,h1',iV⟩
    ·rename_i iV
     obtain ⟨kvs1,hp,e1⟩:=map_some h;subst e1;have:=a9v (w:=w) ht hk hws iV;rcases b74 ht hk (i+1) h3 hp with ⟨q0,q⟩ | ⟨j,v,l2,e2,q0,q,q2,q3,q4⟩
     ·exact .inl ⟨by simp [q0],by simp [Instr.findAsking,hw,this,q]⟩
     ·refine .inr ⟨j+1,v,l2,e2,by simp [q0],?_,by simpa using q2,q3,q4⟩
      simp only [Instr.findAsking,Sem.run_bind,hw,this,Result.andThen_ok,Bool.false_eq_true,if_false,q];congr 3
      omega
    ·simp at h
   ·cases k'<;>first | exact absurd ⟨_,rfl⟩ pE | (simp [a7x] at h)
theorem b40:∀ {cF:List (D×D)} {es:List MapEntry} {k v:D} {e:MapEntry},cU μ Φ cF es->R μ Φ k e.key->R μ Φ v e.val->cU μ Φ (cF++[(k,v)]) (es++[e])
 | [],es,k,v,e,h,h1,h2=>by
   simp only [cU] at h;subst h;simp only [List.nil_append,cU];exact ⟨e,[],rfl,h1,h2,rfl⟩
 | (k',v')::r,es,k,v,e,h,h1,h2=>by
   simp only [cU] at h;obtain ⟨e',l,rfl,q1,q2,q3⟩:=h;simp only [List.cons_append,cU];exact ⟨e',l++[e],rfl,q1,q2,b40 q3 h1 h2⟩
theorem b5V:∀ {cF:List (D×D)} {es:List MapEntry} (j:Nat) {k v:D} (f:MapEntry->MapEntry),cU μ Φ cF es->(∀e,R μ Φ k (f e).key/\R μ Φ v (f e).val)->cU μ Φ (cF.set j (k,v)) (es.modify j f)
 | [],es,j,k,v,f,h,_=>by
   simp only [cU] at h;subst h;simp [cU]
 | (k',v')::r,es,j,k,v,f,h,hf=>by
   simp only [cU] at h;obtain ⟨e',l,rfl,q1,q2,q3⟩:=h;cases j with
   | zero=>simp only [List.set_cons_zero,List.modify_zero_cons,cU];exact ⟨_,_,rfl,(hf e').1,(hf e').2,q3⟩
   | succ j=>simp only [List.set_cons_succ,List.modify_succ_cons,cU];exact ⟨_,_,rfl,q1,q2,b5V j f q3 hf⟩
theorem c2c {a b:ByteArray} (h:(a==b)=true):a=b:=by
 rw [beq_toListBytes,ByteArray.toList_eq,ByteArray.toList_eq] at h;obtain ⟨⟨x⟩⟩:=a;obtain ⟨⟨y⟩⟩:=b;simp at h;subst h;rfl
theorem c1V (a:ByteArray):(a==a)=true:=by
 rw [beq_toListBytes];simp
theorem b7Y:∀ {ks:List SK} {k l:List D} {us vs:List Value},a23 ks k l=some true->RL μ Φ k us->RL μ Φ l vs->us=vs/\∀n x,x∈us->Instr.sameBits n x x=true
 | [],[],[],us,vs,_,h1,h2=>by
   simp only [RL] at h1 h2;subst h1;subst h2;simp
 | [],[],_::_,_,_,h,_,_=>by simp [a23] at h
 | [],_::_,_,_,_,h,_,_=>by simp [a23] at h
 | _::_,[],_,_,_,h,_,_=>by simp [a23] at h
 | _::_,_::_,[],_,_,h,_,_=>by simp [a23] at h
 | t::ks,x::k,y::l,us,vs,h,h1,h2=>by
   simp only [a23] at h;split at h
   ·rename_i p q hp hq
    simp at h;obtain ⟨rfl,rfl⟩:=h;simp only [RL] at h1 h2;obtain ⟨u,vn,rfl,r1,r2⟩:=h1;obtain ⟨v,tW,rfl,r3,r4⟩:=h2;obtain ⟨e1,e2⟩:=b7Y hq r2 r4;have kx:u=v/\∀n,Instr.sameBits n u u=true:=by
     cases t<;>cases x<;>cases y<;>simp [a8a] at hp<;>simp only [R] at r1 r3<;>subst r1<;>subst r3
     ·obtain ⟨rfl,rfl⟩:=hp;exact ⟨rfl,fun n=>by cases n<;>simp [Instr.sameBits]⟩
     ·subst hp;exact ⟨rfl,fun n=>by cases n<;>simp [Instr.sameBits]⟩
     ·have:=c2c hp
      subst this;exact ⟨rfl,fun n=>by cases n<;>simp [Instr.sameBits,c1V]⟩
    refine ⟨by rw [kx.1,e1],?_⟩;intro n z hz;rcases List.mem_cons.1 hz with rfl | hz
    ·exact kx.2 n
    ·exact e2 n z hz
   ·simp at h
theorem b9I (n:Nat) (us:List Value) (h:∀n x,x∈us->Instr.sameBits n x x=true):Instr.sameBits (n+1) (.agg us.toArray) (.agg us.toArray)=true:=by
 simp only [Instr.sameBits,beq_self_eq_true,Bool.true_and];rw [List.all_eq_true];intro p hp;obtain ⟨x,y⟩:=p;have pP:x=y/\x∈us:=by
  have:∀ (l:List Value),(x,y)∈l.zip l->x=y/\x∈l:=by
   intro l;induction l with
   | nil=>simp
   | cons a l ih =>
     intro hm;simp at hm;rcases hm with ⟨rfl,rfl⟩ | hm
     ·simp
     ·have:=ih hm;exact ⟨this.1,by simp [this.2]⟩
  exact this us hp
 simp only;rw [<- pP.1];exact h n x pP.2
theorem c4a {t kt et:TypeId} {ks:List SK} (hu:P.underlying t=some (.map kt et)) (je:a3y P kt=some ks) {st:k4} (hs:Y4 μ Φ st.get w) {id:Nat} {cF jF:List (D×D)} (hg:st.get id=some (.map cF))
 {m k v:Value} {kd:List D} {vd:D} (rm:R μ Φ (.map id) m) (rk:R μ Φ (.agg kd) k) (iZ:kd.length=ks.length) (rv:R μ Φ vd v) (uz:a7x ks kd vd cF=some jF) :
 ∃w',(Instr.mapUpdate t m k v).run P w=.ok () w'/\Y4 μ Φ (st.set id (some (.map jF))).get w'/\br μ Φ st.get w μ Φ (st.set id (some (.map jF))).get w' st.next st.next:=by
 simp only [R] at rm rk;obtain ⟨b,o,z,hm,rfl⟩:=rm;obtain ⟨us,rfl,hus⟩:=rk;obtain ⟨b',o',z',m1,m2,_⟩:=hs.obj id _ hg;rw [hm] at m1;cases m1;obtain ⟨es,clock,hb,uZ⟩:=m2;have tN:=b6D (P:=P) (w:=w) (em:=false) je us (by rw [a2P hus,iZ];exact Nat.le_refl _);have rM:=MapKept.run_getObj_map (P:=P) hb;have lM:=a8F hg;have kF:∀x,(st.set id x).get=bo st.get id x:=fun x=>funext fun j=>b1R st id x lM j
 have fin:∀ (uT:Array MapEntry) (kT:Nat),cU μ Φ jF uT.toList ->
  Y4 μ Φ (st.set id (some (.map jF))).get { w with heap:=w.heap.setIfInBounds b (.map uT kT) } /\
  br μ Φ st.get w μ Φ (st.set id (some (.map jF))).get { w with heap:=w.heap.setIfInBounds b (.map uT kT) } st.next st.next:=by
  intro uT kT As;have iC:b<w.heap.size:=(Array.getElem?_eq_some_iff.1 hb).1;have qD:a4C b w { w with heap:=w.heap.setIfInBounds b (.map uT kT) } :=
   ⟨rfl,rfl,rfl,by simp,fun j hj=>by simp only;rw [Array.getElem?_setIfInBounds_ne (fun e=>hj e.symm)]⟩
  have hw:=hs.write hg hm qD (pf:=.map jF) ⟨uT,kT,by simp [iC],As⟩ st.next;rw [kF];exact hw
 rcases b74 (w:=w) je hus 0 uZ uz with ⟨e1,hf⟩ | ⟨j,v0,l,e,e1,hf,hej,AK,iV⟩
 ·have tM:(Instr.findKey kt (.agg us.toArray) es.toList).run P w=.ok none w:=by rw [b3B je];exact hf
  refine ⟨_,?_,fin (es.push { key:=.agg us.toArray,val:=v,born:=clock }) (clock+1) ?_⟩
  ·simp [Instr.mapUpdate,run_underlying hu,rM,tN,tM,MapKept.run_setObj_map _ hb]
  ·rw [e1]
   simp only [Array.toList_push];exact b40 uZ (by simp only [R];exact ⟨us,rfl,hus⟩) rv
 ·have tM:(Instr.findKey kt (.agg us.toArray) es.toList).run P w=.ok (some (0+j,v0)) w:=by rw [b3B je];exact hf
  rw [Nat.zero_add] at tM;simp only [R] at AK;obtain ⟨vs,ek,hvs⟩:=AK;obtain ⟨q1,q2⟩:=b7Y iV hus hvs;have qD:Instr.sameBits 10000 (.agg us.toArray) (.agg us.toArray)=true:=b9I 9999 us q2;have hkey:es[j]?=some e:=by simpa using hej
  refine ⟨_,?_,fin (es.modify j fun e=>{ e with key:=.agg us.toArray,val:=v }) clock ?_⟩
  ·have hstay:(Instr.keyThatStays (((es[j]?).map (·.key)).getD (.agg us.toArray)) (.agg us.toArray)).run P w=.ok (.agg us.toArray) w:=by
    rw [hkey];simp only [Option.map_some,Option.getD_some,ek,<- q1,Instr.keyThatStays,qD,if_true,Sem.run_pure]
   simp only [Instr.mapUpdate,Sem.run_bind,run_underlying hu,Result.andThen_ok,rM,tN,tM,hstay,MapKept.run_setObj_map _ hb]
  ·rw [e1,Array.toList_modify]
   exact b5V j _ uZ (fun e=>⟨by simp only [R];exact ⟨us,rfl,hus⟩,rv⟩)
end
end Go.V
namespace Go.V
def a5a (μ:Mu) (n0 n1:Nat):Prop:=∀id,n0<=id->id<n1->μ id=none
def a4m (P:Program) (C:a09):Prop:=∀f args s d s',C f args s=some (d,s')->s.next<=s'.next/\(∃fn,P.funcs[f]?=some fn/\fn.body.isSome=true/\(fn.name=="runtime.NumGoroutine")=false) /\
 ∀μ Φ w vs,Y4 μ Φ s.get w->RL μ Φ args vs->a5a μ s.next s'.next ->
  Calls P f vs.toArray w fun e w'=>∃v μ' Φ',e=.returned v/\Y4 μ' Φ' s'.get w'/\R μ' Φ' d v/\br μ Φ s.get w μ' Φ' s'.get w' s.next s'.next
section
variable {P:Program} {md:FuncId->a1Q} {μ:Mu} {Φ:W0} {env:q8} {a:Act} {d:D} {g:a0k} {w:World}
theorem b89 {sz:Nat}:∀ (n:Nat) {l:List D} {b o:Nat},RC Φ l b o->l.length=n*sz->RG Φ sz (a48 sz n l) b o
 | 0,l,b,o,_,_=>by simp [a48,RG]
 | n+1,l,b,o,h,hl=>by
   simp only [a48,RG];rw [Nat.add_mul] at hl;exact ⟨by simp;omega,b7V sz h,b89 n (b5G sz h) (by simp;omega)⟩
theorem b3E (sz:Nat):∀ (n:Nat) (l:List D),(a48 sz n l).length=n
 | 0,_=>rfl
 | n+1,l=>by simp [a48,b3E sz n]
theorem b6X {f:D->Option D}:∀ {l l':List D},X2 f l=some l'->l'.length=l.length
 | [],l',h=>by simp [X2] at h;subst h;rfl
 | d::l,l',h=>by
   simp only [X2] at h;split at h
   ·rename_i h2;simp at h;subst h;simp [b6X h2]
   ·simp at h
theorem c3G {n:Nat} {d d':D} (h:aL g n d=some d') (ho:V1 d=true):V1 d'=true:=by
 cases n with
 | zero=>simp [aL] at h
 | succ n =>
   cases d<;>simp [V1] at ho<;>simp only [aL] at h<;>first
    | (cases h;rfl)
    | (split at h
       ·obtain ⟨l,_,e⟩:=map_some h;subst e;rfl
       ·simp at h)
    | (simp at h)
theorem b1X {Φ2:W0} (hs:Y4 μ Φ g w) (hle:Φ.le Φ2) (xW:∀b,a4S μ g b->Φ2 b=w.heap[b]?):∀ (n:Nat) (d d':D) (v:Value),aL g n d=some d'->R μ Φ d v->RP Φ2 d' v:=by
 intro n;induction n with
 | zero=>intro d d' v h;simp [aL] at h
 | succ n ih =>
   have se:∀ (l l':List D) (vs:List Value),X2 (aL g n) l=some l'->RL μ Φ l vs->aV Φ2 l' vs:=by
    intro l;induction l with
    | nil=>intro l' vs h hr;simp [X2] at h;subst h;simp only [RL] at hr;simp only [aV];exact hr
    | cons d l il =>
      intro l' vs h hr;simp only [X2] at h;split at h
      ·rename_i x l1 h1 h2
       simp at h;subst h;simp only [RL] at hr;obtain ⟨u,us,rfl,r1,r2⟩:=hr;simp only [aV];exact ⟨u,us,rfl,ih _ _ _ h1 r1,il _ _ h2 r2⟩
      ·simp at h
   have hcells:∀ (l l':List D) (b o:Nat),X2 (aL g n) l=some l'->l.all V1=true->(∀j e,l[j]?=some e->∃u,Φ2.cell b (o+j)=some u/\R μ Φ e u)->RC Φ2 l' b o:=by
    intro l;induction l with
    | nil=>intro l' b o h _ _;simp [X2] at h;subst h;simp only [RC]
    | cons d l il =>
      intro l' b o h ho hr;simp only [X2] at h;split at h
      ·rename_i x l1 h1 h2
       simp at h;subst h;simp only [List.all_cons,Bool.and_eq_true] at ho;simp only [RC];obtain ⟨u,u1,u2⟩:=hr 0 d (by simp);refine ⟨⟨c3G h1 ho.1,u,u1,ih _ _ _ h1 u2⟩,il _ _ _ h2 ho.2 ?_⟩;intro j e hj;obtain ⟨u,u1,u2⟩:=hr (j+1) e (by simpa using hj);exact ⟨u,by rw [<- u1];congr 1;omega,u2⟩
      ·simp at h
   intro d d' v h hr;cases d<;>simp only [aL] at h
   case undef=>simp at h
   case int k x=>cases h;simpa only [R,RP] using hr
   case bool b=>cases h;simpa only [R,RP] using hr
   case str s=>cases h;simpa only [R,RP] using hr
   case bf=>cases h;simpa only [R,RP] using hr
   case ptr id off=>simp at h
   case fp cs o=>cases h;simp only [R] at hr;exact a7K hle _ _ hr
   case ag=>cases h;simpa only [R,RP] using hr
   case bg sz xs=>cases h;simp only [R] at hr;exact a7K hle _ _ hr
   case arr id off len sz =>
    simp only [R] at hr;obtain ⟨b,o,z,cap,hm,e,jM,hz⟩:=hr;split at h
    ·rename_i cs gV
     obtain ⟨l,hl,e1⟩:=map_some h;subst e1;simp only [a1h] at gV;split at gV
     ·rename_i cs0 hg
      split at gV
      ·rename_i gT
       cases gV;obtain ⟨b',o',z',m1,m2,_⟩:=hs.obj id _ hg;rw [hm] at m1;cases m1;have hb:Φ2 b=w.heap[b]?:=xW b ⟨id,o,z,by rw [hg];simp,hm⟩;have iS:=m2.one;obtain ⟨arr,et,vs,tail,q1,q2,q3,q4,_⟩:=m2;have hrc:RC Φ2 l b (o+off):=by
        refine hcells _ _ _ _ hl (a7A iS fun x hx=>List.mem_of_mem_drop (List.mem_of_mem_take hx)) ?_;intro j e hj;rw [List.getElem?_take] at hj;split at hj
        ·rw [List.getElem?_drop] at hj
         obtain ⟨u,u1,u2⟩:=a81 q4 hj;refine ⟨u,?_,u2⟩;simp only [W0.cell,hb,q1];have h5:(arr.toList.drop o)[off+j]?=some u:=by
          rw [q3,List.getElem?_append_left (List.getElem?_eq_some_iff.1 u1).1];exact u1
         rw [List.getElem?_drop,Array.getElem?_toList] at h5;rw [<- h5];congr 1;omega
        ·simp at hj
       have kO:l.length=len*sz:=by
        rw [b6X hl];simp;omega
       simp only [RP];exact ⟨b,o+off,cap,none,by rw [e,b3E],by rw [b3E];exact jM,.inl rfl,b89 len hrc kO⟩
      ·simp at gV
     ·simp at gV
    ·simp at h
   case agg cs =>
    obtain ⟨l,hl,e1⟩:=map_some h;subst e1;simp only [R] at hr;obtain ⟨vs,e,hv⟩:=hr;simp only [RP];exact ⟨vs,e,se _ _ _ hl hv⟩
   case aR cs =>
    obtain ⟨l,hl,e1⟩:=map_some h;subst e1;simp only [R] at hr;obtain ⟨vs,e,hv⟩:=hr;simp only [RP];exact ⟨vs,e,se _ _ _ hl hv⟩
   case fn f cs=>simp at h
   case bx=>cases h;simpa only [R,RP] using hr
   case bz=>cases h;simpa only [R,RP] using hr
   case map id=>simp at h
theorem b8V {Φ2:W0} (hs:Y4 μ Φ g w) (hle:Φ.le Φ2) (xW:∀b,a4S μ g b->Φ2 b=w.heap[b]?) (n:Nat):∀ {l l':List D} {vs:List Value},X2 (aL g n) l=some l'->RL μ Φ l vs->aV Φ2 l' vs
 | [],l',vs,h,hr=>by simp [X2] at h;subst h;simp only [RL] at hr;simp only [aV];exact hr
 | d::l,l',vs,h,hr=>by
   simp only [X2] at h;split at h
   ·rename_i x l1 h1 h2
    simp at h;subst h;simp only [RL] at hr;obtain ⟨u,us,rfl,r1,r2⟩:=hr;simp only [aV];exact ⟨u,us,rfl,b1X hs hle xW n _ _ _ h1 r1,b8V hs hle xW n h2 r2⟩
   ·simp at h
mutual
theorem b7D {Φ Φ':W0}:∀ (d:D) (v:Value),a2d d=true->RP Φ d v->RP Φ' d v
 | .int _ _,_,_,e=>by simpa only [RP] using e
 | .bool _,_,_,e=>by simpa only [RP] using e
 | .str _,_,_,e=>by simpa only [RP] using e
 | .bf,_,_,e=>by simpa only [RP] using e
 | .fp cs off,v,h,e=>by simp [a2d] at h
 | .ag,_,_,e=>by simpa only [RP] using e
 | .bg sz xs,v,h,e=>by simp [a2d] at h
 | .agg cs,v,h,e=>by
   simp only [a2d] at h;simp only [RP] at e ⊢;obtain ⟨vs,e1,e2⟩:=e;exact ⟨vs,e1,cJ cs vs h e2⟩
 | .aR cs,v,h,e=>by
   simp only [a2d] at h;simp only [RP] at e ⊢;obtain ⟨vs,e1,e2⟩:=e;exact ⟨vs,e1,cJ cs vs h e2⟩
 | .bx,_,_,e=>by simpa only [RP] using e
 | .bz,_,_,e=>by simpa only [RP] using e
 | .undef,_,_,e=>by simp only [RP] at e
 | .ptr _ _,_,_,e=>by simp only [RP] at e
 | .arr _ _ _ _,_,_,e=>by simp only [RP] at e
 | .fn _ _,_,_,e=>by simp only [RP] at e
 | .map _,_,_,e=>by simp only [RP] at e
theorem cJ {Φ Φ':W0}:∀ (ds:List D) (vs:List Value),bj ds=true->aV Φ ds vs->aV Φ' ds vs
 | [],_,_,e=>by simpa only [aV] using e
 | d::ds,vs,h,e=>by
   simp only [bj,Bool.and_eq_true] at h;simp only [aV] at e ⊢;obtain ⟨u,us,e1,e2,e3⟩:=e;exact ⟨u,us,e1,b7D d u h.1 e2,cJ ds us h.2 e3⟩
end
mutual
theorem c3L:∀ (d:D) (v:Value),a0Y d=true->R μ Φ d v->RP Φ d v
 | .int _ _,_,_,e=>by simpa only [R,RP] using e
 | .bool _,_,_,e=>by simpa only [R,RP] using e
 | .str _,_,_,e=>by simpa only [R,RP] using e
 | .bf,_,_,e=>by simpa only [R,RP] using e
 | .fp cs off,v,h,e=>by simp only [R] at e;exact e
 | .ag,_,_,e=>by simpa only [R,RP] using e
 | .bg sz xs,v,h,e=>by simp only [R] at e;exact e
 | .agg cs,v,h,e=>by
   simp only [a0Y] at h;simp only [R,RP] at e ⊢;obtain ⟨vs,e1,e2⟩:=e;exact ⟨vs,e1,dJ cs vs h e2⟩
 | .aR cs,v,h,e=>by simp [a0Y] at h
 | .bx,_,_,e=>by simpa only [R,RP] using e
 | .bz,_,_,e=>by simpa only [R,RP] using e
 | .undef,_,h,_=>by simp [a0Y] at h
 | .ptr _ _,_,h,_=>by simp [a0Y] at h
 | .arr _ _ _ _,_,h,_=>by simp [a0Y] at h
 | .fn _ _,_,h,_=>by simp [a0Y] at h
 | .map _,_,h,_=>by simp [a0Y] at h
theorem dJ:∀ (ds:List D) (vs:List Value),aJ ds=true->RL μ Φ ds vs->aV Φ ds vs
 | [],_,_,e=>by simpa only [RL,aV] using e
 | d::ds,vs,h,e=>by
   simp only [aJ,Bool.and_eq_true] at h;simp only [RL,aV] at e ⊢;obtain ⟨u,us,e1,e2,e3⟩:=e;exact ⟨u,us,e1,c3L d u h.1 e2,dJ ds us h.2 e3⟩
end
mutual
theorem c30:∀ (d:D) (n:Nat) (d':D),a0Y d=true->aL g n d=some d'->d'=d
 | .agg cs,n,d',h,e=>by
   cases n with
   | zero=>simp [aL] at e
   | succ n =>
     simp only [a0Y] at h;simp only [aL] at e;obtain ⟨l,hl,e1⟩:=map_some e;rw [<- e1,cV cs n l h hl]
 | .int _ _,n,d',_,e=>by cases n<;>simp [aL] at e;exact e.symm
 | .bool _,n,d',_,e=>by cases n<;>simp [aL] at e;exact e.symm
 | .str _,n,d',_,e=>by cases n<;>simp [aL] at e;exact e.symm
 | .bf,n,d',_,e=>by cases n<;>simp [aL] at e;exact e.symm
 | .fp _ _,n,d',_,e=>by cases n<;>simp [aL] at e;exact e.symm
 | .ag,n,d',_,e=>by cases n<;>simp [aL] at e;exact e.symm
 | .bg _ _,n,d',_,e=>by cases n<;>simp [aL] at e;exact e.symm
 | .bx,n,d',_,e=>by cases n<;>simp [aL] at e;exact e.symm
 | .bz,n,d',_,e=>by cases n<;>simp [aL] at e;exact e.symm
 | .aR _,_,_,h,_=>by simp [a0Y] at h
 | .undef,_,_,h,_=>by simp [a0Y] at h
 | .ptr _ _,_,_,h,_=>by simp [a0Y] at h
 | .arr _ _ _ _,_,_,h,_=>by simp [a0Y] at h
 | .fn _ _,_,_,h,_=>by simp [a0Y] at h
 | .map _,_,_,h,_=>by simp [a0Y] at h
theorem cV:∀ (ds:List D) (n:Nat) (l:List D),aJ ds=true->X2 (aL g n) ds=some l->l=ds
 | [],n,l,_,e=>by simp [X2] at e;exact e
 | d::ds,n,l,h,e=>by
   simp only [aJ,Bool.and_eq_true] at h;simp only [X2] at e;split at e
   ·rename_i x l1 h1 h2
    simp at e;rw [<- e,c30 d n x h.1 h1,cV ds n l1 h.2 h2]
   ·simp at e
end
theorem b2r {Φ:W0} (h:∀b ob,Φ b=some ob->w.heap[b]?=some ob):Y4 (fun _=>none) Φ k4.empty.get w :=
 ⟨h,fun id ob e=>by simp at e,fun id iA b o z o' z' h1 _ _ _=>by simp at h1⟩
theorem b3A (b:Nat):¬ a4S (fun _=>none) k4.empty.get b:=by
 rintro ⟨id,o,z,h,_⟩;simp at h
theorem b4y {C:a09} (hC:a4m P C) {m:a1Q} {f:FuncId} {ir args:List D} {s s':k4} (gR:a2U C m (.fn f ir) args s=some (d,s')) :
 s.next<=s'.next/\(∃fn,P.funcs[f]?=some fn/\fn.body.isSome=true/\(fn.name=="runtime.NumGoroutine")=false) /\
 ∀μ Φ w vs,Y4 μ Φ s.get w->RL μ Φ (args++ir) vs->a5a μ s.next s'.next ->
  Calls P f vs.toArray w fun e w'=>∃v μ' Φ',e=.returned v/\Y4 μ' Φ' s'.get w'/\R μ' Φ' d v/\br μ Φ s.get w μ' Φ' s'.get w' s.next s'.next:=by
 cases m with
 | raw=>exact hC f (args++ir) s d s' gR
 | fF =>
   simp only [a2U] at gR;split at gR
   ·simp at gR
   ·rename_i kn hargs
    split at gR
    ·simp at gR
    ·rename_i r s1 hcall
     split at gR
     ·simp at gR
     ·rename_i r' hr'
      split at gR
      ·rename_i hcond
       simp at gR;obtain ⟨rfl,rfl⟩:=gR;obtain ⟨h0,h1,h2⟩:=hC f kn k4.empty r s1 hcall;refine ⟨Nat.le_refl _,h1,?_⟩;intro μ Φ w vs hs hr _;have nO:∀ (Φc:W0) (μ1:Mu) (Φ1:W0) (w':World),br (fun _=>none) Φc k4.empty.get w μ1 Φ1 s1.get w' k4.empty.next s1.next->∀b,b<w.heap.size->w'.heap[b]?=w.heap[b]? :=
        fun Φc μ1 Φ1 w' he b hb=>he.aF b hb (b3A b)
       by_cases mw:a2d r'=true
       ·-- all of memory is frozen for the call
        let Φc:W0:=fun b=>w.heap[b]?
        have hle:Φ.le Φc:=fun b ob e=>hs.df b ob e
        have ha:=b8V hs hle (fun _ _=>rfl) 20 hargs hr;refine (h2 (fun _=>none) Φc w vs (b2r fun _ _ e=>e) (aO _ _ ha) (fun _ _ _=>rfl)).mono ?_;rintro e w' ⟨v,μ1,Φ1,rfl,mD,jo,he⟩;have hk:=nO Φc μ1 Φ1 w' he;let Φ2:W0:=fun b=>w'.heap[b]?
        have hp:=b1X (Φ2:=Φ2) mD (fun b ob e=>mD.df b ob e) (fun _ _=>rfl) 20 _ _ _ hr' jo;refine ⟨v,μ,Φ,rfl,hs.world (fun b ob e=>hk b (hs.dI e)) (fun b ho=>hk b (hs.cq ho)),a8W _ _ (b7D _ _ mw hp),?_⟩;exact ⟨Mu.le_refl _,fun _ _=>rfl,W0.le_refl _,he.os,he.tape,he.output,he.size,fun b hb _=>hk b hb,fun _ _ h=>.inl h,fun _ h=>.inl h⟩
       ·-- the arguments are plain
        have sC:aJ (args++ir)=true:=by
         simp only [Bool.or_eq_true] at hcond;rcases hcond with h | h
         ·exact absurd h mw
         ·exact h
        have heq:=cV _ _ _ sC hargs;subst heq;have ha:=dJ _ _ sC hr;refine (h2 (fun _=>none) Φ w vs (b2r fun b ob e=>hs.df b ob e) (aO _ _ ha) (fun _ _ _=>rfl)).mono ?_;rintro e w' ⟨v,μ1,Φ1,rfl,mD,jo,he⟩;have hk:=nO Φ μ1 Φ1 w' he;let Φ2:W0:=fun b=>if b<w.heap.size then Φ b else w'.heap[b]?
        have An:Φ.le Φ2:=fun b ob e=>by
         have:=hs.dI e;simp only [Φ2,this,if_true];exact e
        have qf:Φ1.le Φ2:=fun b ob e=>by
         rcases he.bM b ob e with h | h
         ·exact An b ob h
         ·simp only [Φ2,Nat.not_lt.2 h,if_false]
          exact mD.df b ob e
        have oD:∀b,a4S μ1 s1.get b->Φ2 b=w'.heap[b]?:=fun b ho=>by
         rcases he.bp b ho with h | h
         ·exact absurd h (b3A b)
         ·simp only [Φ2,Nat.not_lt.2 h,if_false]
        have hp:=b1X (Φ2:=Φ2) mD qf oD 20 _ _ _ hr' jo;have kc:Y4 μ Φ s.get w':=hs.world (fun b ob e=>hk b (hs.dI e)) (fun b ho=>hk b (hs.cq ho));refine ⟨v,μ,Φ2,rfl,⟨?_,?_,hs.inj⟩,a8W _ _ hp,?_⟩
        ·intro b ob e
         by_cases hb:b<w.heap.size
         ·simp only [Φ2,hb,if_true] at e
          exact kc.df b ob e
         ·simp only [Φ2,hb,if_false] at e
          exact e
        ·intro id ob e
         obtain ⟨b,o,z,e1,e2,e3⟩:=kc.obj id ob e;refine ⟨b,o,z,e1,b0b (Mu.le_refl _) An e2,?_⟩;have hb:b<w.heap.size:=hs.cq ⟨id,o,z,by rw [e];simp,e1⟩;simp only [Φ2,hb,if_true];exact e3
        ·exact ⟨Mu.le_refl _,fun _ _=>rfl,An,he.os,he.tape,he.output,he.size,fun b hb _=>hk b hb,fun b ob e=>by
          by_cases hb:b<w.heap.size
          ·simp only [Φ2,hb,if_true] at e;exact .inl e
          ·exact .inr (Nat.not_lt.1 hb),fun _ h=>.inl h⟩
      ·simp at gR
end
end Go.V
namespace Go.V
section
variable {P:Program} {md:FuncId->a1Q} {μ:Mu} {Φ:W0} {env:q8} {a:Act} {d:D} {g:a0k} {w:World} {K:Act->World->Prop} {Q:Exit->Act->World->Prop}
theorem b8B {o:Oper} (h:a4l P μ Φ (execOp a.eval o) w d) (hK:∀v,R μ Φ d v->K (a.put o.dst v) w):o.wp P a w K Q:=by
 obtain ⟨v,h1,h2⟩:=h;unfold Oper.wp;rw [h1];exact hK v h2
theorem P_wp {o:Oper} {po:fG} (gN:a3p P md o=some (.p po)) (he:a1S μ Φ env a) (gR:bH env po=some d) (hK:∀v,R μ Φ d v->K (a.put o.dst v) w):o.wp P a w K Q :=
 b8B (c1E gN he gR w) hK
theorem R_wp {o:Oper} {ro:ROp} (gN:a3p P md o=some (.r ro)) (he:a1S μ Φ env a) (hs:Y4 μ Φ g w) (gR:cO env g ro=some d) (hK:∀v,R μ Φ d v->K (a.put o.dst v) w):o.wp P a w K Q :=
 b8B (c3e gN he hs gR) hK
theorem A_wp {o:Oper} {ao:AOp} (gN:a3p P md o=some (.a ao)) (he:a1S μ Φ env a) (hs:Y4 μ Φ g w) {vo:Y1} {m:a0f} (gR:dW env ao=some (vo,m)) {id:Nat} (gX:μ id=none) (hg:g id=none)
 (hK:∀v w' μ',Y4 μ' Φ (bo g id (some vo)) w'->R μ' Φ (m.at id) v->br μ Φ g w μ' Φ (bo g id (some vo)) w' id (id+1)->K (a.put o.dst v) w'):o.wp P a w K Q:=by
 obtain ⟨v,ob,z,h1,h2,h3⟩:=c48 gN he gR w id gX;obtain ⟨h4,h5⟩:=hs.push gX hg h2;unfold Oper.wp;rw [h1];exact hK v _ _ h4 h3 h5
theorem W_wp {o:Oper} {n:Nat} {ad x:X7} (gN:a3p P md o=some (.w n ad x)) (he:a1S μ Φ env a) (hs:Y4 μ Φ g w) {id:Nat} {vo:Y1} (gR:dh env g n ad x=some (id,vo)) (k:Nat)
 (hK:∀w',Y4 μ Φ (bo g id (some vo)) w'->br μ Φ g w μ Φ (bo g id (some vo)) w' k k->K (a.put o.dst undef) w'):o.wp P a w K Q:=by
 obtain ⟨w',b,o',z,vo0,h1,h2,h3,h4,h5⟩:=c5u gN he hs gR;obtain ⟨h6,h7⟩:=hs.write h2 h3 h4 h5 k;unfold Oper.wp;rw [h1];exact hK w' h6 h7
theorem a8Y:R μ Φ (.aR []) undef:=by
 simp only [R];exact ⟨[],rfl,by simp [RL]⟩
theorem M_wp {C:a09} (hC:a4m P C) {o:Oper} {mo:MOp} (gN:a3p P md o=some (.m mo)) (he:a1S μ Φ env a) {s s':k4} (hs:Y4 μ Φ s.get w) (gR:bZ C env s mo=some (d,s')) :
 s.next<=s'.next/\(a5a μ s.next s'.next->(∀v w' μ' Φ',Y4 μ' Φ' s'.get w'->R μ' Φ' d v->br μ Φ s.get w μ' Φ' s'.get w' s.next s'.next->K (a.put o.dst v) w')->o.wp P a w K Q):=by
 obtain ⟨dst,op,type,pos,after,guard⟩:=o;cases op<;>simp only [a3p] at gN
 case mapUpdate t m k v =>
  split at gN
  ·rename_i m' k' v' kt et hm hk hv hu
   split at gN
   ·rename_i ks je
    cases gN;simp only [bZ] at gR;split at gR
    ·rename_i id hx
     split at gR
     ·rename_i cF hg
      split at gR
      ·rename_i kl iZ
       split at gR
       ·rename_i iS
        obtain ⟨jF,uz,e⟩:=map_some gR;cases e;refine ⟨Nat.le_refl _,fun _ hK=>?_⟩;have rm:=a0q he hm;have rk:=a0q he hk;have rv:=a0q he hv;rw [hx] at rm;unfold a9M at iZ;split at iZ
        ·rename_i k0 qG
         split at iZ
         ·rename_i hlen
          simp at iZ;subst iZ;rw [qG] at rk;obtain ⟨w',h1,h2,h3⟩:=c4a (P:=P) hu je hs hg rm rk hlen.1 rv uz;unfold Oper.wp;have:(execOp a.eval ⟨dst,.mapUpdate t m k v,type,pos,after,guard⟩).run P w=.ok .skip w':=by
           simp [execOp,h1]
          rw [this];exact hK undef w' μ Φ h2 a8Y h3
         ·simp at iZ
        ·simp at iZ
       ·simp at gR
      ·simp at gR
     ·simp at gR
    ·simp at gR
   ·simp at gN
  ·simp at gN
 case call c =>
  obtain ⟨callee,args,types⟩:=c;cases callee with
  | invoke _ _=>simp at gN
  | value f =>
    simp only at gN;split at gN
    ·rename_i f' l hf hl
     cases gN;simp only [bZ] at gR;have rf:=a0q he hf;have rl:=a9T he hl;generalize hfd:env.ev f'=fd at gR rf;cases fd<;>try (simp [a2U] at gR;done)
     rename_i ff ir;simp only [R] at rf;obtain ⟨cv,ef,Am⟩:=rf;obtain ⟨h0,⟨fn,kF,hbody,jK⟩,h2⟩:=b4y hC gR;refine ⟨h0,fun gY hK=>?_⟩;have hcalls:=h2 μ Φ w _ hs (a8n rl Am) gY;unfold Oper.wp;have hbn:fn.body.isNone=false:=by cases hb:fn.body<;>simp [hb] at hbody ⊢
     have im:(execOp a.eval ⟨dst,.call ⟨.value f,args,types⟩,type,pos,after,guard⟩).run P w=.ok (.enter ff ((args.toList.map a.eval)++cv).toArray) w:=by
      simp only [execOp,resolve,Sem.run_bind,ef,Deferred.ofValue,Sem.run_pure,Result.andThen_ok,invoke,callFunc,run_program,kF,jK,hbn,Bool.false_eq_true,if_false];congr 2
      apply Array.ext';simp
     rw [im];refine hcalls.mono ?_;rintro e w' ⟨v,μ',Φ',rfl,h3,h4,h5⟩;exact hK v w' μ' Φ' h3 h4 h5
    ·simp at gN
  | builtin b =>
    simp only [a8o] at gN;split at gN
    ·split at gN
     ·split at gN<;>simp at gN
     ·simp at gN
    ·split at gN<;>simp at gN
    ·split at gN<;>simp at gN
    ·rename_i s0 x0 hargs
     split at gN
     ·rename_i sy xy t u hsy pP htypes
      split at gN
      ·rename_i e e' jR hel'
       split at gN
       ·rename_i i zl hi hz
        split at gN
        ·simp at gN
        ·rename_i nH
         cases gN;simp only [bZ] at gR;have qH:P.underlying t=some (.slice e):=by
          unfold a4A at jR;split at jR
          ·rename_i hu;simp at jR;rw [hu,jR]
          ·simp at jR
         have htu':P.underlying u=some (.slice e'):=by
          unfold a4A at hel';split at hel'
          ·rename_i hu;simp at hel';rw [hu,hel']
          ·simp at hel'
         have ha:args=#[s0,x0]:=by rw [<- Array.toArray_toList (xs:=args),hargs]
         have xM:types=#[t,u]:=by rw [<- Array.toArray_toList (xs:=types),htypes]
         have iL:s.next<=s'.next/\(s'.next<=s.next+1):=by
          unfold Z6 at gR;split at gR
          ·split at gR
           ·split at gR
            ·split at gR
             ·cases gR;exact ⟨Nat.le_refl _,Nat.le_succ _⟩
             ·split at gR
              ·cases gR;exact ⟨Nat.le_succ _,Nat.le_refl _⟩
              ·simp at gR
            ·split at gR
             ·split at gR
              ·split at gR
               ·cases gR;exact ⟨Nat.le_refl _,Nat.le_succ _⟩
               ·split at gR
                ·cases gR;exact ⟨Nat.le_succ _,Nat.le_refl _⟩
                ·simp at gR
              ·simp at gR
             ·simp at gR
            ·split at gR
             ·cases gR;exact ⟨Nat.le_refl _,Nat.le_succ _⟩
             ·simp at gR
            ·simp at gR
           ·simp at gR
          ·simp at gR
         refine ⟨iL.1,fun gY hK=>?_⟩;subst ha;subst xM;have main:∀hf:s'.next=s.next∨μ s.next=none,(⟨dst,.call ⟨.builtin .append,#[s0,x0],#[t,u]⟩,type,pos,after,guard⟩:Oper).wp P a w K Q:=by
          intro hf;obtain ⟨v,w',μ',h1,h2,h3,h4⟩:=c1F (P:=P) qH htu' hi hz (by simp at nH;exact nH.1) (by simp at nH;exact nH.2) hs hf (a0q he hsy) (a0q he pP) gR type;unfold Oper.wp;have im:(execOp a.eval ⟨dst,.call ⟨.builtin .append,#[s0,x0],#[t,u]⟩,type,pos,after,guard⟩).run P w=.ok (.value v) w':=by
           simp only [execOp,resolve,Sem.run_bind,Sem.run_pure,Result.andThen_ok,invoke,builtin];have:(#[s0,x0].map a.eval)=#[a.eval s0,a.eval x0]:=by simp
           rw [this,h1];rfl
          rw [im];exact hK v w' μ' Φ h2 h4 h3
         by_cases pJ:s'.next=s.next
         ·exact main (.inl pJ)
         ·exact main (.inr (gY s.next (Nat.le_refl _) (by omega)))
       ·simp at gN
      ·simp at gN
     ·simp at gN
    ·rename_i s0 x0 hargs
     split at gN
     ·rename_i sy xy t u hsy pP htypes
      split at gN
      ·rename_i e jR
       split at gN
       ·rename_i i hi
        split at gN
        ·rename_i jt
         cases gN;simp only [bZ] at gR;have qH:P.underlying t=some (.slice e):=by
          unfold a4A at jR;split at jR
          ·rename_i hu;simp at jR;rw [hu,jR]
          ·simp at jR
         have ha:args=#[s0,x0]:=by rw [<- Array.toArray_toList (xs:=args),hargs]
         have xM:types=#[t,u]:=by rw [<- Array.toArray_toList (xs:=types),htypes]
         subst ha;subst xM;have iL:s'.next=s.next:=by
          unfold a6b at gR;split at gR
          ·split at gR
           ·split at gR
            ·cases gR;rfl
            ·simp at gR
           ·simp at gR
          ·simp at gR
         refine ⟨by omega,fun gY hK=>?_⟩;obtain ⟨v,w',h1,h2,h3,h4⟩:=b9O (P:=P) (u:=u) qH hi jt hs (a0q he hsy) (a0q he pP) gR type;unfold Oper.wp;have im:(execOp a.eval ⟨dst,.call ⟨.builtin .copy,#[s0,x0],#[t,u]⟩,type,pos,after,guard⟩).run P w=.ok (.value v) w':=by
          simp only [execOp,resolve,Sem.run_bind,Sem.run_pure,Result.andThen_ok,invoke,builtin];have:(#[s0,x0].map a.eval)=#[a.eval s0,a.eval x0]:=by simp
          rw [this,h1];rfl
         rw [im];refine hK v w' μ Φ h2 h4 ?_;rw [iL];exact h3
        ·simp at gN
       ·simp at gN
      ·simp at gN
     ·simp at gN
    ·simp at gN
 case move x=>obtain ⟨z,_,e⟩:=map_some gN;cases e
 case assign x=>obtain ⟨z,_,e⟩:=map_some gN;cases e
 case nilCheck x=>obtain ⟨z,_,e⟩:=map_some gN;cases e
 case binOp op t x y yt=>obtain ⟨z,_,e⟩:=map_some gN;cases e
 case unOp op t x=>obtain ⟨z,_,e⟩:=map_some gN;cases e
 case extract x i=>obtain ⟨z,_,e⟩:=map_some gN;cases e
 case alloc t=>obtain ⟨z,_,e⟩:=map_some gN;cases e
 case box t x=>obtain ⟨z,_,e⟩:=map_some gN;cases e
 case pick c x y=>split at gN<;>simp at gN
 case load t x=>split at gN<;>simp at gN
 case store t x y=>split at gN<;>simp at gN
 case fieldAddr t x f =>
  split at gN
  ·split at gN<;>simp at gN
  ·simp at gN
 case field t x f =>
  split at gN
  ·split at gN<;>simp at gN
  ·simp at gN
 case indexAddr t x f =>
  split at gN
  ·split at gN<;>simp at gN
  ·split at gN
   ·split at gN<;>simp at gN
   ·simp at gN
 case build t parts =>
  split at gN
  ·split at gN
   ·split at gN<;>simp at gN
   ·simp at gN
  ·simp at gN
 case buildSlice t len parts =>
  split at gN
  ·split at gN
   ·split at gN<;>simp at gN
   ·simp at gN
  ·simp at gN
 case makeSlice t l c =>
  split at gN
  ·split at gN
   ·split at gN<;>simp at gN
   ·simp at gN
  ·simp at gN
 case lookup t m k ok =>
  split at gN
  ·split at gN
   ·split at gN<;>simp at gN
   ·simp at gN
  ·simp at gN
 case index t x f =>
  split at gN
  ·simp at gN
  ·split at gN<;>simp at gN
  ·simp at gN
 case convert src dst' x =>
  split at gN
  ·simp at gN
  ·split at gN<;>simp at gN
  ·simp at gN
 case slice t x lo hi mx =>
  cases mx with
  | some _=>simp at gN
  | none =>
    simp only at gN;split at gN
    ·simp at gN
    ·split at gN<;>simp at gN
    ·simp at gN
 case makeFunc fn first ir =>
  cases fn<;>simp only at gN<;>try (cases gN;done)
  split at gN
  ·obtain ⟨z,_,e⟩:=map_some gN;cases e
  ·simp at gN
 case makeMap t r=>cases r<;>simp at gN
 all_goals (cases gN;done)
end
end Go.V
namespace Go.V
def b79 (ops:Array Oper):Option (Nat×Bool)->Option (Option (Nat×Bool))
 | none=>some none
 | some (j,want)=>match (ops[j]?).bind (·.dst) with
   | some t=>some (some (t,want))
   | none=>none
def a7J (N:Nat):Option Nat->Bool
 | some t=>decide (t<N)
 | none=>true
def a3h (P:Program) (md:FuncId->a1Q) (N:Nat) (ops:Array Oper) (o:Oper):Option Z3 :=
 match a3p P md o,b79 ops o.guard with
 | some v,some g=>if a7J N o.dst then some ⟨o.dst,v,g⟩ else none
 | _,_=>none
structure fH (N:Nat) (μ:Mu) (Φ:W0) (env:q8) (a:Act):Prop where
 env:a1S μ Φ env a
 size:N<=a.tmps.size
 defers:a.defers=[]
theorem fH.mono {N:Nat} {μ μ':Mu} {Φ Φ':W0} {env:q8} {a:Act} (hm:μ.le μ') (h:Φ.le Φ') (e:fH N μ Φ env a):fH N μ' Φ' env a:=⟨e.env.mono hm h,e.size,e.defers⟩
theorem b25 {a:Act} {t:Nat} {v:Value} (t':Nat) (h:t<a.tmps.size):(a.put (some t) v).tmps.getD t' undef=if t'=t then v else a.tmps.getD t' undef:=by
 simp only [Act.put,Array.getD_eq_getD_getElem?];by_cases e:t'=t
 ·subst e;simp [h]
 ·simp [e,Array.getElem?_setIfInBounds_ne (fun x=>e x.symm)]
theorem fH.put {N:Nat} {μ:Mu} {Φ:W0} {env:q8} {a:Act} (h:fH N μ Φ env a) {dst:Option Nat} (hd:a7J N dst=true) {d:D} {v:Value} (hr:R μ Φ d v):fH N μ Φ (env.put dst d) (a.put dst v):=by
 cases dst with
 | none=>exact h
 | some t =>
   have ht:t<a.tmps.size:=Nat.lt_of_lt_of_le (by simpa [a7J] using hd) h.size;refine ⟨fun t'=>?_,?_,h.defers⟩
   ·rw [b25 t' ht]
    simp only [q8.put,q8.get];by_cases e:t'=t
    ·subst e;simp [hr]
    ·have e2:¬ t=t':=fun x=>e x.symm
     simp only [e,e2,if_false];exact h.env t'
   ·simpa [Act.put] using h.size
theorem fH.aF {N:Nat} {μ:Mu} {Φ:W0} {env:q8} {a:Act} (h:fH N μ Φ env a) (vars:List Nat):fH N μ Φ (env.aF vars) a:=by
 refine ⟨fun t=>?_,h.size,h.defers⟩;have:∀l:List Nat,R μ Φ (q8.get (l.map fun t=>(t,q8.get env t)) t) (a.tmps.getD t undef):=by
  intro l;induction l with
  | nil=>simp [q8.get,R]
  | cons x l ih =>
    simp only [List.map_cons,q8.get];by_cases e:x=t
    ·subst e;simp only [if_true];exact h.env x
    ·simp only [e,if_false];exact ih
 exact this vars
theorem b0A {P:Program} {md:FuncId->a1Q} {N:Nat} {μ:Mu} {Φ:W0} {env:q8} {a:Act} {ops:Array Oper} {o:Oper} {vo:Z3} (hc:a3h P md N ops o=some vo) (he:a1S μ Φ env a) {b:Bool}
 (h:a2c env vo.guard=some b):Region.wanted o (yielded ops a.tmps)=b:=by
 unfold a3h at hc;split at hc
 ·rename_i v g hv hg
  split at hc
  ·simp at hc;subst hc
   simp only at h;unfold b79 at hg;split at hg
   ·rename_i yM
    simp at hg;subst hg;simp [a2c] at h;subst h;simp [Region.wanted,yM]
   ·rename_i j want yM
    split at hg
    ·rename_i t ht
     simp at hg;subst hg;have hr:=he t;simp only [a2c] at h;simp only [Region.wanted,yM,yielded,ht,Option.bind_some];split at h
     ·rename_i b' hb
      rw [hb] at hr;simp only [R,Array.getD_eq_getD_getElem?] at hr;simp at h;subst h;cases hx:a.tmps[t]? with
      | none=>simp [hx,undef] at hr
      | some x =>
        simp [hx] at hr;subst hr;cases b'<;>cases want<;>rfl
     ·rename_i hb
      rw [hb] at hr;simp only [R,RL,Array.getD_eq_getD_getElem?] at hr;obtain ⟨vs,e1,e2⟩:=hr;subst e2;simp at h;subst h;cases hx:a.tmps[t]? with
      | none=>rfl
      | some x =>
        simp [hx] at e1;subst e1;rfl
     ·simp at h
    ·simp at hg
  ·simp at hc
 ·simp at hc
theorem b7C {P:Program} {md:FuncId->a1Q} {N:Nat} {ops:Array Oper} {o:Oper} {vo:Z3} (hc:a3h P md N ops o=some vo):a3p P md o=some vo.op/\vo.dst=o.dst/\a7J N o.dst=true:=by
 unfold a3h at hc;split at hc
 ·rename_i v g hv hg
  split at hc
  ·rename_i hd
   simp at hc;subst hc;exact ⟨hv,rfl,hd⟩
  ·simp at hc
 ·simp at hc
section
variable {P:Program} {md:FuncId->a1Q} {N:Nat} {μ:Mu} {Φ:W0} {env:q8} {a:Act} {d:D} {w:World} {K:Act->World->Prop} {Q:Exit->Act->World->Prop}
theorem op_wp {C:a09} (hC:a4m P C) {o:Oper} {vo:fy} (gN:a3p P md o=some vo) (he:a1S μ Φ env a) {s s':k4} (hs:Y4 μ Φ s.get w) (gR:a0i C env s vo=some (d,s')) :
 s.next<=s'.next/\(a5a μ s.next s'.next->(∀v w' μ' Φ',Y4 μ' Φ' s'.get w'->R μ' Φ' d v->br μ Φ s.get w μ' Φ' s'.get w' s.next s'.next->K (a.put o.dst v) w')->o.wp P a w K Q):=by
 cases vo with
 | p po =>
   simp only [a0i] at gR;obtain ⟨d',h1,e⟩:=map_some gR;cases e;exact ⟨Nat.le_refl _,fun _ hK=>P_wp gN he h1 fun v hv=>hK v w μ Φ hs hv (br.refl _ _ _ _ _)⟩
 | r ro =>
   simp only [a0i] at gR;obtain ⟨d',h1,e⟩:=map_some gR;cases e;exact ⟨Nat.le_refl _,fun _ hK=>R_wp gN he hs h1 fun v hv=>hK v w μ Φ hs hv (br.refl _ _ _ _ _)⟩
 | a ao =>
   simp only [a0i] at gR;split at gR
   ·rename_i ob m h1
    cases gR;refine ⟨Nat.le_succ _,fun hf hK=>A_wp gN he hs h1 (hf s.next (Nat.le_refl _) (Nat.lt_succ_self _)) (k4.get_none _ _ (Nat.le_refl _)) fun v w' μ' h2 h3 h4=>?_⟩;have kF:(s.push ob).get=bo s.get s.next (some ob):=funext fun j=>b6U s ob j
    exact hK v w' μ' Φ (by rw [kF];exact h2) h3 (by rw [kF];exact h4)
   ·simp at gR
 | w n ad x =>
   simp only [a0i] at gR;split at gR
   ·rename_i id ob h1
    cases gR;have iC:id<s.next:=by
     unfold dh at h1;split at h1
     ·split at h1
      ·rename_i hg
       simp only at h1;split at h1
       ·simp at h1;rw [<- h1.1];exact a8F hg
       ·simp at h1
      ·simp at h1
     ·simp at h1
    refine ⟨Nat.le_refl _,fun _ hK=>W_wp gN he hs h1 s.next fun w' h2 h3=>?_⟩;have kF:(s.set id (some ob)).get=bo s.get id (some ob):=funext fun j=>b1R s id _ iC j
    exact hK undef w' μ Φ (by rw [kF];exact h2) a8Y (by rw [kF];exact h3)
   ·simp at gR
 | m mo=>exact M_wp hC gN he hs gR
theorem b82 (j:Tr):∀l:List Tr,a1q [] j l=true
 | []=>rfl
 | i::l=>by simp [a1q,b82 j l]
def a7i (N:Nat) (μ:Mu) (Φ:W0) (s:k4) (w:World) (gQ:q8) (s':k4) (K:Act->World->Prop):Prop :=
 ∀a' w' μ' Φ',fH N μ' Φ' gQ a'->Y4 μ' Φ' s'.get w'->br μ Φ s.get w μ' Φ' s'.get w' s.next s'.next->K a' w'
theorem a8l {C:a09} (hC:a4m P C) {ops:Array Oper} {ae:List (Nat×Nat)}:∀ {vl:List (Nat×Z3)} {tr:List Tr} {env gQ:q8} {s s':k4},
 (∀x∈vl,∃o,a3h P md N ops o=some x.2)->a01 C ae vl tr env s=some (gQ,s')->s.next<=s'.next
 | [],tr,env,gQ,s,s',_,h=>by simp [a01] at h;rw [h.2];exact Nat.le_refl _
 | (i,o)::vl,tr,env,gQ,s,s',hx,h=>by
   simp only [a01] at h;split at h
   ·simp at h
   ·exact a8l hC (fun x hm=>hx x (by simp [hm])) h
   ·split at h
    ·simp at h
    ·rename_i d1 s1 h1
     split at h
     ·have h2:=a8l hC (fun x hm=>hx x (by simp [hm])) h
      obtain ⟨o',zN⟩:=hx (i,o) (by simp);have h3:s.next<=s1.next:=by
       cases iX:o.op with
       | p po=>rw [iX] at h1;simp only [a0i] at h1;obtain ⟨_,_,e⟩:=map_some h1;cases e;exact Nat.le_refl _
       | r po=>rw [iX] at h1;simp only [a0i] at h1;obtain ⟨_,_,e⟩:=map_some h1;cases e;exact Nat.le_refl _
       | a ao=>rw [iX] at h1;simp only [a0i] at h1;split at h1<;>simp at h1;rw [<- h1.2];exact Nat.le_succ _
       | w n ad x=>rw [iX] at h1;simp only [a0i] at h1;split at h1<;>simp at h1;rw [<- h1.2];exact Nat.le_refl _
       | m mo =>
         rw [iX] at h1;simp only [a0i] at h1;cases mo with
         | call md' f args =>
           simp only [bZ] at h1;generalize env.ev f=fd at h1;cases fd<;>try (simp [a2U] at h1;done)
           exact (b4y hC h1).1
         | append sz bytes sx x =>
           simp only [bZ,Z6] at h1;split at h1
           ·split at h1
            ·split at h1
             ·split at h1
              ·cases h1;exact Nat.le_refl _
              ·split at h1
               ·cases h1;exact Nat.le_succ _
               ·simp at h1
             ·split at h1
              ·split at h1
               ·split at h1
                ·cases h1;exact Nat.le_refl _
                ·split at h1
                 ·cases h1;exact Nat.le_succ _
                 ·simp at h1
               ·simp at h1
              ·simp at h1
             ·split at h1
              ·cases h1;exact Nat.le_refl _
              ·simp at h1
             ·simp at h1
            ·simp at h1
           ·simp at h1
         | copy sx x =>
           simp only [bZ,a6b] at h1;split at h1
           ·split at h1
            ·split at h1
             ·cases h1;exact Nat.le_refl _
             ·simp at h1
            ·simp at h1
           ·simp at h1
         | cI ks m k v =>
           simp only [bZ] at h1;split at h1
           ·split at h1
            ·split at h1
             ·split at h1
              ·obtain ⟨_,_,e⟩:=map_some h1;cases e;exact Nat.le_refl _
              ·simp at h1
             ·simp at h1
            ·simp at h1
           ·simp at h1
      omega
     ·simp at h
theorem b4E {C:a09} (hC:a4m P C) {ops:Array Oper}:∀ {l:List Oper} {vl:List (Nat×Z3)} {tr:List Tr} {env gQ:q8} {s s':k4} {μ:Mu} {Φ:W0} {a:Act} {w:World},
 vl.length=l.length->(∀ (j:Nat) (o:Oper) (x:Nat×Z3),l[j]?=some o->vl[j]?=some x->a3h P md N ops o=some x.2)->a01 C [] vl tr env s=some (gQ,s') ->
 fH N μ Φ env a->Y4 μ Φ s.get w->a5a μ s.next s'.next->a7i N μ Φ s w gQ s' (fun a w=>Q .normal a w)->wpList P ops Q l a w
 | [],vl,tr,env,gQ,s,s',μ,Φ,a,w,hl,_,h,hf,hs,_,hQ=>by
   cases vl with
   | cons _ _=>simp at hl
   | nil =>
     simp [a01] at h;obtain ⟨rfl,rfl⟩:=h;exact hQ a w μ Φ hf hs (br.refl _ _ _ _ _)
 | o::l,vl,tr,env,gQ,s,s',μ,Φ,a,w,hl,hx,h,hf,hs,gY,hQ=>by
   cases vl with
   | nil=>simp at hl
   | cons v vl =>
     obtain ⟨i,vo⟩:=v;have hc:=hx 0 o (i,vo) (by simp) (by simp);obtain ⟨gN,nD,hdok⟩:=b7C hc;have pG:∀ (j:Nat) (o:Oper) (x:Nat×Z3),l[j]?=some o->vl[j]?=some x->a3h P md N ops o=some x.2:=fun j o x h1 h2=>hx (j+1) o x (by simpa using h1) (by simpa using h2)
     have jd:vl.length=l.length:=by simpa using hl
     have gU:∀x∈vl,∃o,a3h P md N ops o=some x.2:=by
      intro x hm;obtain ⟨j,hj⟩:=List.getElem?_of_mem hm;have iC:j<l.length:=by rw [<- jd];exact (List.getElem?_eq_some_iff.1 hj).1
      exact ⟨l[j],pG j _ x (by simp [iC]) hj⟩
     simp only [a01] at h;split at h
     ·simp at h
     ·rename_i hw
      have kK:=b0A hc hf.env hw;unfold wpList;rw [kK];simp only [Bool.false_eq_true,if_false];have tH:=hf.put hdok (d:=.aR []) (v:=undef) a8Y;rw [<- nD] at tH;rw [<- nD];exact b4E hC jd pG h tH hs gY hQ
     ·rename_i hw
      have kK:=b0A hc hf.env hw;split at h
      ·simp at h
      ·rename_i d1 s1 h1
       simp only [b82,if_true] at h;have hn:=a8l (P:=P) (md:=md) (N:=N) hC gU h;unfold wpList;rw [kK];simp only [if_true];left;obtain ⟨Ap,wJ⟩:=op_wp (K:=wpList P ops Q l) (Q:=Q) hC gN hf.env hs h1;refine wJ (fun id h2 h3=>gY id h2 (by omega)) ?_;intro v w' μ' Φ' kc hr he;have tH:=(hf.mono he.mu he.df).put hdok hr;rw [<- nD] at tH;rw [<- nD];refine b4E hC jd pG h tH kc ?_ ?_
       ·intro id h2 h3
        rw [he.bI id (.inr h2)];exact gY id (by omega) h3
       ·intro a2 w2 μ2 Φ2 g1 g2 g3
        exact hQ a2 w2 μ2 Φ2 g1 g2 (he.trans Ap hn g3)
end
end Go.V
namespace Go.V
def X7.slot:X7->List Nat
 | .tmp t=>[t]
 | .aG _=>[]
def a7B:List X7->List Nat
 | []=>[]
 | x::r=>x.slot++a7B r
def b0O:Option X7->List Nat
 | some x=>x.slot
 | none=>[]
def a7T:List (Nat×Nat×X7)->List Nat
 | []=>[]
 | (_,_,x)::r=>x.slot++a7T r
def b0g:List (Nat×X7)->List Nat
 | []=>[]
 | (_,x)::r=>x.slot++b0g r
def fG.aW:fG->List Nat
 | .mov x=>x.slot
 | .pick c a b=>c.slot++(a.slot++b.slot)
 | .aK x=>x.slot
 | .bin _ x y=>x.slot++y.slot
 | .eqB _ x y=>x.slot++y.slot
 | .eP _ _ x y=>x.slot++y.slot
 | .dE _ _ x=>x.slot
 | .un _ x=>x.slot
 | .conv _ x=>x.slot
 | .build _ ps=>a7T ps
 | .cm _ x=>x.slot
 | .field _ _ x=>x.slot
 | .aA _ x i=>x.slot++i.slot
 | .cN x i=>x.slot++i.slot
 | .idxV _ _ _ x i=>x.slot++i.slot
 | .len _ x=>x.slot
 | .bE _ x xs=>x.slot++a7B xs
 | .slice _ x lo hi=>x.slot++(b0O lo++b0O hi)
 | .extract x _=>x.slot
 | .eQ _ xs=>a7B xs
def ROp.aW:ROp->List Nat
 | .load _ x=>x.slot
 | .lookup _ _ _ m k=>m.slot++k.slot
 | .b2s x=>x.slot
def AOp.aW:AOp->List Nat
 | .alloc _=>[]
 | .box x=>x.slot
 | .aw _ _ _ ps=>b0g ps
 | .aE _ _ _ l c=>l.slot++c.slot
 | .eR=>[]
def MOp.aW:MOp->List Nat
 | .call _ f xs=>f.slot++a7B xs
 | .append _ _ s x=>s.slot++x.slot
 | .cI _ m k v=>m.slot++(k.slot++v.slot)
 | .copy s x=>s.slot++x.slot
def fy.aW:fy->List Nat
 | .p o=>o.aW
 | .r o=>o.aW
 | .a o=>o.aW
 | .w _ ad x=>ad.slot++x.slot
 | .m o=>o.aW
def b1d:Option (Nat×Bool)->List Nat
 | some (t,_)=>[t]
 | none=>[]
def Z3.looks (o:Z3):List Nat:=b1d o.guard++o.op.aW
section
variable {env gQ:q8}
def a2E (env gQ:q8) (l:List Nat):Prop:=∀t∈l,env.get t=gQ.get t
theorem a2E.left {l m:List Nat} (h:a2E env gQ (l++m)):a2E env gQ l:=fun t ht=>h t (by simp [ht])
theorem a2E.right {l m:List Nat} (h:a2E env gQ (l++m)):a2E env gQ m:=fun t ht=>h t (by simp [ht])
theorem a1w {x:X7} (h:a2E env gQ x.slot):env.ev x=gQ.ev x:=by
 cases x with
 | tmp t=>exact h t (by simp [X7.slot])
 | aG d=>rfl
theorem a98:∀ {xs:List X7},a2E env gQ (a7B xs)->env.aP xs=gQ.aP xs
 | [],_=>rfl
 | x::xs,h=>by simp only [q8.aP,a7B] at h ⊢;rw [a1w h.left,a98 h.right]
theorem b49 {x:Option X7} (h:a2E env gQ (b0O x)):env.evO x=gQ.evO x:=by
 cases x with
 | none=>rfl
 | some x=>simp only [q8.evO,b0O] at h ⊢;rw [a1w h]
theorem b2I:∀ {ps:List (Nat×Nat×X7)} (cs:List D),a2E env gQ (a7T ps)->a4r env cs ps=a4r gQ cs ps
 | [],cs,_=>rfl
 | (off,size,x)::ps,cs,h=>by
   simp only [a4r,a7T] at h ⊢;rw [a1w h.left];split
   ·exact b2I _ h.right
   ·rfl
theorem b8s (sz:Nat):∀ps:List (Nat×X7),a7T (ps.map fun (i,x)=>(i*sz,sz,x))=b0g ps
 | []=>rfl
 | (i,x)::ps=>by simp only [List.map_cons,a7T,b0g,b8s sz ps]
theorem evP_c {po:fG} (h:a2E env gQ po.aW):bH env po=bH gQ po:=by
 cases po<;>simp only [fG.aW] at h<;>simp only [bH]<;>first
  | rw [a1w h]
  | rw [a1w h.left,a1w h.right.left,a1w h.right.right]
  | rw [a1w h.left,a1w h.right]
  | rw [b2I _ h]
  | rw [a1w h.left,a98 h.right]
  | rw [a1w h.left,b49 h.right.left,b49 h.right.right]
  | rw [a98 h]
theorem evR_c {ro:ROp} {g:a0k} (h:a2E env gQ ro.aW):cO env g ro=cO gQ g ro:=by
 cases ro<;>simp only [ROp.aW] at h<;>simp only [cO]<;>first
  | rw [a1w h.left,a1w h.right]
  | rw [a1w h]
theorem evA_c {ao:AOp} (h:a2E env gQ ao.aW):dW env ao=dW gQ ao:=by
 cases ao with
 | alloc z=>rfl
 | box x=>simp only [dW];rw [a1w h]
 | aw sz len z ps=>simp only [dW];rw [b2I _ (by rw [b8s];exact h)]
 | aE sz b z l c=>simp only [dW];simp only [AOp.aW] at h;rw [a1w h.left,a1w h.right]
 | eR=>rfl
theorem evW_c {g:a0k} {n:Nat} {ad x:X7} (h:a2E env gQ (ad.slot++x.slot)):dh env g n ad x=dh gQ g n ad x:=by
 simp only [dh];rw [a1w h.left,a1w h.right]
theorem evM_c {C:a09} {s:k4} {mo:MOp} (h:a2E env gQ mo.aW):bZ C env s mo=bZ C gQ s mo:=by
 cases mo with
 | call m f xs=>simp only [bZ];simp only [MOp.aW] at h;rw [a1w h.left,a98 h.right]
 | append sz b s x=>simp only [bZ];simp only [MOp.aW] at h;rw [a1w h.left,a1w h.right]
 | cI ks m k v=>simp only [bZ];simp only [MOp.aW] at h;rw [a1w h.left,a1w h.right.left,a1w h.right.right]
 | copy s x=>simp only [bZ];simp only [MOp.aW] at h;rw [a1w h.left,a1w h.right]
theorem b8h {g:Option (Nat×Bool)} (h:a2E env gQ (b1d g)):a2c env g=a2c gQ g:=by
 cases g with
 | none=>rfl
 | some p =>
   obtain ⟨t,b⟩:=p;simp only [a2c];rw [h t (by simp [b1d])]
end
theorem c49 {env:q8} {ro:ROp} {g g':a0k} (h:∀id,fV env ro=some id->g id=g' id):cO env g ro=cO env g' ro:=by
 cases ro with
 | load n x =>
   simp only [cO,fV] at h ⊢;split
   ·rename_i id off hx
    rw [hx] at h;rw [h id rfl]
   ·rfl
   ·rfl
 | lookup ks z ok m k =>
   simp only [cO,fV] at h ⊢;split
   ·rename_i id hx
    rw [hx] at h;rw [h id rfl]
   ·rfl
 | b2s x =>
   simp only [cO,fV] at h ⊢;have:a1h g (env.ev x)=a1h g' (env.ev x):=by
    generalize env.ev x=d at h ⊢;cases d<;>simp only [a1h];rw [h _ rfl]
   rw [this]
theorem c1D {env:q8} {n:Nat} {ad x:X7} {g g':a0k} (h:∀id,rdW env ad=some id->g id=g' id):dh env g n ad x=dh env g' n ad x:=by
 simp only [dh,rdW] at h ⊢;split
 ·rename_i id off hx
  rw [hx] at h;rw [h id rfl]
 ·rfl
def fY:fy->Bool | .p _=>true | _=>false
def fZ:fy->Bool | .r _=>true | _=>false
def gB:fy->Bool | .a _=>true | _=>false
def gf:fy->Bool | .w _ _ _=>true | _=>false
def fI:fy->Bool | .m _=>true | _=>false
def a4H (ae:List (Nat×Nat)) (i j:Nat) (x y:fy):Bool :=
 fY x||fY y||(fZ x&&fZ y)||(gB y)||(!(fI x&&fI y)&&!(fI x&&gf y)&&!(gf x&&fI y)&&!(gB x&&fI y)&&ae.contains (i,j))
def b1r (d:Option Nat) (l:List Nat):Bool :=
 match d with
 | some t=>!l.contains t
 | none=>true
def a65 (x y:Z3):Bool :=
 b1r x.dst y.looks&&b1r y.dst x.looks&&(match x.dst,y.dst with | some t,some u=>t != u | _,_=>true)
def cr (acc:List Nat):List Edge->Nat
 | []=>0
 | e::es=>(if Region.binds .any e then 2 ^ e.on ||| acc.getD e.on 0 else 0) ||| cr acc es
def a5c:List Oper->List Nat->List Nat
 | [],acc=>acc
 | o::r,acc=>a5c r (acc++[cr acc o.after.toList])
def a6A (ms:List Nat) (ae:List (Nat×Nat)) (x y:Nat×Z3):Bool :=
 !(ms.getD x.1 0).testBit y.1&&((ms.getD y.1 0).testBit x.1||(a65 x.2 y.2&&a4H ae x.1 y.1 x.2.op y.2.op))
def b0C (f:Nat×Z3->Nat×Z3->Bool):List (Nat×Z3)->Bool
 | []=>true
 | x::r=>r.all (f x)&&b0C f r
def a6R:List Oper->Nat->Bool
 | [],_=>true
 | o::r,i=>o.after.toList.all (fun e=>!Region.binds .any e||decide (e.on<i))&&a6R r (i+1)
def b0P (ops:Array Oper) (l:List (Nat×Z3)) (ae:List (Nat×Nat)):Bool :=
 decide (l.map (·.1)).Nodup&&decide (l.length=ops.size)&&l.all (fun x=>decide (x.1<ops.size))&&a6R ops.toList 0&&(List.range ops.size).all (fun i=>(l.map (·.1)).contains i)&&b0C (a6A (a5c ops.toList []) ae) l
def On (L:Array Bool) (i:Nat):Prop:=L.getD i false=true
def Shut (ops:Array Oper) (L:Array Bool):Prop:=∀ (j:Nat) (o:Oper),ops[j]?=some o->On L j->∀e∈o.after.toList,Region.binds .any e=true->On L e.on
theorem b51 {acc:List Nat}:∀ {es:List Edge} {i:Nat},(cr acc es).testBit i=true->∃e∈es,Region.binds .any e=true/\(e.on=i∨(acc.getD e.on 0).testBit i=true)
 | [],i,h=>by simp [cr] at h
 | e::es,i,h=>by
   simp only [cr,Nat.testBit_or,Bool.or_eq_true] at h;rcases h with h | h
   ·split at h
    ·rename_i hb
     simp only [Nat.testBit_or,Bool.or_eq_true] at h;rcases h with h | h
     ·refine ⟨e,by simp,hb,.inl ?_⟩
      by_cases he:e.on=i
      ·exact he
      ·rw [Nat.testBit_two_pow_of_ne he] at h;cases h
     ·exact ⟨e,by simp,hb,.inr h⟩
    ·simp at h
   ·obtain ⟨e',h1,h2,h3⟩:=b51 h
    exact ⟨e',by simp [h1],h2,h3⟩
theorem b5Z:∀ (l:List Oper) (acc:List Nat),∃ms,a5c l acc=acc++ms/\ms.length=l.length/\∀ (j:Nat) (o:Oper),l[j]?=some o->ms[j]?=some (cr (acc++ms.take j) o.after.toList)
 | [],acc=>⟨[],by simp [a5c],rfl,by simp⟩
 | o::l,acc=>by
   obtain ⟨ms,h1,h2,h3⟩:=b5Z l (acc++[cr acc o.after.toList]);refine ⟨cr acc o.after.toList::ms,by simp [a5c,h1],by simp [h2],?_⟩;intro j o' hj;cases j with
   | zero=>simp at hj;subst hj;simp
   | succ j =>
     simp at hj;have:=h3 j o' hj;simpa using this
theorem b3g:∀ {l:List Oper} {i:Nat},a6R l i=true->∀ (j:Nat) (o:Oper),l[j]?=some o->∀e∈o.after.toList,Region.binds .any e=true->e.on<i+j
 | [],i,_,j,o,h=>by simp at h
 | o::l,i,hb,j,o',hj=>by
   simp only [a6R,Bool.and_eq_true,List.all_eq_true] at hb;intro e he pd;cases j with
   | zero =>
     simp at hj;subst hj;have:=hb.1 e he;simp [pd] at this;omega
   | succ j =>
     have:=b3g hb.2 j o' (by simpa using hj) e he pd;omega
theorem b8C {ops:Array Oper} {L:Array Bool} (hb:a6R ops.toList 0=true) (hs:Shut ops L):∀ (j:Nat) (o:Oper),ops[j]?=some o->(∀e∈o.after.toList,Region.binds .any e=true->On L e.on) ->
 ∀i,((a5c ops.toList []).getD j 0).testBit i=true->On L i:=by
 obtain ⟨ms,h1,h2,h3⟩:=b5Z ops.toList [];simp only [List.nil_append] at h1;intro j;induction j using Nat.strongRecOn with
 | _ j ih =>
   intro o ho hpre i hi;have hm:=h3 j o (by simpa using ho);rw [h1] at hi;simp only [List.nil_append] at hm;rw [List.getD_eq_getElem?_getD,hm,Option.getD_some] at hi;obtain ⟨e,he,pd,pA⟩:=b51 hi;have tX:=hpre e he pd;rcases pA with rfl | hbit
   ·exact tX
   ·have iC:e.on<j:=by
     have:=b3g hb j o (by simpa using ho) e he pd;omega
    rw [List.getD_eq_getElem?_getD,List.getElem?_take_of_lt iC,<- List.getD_eq_getElem?_getD] at hbit;have hjs:j<ops.size:=(Array.getElem?_eq_some_iff.1 ho).1;have AJ:ops[e.on]?=some ops[e.on]:=by simp
    refine ih e.on iC _ AJ (hs e.on _ AJ tX) i ?_;rw [h1];exact hbit
structure Rec where
 i:Nat
 o:Z3
 env:q8
 s:k4
 d:D
 s':k4
 rd:Option Nat
def Rec.ok (C:a09) (r:Rec):Prop :=
 (a2c r.env r.o.guard=some false/\r.d=.aR []/\r.s'=r.s/\r.rd=none) ∨
 (a2c r.env r.o.guard=some true/\a0i C r.env r.s r.o.op=some (r.d,r.s')/\r.rd=a1p r.env r.o.op)
def a3e (C:a09):q8->k4->List Rec->q8->k4->Prop
 | env,s,[],gQ,s'=>gQ=env/\s'=s
 | env,s,r::rs,gQ,s'=>r.env=env/\r.s=s/\r.ok C/\a3e C (r.env.put r.o.dst r.d) r.s' rs gQ s'
def a5H (ae:List (Nat×Nat)) (p q:Rec):Prop:=ae.contains (p.i,q.i)=true->a1N q.s q.s' p.rd=true/\a1N p.s p.s' q.rd=true
theorem b9q (s:k4) (rd:Option Nat):a1N s s rd=true:=by
 cases rd with
 | none=>rfl
 | some id=>exact a9S _
theorem b8R {ae:List (Nat×Nat)} {j:Tr}:∀ {l:List Tr},a1q ae j l=true->∀i∈l,ae.contains (i.idx,j.idx)=true->a1N j.pre j.post i.rd=true/\a1N i.pre i.post j.rd=true
 | [],_,i,hi=>by simp at hi
 | t::l,h,i,hi=>by
   simp only [a1q,Bool.and_eq_true] at h;rcases List.mem_cons.1 hi with rfl | hi
   ·intro hp
    have:=h.1;rw [hp] at this;simpa using this
   ·exact b8R h.2 i hi
theorem b2z {C:a09} {ae:List (Nat×Nat)} (iw:ae.isEmpty=false):∀ {l:List (Nat×Z3)} {tr:List Tr} {env gQ:q8} {s s':k4},a01 C ae l tr env s=some (gQ,s') ->
 ∃rs:List Rec,rs.map (fun r=>(r.i,r.o))=l/\a3e C env s rs gQ s'/\rs.Pairwise (a5H ae) /\
  ∀t∈tr,∀r∈rs,ae.contains (t.idx,r.i)=true->a1N r.s r.s' t.rd=true/\a1N t.pre t.post r.rd=true
 | [],tr,env,gQ,s,s',h=>by
   simp [a01] at h;exact ⟨[],rfl,⟨h.1.symm,h.2.symm⟩,.nil,by simp⟩
 | (i,o)::l,tr,env,gQ,s,s',h=>by
   simp only [a01] at h;split at h
   ·simp at h
   ·rename_i hw
    obtain ⟨rs,h1,h2,h3,h4⟩:=b2z iw h;refine ⟨⟨i,o,env,s,.aR [],s,none⟩::rs,by simp [h1],⟨rfl,rfl,.inl ⟨hw,rfl,rfl,rfl⟩,h2⟩,?_,?_⟩
    ·refine List.pairwise_cons.2 ⟨?_,h3⟩
     intro q _ _;exact ⟨rfl,b9q _ _⟩
    ·intro t ht r hr hp
     rcases List.mem_cons.1 hr with rfl | hr
     ·exact ⟨b9q _ _,rfl⟩
     ·exact h4 t ht r hr hp
   ·rename_i hw
    split at h
    ·simp at h
    ·rename_i d1 s1 h1
     split at h
     ·rename_i pZ
      simp only [iw,Bool.false_eq_true,if_false] at h;obtain ⟨rs,g1,g2,g3,g4⟩:=b2z iw h;refine ⟨⟨i,o,env,s,d1,s1,a1p env o.op⟩::rs,by simp [g1],⟨rfl,rfl,.inr ⟨hw,h1,rfl⟩,g2⟩,?_,?_⟩
      ·refine List.pairwise_cons.2 ⟨?_,g3⟩
       intro q hq hp;exact g4 ⟨i,a1p env o.op,s,s1⟩ (by simp) q hq hp
      ·intro t ht r hr hp
       rcases List.mem_cons.1 hr with rfl | hr
       ·exact b8R pZ t ht hp
       ·exact g4 t (by simp [ht]) r hr hp
     ·simp at h
theorem b2c {C:a09} {ae:List (Nat×Nat)} (iw:ae.isEmpty=true):∀ {l:List (Nat×Z3)} {tr:List Tr} {env gQ:q8} {s s':k4},a01 C ae l tr env s=some (gQ,s') ->
 ∃rs:List Rec,rs.map (fun r=>(r.i,r.o))=l/\a3e C env s rs gQ s'/\rs.Pairwise (a5H ae)
 | [],tr,env,gQ,s,s',h=>by
   simp [a01] at h;exact ⟨[],rfl,⟨h.1.symm,h.2.symm⟩,.nil⟩
 | (i,o)::l,tr,env,gQ,s,s',h=>by
   have jm:∀p q,a5H ae p q:=by
    intro p q hp;have:ae=[]:=by simpa using iw
    rw [this] at hp;simp at hp
   simp only [a01] at h;split at h
   ·simp at h
   ·rename_i hw
    obtain ⟨rs,h1,h2,h3⟩:=b2c iw h;exact ⟨⟨i,o,env,s,.aR [],s,none⟩::rs,by simp [h1],⟨rfl,rfl,.inl ⟨hw,rfl,rfl,rfl⟩,h2⟩,List.pairwise_cons.2 ⟨fun q _=>jm _ q,h3⟩⟩
   ·rename_i hw
    split at h
    ·simp at h
    ·rename_i d1 s1 h1
     split at h
     ·obtain ⟨rs,g1,g2,g3⟩:=b2c iw h
      exact ⟨⟨i,o,env,s,d1,s1,a1p env o.op⟩::rs,by simp [g1],⟨rfl,rfl,.inr ⟨hw,h1,rfl⟩,g2⟩,List.pairwise_cons.2 ⟨fun q _=>jm _ q,g3⟩⟩
     ·simp at h
section
open Classical
variable {V:Type}
noncomputable def cur (pre post:Rec->V) (L:Array Bool):V->List Rec->V
 | v,[]=>v
 | v,r::rs=>cur pre post L (if On L r.i/\pre r≠post r then post r else v) rs
def a3I (pre post:Rec->V):V->List Rec->V->Prop
 | v,[],v'=>v'=v
 | v,r::rs,v'=>pre r=v/\a3I pre post (post r) rs v'
theorem a9l {pre post:Rec->V} {L:Array Bool}:∀ {rs:List Rec} (v:V),(∀q∈rs,On L q.i->pre q=post q)->cur pre post L v rs=v
 | [],v,_=>rfl
 | r::rs,v,h=>by
   simp only [cur];have:¬ (On L r.i/\pre r≠post r):=fun ⟨h1,h2⟩=>h2 (h r (by simp) h1)
   rw [if_neg this];exact a9l v fun q hq=>h q (by simp [hq])
theorem a8i {pre post:Rec->V} {L:Array Bool} {r:Rec} {B:List Rec} {v':V}:∀ {A:List Rec} {v:V},a3I pre post v (A++r::B) v'->(∀q∈A,¬ On L q.i->pre q=post q)->(¬ On L r.i∨pre r=post r)->(∀q∈B,On L q.i->pre q=post q) ->
 cur pre post L v (A++r::B)=pre r
 | [],v,hc,_,hr,hB=>by
   simp only [List.nil_append,a3I] at hc;simp only [List.nil_append,cur];have:¬ (On L r.i/\pre r≠post r):=by
    rintro ⟨h1,h2⟩;rcases hr with h | h
    ·exact h h1
    ·exact h2 h
   rw [if_neg this,a9l _ hB];exact hc.1.symm
 | q::A,v,hc,hA,hr,hB=>by
   simp only [List.cons_append,a3I] at hc;simp only [List.cons_append,cur];have hq:(if On L q.i/\pre q≠post q then post q else v)=post q:=by
    by_cases h1:On L q.i
    ·by_cases h2:pre q=post q
     ·rw [if_neg (by simp [h2]),<- hc.1];exact h2
     ·rw [if_pos ⟨h1,h2⟩]
    ·rw [if_neg (by simp [h1]),<- hc.1];exact hA q (by simp) h1
   rw [hq];exact a8i hc.2 (fun p hp=>hA p (by simp [hp])) hr hB
theorem a9j {pre post:Rec->V} {L:Array Bool} {r:Rec} {B:List Rec} {v':V}:∀ {A:List Rec} {v:V},a3I pre post v (A++r::B) v'->(∀q∈A,¬ On L q.i->pre q=post q)->On L r.i->(∀q∈B,On L q.i->pre q=post q) ->
 cur pre post L v (A++r::B)=post r
 | [],v,hc,_,hr,hB=>by
   simp only [List.nil_append,a3I] at hc;simp only [List.nil_append,cur];by_cases h2:pre r=post r
   ·rw [if_neg (by simp [h2]),a9l _ hB,<- hc.1];exact h2
   ·rw [if_pos ⟨hr,h2⟩,a9l _ hB]
 | q::A,v,hc,hA,hr,hB=>by
   simp only [List.cons_append,a3I] at hc;simp only [List.cons_append,cur];have hq:(if On L q.i/\pre q≠post q then post q else v)=post q:=by
    by_cases h1:On L q.i
    ·by_cases h2:pre q=post q
     ·rw [if_neg (by simp [h2]),<- hc.1];exact h2
     ·rw [if_pos ⟨h1,h2⟩]
    ·rw [if_neg (by simp [h1]),<- hc.1];exact hA q (by simp) h1
   rw [hq];exact a9j hc.2 (fun p hp=>hA p (by simp [hp])) hr hB
theorem b7s {pre post:Rec->V} {L L':Array Bool}:∀ {rs:List Rec} (v:V),(∀q∈rs,(On L' q.i↔On L q.i)∨pre q=post q)->cur pre post L' v rs=cur pre post L v rs
 | [],v,_=>rfl
 | r::rs,v,h=>by
   simp only [cur];have:(if On L' r.i/\pre r≠post r then post r else v)=(if On L r.i/\pre r≠post r then post r else v):=by
    rcases h r (by simp) with h1 | h1
    ·simp [h1]
    ·simp [h1]
   rw [this];exact b7s _ fun q hq=>h q (by simp [hq])
theorem b2t {pre post:Rec->V} {L:Array Bool} {v':V}:∀ {rs:List Rec} {v:V},a3I pre post v rs v'->(∀q∈rs,On L q.i)->cur pre post L v rs=v'
 | [],v,hc,_=>by simp only [a3I] at hc;simp only [cur];exact hc.symm
 | r::rs,v,hc,h=>by
   simp only [a3I] at hc;simp only [cur];have:(if On L r.i/\pre r≠post r then post r else v)=post r:=by
    by_cases h2:pre r=post r
    ·rw [if_neg (by simp [h2]),<- hc.1];exact h2
    ·rw [if_pos ⟨h r (by simp),h2⟩]
   rw [this];exact b2t hc.2 fun q hq=>h q (by simp [hq])
theorem b5a {pre post:Rec->V} {L:Array Bool} {rs:List Rec} (v:V) (h:∀q∈rs,¬ On L q.i):cur pre post L v rs=v:=a9l v fun q hq h1=>absurd h1 (h q hq)
end
end Go.V
