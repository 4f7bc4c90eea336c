/- Texts one behind the other. -/
import Derived.Orders
import Derived.WalkKit
import Derived.Laws.StructEq
import Derived.Laws.BytesArg
import Derived.MapKept
import Derived.LoopN
set_option linter.all false
set_option maxRecDepth 100000
set_option maxHeartbeats 8000000
namespace Go.V
def an:=@Int.toNat_natCast
def sm:=@Nat.le_refl
def so:=@if_neg
def Fi:=@List.mem_cons
def Fj:=@List.append_assoc
def Fk:=@if_pos
def Fl:=@List.append_nil
def Fm:=@List.mem_append
def Fo:=@Bool.and_eq_true
def Fp:=@List.getElem_mem
def Fq:=@List.length_append
def Fs:=@List.mem_map
def Fu:=@List.mem_singleton
def Fv:=@List.nil_append
def Fw:=@Bool.false_eq_true
def Fx:=@List.cons_append
def Fy:=@decide_eq_true_eq
def FA:=@beq_eq_false_iff_ne
def FC:=@Eq.trans
def FD:=@run_underlying
def FE:=@Nat.le_trans
def FF:=@if_false
def FG:=@if_true
def FH:=@eq_false
def FJ:=@List.map_cons
def FK:=@List.map_append
def FM:=@Result.andThen_ok
def FN:=@decide_eq_true
def FO:=@List.take_succ_eq_append_getElem
def FP:=@decide_eq_false
def FQ:=@List.getElem_of_mem
def FR:=@eq_true
def FT:=@List.length_map
def FU:=@List.mem_range
def FV:=@Bool.eq_iff_iff
def FW:=@List.not_mem_nil
def FY:=@Bool.false_and
def FZ:=@List.all_eq_true
def Gd:=@Bool.true_and
def Ge:=@List.length_eq_zero_iff
def Gf:=@List.take_length
def Gg:=@Bool.or_eq_true
def Gh:=@List.mem_of_mem_take
def Gi:=@List.eq_nil_of_length_eq_zero
def Gj:=@Sem.run_bind
def Gk:=@List.take_of_length_le
def Gl:=@Int.ofNat_natAbs_of_nonpos
def Gm:=@Array.getD_eq_getD_getElem?
def Gn:=@Option.some.injEq
def Gp:=@of_decide_eq_true
def Gq:=@Nat.lt_of_lt_of_le
def Gs:=@Bool.and_false
def Gt:=@List.length_cons
def Gu:=@List.mem_filter
def Gv:=@List.range_succ
def Gx:=@Int.toNat_of_nonneg
def Gy:=@List.mem_map_of_mem
def Gz:=@List.mem_of_mem_drop
def GC:=@Bool.and_self
def GD:=@Nat.lt_succ_self
def GF:=@List.flatten_cons
def GG:=@List.length_range
def GI:=@Nat.mul_le_mul
def GJ:=@Nat.zero_add
def GK:=@Nat.lt_succ_of_lt
def GN:=@Nat.add_zero
def GO:=@List.length_take
def GP:=@List.nodup_append
def GQ:=@Int.emod_eq_of_lt
def GR:=@Nat.mul_le_mul_right
def GS:=@List.drop_eq_getElem_cons
def GU:=@Nat.pos_of_ne_zero
def GY:=@List.getElem?_eq_getElem
def GZ:=@List.getElem_append_left
def Ha:=@Sem.run_pure
def Hb:=@Bool.not_false
def Hc:=@List.pairwise_cons
def Hd:=@Int.natCast_nonneg
def He:=@Option.map_some
def Hf:=@List.nodup_cons
def Hg:=@or_false
def Hh:=@List.drop_append_of_le_length
def Hi:=@List.take_append_drop
def Hj:=@List.length_filter_le
def Hk:=@List.nodup_nil
def Hl:=@List.foldl_cons
def Hm:=@bne_iff_ne
def Hn:=@Nat.le_succ
def Ho:=@Option.getD_some
def Hq:=@Int.emod_emod_of_dvd
def Hr:=@Int.natAbs_of_nonneg
def Ht:=@List.any_eq_true
def Hu:=@Nat.add_assoc
def Hv:=@List.getD_eq_getElem?_getD
def Hw:=@List.replicate_succ
def Hx:=@List.getElem?_eq_some_iff
def Hy:=@List.length_singleton
def Hz:=@List.mem_append_right
def HA:=@Nat.mod_eq_of_lt
def HB:=@List.ext_getElem
def HC:=@Bool.false_or
def HD:=@List.pairwise_append
def HE:=@List.flatMap_cons
def HF:=@Bool.eq_false_iff
def HG:=@List.drop_eq_nil_of_le
def HH:=@List.all_cons
def HI:=@List.mem_flatMap
def HJ:=@List.drop_zero
def HK:=@beq_iff_eq
def HL:=@List.singleton_append
def HM:=@Nat.mul_one
def HN:=@and_self
def HO:=@Nat.succ_mul
def HP:=@List.mem_append_left
def HQ:=@Nat.pow_le_pow_right
def HR:=@Bool.and_true
def HS:=@Bool.or_false
def HT:=@List.map_congr_left
def HU:=@List.flatMap_append
def HV:=@Nat.div_eq_of_lt
def HW:=@Bool.and_assoc
def HX:=@Nat.add_mul
def HY:=@List.take_append_of_le_length
def HZ:=@List.map_nil
def Ia:=@List.mem_cons_self
def Ib:=@List.Sublist.refl
def Ic:=@List.getElem_take
def Ie:=@Array.getElem?_eq_some_iff
def Ig:=@congrArg
def Ih:=@List.drop_drop
def Ii:=@beq_self_eq_true
def Ij:=@List.getElem?_append_left
def Ik:=@List.getElem_append_right
def Il:=@List.take_succ_cons
def Io:=@ByteArray.toList_eq
def Ip:=@Nat.mul_le_mul_left
def Iq:=@Prod.mk.injEq
def Ir:=@List.map_drop
def Is:=@Int.emod_nonneg
def Iu:=@Int.emod_lt_of_pos
def Iv:=@List.map_singleton
def Iw:=@BitVec.toNat_ofInt
def Ix:=@List.getElem_range
def Iy:=@Int.eq_ofNat_of_zero_le
def Iz:=@decide_true
def IA:=@Nat.testBit_or
def IB:=@List.getElem_cons_succ
def IC:=@List.sublist_cons_self
def ID:=@List.zipWith_cons_cons
def IE:=@List.pairwise_map
def IF:=@List.filter_eq_nil_iff
def IG:=@Int.emod_add_mul_ediv
def IH:=@List.contains_iff_mem
def II:=@List.range'_succ
def IK:=@List.getElem_map
def IM:=@List.flatMap_nil
def IN:=@Array.toArray_toList
def IP:=@List.mem_cons_of_mem
def IQ:=@List.all_append
def IS:=@List.length_nil
def IT:=@List.length_set
def IU:=@List.getElem?_range
def IV:=@Function.comp_apply
def IW:=@List.map_eq_nil_iff
def IX:=@Int.pow_succ
def IY:=@Array.toList_setIfInBounds
def IZ:=@Array.ext'
def Ja:=@Nat.mod_lt
def Jb:=@List.getElem?_append_right
def Jc:=@List.getElem?_drop
def Jd:=@Nat.add_mul_mod_self_right
def Je:=@Int.tmod_lt_of_pos
def Jf:=@Int.fdiv_eq_ediv_of_nonneg
def Jg:=@Array.mapM_eq_mapM_toList
def Jh:=@Classical.byContradiction
def Jj:=@Nat.add_mul_mod_self_left
def Jk:=@List.mem_take_iff_getElem
def Jl:=@List.sublist_append_right
def Jm:=@not_false_eq_true
def Jn:=@Sem.run_ite
def Jo:=@Nat.or_zero
def Jp:=@List.foldl_append
def Jq:=@List.any_eq_false
def Jr:=@List.mem_range'_1
def Js:=@Bool.not_eq_true'
def Jt:=@Option.isSome_iff_exists
def Ju:=@run_convert_bytes_string
def Jw:=@List.Sublist.append_left
def Jx:=@Bool.eq_false_or_eq_true
def Jy:=@List.sum_cons
def Jz:=@List.sublist_append_left
def JA:=@List.eq_of_mem_replicate
def JB:=@List.Pairwise.imp_of_mem
def JC:=@Array.toList_map
def JD:=@ite_self
def JE:=@List.getElem?_cons_zero
def JF:=@List.getElem?_cons_succ
def JG:=@BitVec.toNat_and
def JH:=@decide_eq_decide
def JI:=@forall_eq_or_imp
def JJ:=@Nat.add_sub_cancel_left
def JK:=@MapKept.run_getObj_map
def JL:=@MapKept.run_setObj_map
def JM:=@Nat.le_of_lt
def JN:=@Nat.sub_zero
def JO:=@List.map_map
def JP:=@List.length_pos_of_mem
def JQ:=@Int.dvd_refl
def JR:=@Int.neg_tdiv
def JS:=@Int.tdiv_neg
def JT:=@List.getElem_replicate
def JU:=@Int.ediv_eq_zero_of_lt
def JV:=@List.pairwise_lt_range
def JW:=@Nat.min_eq_left
def JX:=@Int.natCast_mul
def JY:=@Nat.div_le_self
def JZ:=@List.set_append_right
def Ka:=@Nat.add_mul_div_right
def Kb:=@Nat.eq_of_beq_eq_true
def Kc:=@List.flatMap_eq_foldl
def Kd:=@run_program
def Ke:=@List.take_left
def Kf:=@List.drop_left
def Kg:=@Nat.one_mul
def Kh:=@Nat.add_mul_div_left
def Ki:=@List.mem_of_getElem?
def Kj:=@List.replicate_succ'
def Kk:=@List.range_eq_range'
def Kl:=@Classical.not_forall
def Km:=@Nat.eq_of_testBit_eq
def Kn:=@List.take_set_of_le
def Ko:=@List.drop_set_of_lt
def Kp:=@List.flatten_append
def Kq:=@Nat.testBit_two_pow
def Kr:=@List.Sublist.append
def Ks:=@bne_eq_false_iff_eq
def Ku:=@Bool.not_true
def Kv:=@run_newObj
def Kw:=@Nat.mul_comm
def Kx:=@List.map_set
def Ky:=@Nat.lt_or_ge
def Kz:=@Nat.pow_succ
def KA:=@Int.neg_tmod
def KB:=@Nat.zero_le
variable{P:Prop}
theorem oJ(h:P:=by omega):P:=h
theorem sJ(h:P:=by simp):P:=h
theorem dJ(h:P:=by decide):P:=h
theorem qJ(h:P:=by simp;omega):P:=h
theorem fJ(h:P:=by intros;omega):P:=h
theorem sU{Q:Prop}(h:P)(e:P->Q:=by intro h;simpa using h):Q:=e h
inductive D where
 |undef
 |int (k:IntKind) (n:Int)
 |bool (b:Bool)
 |str (s:ByteArray)
 |bG
 |ptr (id off:Nat)
 |fp (cs:List D) (off:Nat)
 |ag
 |bu (sz:Nat) (xs:List (List D))
 |arr (id off len sz:Nat)
 |agg (cs:List D)
 |aT (vs:List D)
 |fn (f:FuncId) (iX:List D)
 |bR
 |bS
 |map (id:Nat)
 deriving Inhabited
inductive Z7 where
 |cells (cs:List D)
 |map (dg:List (D×D))
 deriving Inhabited
inductive T where
 |leaf
 |node (v:Option Z7) (l r:T)
 deriving Inhabited
def T.get:T->Nat->Option Z7
 |.leaf,_=>none
 |.node v _ _,0=>v
 |.node _ l r,n+1=>if n%2=0 then l.get (n/2)else r.get (n/2)
def T.bq:Nat->T->Nat->Option Z7->T
 |_,.leaf,0,v=>.node v .leaf .leaf
 |_,.node _ l r,0,v=>.node v l r
 |0,t,_+1,_=>t
 |f+1,.leaf,n+1,v=>if n%2=0 then .node none (T.bq f .leaf (n/2) v) .leaf else .node none .leaf (T.bq f .leaf (n/2) v)
 |f+1,.node x l r,n+1,v=>if n%2=0 then .node x (T.bq f l (n/2) v) r else .node x l (T.bq f r (n/2) v)
def T.set(t:T)(n:Nat)(v:Option Z7):T:=T.bq n t n v
theorem T.get_setF:∀(f:Nat)(t:T)(n:Nat)(v:Option Z7)(m:Nat),n<=f->(T.bq f t n v).get m=if m=n then v else t.get m:=by
 intro f;induction f with
 |zero =>
  intro t n v m h;have:n=0:=oJ;subst this;cases t<;>cases m<;>simp[T.bq,T.get]
 |succ f ih =>
  intro t n v m h;cases n with
  |zero=>cases t<;>cases m<;>simp[T.bq,T.get]
  |succ n =>
   have hn:n/2<=f:=oJ;cases t with
   |leaf =>
    by_cases hp:n%2=0
    .cases m with
     |zero=>simp[T.bq,T.get,hp]
     |succ m =>
      by_cases hq:m%2=0
      .simp only[T.bq,hp,FG,T.get,hq,ih _ _ _ _ hn]
       grind
      .simp only[T.bq,hp,FG,T.get,hq,FF]
       grind
    .cases m with
     |zero=>simp[T.bq,T.get,hp]
     |succ m =>
      by_cases hq:m%2=0
      .simp only[T.bq,hp,FF,T.get,hq,FG]
       grind
      .simp only[T.bq,hp,FF,T.get,hq,ih _ _ _ _ hn]
       grind
   |node x l r =>
    by_cases hp:n%2=0
    .cases m with
     |zero=>simp[T.bq,T.get,hp]
     |succ m =>
      by_cases hq:m%2=0
      .simp only[T.bq,hp,FG,T.get,hq,ih _ _ _ _ hn]
       grind
      .simp only[T.bq,hp,FG,T.get,hq,FF]
       grind
    .cases m with
     |zero=>simp[T.bq,T.get,hp]
     |succ m =>
      by_cases hq:m%2=0
      .simp only[T.bq,hp,FF,T.get,hq,FG]
       grind
      .simp only[T.bq,hp,FF,T.get,hq,ih _ _ _ _ hn]
       grind
theorem T.bp(t:T)(n:Nat)(v:Option Z7)(m:Nat):(t.set n v).get m=if m=n then v else t.get m:=T.get_setF n t n v m (sm _)
structure k4 where
 objs:T
 next:Nat
 deriving Inhabited
def k4.empty:k4:=⟨.leaf,0⟩
def k4.get(s:k4)(id:Nat):Option Z7:=if id<s.next then s.objs.get id else none
def k4.set(s:k4)(id:Nat)(o:Option Z7):k4:=⟨s.objs.set id o,s.next⟩
def k4.push(s:k4)(o:Z7):k4:=⟨s.objs.set s.next (some o),s.next+1⟩
@[simp] theorem k4.get_empty(id:Nat):k4.empty.get id=none:=by simp[k4.get,k4.empty]
theorem k4.bp(s:k4)(id:Nat)(o:Option Z7)(i:Nat):(s.set id o).get i=if i=id/\id<s.next then o else s.get i:=by
 grind[k4.get,k4.set,T.bp]
theorem k4.aO(s:k4)(o:Z7)(i:Nat):(s.push o).get i=if i=s.next then some o else s.get i:=by
 grind[k4.get,k4.push,T.bp]
@[simp] theorem k4.au(s:k4)(id:Nat)(o:Option Z7):(s.set id o).next=s.next:=rfl
@[simp] theorem k4.aj(s:k4)(o:Z7):(s.push o).next=s.next+1:=rfl
theorem k4.get_none(s:k4)(i:Nat)(h:s.next<=i):s.get i=none:=by simp[k4.get,Nat.not_lt.2 h]
mutual
def beq:D->D->Bool
 |.undef,.undef=>true
 |.int k n,.int k' n'=>decide (k=k')&&decide (n=n')
 |.bool a,.bool b=>a==b
 |.str a,.str b=>decide (a=b)
 |.bG,.bG=>true
 |.ptr a b,.ptr c d=>decide (a=c)&&decide (b=d)
 |.fp a n,.fp b m=>dQ a b&&decide (n=m)
 |.ag,.ag=>true
 |.bu a x,.bu b y=>decide (a=b)&&dW x y
 |.arr a b c d,.arr a' b' c' d'=>decide (a=a')&&decide (b=b')&&decide (c=c')&&decide (d=d')
 |.agg a,.agg b=>dQ a b
 |.aT a,.aT b=>dQ a b
 |.fn f a,.fn g b=>decide (f=g)&&dQ a b
 |.bR,.bR=>true
 |.bS,.bS=>true
 |.map a,.map b=>decide (a=b)
 |_,_=>false
def dQ:List D->List D->Bool
 |[],[]=>true
 |a::x,b::y=>beq a b&&dQ x y
 |_,_=>false
def dW:List (List D)->List (List D)->Bool
 |[],[]=>true
 |a::x,b::y=>dQ a b&&dW x y
 |_,_=>false
end
mutual
theorem b3S:∀(a b:D),beq a b=true->a=b
 |.undef,b,h=>by cases b<;>simp_all[beq]
 |.int k n,b,h=>by cases b<;>simp_all[beq]
 |.bool a,b,h=>by cases b<;>simp_all[beq]
 |.str a,b,h=>by cases b<;>simp_all[beq]
 |.bG,b,h=>by cases b<;>simp_all[beq]
 |.ptr _ _,b,h=>by cases b<;>simp_all[beq]
 |.fp a n,b,h=>by
  cases b<;>simp_all[beq];exact cI _ _ h.1
 |.ag,b,h=>by grind[beq]
 |.bu a x,b,h=>by
  cases b<;>simp_all[beq];exact fK _ _ h.2
 |.arr _ _ _ _,b,h=>by cases b<;>simp_all[beq]
 |.agg a,b,h=>by
  cases b<;>simp_all[beq];exact cI _ _ h
 |.aT a,b,h=>by
  cases b<;>simp_all[beq];exact cI _ _ h
 |.fn f a,b,h=>by
  cases b<;>simp_all[beq];exact cI _ _ h.2
 |.bR,b,h=>by grind[beq]
 |.bS,b,h=>by grind[beq]
 |.map _,b,h=>by cases b<;>simp_all[beq]
theorem cI:∀(a b:List D),dQ a b=true->a=b
 |[],b,h=>by cases b<;>simp_all[dQ]
 |a::x,b,h=>by
  cases b with
  |nil=>simp[dQ]at h
  |cons b y =>
   simp[dQ]at h;rw[b3S _ _ h.1,cI _ _ h.2]
theorem fK:∀(a b:List (List D)),dW a b=true->a=b
 |[],b,h=>by cases b<;>simp_all[dW]
 |a::x,b,h=>by
  cases b with
  |nil=>simp[dW]at h
  |cons b y =>
   simp[dW]at h;rw[cI _ _ h.1,fK _ _ h.2]
end
mutual
theorem c0W:∀(a:D),beq a a=true
 |.undef=>rfl
 |.int k n=>by simp[beq]
 |.bool a=>by simp[beq]
 |.str a=>by simp[beq]
 |.bG=>rfl
 |.ptr _ _=>by simp[beq]
 |.fp a n=>by simp[beq,bI a]
 |.ag=>rfl
 |.bu a x=>by simp[beq,eC x]
 |.arr _ _ _ _=>by simp[beq]
 |.agg a=>by simp[beq,bI a]
 |.aT a=>by simp[beq,bI a]
 |.fn f a=>by simp[beq,bI a]
 |.bR=>rfl
 |.bS=>rfl
 |.map _=>by simp[beq]
theorem bI:∀(a:List D),dQ a a=true
 |[]=>rfl
 |a::x=>by simp[dQ,c0W a,bI x]
theorem eC:∀(a:List (List D)),dW a a=true
 |[]=>rfl
 |a::x=>by simp[dW,bI a,eC x]
end
def a7D:List (D×D)->List (D×D)->Bool
 |[],[]=>true
 |(a,b)::x,(c,d)::y=>beq a c&&beq b d&&a7D x y
 |_,_=>false
theorem b6K:∀(a b:List (D×D)),a7D a b=true->a=b
 |[],b,h=>by cases b<;>simp_all[a7D]
 |(a,c)::x,b,h=>by
  cases b with
  |nil=>simp[a7D]at h
  |cons b y =>
   obtain⟨b,d⟩:=b;simp[a7D]at h;rw[b3S _ _ h.1.1,b3S _ _ h.1.2,b6K _ _ h.2]
theorem c1m:∀(a:List (D×D)),a7D a a=true
 |[]=>rfl
 |(a,c)::x=>by simp[a7D,c0W,c1m x]
def a8x:Option Z7->Option Z7->Bool
 |none,none=>true
 |some (.cells a),some (.cells b)=>dQ a b
 |some (.map a),some (.map b)=>a7D a b
 |_,_=>false
theorem c57(a b:Option Z7)(h:a8x a b=true):a=b:=by
 cases a with
 |none=>grind[a8x]
 |some a =>
  cases b with
  |none=>cases a<;>simp[a8x]at h
  |some b =>
   cases a<;>cases b<;>simp[a8x]at h
   .rw[cI _ _ h]
   .rw[b6K _ _ h]
theorem b1i(a:Option Z7):a8x a a=true:=by
 cases a with
 |none=>rfl
 |some a=>cases a<;>simp[a8x,bI,c1m]
inductive Z1 where
 |tmp (t:Nat)
 |aL (d:D)
 deriving Inhabited
inductive a16 where
 |raw
 |gu
 deriving Inhabited,DecidableEq
inductive SK where
 |i
 |b
 |s
 deriving Inhabited,DecidableEq
inductive NK where
 |p
 |s
 |m
 |f
 deriving Inhabited,DecidableEq
inductive gw where
 |mov (x:Z1)
 |pick (c a b:Z1)
 |aV (x:Z1)
 |bin (op:BinOp) (x y:Z1)
 |eqB (neg:Bool) (x y:Z1)
 |eD (neg:Bool) (ks:List SK) (x y:Z1)
 |dY (neg:Bool) (k:NK) (x:Z1)
 |un (op:UnOp) (x:Z1)
 |conv (k:IntKind) (x:Z1)
 |build (zero:List D) (parts:List (Nat×Nat×Z1))
 |cT (off:Nat) (x:Z1)
 |field (n:Option Nat) (off:Nat) (x:Z1)
 |az (sz:Nat) (x i:Z1)
 |idxS (x i:Z1)
 |idxV (n:Option Nat) (len sz:Nat) (x i:Z1)
 |len (isStr:Bool) (x:Z1)
 |bM (isMax:Bool) (x:Z1) (xs:List Z1)
 |slice (n:Option Nat) (x:Z1) (lo hi:Option Z1)
 |extract (x:Z1) (i:Nat)
 |fL (f:FuncId) (iX:List Z1)
 deriving Inhabited
inductive ROp where
 |load (n:Option Nat) (x:Z1)
 |lookup (ks:List SK) (zero:D) (ok:Bool) (m k:Z1)
 |b2s (x:Z1)
 deriving Inhabited
inductive AOp where
 |alloc (zero:List D)
 |box (x:Z1)
 |aD (sz len:Nat) (zero:List D) (parts:List (Nat×Z1))
 |aH (sz bytes:Nat) (zero:List D) (len cap:Z1)
 |fM
 deriving Inhabited
inductive MOp where
 |call (md:a16) (f:Z1) (args:List Z1)
 |append (sz bytes:Nat) (s x:Z1)
 |du (ks:List SK) (m k v:Z1)
 |copy (d x:Z1)
 deriving Inhabited
inductive fV where
 |p (o:gw)
 |r (o:ROp)
 |a (o:AOp)
 |w (n:Nat) (addr val:Z1)
 |m (o:MOp)
 deriving Inhabited
structure a0f where
 dst:Option Nat
 op:fV
 guard:Option (Nat×Bool)
 deriving Inhabited
structure b5V where
 ops:List (Nat×a0f)
 af:List (Nat×Nat)
 draw:Bool
 deriving Inhabited
inductive a1w where
 |skip
 |region (r:b5V)
 |seq (a b:a1w)
 |cond (c:Z1) (thn els:a1w)
 |block (id:Nat) (body:a1w)
 |loop (body:a1w)
 |exit (id:Nat)
 |ret
 deriving Inhabited
structure U4 where
 vars:List Nat
 code:a1w
 res:List (Nat×Option (Option Nat))
 deriving Inhabited
abbrev k6:=List (Nat×D)
def k6.get:k6->Nat->D
 |[],_=>.undef
 |(s,d)::r,t=>if s=t then d else k6.get r t
def k6.ev(env:k6):Z1->D
 |.tmp t=>env.get t
 |.aL d=>d
def k6.aR(env:k6):List Z1->List D
 |[]=>[]
 |x::r=>env.ev x::k6.aR env r
def k6.put(env:k6)(dst:Option Nat)(d:D):k6 :=
 match dst with
 |some t=>(t,d)::env
 |none=>env
def a3K(op:BinOp)(k:IntKind)(x y:Int):Option D :=
 match op with
 |.add=>some (.int k (k.wrap (x+y)))
 |.sub=>some (.int k (k.wrap (x-y)))
 |.mul=>some (.int k (k.wrap (x*y)))
 |.quo=>if y=0 then none else some (.int k (k.wrap (x.tdiv y)))
 |.rem=>if y=0 then none else some (.int k (x.tmod y))
 |.and=>some (.int k (k.wrap (BitVec.ofInt k.bits x &&& BitVec.ofInt k.bits y).toNat))
 |.or=>some (.int k (k.wrap (BitVec.ofInt k.bits x ||| BitVec.ofInt k.bits y).toNat))
 |.xor=>some (.int k (k.wrap (BitVec.ofInt k.bits x ^^^ BitVec.ofInt k.bits y).toNat))
 |.andNot=>some (.int k (k.wrap (BitVec.ofInt k.bits x &&& ~~~ BitVec.ofInt k.bits y).toNat))
 |.eql=>some (.bool (x==y))
 |.neq=>some (.bool (x != y))
 |.lss=>some (.bool (x<y))
 |.leq=>some (.bool (x<=y))
 |.gtr=>some (.bool (x>y))
 |.geq=>some (.bool (x >= y))
 |_=>none
def a48(op:BinOp)(k:IntKind)(x y:Int):Option D :=
 if y<0 then none else
 match op with
 |.shl=>some (.int k (k.wrap (x*2^(min y.toNat k.bits))))
 |.shr=>some (.int k (x.fdiv (2^(min y.toNat k.bits))))
 |_=>none
def b1M(op:BinOp)(x y:ByteArray):Option D :=
 match op with
 |.add=>if x.size+y.size<2^62 then some (.str (x++y))else none
 |.eql=>some (.bool (x.toList==y.toList))
 |.neq=>some (.bool !(x.toList==y.toList))
 |.lss=>some (.bool (Op.bytesLess x.toList y.toList))
 |.leq=>some (.bool (Op.bytesLess x.toList y.toList||x.toList==y.toList))
 |.gtr=>some (.bool !(Op.bytesLess x.toList y.toList||x.toList==y.toList))
 |.geq=>some (.bool !(Op.bytesLess x.toList y.toList))
 |_=>none
def b13(op:BinOp)(x y:D):Option D :=
 match x,y with
 |.int k a,.int k' b =>
  match op with
  |.shl|.shr=>a48 op k a b
  |_=>if k=k' then a3K op k a b else none
 |.str a,.str b=>b1M op a b
 |_,_=>none
def a7O:SK->D->D->Option Bool
 |.i,.int k a,.int k' b=>if k=k' then some (a==b)else none
 |.b,.bool a,.bool b=>some (a==b)
 |.s,.str a,.str b=>some (a==b)
 |_,_,_=>none
def a21:List SK->List D->List D->Option Bool
 |[],[],[]=>some true
 |t::ts,a::x,b::y=>match a7O t a b,a21 ts x y with
  |some p,some q=>some (p&&q)
  |_,_=>none
 |_,_,_=>none
def a4n:NK->D->Option Bool
 |.p,.bG=>some true
 |.p,.ptr _ _=>some false
 |.p,.fp _ _=>some false
 |.s,.ag=>some true
 |.s,.bu _ _=>some false
 |.s,.arr _ _ _ _=>some false
 |.m,.bS=>some true
 |.m,.map _=>some false
 |.f,.bR=>some true
 |.f,.fn _ _=>some false
 |_,_=>none
def unV(op:UnOp)(x:D):Option D :=
 match op,x with
 |.neg,.int k n=>some (.int k (k.wrap (0-n)))
 |.xor,.int k n=>some (.int k (k.wrap (BitVec.ofInt k.bits (if k.signed then -1 else k.max) ^^^ BitVec.ofInt k.bits n).toNat))
 |.not,.bool b=>some (.bool !b)
 |_,_=>none
def cellsOf:D->List D
 |.agg cs=>cs
 |d=>[d]
def V5:D->Bool
 |.agg _|.aT _|.undef=>false
 |_=>true
def a2V(n:Option Nat)(off:Nat)(cs:List D):Option D :=
 match n with
 |none=>match cs[off]? with
  |some d=>if V5 d then some d else none
  |none=>none
 |some n=>if off+n<=cs.length then some (.agg ((cs.drop off).take n))else none
def a5Z(cs:List D)(off:Nat)(new:List D):List D:=cs.take off++new++cs.drop (off+new.length)
def a5z(env:k6)(cs:List D):List (Nat×Nat×Z1)->Option (List D)
 |[]=>some cs
 |(off,size,x)::rest =>
  let new:=cellsOf (env.ev x)
  if new.length=size/\off+size<=cs.length/\new.all V5 then a5z env (a5Z cs off new) rest else none
def intArg:D->Option Int
 |.int _ n=>some n
 |_=>none
def a6T(isMax:Bool)(x:D):List D->Option D
 |[]=>some x
 |y::r =>
  match x,y with
  |.int k a,.int _ b=>a6T isMax (.int k (if isMax then(if b>a then b else a)else(if b<a then b else a))) r
  |_,_=>none
def a2m(d:Option D)(tZ:Nat):Option Nat :=
 match d with
 |none=>some tZ
 |some (.int _ n)=>if 0<=n then some n.toNat else none
 |some _=>none
def a3y(n:Option Nat)(x:D)(lo hi:Option D):Option D :=
 match n,x with
 |none,.str s =>
  match a2m hi s.size,a2m lo 0 with
  |some h,some l=>if h<=s.size/\l<=h then some (.str (s.extract l h))else none
  |_,_=>none
 |some _,.ag =>
  match a2m hi 0,a2m lo 0 with
  |some h,some l=>if h<=0/\l<=h then some .ag else none
  |_,_=>none
 |some n,.bu sz xs =>
  match a2m hi xs.length,a2m lo 0 with
  |some h,some l=>if sz=n/\h<=xs.length/\l<=h then some (.bu sz ((xs.take h).drop l))else none
  |_,_=>none
 |some n,.arr id off len sz =>
  match a2m hi len,a2m lo 0 with
  |some h,some l=>if sz=n/\h<=len/\l<=h then(if l<len then some (.arr id (off+l*sz) (h-l) sz)else some (.bu sz []))else none
  |_,_=>none
 |_,_=>none
def a0x:Bool->D->Option D
 |true,.str s=>some (.int .i64 s.size)
 |false,.ag=>some (.int .i64 0)
 |false,.bu _ xs=>some (.int .i64 xs.length)
 |false,.arr _ _ len _=>some (.int .i64 len)
 |_,_=>none
def W7(sz:Nat)(x i:D):Option D :=
 match x,i with
 |.bu s xs,.int _ n=>if s=sz/\0<=n then(xs[n.toNat]?).map (λg=>.fp g 0)else none
 |.arr id off len s,.int _ n=>if s=sz/\0<=n/\n<len then some (.ptr id (off+n.toNat*sz))else none
 |_,_=>none
def b1b(x i:D):Option D :=
 match x,i with
 |.str s,.int _ n=>if 0<=n then(s[n.toNat]?).map (λb=>.int .u8 b.toNat)else none
 |_,_=>none
def k6.evO(env:k6):Option Z1->Option D
 |some x=>some (env.ev x)
 |none=>none
def bY(env:k6):gw->Option D
 |.mov x=>some (env.ev x)
 |.pick c a b=>match env.ev c with
  |.bool t=>some (if t then env.ev a else env.ev b)
  |_=>none
 |.aV x=>match env.ev x with
  |.ptr id off=>some (.ptr id off)
  |.fp cs off=>some (.fp cs off)
  |.fn f iX=>some (.fn f iX)
  |_=>none
 |.bin op x y=>b13 op (env.ev x) (env.ev y)
 |.eqB neg x y=>match env.ev x,env.ev y with
  |.bool a,.bool b=>some (.bool (if neg then !(a==b)else(a==b)))
  |_,_=>none
 |.eD neg ks x y=>match env.ev x,env.ev y with
  |.agg a,.agg b=>(a21 ks a b).map (λt=>.bool (if neg then !t else t))
  |_,_=>none
 |.dY neg k x=>(a4n k (env.ev x)).map (λt=>.bool (if neg then !t else t))
 |.un op x=>unV op (env.ev x)
 |.conv k x=>match env.ev x with
  |.int _ n=>some (.int k (k.wrap n))
  |_=>none
 |.build zero parts=>(a5z env zero parts).map .agg
 |.cT off x=>match env.ev x with
  |.ptr id o=>some (.ptr id (o+off))
  |.fp cs o=>some (.fp cs (o+off))
  |_=>none
 |.field n off x=>match env.ev x with
  |.agg cs=>a2V n off cs
  |_=>none
 |.az sz x i=>W7 sz (env.ev x) (env.ev i)
 |.idxS x i=>b1b (env.ev x) (env.ev i)
 |.idxV n len sz x i=>match env.ev x,env.ev i with
  |.agg cs,.int _ k=>if 0<=k/\k<len then a2V n (k.toNat*sz) cs else none
  |_,_=>none
 |.len i x=>a0x i (env.ev x)
 |.bM isMax x xs=>a6T isMax (env.ev x) (env.aR xs)
 |.slice n x lo hi=>a3y n (env.ev x) (env.evO lo) (env.evO hi)
 |.extract x i=>match env.ev x with
  |.aT vs=>vs[i]?
  |_=>none
 |.fL f iX=>some (.fn f (env.aR iX))
abbrev a0v:=Nat->Option Z7
def a8Z(ks:List SK)(k:List D):List (D×D)->Option (Option D)
 |[]=>some none
 |(k',v)::r=>match k' with
  |.agg b=>match a21 ks k b with
   |some true=>some (some v)
   |some false=>a8Z ks k r
   |none=>none
  |_=>none
def a8n(ks:List SK)(k:List D)(v:D):List (D×D)->Option (List (D×D))
 |[]=>some [(.agg k,v)]
 |(k',v')::r=>match k' with
  |.agg b=>match a21 ks k b with
   |some true=>some ((.agg k,v)::r)
   |some false=>(a8n ks k v r).map ((k',v')::·)
   |none=>none
  |_=>none
def b0K(ks:List SK):D->Option (List D)
 |.agg k=>if k.length=ks.length/\k.all V5 then some k else none
 |_=>none
def b8i:D->Option UInt8
 |.int .u8 n=>if 0<=n/\n<256 then some (UInt8.ofNat n.toNat)else none
 |_=>none
def b0i:List D->Option (List UInt8)
 |[]=>some []
 |d::r=>match b8i d,b0i r with
  |some b,some l=>some (b::l)
  |_,_=>none
def a3z:D->Option Nat
 |.ag=>some 0
 |.bu _ xs=>some xs.length
 |.arr _ _ len _=>some len
 |_=>none
def a1V(sz:Nat):D->Bool
 |.bu s _=>s==sz
 |.arr _ _ _ s=>s==sz
 |.ag=>true
 |_=>false
def a1u(g:a0v):D->Option (List D)
 |.ag=>some []
 |.bu _ xs=>some xs.flatten
 |.arr id off len sz=>match g id with
  |some (.cells cs)=>if off+len*sz<=cs.length then some ((cs.drop off).take (len*sz))else none
  |_=>none
 |_=>none
def dE(env:k6)(g:a0v):ROp->Option D
 |.load n x=>match env.ev x with
  |.ptr id off=>match g id with
   |some (.cells cs)=>a2V n off cs
   |_=>none
  |.fp cs off=>a2V n off cs
  |_=>none
 |.lookup ks zero ok m k=>match env.ev m with
  |.map id=>match g id with
   |some (.map dg)=>match b0K ks (env.ev k)with
    |some kl=>match a8Z ks kl dg with
     |some (some v)=>some (if ok then .aT [v,.bool true]else v)
     |some none=>some (if ok then .aT [zero,.bool false]else zero)
     |none=>none
    |none=>none
   |_=>none
  |_=>none
 |.b2s x=>match a1u g (env.ev x),a1V 1 (env.ev x)with
  |some cs,true=>(b0i cs).map (λl=>.str ⟨l.toArray⟩)
  |_,_=>none
def gT(env:k6):ROp->Option Nat
 |.load _ x=>match env.ev x with
  |.ptr id _=>some id
  |_=>none
 |.lookup _ _ _ m _=>match env.ev m with
  |.map id=>some id
  |_=>none
 |.b2s x=>match env.ev x with
  |.arr id _ _ _=>some id
  |_=>none
inductive a0n where
 |ptr
 |arr (len sz:Nat)
 |map
def a0n.at:a0n->Nat->D
 |.ptr,id=>.ptr id 0
 |.arr len sz,id=>.arr id 0 len sz
 |.map,id=>.map id
def a3l(zero:List D):Nat->List D
 |0=>[]
 |n+1=>zero++a3l zero n
def eO(env:k6):AOp->Option (Z7×a0n)
 |.alloc zero=>some (.cells zero,.ptr)
 |.box x=>if(cellsOf (env.ev x)).all V5 then some (.cells (cellsOf (env.ev x)),.ptr)else none
 |.aD sz len zero parts=>(a5z env (a3l zero len) (parts.map λ(i,x)=>(i*sz,sz,x))).map λcs=>(.cells cs,.arr len sz)
 |.aH sz bytes zero l c=>match env.ev l,env.ev c with
  |.int .i64 n,.int .i64 m=>if 0<=n/\n<=m/\bytes*m<=2^47/\m<2^62 then some (.cells (a3l zero n.toNat),.arr n.toNat sz)else none
  |_,_=>none
 |.fM=>some (.map [],.map)
def ei(env:k6)(g:a0v)(n:Nat)(addr val:Z1):Option (Nat×Z7) :=
 match env.ev addr with
 |.ptr id off=>match g id with
  |some (.cells cs) =>
   let new:=cellsOf (env.ev val)
   if new.length=n/\off+n<=cs.length/\new.all V5/\0<n then some (id,.cells (a5Z cs off new))else none
  |_=>none
 |_=>none
def rdW(env:k6)(addr:Z1):Option Nat :=
 match env.ev addr with
 |.ptr id _=>some id
 |_=>none
def X8(f:D->Option D):List D->Option (List D)
 |[]=>some []
 |d::r=>match f d,X8 f r with
  |some x,some l=>some (x::l)
  |_,_=>none
def a53(sz:Nat):Nat->List D->List (List D)
 |0,_=>[]
 |n+1,l=>l.take sz::a53 sz n (l.drop sz)
def aK(g:a0v):Nat->D->Option D
 |0,_=>none
 |n+1,.agg cs=>(X8 (aK g n) cs).map .agg
 |n+1,.aT cs=>(X8 (aK g n) cs).map .aT
 |n+1,.arr id off len sz=>match a1u g (.arr id off len sz)with
  |some cs=>(X8 (aK g n) cs).map λl=>.bu sz (a53 sz len l)
  |none=>none
 |_+1,.int k x=>some (.int k x)
 |_+1,.bool b=>some (.bool b)
 |_+1,.str s=>some (.str s)
 |_+1,.bG=>some .bG
 |_+1,.fp cs o=>some (.fp cs o)
 |_+1,.ag=>some .ag
 |_+1,.bu sz xs=>some (.bu sz xs)
 |_+1,.bR=>some .bR
 |_+1,.bS=>some .bS
 |_+1,_=>none
mutual
def a2B:D->Bool
 |.int _ _|.bool _|.str _|.bG|.ag|.bR|.bS=>true
 |.agg cs=>bJ cs
 |.aT cs=>bJ cs
 |_=>false
def bJ:List D->Bool
 |[]=>true
 |d::r=>a2B d&&bJ r
end
mutual
def a1j:D->Bool
 |.int _ _|.bool _|.str _|.bG|.ag|.bR|.bS|.bu _ _|.fp _ _=>true
 |.agg cs=>aM cs
 |_=>false
def aM:List D->Bool
 |[]=>true
 |d::r=>a1j d&&aM r
end
abbrev a1s:=FuncId->List D->k4->Option (D×k4)
def a3c(C:a1s)(md:a16)(f:D)(args:List D)(s:k4):Option (D×k4) :=
 match f with
 |.fn f iX =>
  match md with
  |.raw=>C f (args++iX) s
  |.gu =>
   match X8 (aK s.get 20) (args++iX)with
   |none=>none
   |some mD=>match C f mD k4.empty with
    |none=>none
    |some (r,s1)=>match aK s1.get 20 r with
     |none=>none
     |some r'=>if a2B r'||aM (args++iX)then some (r',s)else none
 |_=>none
def a0e(sz bytes:Nat)(s x:D)(st:k4):Option (D×k4) :=
 match a1u st.get x,a3z x with
 |some new,some n =>
  if a1V sz x&&decide (bytes<=2^20)then
   match s with
   |.ag=>if n=0 then some (.ag,st)else if n*bytes<=2^45/\n<=2^45 then some (.arr st.next 0 n sz,st.push (.cells new))else none
   |.arr id off len sz' =>
    match st.get id with
    |some (.cells cs) =>
     if sz'=sz/\off+len*sz=cs.length then
      if n=0 then some (.arr id off len sz',st)
      else if(len+n)*bytes<=2^45/\len+n<=2^45 then some (.arr st.next 0 (len+n) sz,(st.set id none).push (.cells (cs.drop off++new)))
      else none
     else none
    |_=>none
   |.bu sz' xs=>if n=0 then some (.bu sz' xs,st)else none
   |_=>none
  else none
 |_,_=>none
def a60(s x:D)(st:k4):Option (D×k4):=match s,a1u st.get x,a3z x with
 |.arr id off len 1,some new,some n=>match st.get id with
  |some (.cells cs)=>if a1V 1 x=true/\0<n/\n<=len/\off+len<=cs.length then some (.int .i64 n,st.set id (some (.cells (a5Z cs off new))))else none
  |_=>none
 |_,_,_=>none
def cO(C:a1s)(env:k6)(s:k4):MOp->Option (D×k4)
 |.call md f args=>a3c C md (env.ev f) (env.aR args) s
 |.append sz bytes a x=>a0e sz bytes (env.ev a) (env.ev x) s
 |.copy a x=>a60 (env.ev a) (env.ev x) s
 |.du ks m k v=>match env.ev m with
  |.map id=>match s.get id with
   |some (.map dg)=>match b0K ks (env.ev k)with
    |some kl=>if V5 (env.ev v)then(a8n ks kl (env.ev v) dg).map λkZ=>(.aT [],s.set id (some (.map kZ)))else none
    |none=>none
   |_=>none
  |_=>none
def a0y(C:a1s)(env:k6)(s:k4):fV->Option (D×k4)
 |.p o=>(bY env o).map λd=>(d,s)
 |.r o=>(dE env s.get o).map λd=>(d,s)
 |.a o=>match eO env o with
  |some (ob,m)=>some (m.at s.next,s.push ob)
  |none=>none
 |.w n a v=>match ei env s.get n a v with
  |some (id,ob)=>some (.aT [],s.set id (some ob))
  |none=>none
 |.m o=>cO C env s o
def a1O(env:k6):fV->Option Nat
 |.r o=>gT env o
 |.w _ a _=>rdW env a
 |_=>none
def a2v(env:k6):Option (Nat×Bool)->Option Bool
 |none=>some true
 |some (t,want)=>match env.get t with
  |.bool b=>some (b==want)
  |.aT []=>some false
  |_=>none
structure Tr where
 idx:Nat
 rd:Option Nat
 pre:k4
 post:k4
def a2s(pre post:k4):Option Nat->Bool
 |none=>true
 |some id=>a8x (pre.get id) (post.get id)
def a1D(af:List (Nat×Nat))(j:Tr):List Tr->Bool
 |[]=>true
 |i::r=>(if af.contains (i.idx,j.idx)then a2s j.pre j.post i.rd&&a2s i.pre i.post j.rd else true)&&a1D af j r
def a1z(C:a1s)(af:List (Nat×Nat)):List (Nat×a0f)->List Tr->k6->k4->Option (k6×k4)
 |[],_,env,s=>some (env,s)
 |(i,o)::rest,tr,env,s =>
  match a2v env o.guard with
  |none=>none
  |some false=>a1z C af rest tr (env.put o.dst (.aT [])) s
  |some true =>
   match a0y C env s o.op with
   |none=>none
   |some (d,s') =>
    let t:Tr:=⟨i,a1O env o.op,s,s'⟩
    if a1D af t tr then a1z C af rest (if af.isEmpty then tr else t::tr) (env.put o.dst d) s' else none
inductive a1G where
 |normal
 |exit (id:Nat)
 |ret
 deriving Inhabited,DecidableEq
abbrev Out:=a1G×k6×k4
def k6.aG(vars:List Nat)(env:k6):k6:=vars.map λt=>(t,env.get t)
def a1t(env:k6)(s:k4):Nat×Option (Option Nat)->Option D
 |(t,none)=>some (env.get t)
 |(t,some n)=>match env.get t with
  |.ptr id off=>match s.get id with
   |some (.cells cs)=>a2V n off cs
   |_=>none
  |_=>none
def a08(env:k6)(s:k4):List (Nat×Option (Option Nat))->Option (List D)
 |[]=>some []
 |x::r=>match a1t env s x,a08 env s r with
  |some d,some l=>some (d::l)
  |_,_=>none
def a03(env:k6)(s:k4)(l:List (Nat×Option (Option Nat))):Option D :=
 match a08 env s l with
 |some [d]=>some d
 |some l=>some (.aT l)
 |none=>none
def a2H(fs:FuncId->Option U4)(ex:List Nat->a1w->k6->k4->Option Out):a1s:=λf args s =>
 match fs f with
 |none=>none
 |some vf =>
  match ex vf.vars vf.code (vf.vars.map λt=>(t,args.getD t .undef)) s with
  |some (.normal,env,s')|some (.ret,env,s')=>(a03 env s' vf.res).map λd=>(d,s')
  |_=>none
def a0q(fs:FuncId->Option U4):Nat->List Nat->a1w->k6->k4->Option Out
 |0,_,_,_,_=>none
 |n+1,vars,c,env,s =>
  match c with
  |.skip=>some (.normal,env,s)
  |.region r=>match a1z (a2H fs (a0q fs n)) r.af r.ops [] env s with
   |some (iO,s')=>some (.normal,iO.aG vars,s')
   |none=>none
  |.seq a b=>match a0q fs n vars a env s with
   |some (.normal,iO,s')=>a0q fs n vars b iO s'
   |r=>r
  |.cond c x y=>match env.ev c with
   |.bool true=>a0q fs n vars x env s
   |.bool false=>a0q fs n vars y env s
   |_=>none
  |.block id b=>match a0q fs n vars b env s with
   |some (.exit jl,iO,s')=>if jl=id then some (.normal,iO,s')else some (.exit jl,iO,s')
   |r=>r
  |.loop b=>match a0q fs n vars b env s with
   |some (.normal,iO,s')=>a0q fs n vars (.loop b) iO s'
   |r=>r
  |.exit id=>some (.exit id,env,s)
  |.ret=>some (.ret,env,s)
def a84(fs:FuncId->Option U4)(n:Nat):a1s:=a2H fs (a0q fs n)
end Go.V
namespace Go.V
abbrev W9:=Nat->Option Obj
abbrev Mu:=Nat->Option (Nat×Nat×Nat)
def W9.cell(Φ:W9)(b o:Nat):Option Value :=
 match Φ b with
 |some (.cells c _ _)=>c[o]?
 |_=>none
mutual
def RP(Φ:W9):D->Value->Prop
 |.int k n,v=>v=.int k n
 |.bool b,v=>v=.bool b
 |.str s,v=>v=.string s
 |.bG,v=>v=.pointer none
 |.fp cs off,v=>∃b o,v=.pointer (some ⟨b,o+off,none⟩)/\RC Φ cs b o
 |.ag,v=>v=.slice none 0 0
 |.bu sz xs,v=>∃b o cap sp,v=.slice (some ⟨b,o,sp⟩) xs.length cap/\xs.length<=cap/\(sp=none\/xs=[])/\RG Φ sz xs b o
 |.agg cs,v=>∃vs:List Value,v=.agg vs.toArray/\bm Φ cs vs
 |.aT cs,v=>∃vs:List Value,v=.tuple vs.toArray/\bm Φ cs vs
 |.bR,v=>v=.nilFunc
 |.bS,v=>v=.map none
 |.undef,_=>False
 |.ptr _ _,_=>False
 |.arr _ _ _ _,_=>False
 |.fn _ _,_=>False
 |.map _,_=>False
def bm(Φ:W9):List D->List Value->Prop
 |[],vs=>vs=[]
 |d::ds,vs=>∃u us,vs=u::us/\RP Φ d u/\bm Φ ds us
def RC(Φ:W9):List D->Nat->Nat->Prop
 |[],_,_=>True
 |d::ds,b,o=>(V5 d=true/\∃u,Φ.cell b o=some u/\RP Φ d u)/\RC Φ ds b (o+1)
def RG(Φ:W9)(sz:Nat):List (List D)->Nat->Nat->Prop
 |[],_,_=>True
 |g::gs,b,o=>g.length=sz/\RC Φ g b o/\RG Φ sz gs b (o+sz)
end
mutual
def R(μ:Mu)(Φ:W9):D->Value->Prop
 |.undef,_=>True
 |.ptr id off,v=>∃b o z,μ id=some (b,o,z)/\v=.pointer (some ⟨b,o+off,none⟩)
 |.arr id off len sz,v=>∃b o z cap,μ id=some (b,o,z)/\v=.slice (some ⟨b,o+off,none⟩) len cap/\len<=cap/\o+off+cap*sz<=z
 |.agg cs,v=>∃vs:List Value,v=.agg vs.toArray/\RL μ Φ cs vs
 |.aT cs,v=>∃vs:List Value,v=.tuple vs.toArray/\RL μ Φ cs vs
 |.fn f cs,v=>∃vs:List Value,v=.func (.func f) #[] vs.toArray/\RL μ Φ cs vs
 |.map id,v=>∃b o z,μ id=some (b,o,z)/\v=.map (some b)
 |.int k n,v=>v=.int k n
 |.bool b,v=>v=.bool b
 |.str s,v=>v=.string s
 |.bG,v=>v=.pointer none
 |.fp cs off,v=>RP Φ (.fp cs off) v
 |.ag,v=>v=.slice none 0 0
 |.bu sz xs,v=>RP Φ (.bu sz xs) v
 |.bR,v=>v=.nilFunc
 |.bS,v=>v=.map none
def RL(μ:Mu)(Φ:W9):List D->List Value->Prop
 |[],vs=>vs=[]
 |d::ds,vs=>∃u us,vs=u::us/\R μ Φ d u/\RL μ Φ ds us
end
def W9.le(Φ Φ':W9):Prop:=∀b ob,Φ b=some ob->Φ' b=some ob
def Mu.le(μ μ':Mu):Prop:=∀id l,μ id=some l->μ' id=some l
theorem W9.le_refl(Φ:W9):Φ.le Φ:=λ_ _ h=>h
theorem W9.le_trans{a b c:W9}(h:a.le b)(k:b.le c):a.le c:=λ_ _ e=>k _ _ (h _ _ e)
theorem Mu.le_refl(μ:Mu):μ.le μ:=λ_ _ h=>h
theorem Mu.le_trans{a b c:Mu}(h:a.le b)(k:b.le c):a.le c:=λ_ _ e=>k _ _ (h _ _ e)
variable{Φ:W9}
theorem W9.ir{Φ':W9}(h:Φ.le Φ'){b o:Nat}{u:Value}(e:Φ.cell b o=some u):Φ'.cell b o=some u:=by
 unfold W9.cell at *;cases hb:Φ b with
 |none=>simp[hb]at e
 |some ob=>rw[h b ob hb];rw[hb]at e;exact e
mutual
theorem a87{Φ Φ':W9}(h:Φ.le Φ'):∀(d:D)(v:Value),RP Φ d v->RP Φ' d v
 |.int _ _,_,e=>by assumption
 |.bool _,_,e=>by assumption
 |.str _,_,e=>by assumption
 |.bG,_,e=>by assumption
 |.fp cs off,v,e=>by
  simp only[RP]at e⊢;obtain⟨b,o,e1,e2⟩:=e;exact⟨b,o,e1,fA h cs b o e2⟩
 |.ag,_,e=>by assumption
 |.bu sz xs,v,e=>by
  simp only[RP]at e⊢;obtain⟨b,o,cap,sp,e1,e2,e4,e3⟩:=e;exact⟨b,o,cap,sp,e1,e2,e4,gU h sz xs b o e3⟩
 |.agg cs,v,e=>by
  simp only[RP]at e⊢;obtain⟨vs,e1,e2⟩:=e;exact⟨vs,e1,eE h cs vs e2⟩
 |.aT cs,v,e=>by
  simp only[RP]at e⊢;obtain⟨vs,e1,e2⟩:=e;exact⟨vs,e1,eE h cs vs e2⟩
 |.bR,_,e=>by assumption
 |.bS,_,e=>by assumption
 |.undef,_,e=>by simp only[RP]at e
 |.ptr _ _,_,e=>by simp only[RP]at e
 |.arr _ _ _ _,_,e=>by simp only[RP]at e
 |.fn _ _,_,e=>by simp only[RP]at e
 |.map _,_,e=>by simp only[RP]at e
theorem eE{Φ Φ':W9}(h:Φ.le Φ'):∀(ds:List D)(vs:List Value),bm Φ ds vs->bm Φ' ds vs
 |[],_,e=>by assumption
 |d::ds,vs,e=>by
  simp only[bm]at e⊢;obtain⟨u,us,e1,e2,e3⟩:=e;exact⟨u,us,e1,a87 h d u e2,eE h ds us e3⟩
theorem fA{Φ Φ':W9}(h:Φ.le Φ'):∀(ds:List D)(b o:Nat),RC Φ ds b o->RC Φ' ds b o
 |[],_,_,_=>by simp only[RC]
 |d::ds,b,o,e=>by
  simp only[RC]at e⊢;obtain⟨⟨e0,u,e1,e2⟩,e3⟩:=e;exact⟨⟨e0,u,W9.ir h e1,a87 h d u e2⟩,fA h ds b (o+1) e3⟩
theorem gU{Φ Φ':W9}(h:Φ.le Φ')(sz:Nat):∀(ds:List (List D))(b o:Nat),RG Φ sz ds b o->RG Φ' sz ds b o
 |[],_,_,_=>by simp only[RG]
 |d::ds,b,o,e=>by
  simp only[RG]at e⊢;exact⟨e.1,fA h d b o e.2.1,gU h sz ds b (o+sz) e.2.2⟩
end
mutual
theorem b1w{μ μ':Mu}{Φ Φ':W9}(hm:μ.le μ')(h:Φ.le Φ'):∀(d:D)(v:Value),R μ Φ d v->R μ' Φ' d v
 |.undef,_,_=>by simp only[R]
 |.ptr id off,v,e=>by
  simp only[R]at e⊢;obtain⟨b,o,z,e1,e2⟩:=e;exact⟨b,o,z,hm _ _ e1,e2⟩
 |.arr _ _ _ _,v,e=>by
  simp only[R]at e⊢;obtain⟨b,o,z,cap,e1,e2⟩:=e;exact⟨b,o,z,cap,hm _ _ e1,e2⟩
 |.agg cs,v,e=>by
  simp only[R]at e⊢;obtain⟨vs,e1,e2⟩:=e;exact⟨vs,e1,bT hm h cs vs e2⟩
 |.aT cs,v,e=>by
  simp only[R]at e⊢;obtain⟨vs,e1,e2⟩:=e;exact⟨vs,e1,bT hm h cs vs e2⟩
 |.fn f cs,v,e=>by
  simp only[R]at e⊢;obtain⟨vs,e1,e2⟩:=e;exact⟨vs,e1,bT hm h cs vs e2⟩
 |.map id,v,e=>by
  simp only[R]at e⊢;obtain⟨b,o,z,e1,e2⟩:=e;exact⟨b,o,z,hm _ _ e1,e2⟩
 |.int _ _,_,e=>by assumption
 |.bool _,_,e=>by assumption
 |.str _,_,e=>by assumption
 |.bG,_,e=>by assumption
 |.fp cs off,v,e=>by grind[R,a87]
 |.ag,_,e=>by assumption
 |.bu sz xs,v,e=>by grind[R,a87]
 |.bR,_,e=>by assumption
 |.bS,_,e=>by assumption
theorem bT{μ μ':Mu}{Φ Φ':W9}(hm:μ.le μ')(h:Φ.le Φ'):∀(ds:List D)(vs:List Value),RL μ Φ ds vs->RL μ' Φ' ds vs
 |[],_,e=>by assumption
 |d::ds,vs,e=>by
  simp only[RL]at e⊢;obtain⟨u,us,e1,e2,e3⟩:=e;exact⟨u,us,e1,b1w hm h d u e2,bT hm h ds us e3⟩
end
mutual
theorem a9J{μ:Mu}{Φ:W9}:∀(d:D)(v:Value),RP Φ d v->R μ Φ d v
 |.int _ _,_,e=>by assumption
 |.bool _,_,e=>by assumption
 |.str _,_,e=>by assumption
 |.bG,_,e=>by assumption
 |.fp cs off,v,e=>by assumption
 |.ag,_,e=>by assumption
 |.bu sz xs,v,e=>by assumption
 |.agg cs,v,e=>by
  simp only[RP,R]at e⊢;obtain⟨vs,e1,e2⟩:=e;exact⟨vs,e1,aU cs vs e2⟩
 |.aT cs,v,e=>by
  simp only[RP,R]at e⊢;obtain⟨vs,e1,e2⟩:=e;exact⟨vs,e1,aU cs vs e2⟩
 |.bR,_,e=>by assumption
 |.bS,_,e=>by assumption
 |.undef,_,e=>by simp only[RP]at e
 |.ptr _ _,_,e=>by simp only[RP]at e
 |.arr _ _ _ _,_,e=>by simp only[RP]at e
 |.fn _ _,_,e=>by simp only[RP]at e
 |.map _,_,e=>by simp only[RP]at e
theorem aU{μ:Mu}{Φ:W9}:∀(ds:List D)(vs:List Value),bm Φ ds vs->RL μ Φ ds vs
 |[],_,e=>by assumption
 |d::ds,vs,e=>by
  simp only[bm,RL]at e⊢;obtain⟨u,us,e1,e2,e3⟩:=e;exact⟨u,us,e1,a9J d u e2,aU ds us e3⟩
end
variable{μ:Mu}
theorem a3L:∀{ds:List D}{vs:List Value},RL μ Φ ds vs->vs.length=ds.length
 |[],vs,e=>by grind[RL]
 |d::ds,vs,e=>by
  simp only[RL]at e;obtain⟨u,us,rfl,_,e3⟩:=e;simp[a3L e3]
theorem a97:∀{ds:List D}{vs:List Value},RL μ Φ ds vs->∀{j:Nat}{d:D},ds[j]?=some d->∃u,vs[j]?=some u/\R μ Φ d u
 |[],vs,e,j,d,h=>by simp at h
 |d::ds,vs,e,j,d',h=>by
  simp only[RL]at e;obtain⟨u,us,rfl,e2,e3⟩:=e;cases j with
  |zero=>grind
  |succ j=>simp at h;obtain⟨x,hx,hr⟩:=a97 e3 h;grind
theorem a9U:∀{ds:List D}{vs:List Value}{es:List D}{us:List Value},RL μ Φ ds vs->RL μ Φ es us->RL μ Φ (ds++es) (vs++us)
 |[],vs,es,us,e,f=>by grind[RL]
 |d::ds,vs,es,us,e,f=>by
  simp only[RL]at e;obtain⟨u,ws,rfl,e2,e3⟩:=e;simp only[Fx,RL];exact⟨u,ws++us,rfl,e2,a9U e3 f⟩
theorem b2r:∀{ds:List D}{vs:List Value}(n:Nat),RL μ Φ ds vs->RL μ Φ (ds.take n) (vs.take n)
 |[],vs,n,e=>by grind[RL]
 |d::ds,vs,n,e=>by
  simp only[RL]at e;obtain⟨u,ws,rfl,e2,e3⟩:=e;cases n with
  |zero=>simp[RL]
  |succ n=>simp only[Il,RL];exact⟨u,_,rfl,e2,b2r n e3⟩
theorem a9c:∀{ds:List D}{vs:List Value}(n:Nat),RL μ Φ ds vs->RL μ Φ (ds.drop n) (vs.drop n)
 |[],vs,n,e=>by grind[RL]
 |d::ds,vs,n,e=>by
  cases n with
  |zero=>simpa using e
  |succ n =>
   simp only[RL]at e;obtain⟨u,ws,rfl,e2,e3⟩:=e;simpa using a9c n e3
theorem RL_one{d:D}{v:Value}(h:R μ Φ d v):RL μ Φ [d] [v]:=by simp only[RL];grind
theorem c1o:∀{ds:List D}{b o:Nat}(n:Nat),RC Φ ds b o->RC Φ (ds.drop n) b (o+n)
 |[],b,o,n,_=>by simp[RC]
 |d::ds,b,o,n,e=>by
  cases n with
  |zero=>simpa using e
  |succ n =>
   simp only[RC]at e;have:=c1o n e.2;grind
theorem b8k:∀{ds:List D}{b o:Nat}(n:Nat),RC Φ ds b o->RC Φ (ds.take n) b o
 |[],b,o,n,_=>by simp[RC]
 |d::ds,b,o,n,e=>by
  cases n with
  |zero=>simp[RC]
  |succ n =>
   simp only[RC]at e;simp only[Il,RC];exact⟨e.1,b8k n e.2⟩
theorem c0v:∀{ds es:List D}{b o:Nat},RC Φ ds b o->RC Φ es b (o+ds.length)->RC Φ (ds++es) b o
 |[],es,b,o,_,f=>sU f
 |d::ds,es,b,o,e,f=>by
  simp only[RC]at e;simp only[Fx,RC];exact⟨e.1,c0v e.2 (by grind)⟩
theorem b78:∀{ds:List D}{b o:Nat},RC Φ ds b o->ds.all V5=true
 |[],_,_,_=>rfl
 |d::ds,b,o,e=>by
  simp only[RC]at e;simp only[HH,Fo];exact⟨e.1.1,b78 e.2⟩
theorem b6D:∀{ds:List D}{b o:Nat},RC Φ ds b o->∃vs,bm Φ ds vs/\∀j u,vs[j]?=some u->Φ.cell b (o+j)=some u
 |[],b,o,_=>⟨[],by simp[bm],sJ⟩
 |d::ds,b,o,e=>by
  simp only[RC]at e;obtain⟨⟨_,u,e1,e2⟩,e3⟩:=e;obtain⟨vs,h1,h2⟩:=b6D e3;refine⟨u::vs,by simp only[bm];exact⟨u,vs,rfl,e2,h1⟩,?_⟩;grind
theorem b7J{sz:Nat}:∀{xs:List (List D)}{b o:Nat},RG Φ sz xs b o->∀{i:Nat}{g:List D},xs[i]?=some g->g.length=sz/\RC Φ g b (o+i*sz)
 |[],b,o,e,j,d,h=>by simp at h
 |x::xs,b,o,e,i,g,h=>by
  simp only[RG]at e;cases i with
  |zero=>grind
  |succ i =>
   simp at h;have:=b7J e.2.2 h;grind
theorem b63{sz:Nat}:∀{xs:List (List D)}{b o:Nat}(n:Nat),n<=xs.length->RG Φ sz xs b o->RG Φ sz (xs.drop n) b (o+n*sz)
 |[],b,o,n,hn,_=>by simp[RG]
 |x::xs,b,o,n,hn,e=>by
  cases n with
  |zero=>simpa using e
  |succ n =>
   simp only[RG]at e;have h2:=b63 n (sU hn) e.2.2;grind
theorem b62{sz:Nat}:∀{xs:List (List D)}{b o:Nat}(n:Nat),RG Φ sz xs b o->RG Φ sz (xs.take n) b o
 |[],b,o,n,_=>by simp[RG]
 |x::xs,b,o,n,e=>by
  cases n with
  |zero=>simp[RG]
  |succ n =>
   simp only[RG]at e;simp only[Il,RG];exact⟨e.1,e.2.1,b62 n e.2.2⟩
theorem b2g{sz:Nat}:∀{xs:List (List D)}{b o:Nat},RG Φ sz xs b o->RC Φ xs.flatten b o/\xs.flatten.length=xs.length*sz
 |[],b,o,_=>by simp[RC]
 |x::xs,b,o,e=>by
  simp only[RG]at e;have:=b2g e.2.2;grind[c0v]
end Go.V
namespace Go.V
def en(μ:Mu)(Φ:W9):List (D×D)->List MapEntry->Prop
 |[],es=>es=[]
 |(k,v)::r,es=>∃e l,es=e::l/\R μ Φ k e.key/\R μ Φ v e.val/\en μ Φ r l
theorem c0f{μ μ':Mu}{Φ Φ':W9}(hm:μ.le μ')(h:Φ.le Φ'):∀(ds:List (D×D))(es:List MapEntry),en μ Φ ds es->en μ' Φ' ds es
 |[],_,e=>by assumption
 |(k,v)::r,es,e=>by
  simp only[en]at e⊢;obtain⟨x,l,e1,e2,e3,e4⟩:=e;exact⟨x,l,e1,b1w hm h k _ e2,b1w hm h v _ e3,c0f hm h r l e4⟩
def a3e(μ:Mu)(Φ:W9)(w:World)(b o z:Nat):Z7->Prop
 |.cells cs=>∃(a:Array Value)(e:TypeId)(vs tail:List Value),w.heap[b]?=some (.cells a e (0,0))/\a.size=z/\a.toList.drop o=vs++tail/\RL μ Φ cs vs/\cs.all V5=true
 |.map dg=>∃es clock,w.heap[b]?=some (.map es clock)/\en μ Φ dg es.toList
structure bc(μ:Mu)(Φ:W9)(g:a0v)(w:World):Prop where
 dZ:∀b ob,Φ b=some ob->w.heap[b]?=some ob
 obj:∀id ob,g id=some ob->∃b o z,μ id=some (b,o,z)/\a3e μ Φ w b o z ob/\Φ b=none
 inj:∀id jl b o z o' z',g id≠none->g jl≠none->μ id=some (b,o,z)->μ jl=some (b,o',z')->id=jl
def a5G(μ:Mu)(g:a0v)(b:Nat):Prop:=∃id o z,g id≠none/\μ id=some (b,o,z)
structure bQ(μ:Mu)(Φ:W9)(g:a0v)(w:World)(μ':Mu)(Φ':W9)(g':a0v)(w':World)(n0 n1:Nat):Prop where
 mu:μ.le μ'
 bZ:∀id,id<n0\/n1<=id->μ' id=μ id
 dZ:Φ.le Φ'
 os:w'.os=w.os
 tape:w'.tape=w.tape
 output:w'.output=w.output
 size:w.heap.size<=w'.heap.size
 aG:∀b,b<w.heap.size->¬a5G μ g b->w'.heap[b]?=w.heap[b]?
 cr:∀b ob,Φ' b=some ob->Φ b=some ob\/w.heap.size<=b
 bN:∀b,a5G μ' g' b->a5G μ g b\/w.heap.size<=b
theorem bQ.refl(μ:Mu)(Φ:W9)(g:a0v)(w:World)(n:Nat):bQ μ Φ g w μ Φ g w n n :=
 ⟨Mu.le_refl _,λ_ _=>rfl,W9.le_refl _,rfl,rfl,rfl,sm _,λ_ _ _=>rfl,λ_ _ h=>.inl h,λ_ h=>.inl h⟩
theorem bQ.trans{μ μ1 μ2:Mu}{Φ Φ1 Φ2:W9}{g g1 g2:a0v}{w w1 w2:World}{n0 n1 n2:Nat}(h01:n0<=n1)(yZ:n1<=n2)
 (h:bQ μ Φ g w μ1 Φ1 g1 w1 n0 n1)(k:bQ μ1 Φ1 g1 w1 μ2 Φ2 g2 w2 n1 n2):bQ μ Φ g w μ2 Φ2 g2 w2 n0 n2 where
 mu:=Mu.le_trans h.mu k.mu
 bZ id jb:=by rw[k.bZ id oJ,h.bZ id oJ]
 dZ:=W9.le_trans h.dZ k.dZ
 os:=k.os.trans h.os
 tape:=k.tape.trans h.tape
 output:=k.output.trans h.output
 size:=FE h.size k.size
 aG b hb hn:=by
  rw[k.aG b (Gq hb h.size) (λho=>by rcases h.bN b ho with h1|h1;exact hn h1;omega),h.aG b hb hn]
 cr b ob hb:=by
  rcases k.cr b ob hb with h1|h1
  .exact h.cr b ob h1
  .exact .inr (FE h.size h1)
 bN b hb:=by
  rcases k.bN b hb with h1|h1
  .exact h.bN b h1
  .exact .inr (FE h.size h1)
variable{μ:Mu}{Φ:W9}{g:a0v}{w:World}
theorem bQ.widen{μ1:Mu}{Φ1:W9}{g1:a0v}{w1:World}{n0 n1 m0 m1:Nat}(h0:m0<=n0)(h1:n1<=m1)
 (h:bQ μ Φ g w μ1 Φ1 g1 w1 n0 n1):bQ μ Φ g w μ1 Φ1 g1 w1 m0 m1 :=
 { h with bZ:=λid jb=>h.bZ id oJ }
def bU(g:a0v)(id:Nat)(o:Option Z7):a0v:=λi=>if i=id then o else g i
def a2n(μ:Mu)(id:Nat)(l:Nat×Nat×Nat):Mu:=λi=>if i=id then some l else μ i
variable{id:Nat}
theorem a8C{l:Nat×Nat×Nat}(h:μ id=none):μ.le (a2n μ id l):=by
 intro i x hx;unfold a2n;grind
variable{ob:Z7}
theorem b17{μ':Mu}{Φ':W9}{b o z:Nat}(hm:μ.le μ')(h:Φ.le Φ')(e:a3e μ Φ w b o z ob):a3e μ' Φ' w b o z ob:=by
 cases ob with
 |cells cs =>
  obtain⟨a,t,vs,tail,e1,e2,e3,e4⟩:=e;exact⟨a,t,vs,tail,e1,e2,e3,bT hm h _ _ e4.1,e4.2⟩
 |map dg =>
  obtain⟨es,clock,e1,e2⟩:=e;exact⟨es,clock,e1,c0f hm h _ _ e2⟩
variable{w':World}
theorem b01{b o z:Nat}(hw:w'.heap[b]?=w.heap[b]?)(e:a3e μ Φ w b o z ob):a3e μ Φ w' b o z ob:=by
 cases ob with
 |cells cs =>
  obtain⟨a,t,vs,tail,e1,e2⟩:=e;exact⟨a,t,vs,tail,by rw[hw];exact e1,e2⟩
 |map dg =>
  obtain⟨es,clock,e1,e2⟩:=e;exact⟨es,clock,by rw[hw];exact e1,e2⟩
theorem a3e.lt{b o z:Nat}(e:a3e μ Φ w b o z ob):b<w.heap.size:=by
 cases ob with
 |cells cs =>
  obtain⟨a,t,vs,tail,e1,_⟩:=e;grind
 |map dg =>
  obtain⟨es,clock,e1,_⟩:=e;grind
variable{b:Nat}
theorem bc.cU(h:bc μ Φ g w)(ho:a5G μ g b):b<w.heap.size:=by
 obtain⟨id,o,z,h1,h2⟩:=ho;cases hg:g id with
 |none=>exact absurd hg h1
 |some ob =>
  obtain⟨b',o',z',e1,e2,_⟩:=h.obj id ob hg;rw[h2]at e1;cases e1;exact e2.lt
variable{ob:Obj}
theorem bc.eF(h:bc μ Φ g w)(ho:Φ b=some ob):b<w.heap.size :=
 (Ie.1 (h.dZ b ob ho)).1
variable{g':a0v}
theorem bc.gV(h:bc μ Φ g w)(hg:∀id ob,g' id=some ob->g id=some ob):bc μ Φ g' w:=by
 have jt:∀id,g' id≠none->g id≠none:=by
  intro id h1 h2;cases hx:g' id with
  |none=>exact h1 hx
  |some ob=>grind
 exact⟨h.dZ,λid ob e=>h.obj id ob (hg id ob e),λid jl b o z o' z' h1 h2=>h.inj id jl b o z o' z' (jt id h1) (jt jl h2)⟩
theorem bc.world(h:bc μ Φ g w)(hp:∀b ob,Φ b=some ob->w'.heap[b]?=w.heap[b]?)(ho:∀b,a5G μ g b->w'.heap[b]?=w.heap[b]?):bc μ Φ g w' where
 dZ b ob e:=by rw[hp b ob e];exact h.dZ b ob e
 obj id ob e:=by
  obtain⟨b,o,z,e1,e2,e3⟩:=h.obj id ob e;exact⟨b,o,z,e1,b01 (ho b ⟨id,o,z,by rw[e];simp,e1⟩) e2,e3⟩
 inj:=h.inj
theorem bc.drew(h:bc μ Φ g w)(n:Nat):bc μ Φ g { w with drawn:=n }:=h.world (λ_ _ _=>rfl) (λ_ _=>rfl)
theorem bc.congr(h:bc μ Φ g w)(e:∀i,g' i=g i):bc μ Φ g' w:=by
 simp_all[funext]
variable{vo:Z7}
theorem bc.push(h:bc μ Φ g w)(jb:μ id=none)(hg:g id=none){z:Nat}
 (rC:a3e (a2n μ id (w.heap.size,0,z)) Φ (w.alloc ob) w.heap.size 0 z vo) :
 bc (a2n μ id (w.heap.size,0,z)) Φ (bU g id (some vo)) (w.alloc ob) /\
 bQ μ Φ g w (a2n μ id (w.heap.size,0,z)) Φ (bU g id (some vo)) (w.alloc ob) id (id+1):=by
 have hle:=a8C (l:=(w.heap.size,0,z)) jb;have pD:=λk hk=>RowKit.Below.heap_alloc w ob k hk
 have qq:a2n μ id (w.heap.size,0,z) id=some (w.heap.size,0,z):=by simp[a2n]
 have mJ:∀i,i≠id->a2n μ id (w.heap.size,0,z) i=μ i:=λi hi=>by simp[a2n,hi]
 have tf:∀i,i≠id->bU g id (some vo) i=g i:=λi hi=>by simp[bU,hi]
 have lB:w.heap.size<=(w.alloc ob).heap.size:=sJ;refine⟨⟨?_,?_,?_⟩,⟨hle,?_,W9.le_refl _,rfl,rfl,rfl,lB,λb hb _=>pD b hb,λ_ _ h=>.inl h,?_⟩⟩
 .intro b o e
  rw[pD b (h.eF e)];exact h.dZ b o e
 .intro i o e
  by_cases hi:i=id
  .subst hi
   simp only[bU,FG]at e;cases e;refine⟨_,_,_,qq,rC,?_⟩;cases hp:Φ w.heap.size with
   |none=>rfl
   |some x=>have:=h.eF hp;omega
  .rw[tf i hi]at e
   obtain⟨b,o2,z2,e1,e2,e3⟩:=h.obj i o e;exact⟨b,o2,z2,by grind,b01 (pD b e2.lt) (b17 hle (W9.le_refl _) e2),e3⟩
 .intro i i' b o1 z1 o2 z2 h1 h2 e1 e2
  by_cases hi:i=id
  .subst hi
   by_cases jF:i'=i
   .exact jF.symm
   .rw[qq]at e1
    cases e1;rw[mJ i' jF]at e2;rw[tf i' jF]at h2;have:=h.cU ⟨i',_,_,h2,e2⟩;omega
  .by_cases jF:i'=id
   .subst jF
    rw[qq]at e2;cases e2;rw[mJ i hi]at e1;rw[tf i hi]at h1;have:=h.cU ⟨i,_,_,h1,e1⟩;omega
   .rw[mJ i hi]at e1
    rw[mJ i' jF]at e2;rw[tf i hi]at h1;rw[tf i' jF]at h2;exact h.inj i i' _ _ _ _ _ h1 h2 e1 e2
 .grind
 .rintro b ⟨i,o2,z2,h1,h2⟩
  by_cases hi:i=id
  .grind
  .rw[mJ i hi]at h2
   rw[tf i hi]at h1;exact .inl ⟨i,o2,z2,h1,h2⟩
structure a5f(b:Nat)(w w':World):Prop where
 os:w'.os=w.os
 tape:w'.tape=w.tape
 output:w'.output=w.output
 size:w'.heap.size=w.heap.size
 block:∀k,k≠b->w'.heap[k]?=w.heap[k]?
theorem a5f.refl(b:Nat)(w:World):a5f b w w:=⟨rfl,rfl,rfl,rfl,λ_ _=>rfl⟩
theorem a5f.trans{b:Nat}{w w1 w2:World}(h:a5f b w w1)(k:a5f b w1 w2):a5f b w w2 :=
 ⟨k.os.trans h.os,k.tape.trans h.tape,k.output.trans h.output,k.size.trans h.size,λi hi=>(k.block i hi).trans (h.block i hi)⟩
theorem bc.write(h:bc μ Φ g w){id b o z:Nat}{rP:Z7}(hg:g id=some vo)(jb:μ id=some (b,o,z))(hw:a5f b w w')
 (rC:a3e μ Φ w' b o z rP)(n:Nat):bc μ Φ (bU g id (some rP)) w'/\bQ μ Φ g w μ Φ (bU g id (some rP)) w' n n:=by
 have lF:a5G μ g b:=⟨id,o,z,by rw[hg];simp,jb⟩
 have qI:Φ b=none:=by
  obtain⟨b',o',z',e1,_,e3⟩:=h.obj id vo hg;rw[jb]at e1;cases e1;exact e3
 refine⟨⟨?_,?_,?_⟩,⟨Mu.le_refl _,λ_ _=>rfl,W9.le_refl _,hw.os,hw.tape,hw.output,by rw[hw.size];exact sm _,?_,λ_ _ h=>.inl h,?_⟩⟩
 .intro b' ob e
  rw[hw.block b' (λe'=>by grind)];exact h.dZ b' ob e
 .intro i ob e
  by_cases hi:i=id
  .subst hi
   simp only[bU,FG]at e;grind
  .simp only[bU,hi,FF]at e
   obtain⟨b',o',z',e1,e2,e3⟩:=h.obj i ob e;refine⟨b',o',z',e1,b01 (hw.block b' ?_) e2,e3⟩;intro e';subst e';exact hi (h.inj i id _ _ _ _ _ (by rw[e];simp) (by rw[hg];simp) e1 jb)
 .intro i i' b1 o1 z1 o2 z2 h1 h2
  have f:∀j,bU g id (some rP) j≠none->g j≠none:=by grind[bU]
  exact h.inj i i' b1 o1 z1 o2 z2 (f i h1) (f i' h2)
 .intro b' _ hn
  exact hw.block b' (λe=>by grind)
 .rintro b' ⟨i,o2,z2,h1,h2⟩
  refine .inl ⟨i,o2,z2,?_,h2⟩;grind[bU]
theorem a5Q(b o n:Nat):(⟨b,o,none⟩:Addr).add n=⟨b,o+n,none⟩:=by
 simp[Addr.add]
theorem b4e{a:Array Value}{e:TypeId}{f:Nat×Nat}(h:w.heap[b]?=some (.cells a e f))(o:Nat):w.cell? ⟨b,o,none⟩=a[o]?:=by
 simp[World.cell?,h]
theorem bc.cellP(h:bc μ Φ g w){o:Nat}{u:Value}(e:Φ.cell b o=some u):w.cell? ⟨b,o,none⟩=some u:=by
 unfold W9.cell at e;cases hb:Φ b with
 |none=>simp[hb]at e
 |some ob =>
  rw[hb]at e;cases ob with
  |cells c t f =>
   have:=h.dZ b _ hb;grind[b4e]
  |_=>simp at e
theorem b7T(P:Program)(w:World)(b o:Nat):∀(us:List Value)(i:Nat)(acc:Array Value),
 (∀j u,us[j]?=some u->w.cell? ⟨b,o+i+j,none⟩=some u)->(loadCellsFrom ⟨b,o,none⟩ i us.length acc).run P w=.ok (acc++us.toArray) w
 |[],i,acc,_=>by simp[loadCellsFrom]
 |u::us,i,acc,h=>by
  have h0:=h 0 u sJ;simp only[GN]at h0;have ih:=b7T P w b o us (i+1) (acc.push u) (λj x hx=>by
   have:=h (j+1) x (sU hx);rw[<- this];congr 2
   omega)
  simp_all[loadCellsFrom,a5Q]
theorem b3h(P:Program)(w:World)(b o:Nat)(us:List Value)(h:∀j u,us[j]?=some u->w.cell? ⟨b,o+j,none⟩=some u) :
 (loadCells ⟨b,o,none⟩ us.length).run P w=.ok us.toArray w:=by
 grind[b7T,loadCells]
theorem c4l{a:Array Value}{e:TypeId}(h:w.heap[b]?=some (.cells a e (0,0)))(o:Nat):w.frozen? ⟨b,o,none⟩=false:=by
 simp[World.frozen?,h]
theorem c3s{a:Array Value}{e:TypeId}(h:w.heap[b]?=some (.cells a e (0,0)))(o:Nat)(v:Value) :
 (w.setCell ⟨b,o,none⟩ v).heap[b]?=some (.cells (a.setIfInBounds o v) e (0,0)):=by
 simp[World.setCell,Array.getElem?_modify,h]
theorem c8F(w:World)(b o:Nat)(v:Value):a5f b w (w.setCell ⟨b,o,none⟩ v) :=
 ⟨rfl,rfl,rfl,sJ,λk hk=>RowKit.Below.heap_setCell _ _ _ _ hk⟩
def a83:Value->Bool
 |.agg _|.tuple _=>false
 |_=>true
theorem b15(P:Program)(b k:Nat)(e:TypeId):∀(vs:List Value)(i:Nat)(w:World)(a:Array Value),w.heap[b]?=some (.cells a e (0,0)) ->
 (∀v∈vs,a83 v=true)->k+i+vs.length<=a.size ->
 ∃w' a',(storeCells ⟨b,k,none⟩ vs i).run P w=.ok () w'/\a5f b w w'/\w'.heap[b]?=some (.cells a' e (0,0))/\a'.size=a.size /\
  a'.toList=a.toList.take (k+i)++vs++a.toList.drop (k+i+vs.length)
 |[],i,w,a,h,_,_=>⟨w,a,by simp[storeCells],a5f.refl _ _,h,rfl,sJ⟩
 |v::vs,i,w,a,h,hv,hs=>by
  have jN:v.oneCell'=true:=by
   have:=hv v sJ;cases v<;>simp_all[a83,Value.oneCell']
  simp only[Gt]at hs;have jq:k+i<a.size:=oJ;have hc:w.cell? ⟨b,k+i,none⟩=some a[k+i]:=by
   rw[b4e h];simp[jq]
  have lG:=c3s h (k+i) v;obtain⟨w',a',r1,r2,r3,r4,r5⟩:=b15 P b k e vs (i+1) (w.setCell ⟨b,k+i,none⟩ v) _ lG (λx hx=>hv x (by simp[hx])) qJ;refine⟨w',a',?_,(c8F w b (k+i) v).trans r2,r3,sU r4,?_⟩
  .simp only[storeCells,Gj,a5Q,run_store P w _ v .plain jN,hc,c4l h,Fw,FF,FM,r1]
  .rw[r5]
   simp only[IY,Gt];have e1:k+(i+1)=(k+i)+1:=oJ;rw[e1,FO qJ];have e2:k+i+1+vs.length=k+i+(vs.length+1):=oJ;simp_all[Kn,Ko]
end Go.V
namespace Go.V
def a7t:Value->Option D
 |.int k n=>some (.int k n)
 |.bool b=>some (.bool b)
 |.string s=>some (.str s)
 |.pointer none=>some .bG
 |.slice none 0 0=>some .ag
 |.map none=>some .bS
 |.nilFunc=>some .bR
 |_=>none
def a6K:List Value->Option (List D)
 |[]=>some []
 |v::r=>match a7t v,a6K r with
  |some d,some l=>some (d::l)
  |_,_=>none
def ofV:Value->Option D
 |.agg cs=>(a6K cs.toList).map .agg
 |v=>a7t v
variable{Φ:W9}{v:Value}{d:D}
theorem b42(h:a7t v=some d):RP Φ d v:=by
 unfold a7t at h;grind[RP]
theorem b3A{Φ:W9}:∀{vs:List Value}{ds:List D},a6K vs=some ds->bm Φ ds vs
 |[],ds,h=>by grind[a6K,bm]
 |v::vs,ds,h=>by
  simp only[a6K]at h;split at h
  .rename_i d l h1 h2
   simp at h;subst h;simp only[bm];exact⟨v,vs,rfl,b42 h1,b3A h2⟩
  .simp at h
theorem c1d(h:ofV v=some d):RP Φ d v:=by
 unfold ofV at h;split at h
 .rename_i cs
  cases hl:a6K cs.toList with
  |none=>simp[hl]at h
  |some l =>
   grind[RP,b3A]
 .exact b42 h
def a0G:Operand->Option Z1
 |.tmp t=>some (.tmp t)
 |.const v=>(ofV v).map .aL
 |.func f=>some (.aL (.fn f []))
 |.global _=>none
def a7n:List Operand->Option (List Z1)
 |[]=>some []
 |x::r=>match a0G x,a7n r with
  |some y,some l=>some (y::l)
  |_,_=>none
def a2h(μ:Mu)(Φ:W9)(env:k6)(a:Act):Prop:=∀t,R μ Φ (env.get t) (a.tmps.getD t undef)
variable{env:k6}
theorem a2h.mono{μ μ':Mu}{Φ':W9}{a:Act}(hm:μ.le μ')(h:Φ.le Φ')(e:a2h μ Φ env a):a2h μ' Φ' env a :=
 λt=>b1w hm h _ _ (e t)
theorem a0D{μ:Mu}{a:Act}(he:a2h μ Φ env a){x:Operand}{y:Z1}(h:a0G x=some y):R μ Φ (env.ev y) (a.eval x):=by
 cases x with
 |tmp t=>simp[a0G]at h;subst h;exact he t
 |const v =>
  simp only[a0G]at h;cases hv:ofV v with
  |none=>simp[hv]at h
  |some d=>simp[hv]at h;subst h;exact a9J _ _ (c1d hv)
 |global g=>simp[a0G]at h
 |func f =>
  simp[a0G]at h;subst h;simp only[k6.ev,Act.eval,R];exact⟨[],rfl,by simp[RL]⟩
theorem b0F{μ:Mu}{Φ:W9}{env:k6}{a:Act}(he:a2h μ Φ env a):∀{xs:List Operand}{ys:List Z1},a7n xs=some ys->RL μ Φ (env.aR ys) (xs.map a.eval)
 |[],ys,h=>by grind[a7n,k6.aR,RL]
 |x::xs,ys,h=>by
  simp only[a7n]at h;split at h
  .rename_i y l h1 h2
   simp at h;subst h;simp only[k6.aR,FJ,RL];exact⟨_,_,rfl,a0D he h1,b0F he h2⟩
  .simp at h
def a1Y(P:Program)(t:TypeId):Option Nat:=(P.info? t).map (·.size)
def b3o(P:Program)(t:TypeId):Option Bool :=
 match P.underlying t with
 |some (.struct _)|some (.array _ _)=>some true
 |some _=>some false
 |none=>none
def a7w(P:Program)(t:TypeId):Option (Option Nat) :=
 match b3o P t,a1Y P t with
 |some true,some n=>some (some n)
 |some false,some _=>some none
 |_,_=>none
def a7c(P:Program)(t:TypeId):Option (List D) :=
 match P.info? t with
 |some i=>match i.zero with
  |some v=>(ofV v).map cellsOf
  |none=>none
 |none=>none
def b8U(P:Program)(t:TypeId):Option D :=
 match P.info? t with
 |some i=>match i.zero with
  |some v=>a7t v
  |none=>none
 |none=>none
def b3n(P:Program)(t:TypeId)(i:Operand):Option Nat :=
 match P.underlying t,i with
 |some (.array len e),.const (.int _ n)=>match a1Y P e with
  |some (s+1)=>if 0<=n/\n<len then some (n.toNat*(s+1))else none
  |_=>none
 |_,_=>none
theorem c4J{P:Program}{t:TypeId}{i:Operand}{off:Nat}(h:b3n P t i=some off):∃len e k n s,P.underlying t=some (.array len e)/\i=.const (.int k n)/\a1Y P e=some s/\(0<=n/\n<(len:Int))/\off=n.toNat*s:=by
 unfold b3n at h;grind
def a49(P:Program)(t:TypeId):Option TypeId :=
 match P.underlying t with
 |some (.slice e)=>some e
 |_=>none
def b2z(P:Program)(t:TypeId)(f:Nat):Option Field :=
 match P.underlying t with
 |some (.struct fs)=>fs[f]?
 |_=>none
def a7M(P:Program)(t:TypeId)(y:Operand):Option NK :=
 match y,P.underlying t with
 |.const (.pointer none),some (.pointer _)=>some .p
 |.const (.slice none 0 0),some (.slice _)=>some .s
 |.const (.map none),some (.map _ _)=>some .m
 |.const .nilFunc,some (.func _ _ _)=>some .f
 |_,_=>none
def b2M(P:Program)(t:TypeId):Bool :=
 match P.underlying t with
 |some .bool=>true
 |_=>false
def b4i(P:Program)(t:TypeId):Bool :=
 match P.underlying t with
 |some (.int _)|some .string=>true
 |_=>false
def a8l(P:Program)(t:TypeId):Option SK :=
 match P.underlying t with
 |some (.int _)=>some .i
 |some .bool=>some .b
 |some .string=>some .s
 |_=>none
def a6J(P:Program):List Field->Nat->Option (List SK)
 |[],_=>some []
 |f::r,n=>if f.offset=n/\f.name≠"_" then
   match a8l P f.type,a6J P r (n+1)with
   |some k,some l=>some (k::l)
   |_,_=>none
  else none
def a36(P:Program)(t:TypeId):Option (List SK) :=
 match P.underlying t with
 |some (.struct fs)=>if !P.stoodInHeld t&&!P.eqGuardType P.depth t then a6J P fs.toList 0 else none
 |_=>none
def a9Z(P:Program)(fs:Array Field):List (Nat×Operand)->Option (List (Nat×Nat×Z1))
 |[]=>some []
 |(i,x)::r=>match fs[i]?,a0G x,a9Z P fs r with
  |some f,some y,some l=>match a1Y P f.type with
   |some n=>some ((f.offset,n,y)::l)
   |none=>none
  |_,_,_=>none
def a95:List (Nat×Operand)->Option (List (Nat×Z1))
 |[]=>some []
 |(i,x)::r=>match a0G x,a95 r with
  |some y,some l=>some ((i,y)::l)
  |_,_=>none
def b7E(P:Program)(fs:Array Field):Bool:=fs.toList.all λf=>(a1Y P f.type).isSome
def b04:Option Operand->Option (Option Z1)
 |none=>some none
 |some x=>(a0G x).map some
def b4V(P:Program)(op:BinOp)(t:TypeId)(x y:Operand):Option gw :=
 match a0G x,a0G y with
 |some a,some b =>
  match op with
  |.eql =>
   if b4i P t then some (.bin .eql a b)
   else if b2M P t then some (.eqB false a b)
   else match a36 P t with
    |some ks=>some (.eD false ks a b)
    |none=>(a7M P t y).map λk=>.dY false k a
  |.neq =>
   if b4i P t then some (.bin .neq a b)
   else if b2M P t then some (.eqB true a b)
   else match a36 P t with
    |some ks=>some (.eD true ks a b)
    |none=>(a7M P t y).map λk=>.dY true k a
  |op=>some (.bin op a b)
 |_,_=>none
def a8B(P:Program)(b:Builtin)(args:List Operand)(types:List TypeId):Option fV :=
 match b,args with
 |.len,[x]=>match a0G x,types with
  |some y,[t]=>match P.underlying t with
   |some (.slice _)=>some (.p (.len false y))
   |some .string=>some (.p (.len true y))
   |_=>none
  |_,_=>none
 |.min,x::r=>match a0G x,a7n r with
  |some y,some l=>some (.p (.bM false y l))
  |_,_=>none
 |.max,x::r=>match a0G x,a7n r with
  |some y,some l=>some (.p (.bM true y l))
  |_,_=>none
 |.append,[s,x]=>match a0G s,a0G x,types with
  |some s,some x,[t,u]=>match a49 P t,a49 P u with
   |some e,some _=>match P.info? e,a7c P e with
    |some i,some z=>if i.size=0\/z.length≠i.size then none else some (.m (.append i.size i.bytes s x))
    |_,_=>none
   |_,_=>none
  |_,_,_=>none
 |.copy,[s,x]=>match a0G s,a0G x,types with
  |some s,some x,[t,u]=>match a49 P t with
   |some e=>match P.info? e with
    |some i=>if i.size=1 then some (.m (.copy s x))else none
    |none=>none
   |none=>none
  |_,_,_=>none
 |_,_=>none
def a33(P:Program)(md:FuncId->a16)(o:Oper):Option fV :=
 match o.op with
 |.move x=>(a0G x).map λy=>.p (.mov y)
 |.assign x=>(a0G x).map λy=>.p (.mov y)
 |.pick c a b=>match a0G c,a0G a,a0G b with
  |some c,some a,some b=>some (.p (.pick c a b))
  |_,_,_=>none
 |.nilCheck x=>(a0G x).map λy=>.p (.aV y)
 |.binOp op t x y _=>(b4V P op t x y).map .p
 |.unOp op _ x=>(a0G x).map λy=>.p (.un op y)
 |.convert src dst x=>match a0G x,P.underlying src,P.underlying dst with
  |some y,some (.int _),some (.int k)=>some (.p (.conv k y))
  |some y,some (.slice e),some .string=>match P.underlying e with
   |some (.int .u8)=>some (.r (.b2s y))
   |_=>none
  |_,_,_=>none
 |.build t parts=>match P.underlying t,a7c P t with
  |some (.struct fs),some z=>match a9Z P fs parts.toList with
   |some l=>if b7E P fs then some (.p (.build z l))else none
   |none=>none
  |_,_=>none
 |.fieldAddr t x f=>match a0G x,b2z P t f with
  |some y,some fd=>match a1Y P fd.type with
   |some (_+1)=>some (.p (.cT fd.offset y))
   |_=>none
  |_,_=>none
 |.field t x f=>match a0G x,b2z P t f with
  |some y,some fd=>match a7w P fd.type with
   |some n=>some (.p (.field n fd.offset y))
   |none=>none
  |_,_=>none
 |.indexAddr t x i=>match b3n P t i with
  |some off=>match a0G x with
   |some y=>some (.p (.cT off y))
   |none=>none
  |none=>match a0G x,a0G i,a49 P t with
   |some y,some j,some e=>match a1Y P e with
    |some n=>some (.p (.az n y j))
    |none=>none
   |_,_,_=>none
 |.index t x i=>match a0G x,a0G i,P.underlying t with
  |some y,some j,some .string=>some (.p (.idxS y j))
  |some y,some j,some (.array len e)=>match a7w P e,a1Y P e with
   |some n,some s=>some (.p (.idxV n len s y j))
   |_,_=>none
  |_,_,_=>none
 |.slice t x lo hi none=>match a0G x,b04 lo,b04 hi,P.underlying t with
  |some y,some l,some h,some .string=>some (.p (.slice none y l h))
  |some y,some l,some h,some (.slice e)=>match a1Y P e with
   |some n=>some (.p (.slice (some n) y l h))
   |none=>none
  |_,_,_,_=>none
 |.extract x i=>(a0G x).map λy=>.p (.extract y i)
 |.makeFunc (.func f) first iX=>if first.size=0 then(a7n iX.toList).map λl=>.p (.fL f l)else none
 |.load t x=>match a0G x,a7w P t with
  |some y,some n=>some (.r (.load n y))
  |_,_=>none
 |.lookup t m k ok=>match a0G m,a0G k,P.underlying t with
  |some m,some k,some (.map kt et)=>match b8U P et with
   |some z=>match a36 P kt with
    |some ks=>some (.r (.lookup ks z ok m k))
    |none=>none
   |_=>none
  |_,_,_=>none
 |.alloc t=>(a7c P t).map λz=>.a (.alloc z)
 |.box _ x=>(a0G x).map λy=>.a (.box y)
 |.buildSlice t len parts=>match a49 P t,a95 parts.toList with
  |some e,some l=>match a1Y P e,a7c P e with
   |some n,some z=>if z.length=n/\len*n<=2^24 then some (.a (.aD n len z l))else none
   |_,_=>none
  |_,_=>none
 |.makeSlice t l c=>match a49 P t,a0G l,a0G c with
  |some e,some l,some c=>match P.info? e,a7c P e with
   |some i,some z=>if z.length=i.size then some (.a (.aH i.size i.bytes z l c))else none
   |_,_=>none
  |_,_,_=>none
 |.makeMap _ none=>some (.a .fM)
 |.store t a x=>match a0G a,a0G x,a1Y P t with
  |some a,some x,some n=>some (.w n a x)
  |_,_,_=>none
 |.mapUpdate t m k v=>match a0G m,a0G k,a0G v,P.underlying t with
  |some m,some k,some v,some (.map kt _)=>match a36 P kt with
   |some ks=>some (.m (.du ks m k v))
   |none=>none
  |_,_,_,_=>none
 |.call c=>match c.callee with
  |.builtin b=>a8B P b c.args.toList c.argTypes.toList
  |.value f=>match a0G f,a7n c.args.toList with
   |some f',some l=>some (.m (.call (match f with|.func g=>md g|_=>.raw) f' l))
   |_,_=>none
  |.invoke _ _=>none
 |_=>none
end Go.V
namespace Go.V
variable{P:Program}{μ:Mu}{Φ:W9}
def a4X(P:Program)(μ:Mu)(Φ:W9)(s:Sem Next)(w:World)(d:D):Prop:=∃v,s.run P w=.ok (.value v) w/\R μ Φ d v
variable{op:BinOp}{t:TypeId}{k:IntKind}{d:D}{ox oy:Operand}{ρ:Operand->Value}
theorem c6i{x y:Int}(hx:ρ ox=.int k x)(hy:ρ oy=.int k y)
 (EG:op≠.shl/\op≠.shr)(h:a3K op k x y=some d)(w:World)(yt:TypeId)(dst pos after guard type) :
 a4X P μ Φ (execOp ρ ⟨dst,.binOp op t ox oy yt,type,pos,after,guard⟩) w d:=by
 unfold a3K at h;cases op<;>simp at h EG <;>
  first
  |(subst h;exact⟨_,by simp[execOp,hx,hy,eqGuard,binOp,Op.intArith,Op.intBits,Op.intCmp];rfl,by simp only[R]⟩)
  |(obtain⟨hz,h⟩:=h;subst h;exact⟨_,by simp[execOp,hx,hy,eqGuard,binOp,Op.intDiv,hz];rfl,by simp only[R]⟩)
theorem b6X{k':IntKind}{x y:Int}(hx:ρ ox=.int k x)(hy:ρ oy=.int k' y)
 (hs:op=.shl\/op=.shr)(h:a48 op k x y=some d)(w:World)(yt:TypeId)(dst pos after guard type) :
 a4X P μ Φ (execOp ρ ⟨dst,.binOp op t ox oy yt,type,pos,after,guard⟩) w d:=by
 unfold a48 at h;rcases hs with rfl|rfl<;>simp at h
 .obtain⟨hz,h⟩:=h
  subst h;exact⟨_,by simp[execOp,hx,hy,eqGuard,binOp,Op.shift,Int.not_lt.2 hz];rfl,by simp only[R]⟩
 .obtain⟨hz,h⟩:=h
  subst h;exact⟨_,by simp[execOp,hx,hy,eqGuard,binOp,Op.shift,Int.not_lt.2 hz];rfl,by simp only[R]⟩
theorem c5Q{x y:ByteArray}(hx:ρ ox=.string x)(hy:ρ oy=.string y)
 (h:b1M op x y=some d)(w:World)(yt:TypeId)(dst pos after guard type) :
 a4X P μ Φ (execOp ρ ⟨dst,.binOp op t ox oy yt,type,pos,after,guard⟩) w d:=by
 unfold b1M at h;cases op<;>simp at h <;>
  first
  |(subst h;exact⟨_,by simp[execOp,hx,hy,eqGuard,binOp,Op.stringOp];rfl,by simp only[R]⟩)
  |(obtain⟨hz,h⟩:=h;subst h
    have:¬(IntKind.i64.max<((x.size+y.size:Nat):Int)):=by
     have:IntKind.i64.max=9223372036854775807:=dJ;rw[this];omega
    refine⟨.string (x++y),?_,by simp only[R]⟩;simp_all[execOp,eqGuard,binOp,Op.stringOp])
theorem c46(n:Nat)(hb:P.underlying t=some .bool)(x y:Bool)(w:World):(Op.equalIn (n+1) t (.bool x) (.bool y)).run P w=.ok (x==y) w:=by
 simp_all[Op.equalIn,FD]
theorem b7e(hb:P.underlying t=some .bool)(x y:Bool)(w:World):(Op.equal t (.bool x) (.bool y)).run P w=.ok (x==y) w:=c46 9999 hb x y w
variable{neg:Bool}
theorem c54{x y:Bool}(hb:P.underlying t=some .bool)(hx:ρ ox=.bool x)(hy:ρ oy=.bool y)
 (w:World)(yt:TypeId)(dst pos after guard type) :
 a4X P μ Φ (execOp ρ ⟨dst,.binOp (if neg then .neq else .eql) t ox oy yt,type,pos,after,guard⟩) w (.bool (if neg then !(x==y)else(x==y))):=by
 cases neg
 .refine⟨.bool (x==y),?_,by simp only[R];rfl⟩
  simp_all[execOp,eqGuard,binOp,b7e]
 .refine⟨.bool (!(x==y)),?_,by simp only[R];rfl⟩
  simp_all[execOp,eqGuard,binOp,b7e]
variable{k:SK}{v:Value}
theorem b6a(ht:a8l P t=some k){cs:Array Value}{o:Nat}(hv:cs[o]?=some v)(w:World):(part t cs o).run P w=.ok v w:=by
 unfold a8l at ht;split at ht<;>simp_all[part,isAgg,FD]
variable{r:Bool}
theorem c37(n:Nat)(ht:a8l P t=some k){a b:D}{u v:Value}(ha:R μ Φ a u)(hb:R μ Φ b v)(h:a7O k a b=some r)(w:World) :
 (Op.equalIn (n+1) t u v).run P w=.ok r w:=by
 unfold a8l at ht;split at ht
 .rename_i q hu
  simp at ht;subst ht;cases a<;>cases b<;>simp[a7O]at h;obtain⟨rfl,rfl⟩:=h;simp_all[R,Op.equalIn,FD]
 .rename_i hu
  simp at ht;subst ht;cases a<;>cases b<;>simp[a7O]at h;simp_all[R,Op.equalIn,FD]
 .rename_i hu
  simp at ht;subst ht;cases a<;>cases b<;>simp[a7O]at h;simp_all[R,Op.equalIn,FD]
 .simp at ht
theorem c02(n:Nat):∀(fs:List Field)(k:Nat)(ks:List SK)(as bs:List D)(us vs:List Value)(xs ys:Array Value)(r:Bool)(w:World),a6J P fs k=some ks ->
 RL μ Φ as us->RL μ Φ bs vs->(∀j u,us[j]?=some u->xs[k+j]?=some u)->(∀j u,vs[j]?=some u->ys[k+j]?=some u)->a21 ks as bs=some r ->
 (Op.eqFields (n+1) xs ys fs).run P w=.ok r w
 |[],k,ks,as,bs,us,vs,xs,ys,r,w,hf,ha,hb,hx,hy,h=>by
  simp[a6J]at hf;subst hf;cases as<;>cases bs<;>simp[a21]at h;simp_all[Op.eqFields]
 |f::fs,k,ks,as,bs,us,vs,xs,ys,r,w,hf,ha,hb,hx,hy,h=>by
  simp only[a6J]at hf;split at hf
  .rename_i lQ
   split at hf
   .rename_i kk l hk hl
    simp at hf;subst hf;cases as with
    |nil=>grind[a21]
    |cons a as =>
     cases bs with
     |nil=>simp[a21]at h
     |cons b bs =>
      simp only[a21]at h;split at h
      .rename_i p q hp hq
       simp at h;subst h;simp only[RL]at ha hb;obtain⟨u,AG,rfl,hu,hus⟩:=ha;obtain⟨v,yQ,rfl,hv,hvs⟩:=hb;have hx0:xs[f.offset]?=some u:=by rw[lQ.1];simpa using hx 0 u sJ
       have hy0:ys[f.offset]?=some v:=by rw[lQ.1];simpa using hy 0 v sJ
       have ih:=c02 n fs (k+1) l as bs AG yQ xs ys q w hl hus hvs
        (λj x hj=>by have:=hx (j+1) x (sU hj);grind)
        (λj x hj=>by have:=hy (j+1) x (sU hj);grind) hq
       simp only[Op.eqFields,lQ.2,ne_eq,Jm,FG,Gj,b6a hk hx0,b6a hk hy0,c37 n hk hu hv hp,FM,Jn,ih];cases p<;>simp
      .simp at h
   .simp at hf
  .simp at hf
variable{us:List Value}
theorem a9K{ks:List SK}(ht:a36 P t=some ks){as bs:List D}{vs:List Value}(ha:RL μ Φ as us)(hb:RL μ Φ bs vs)(h:a21 ks as bs=some r)(w:World) :
 (Op.equal t (.agg us.toArray) (.agg vs.toArray)).run P w=.ok r w:=by
 unfold a36 at ht;split at ht
 .rename_i fs hu
  split at ht
  .rename_i hc
   have jy:P.fieldsOf t=fs:=by grind[Program.fieldsOf]
   have hs:P.stoodInHeld t=false:=by grind
   have h1:(Op.equalIn (9999+1) t (.agg us.toArray) (.agg vs.toArray)).run P w=_:=run_equalIn_struct w 9999 t us.toArray vs.toArray (by rw[jy];exact hu) hs;rw[jy]at h1;have h2:=c02 (P:=P) (μ:=μ) (Φ:=Φ) 9998 fs.toList 0 ks as bs us vs us.toArray vs.toArray r w ht ha hb sJ sJ h;exact h1.trans h2
  .simp at ht
 .simp at ht
theorem c39{ks:List SK}(ht:a36 P t=some ks){x y:List D}(hx:R μ Φ (.agg x) (ρ ox))(hy:R μ Φ (.agg y) (ρ oy))
(h:a21 ks x y=some r)(w:World)(yt:TypeId)(dst pos after guard type) :
 a4X P μ Φ (execOp ρ ⟨dst,.binOp (if neg then .neq else .eql) t ox oy yt,type,pos,after,guard⟩) w (.bool (if neg then !r else r)):=by
 simp only[R]at hx hy;obtain⟨us,CG,qU⟩:=hx;obtain⟨vs,pE,mP⟩:=hy;have hg:P.eqGuardType P.depth t=false:=by grind[a36]
 have hr:=a9K (w:=w) ht qU mP h;cases neg
 .refine⟨.bool r,?_,by simp only[R];rfl⟩
  simp only[execOp,CG,pE,eqGuard,binOp,Gj,hr,Fw,FF,Ha,FM,Kd,hg,Jn,Ku,Hb,FG]
 .refine⟨.bool (!r),?_,by simp only[R];rfl⟩
  simp only[execOp,CG,pE,eqGuard,binOp,Gj,hr,FG,Ha,FM,Kd,hg,Jn,Ku,Hb,Fw,FF]
theorem b7N{n:Option Nat}{off:Nat}{cs:List D}(h:a2V n off cs=some d)(hr:RL μ Φ cs us) :
 match n with
 |none=>∃u,us[off]?=some u/\R μ Φ d u
 |some k=>off+k<=us.length/\R μ Φ d (.agg ((us.drop off).take k).toArray):=by
 unfold a2V at h;cases n with
 |none =>
  simp only at h⊢;cases hc:cs[off]? with
  |none=>simp[hc]at h
  |some e =>
   simp[hc]at h;obtain⟨_,rfl⟩:=h;exact a97 hr hc
 |some k =>
  simp only at h⊢;split at h
  .rename_i hle
   simp at h;subst h;rw[a3L hr];refine⟨hle,?_⟩;simp only[R];exact⟨_,rfl,b2r k (a9c off hr)⟩
  .simp at h
theorem c0J(h1:V5 d=true)(h2:R μ Φ d v):a83 v=true:=by
 cases d<;>simp only[V5]at h1<;>simp only[R]at h2<;>first
  |(cases h1;done)
  |(subst h2;rfl)
  |(obtain⟨b,o,z,_,rfl⟩:=h2;rfl)
  |(obtain⟨b,o,z,cap,_,rfl,_⟩:=h2;rfl)
  |(obtain⟨vs,rfl,_⟩:=h2;rfl)
  |(simp only[RP]at h2;obtain⟨b,o,rfl,_⟩:=h2;rfl)
  |(simp only[RP]at h2;obtain⟨b,o,cap,sp,rfl,_⟩:=h2;rfl)
theorem b2T:∀{ds:List D}{vs:List Value},ds.all V5=true->RL μ Φ ds vs->∀x∈vs,a83 x=true
 |[],vs,_,hr=>by grind[RL]
 |d::ds,vs,ha,hr=>by
  simp only[RL]at hr;obtain⟨u,us,rfl,h1,h2⟩:=hr;simp only[HH,Fo]at ha;intro x hx;rcases Fi.1 hx with rfl|hx
  .grind[c0J]
  .exact b2T ha.2 h2 x hx
theorem c2Z(h:a83 v=true):v.cells=#[v]:=by cases v<;>first|rfl|cases h
theorem b4Z{v:Value}(h:R μ Φ d v)(hu:(cellsOf d).all V5=true):RL μ Φ (cellsOf d) v.cells.toList/\∀x∈v.cells.toList,a83 x=true:=by
 by_cases ha:∃cs,d=.agg cs
 .obtain⟨cs,rfl⟩:=ha
  simp only[R]at h;obtain⟨vs,rfl,hv⟩:=h;grind[cellsOf,Value.cells,b2T]
 .have hc:cellsOf d=[d]:=by
   cases d<;>first|rfl|exact absurd ⟨_,rfl⟩ ha
  rw[hc]at hu⊢;simp only[HH,List.all_nil,HR]at hu;grind[c0J,c2Z,RL_one]
theorem c3t(cs:Array Value)(off:Nat):∀(new:List Value)(k:Nat),off+k+new.length<=cs.size ->
 ((new.zipIdx k).foldl (λ(a:Array Value)(p:Value×Nat)=>a.setIfInBounds (off+p.2) p.1) cs).toList=cs.toList.take (off+k)++new++cs.toList.drop (off+k+new.length):=by
 intro new;induction new generalizing cs with
 |nil=>intro k _;simp
 |cons v vs ih =>
  intro k hk;simp only[Gt]at hk;rw[List.zipIdx_cons,Hl,ih _ (k+1) qJ];simp only[IY,Gt];have e1:off+(k+1)=(off+k)+1:=oJ;rw[e1,FO qJ];have e2:off+k+1+vs.length=off+k+(vs.length+1):=oJ;simp_all[Kn,Ko]
theorem b5B{cs new:List D}{vs:List Value}{off:Nat}(h1:RL μ Φ cs us)(h2:RL μ Φ new vs) :
 RL μ Φ (a5Z cs off new) (us.take off++vs++us.drop (off+vs.length)):=by
 grind[a5Z,a3L,a9U,b2r,a9c]
theorem b3w{env:k6}(place:Nat->Option (Nat×Nat)):∀(ps:List (Nat×Nat×Z1))(qs:List (Nat×Value))(cs out:List D)(us:List Value),
 ps.length=qs.length->(∀(j:Nat)(p:Nat×Nat×Z1)(q:Nat×Value),ps[j]?=some p->qs[j]?=some q->place q.1=some (p.1,p.2.1)/\R μ Φ (env.ev p.2.2) q.2)->RL μ Φ cs us->a5z env cs ps=some out ->
 ∃ws:List Value,Instr.fill place us.toArray qs=some ws.toArray/\RL μ Φ out ws/\ws.length=us.length
 |[],qs,cs,out,us,hl,_,hr,hf=>by
  cases qs with
  |nil=>simp[a5z]at hf;subst hf;exact⟨us,by simp[Instr.fill],hr,rfl⟩
  |cons _ _=>simp at hl
 |(off,size,x)::ps,qs,cs,out,us,hl,hp,hr,hf=>by
  cases qs with
  |nil=>simp at hl
  |cons q qs =>
   obtain⟨i,v⟩:=q;obtain⟨ky,zi⟩:=hp 0 (off,size,x) (i,v) sJ sJ;simp only at ky zi;simp only[a5z]at hf;split at hf
   .rename_i hc
    obtain⟨c1,c2,c3⟩:=hc;obtain⟨d1,d2⟩:=b4Z zi c3;have hlen:=a3L d1;have qd:=a3L hr;simp only[Array.length_toList]at hlen;have pL:=b3w place ps qs (a5Z cs off (cellsOf (env.ev x))) out (us.take off++v.cells.toList++us.drop (off+v.cells.toList.length)) (sU hl)
     (λj p q h1 h2=>hp (j+1) p q (sU h1) (sU h2)) (b5B hr d1) hf
    obtain⟨ws,w1,w2,w3⟩:=pL;refine⟨ws,?_,w2,?_⟩
    .simp only[Instr.fill,ky]
     have lB:¬(v.cells.size≠size||decide (off+v.cells.size>us.toArray.size))=true:=by
      simp;omega
     rw[so lB,<- w1];congr 1
     apply IZ;have:=c3t us.toArray off v.cells.toList 0 qJ;simp only[GN]at this;rw[<- this,<- Array.foldl_toList];simp[Array.toList_zipIdx]
    grind
   .simp at hf
end Go.V
namespace Go.V
theorem map_some{α β:Type}{f:α->β}{x:Option α}{y:β}(h:x.map f=some y):∃z,x=some z/\f z=y:=by
 simp_all
variable{P:Program}{μ:Mu}{Φ:W9}{a:Act}{d x:D}{op:BinOp}{t:TypeId}{ox oy:Operand}
theorem b7u{y:D}(hx:R μ Φ x (a.eval ox))(hy:R μ Φ y (a.eval oy))(h:b13 op x y=some d)(w:World)(yt:TypeId)(dst type pos after guard) :
 a4X P μ Φ (execOp a.eval ⟨dst,.binOp op t ox oy yt,type,pos,after,guard⟩) w d:=by
 unfold b13 at h;split at h
 .rename_i k n k' n'
  simp only[R]at hx hy;split at h
  .exact b6X hx hy (.inl rfl) h w yt dst pos after guard type
  .exact b6X hx hy (.inr rfl) h w yt dst pos after guard type
  grind[c6i]
 .grind[R,c5Q]
 .simp at h
variable{k:NK}{r:Bool}
theorem c8Y(n:Nat){y:Operand}(hk:a7M P t y=some k){u:Value}(hx:R μ Φ x u)(hr:a4n k x=some r)(w:World) :
 (Op.equalIn (n+1) t u (a.eval y)).run P w=.ok r w:=by
 unfold a7M at hk;split at hk<;>simp at hk<;>subst hk<;>rename_i hu<;>simp only[Op.equalIn,Gj,FD hu,FM,Act.eval] <;>
  cases x<;>simp only[a4n]at hr<;>simp only[R]at hx<;>first
   |(cases hr;done)
   |(obtain⟨b1,o1,z1,_,rfl⟩:=hx;cases hr;rfl)
   |(obtain⟨b1,o1,z1,xh,_,rfl,_⟩:=hx;cases hr;rfl)
   |(obtain⟨vs1,rfl,_⟩:=hx;cases hr;rfl)
   |(subst hx;cases hr;rfl)
   |(simp only[RP]at hx;obtain⟨b1,o1,rfl,_⟩:=hx;cases hr;rfl)
   |(simp only[RP]at hx;obtain⟨b1,o1,xh,sp1,rfl,_⟩:=hx;cases hr;rfl)
theorem c61{neg:Bool}(hk:a7M P t oy=some k)(hx:R μ Φ x (a.eval ox))(hr:a4n k x=some r)
 (w:World)(yt:TypeId)(dst type pos after guard) :
 a4X P μ Φ (execOp a.eval ⟨dst,.binOp (if neg then .neq else .eql) t ox oy yt,type,pos,after,guard⟩) w (.bool (if neg then !r else r)):=by
 have h1:(Op.equal t (a.eval ox) (a.eval oy)).run P w=.ok r w:=c8Y 9999 hk hx hr w;have hb:∀op,op=BinOp.eql\/op=BinOp.neq->(eqGuard op t ox oy (a.eval ox) (a.eval oy)).run P w=.ok () w /\
  (binOp op t (a.eval ox) (a.eval oy))=(Op.equal t (a.eval ox) (a.eval oy) >>= λe=>pure (.bool (if op=.neq then !e else e))):=by
  intro op jU;unfold a7M at hk;split at hk<;>simp at hk<;>subst hk<;>cases x<;>simp only[a4n]at hr<;>simp only[R]at hx<;>first
   |(cases hr;done)
   |(obtain⟨b1,o1,z1,_,e⟩:=hx;rw[e];rcases jU with rfl|rfl<;>exact⟨rfl,rfl⟩)
   |(obtain⟨b1,o1,z1,xh,_,e,_⟩:=hx;rw[e];rcases jU with rfl|rfl<;>exact⟨rfl,rfl⟩)
   |(obtain⟨vs1,e,_⟩:=hx;rw[e];rcases jU with rfl|rfl<;>exact⟨rfl,rfl⟩)
   |(rw[hx];rcases jU with rfl|rfl<;>exact⟨rfl,rfl⟩)
   |(simp only[RP]at hx;obtain⟨b1,o1,e,_⟩:=hx;rw[e];rcases jU with rfl|rfl;exact⟨rfl,rfl⟩;exact⟨rfl,rfl⟩)
   |(simp only[RP]at hx;obtain⟨b1,o1,xh,sp1,e,_⟩:=hx;rw[e];rcases jU with rfl|rfl;exact⟨rfl,rfl⟩;exact⟨rfl,rfl⟩)
 cases neg
 .obtain⟨g1,g2⟩:=hb .eql (.inl rfl)
  refine⟨.bool r,?_,by simp only[R];rfl⟩;simp_all[execOp]
 .obtain⟨g1,g2⟩:=hb .neq (.inr rfl)
  refine⟨.bool (!r),?_,by simp only[R];rfl⟩;simp_all[execOp]
variable{env:k6}
theorem c7b{po:gw}(iN:b4V P op t ox oy=some po)(he:a2h μ Φ env a)(iP:bY env po=some d)(w:World)(yt:TypeId)(dst type pos after guard) :
 a4X P μ Φ (execOp a.eval ⟨dst,.binOp op t ox oy yt,type,pos,after,guard⟩) w d:=by
 unfold b4V at iN;split at iN
 .rename_i x y hx hy
  have rx:=a0D he hx;have ry:=a0D he hy;have key:∀(neg:Bool)(po:gw),op=(if neg then .neq else .eql) ->
   ((b4i P t=true/\po=.bin op x y)\/(b2M P t=true/\po=.eqB neg x y)\/(∃ks,a36 P t=some ks/\po=.eD neg ks x y)\/(∃k,a7M P t oy=some k/\po=.dY neg k x)) ->
   bY env po=some d->a4X P μ Φ (execOp a.eval ⟨dst,.binOp op t ox oy yt,type,pos,after,guard⟩) w d:=by
   intro neg po jU qd iP;rcases qd with⟨_,rfl⟩|⟨hb,rfl⟩|⟨ks,kx,rfl⟩|⟨k,hk,rfl⟩
   .simp only[bY]at iP
    exact b7u rx ry iP w yt dst type pos after guard
   .simp only[bY]at iP
    split at iP
    .rename_i p q hp hq
     rw[hp]at rx;rw[hq]at ry;simp only[R]at rx ry;simp at iP;subst iP;rw[jU];have qG:P.underlying t=some .bool:=by
      unfold b2M at hb;split at hb
      .assumption
      .simp at hb
     exact c54 qG rx ry w yt dst pos after guard type
    .simp at iP
   .simp only[bY]at iP
    split at iP
    .rename_i p q hp hq
     rw[hp]at rx;rw[hq]at ry;obtain⟨r,hr,hd⟩:=map_some iP;subst hd;rw[jU];exact c39 kx rx ry hr w yt dst pos after guard type
    .simp at iP
   .simp only[bY]at iP
    obtain⟨r,hr,hd⟩:=map_some iP;subst hd;rw[jU];exact c61 hk rx hr w yt dst type pos after guard
  split at iN
  .refine key false po rfl ?_ iP
   split at iN
   .simp at iN;exact .inl ⟨by assumption,iN.symm⟩
   .split at iN
    .simp at iN;exact .inr (.inl ⟨by assumption,iN.symm⟩)
    .split at iN
     .simp at iN;exact .inr (.inr (.inl ⟨_,by assumption,iN.symm⟩))
     .obtain⟨k,hk,e⟩:=map_some iN
      exact .inr (.inr (.inr ⟨k,hk,e.symm⟩))
  .refine key true po rfl ?_ iP
   split at iN
   .simp at iN;exact .inl ⟨by assumption,iN.symm⟩
   .split at iN
    .simp at iN;exact .inr (.inl ⟨by assumption,iN.symm⟩)
    .split at iN
     .simp at iN;exact .inr (.inr (.inl ⟨_,by assumption,iN.symm⟩))
     .obtain⟨k,hk,e⟩:=map_some iN
      exact .inr (.inr (.inr ⟨k,hk,e.symm⟩))
  grind[bY,b7u]
 .simp at iN
theorem c2K{b o cap:Nat}{sz:Nat}{xs:List (List D)}(h:RG Φ sz xs b o){l hh:Nat}(h1:hh<=xs.length)(h2:l<=hh)(h3:xs.length<=cap) :
 RP Φ (.bu sz ((xs.take hh).drop l)) (.slice (if cap=l then some ⟨b,o,none⟩else some ⟨b,o+l*sz,none⟩) (hh-l) (cap-l)):=by
 simp only[RP];have hlen:((xs.take hh).drop l).length=hh-l:=by simp;omega
 by_cases hc:cap=l
 .have:(xs.take hh).drop l=[]:=by grind
  refine⟨b,o,cap-l,none,by rw[Fk hc,hlen],oJ,.inl rfl,?_⟩;rw[this];simp only[RG]
 .refine⟨b,o+l*sz,cap-l,none,by rw[so hc,hlen],oJ,.inl rfl,?_⟩
  grind[b63,b62]
def RO(μ:Mu)(Φ:W9):Option D->Option Value->Prop
 |some d,some v=>R μ Φ d v
 |none,none=>True
 |_,_=>False
variable{n:Nat}
theorem b21{x:Option D}{y:Option Value}{tZ:Nat}(h:a2m x tZ=some n)(um:RO μ Φ x y) :
 (y=none/\n=tZ)\/∃k i,y=some (.int k i)/\0<=i/\i.toNat=n:=by
 cases x with
 |none =>
  cases y with
  |none=>simp[a2m]at h;grind
  |some v=>exact um.elim
 |some e =>
  cases y with
  |none=>exact um.elim
  |some v =>
   cases e<;>simp[a2m]at h;simp only[RO,R]at um;grind
variable{lo hi:Option Value}
theorem c1M{isSlice:Bool}{len cap l h:Nat}(hlen:len<=cap)
 (hh:(hi=none/\h=len)\/∃k i,hi=some (.int k i)/\0<=i/\i.toNat=h)(hl:(lo=none/\l=0)\/∃k i,lo=some (.int k i)/\0<=i/\i.toNat=l)(h1:h<=len)(h2:l<=h)(w:World) :
 (Instr.sliceBounds isSlice len cap lo hi none).run P w=.ok (l,h,cap) w:=by
 have e1:(match hi with|some v=>Instr.sliceBound v cap (if isSlice then .sliceAcap else .sliceAlen)|none=>pure len:Sem Nat).run P w=.ok h w:=by
  rcases hh with⟨rfl,rfl⟩|⟨k,i,rfl,h0,rfl⟩
  .rfl
  .have:0<=i/\i<=(cap:Int):=⟨h0,oJ⟩
   simp[Instr.sliceBound,asIntOf,this]
 have e2:(match lo with|some v=>Instr.sliceBound v h .sliceB|none=>pure 0:Sem Nat).run P w=.ok l w:=by
  rcases hl with⟨rfl,rfl⟩|⟨k,i,rfl,h0,rfl⟩
  .rfl
  .have:0<=i/\i<=(h:Int):=⟨h0,oJ⟩
   simp[Instr.sliceBound,asIntOf,this]
 cases hi<;>cases lo<;>simp_all[Instr.sliceBounds]
theorem b2V(he:a2h μ Φ env a){x:Option Operand}{y:Option Z1}(h:b04 x=some y):RO μ Φ (env.evO y) (x.map a.eval):=by
 cases x with
 |none=>grind[b04,k6.evO,RO]
 |some x =>
  simp only[b04]at h;obtain⟨z,hz,e⟩:=map_some h;grind[k6.evO,RO,a0D]
theorem c9g{u:Value}{l h:Option D}(ht:P.underlying t=some .string)
 (hx:R μ Φ x u)(hl:RO μ Φ l lo)(hh:RO μ Φ h hi)(iP:a3y none x l h=some d)(w:World):∃v,(Instr.sliceAt t u lo hi none).run P w=.ok v w/\R μ Φ d v:=by
 cases x<;>simp only[a3y]at iP<;>try(cases iP;done)
 rename_i s;simp only[R]at hx;subst hx;split at iP
 .rename_i hn ln h1 h2
  split at iP
  .rename_i hc
   simp at iP;subst iP;have hb:=c1M (P:=P) (isSlice:=false) (sm s.size) (b21 h1 hh) (b21 h2 hl) hc.1 hc.2 w;simp_all[R,Instr.sliceAt,FD,Instr.slice]
  .simp at iP
 .simp at iP
theorem a5y{e:TypeId}(h:a1Y P e=some n)(w:World):(sizeOf e).run P w=.ok n w:=by
 unfold a1Y at h;obtain⟨i,hi,e⟩:=map_some h;simp[sizeOf,typeInfo,hi,e]
theorem c9v{t e:TypeId}{u:Value}{l h:Option D}(ht:P.underlying t=some (.slice e))(hn:a1Y P e=some n)
 (hx:R μ Φ x u)(hl:RO μ Φ l lo)(hh:RO μ Φ h hi)(iP:a3y (some n) x l h=some d)(w:World):∃v,(Instr.sliceAt t u lo hi none).run P w=.ok v w/\R μ Φ d v:=by
 have go:∀(ad:Option Addr)(len cap ln hn:Nat),u=.slice ad len cap->len<=cap->a2m h len=some hn->a2m l 0=some ln->hn<=len->ln<=hn ->
  (Instr.sliceAt t u lo hi none).run P w=.ok (.slice (if cap=ln then ad else ad.map (·.add (ln*n))) (hn-ln) (cap-ln)) w:=by
  intro ad len cap ln mz hu ly h1 h2 h3 h4;have hb:=c1M (P:=P) (isSlice:=true) ly (b21 h1 hh) (b21 h2 hl) h3 h4 w;subst hu;simp only[Instr.sliceAt,Gj,FD ht,FM,Instr.slice,hb,a5y hn,Ha]
 cases x<;>simp only[a3y]at iP<;>try(cases iP;done)
 .simp only[R]at hx
  split at iP
  .rename_i mz ln h1 h2
   split at iP
   .rename_i hc
    simp at iP;subst iP;have:=go none 0 0 ln mz hx (sm _) h1 h2 hc.1 hc.2;grind[R]
   .simp at iP
  .simp at iP
 .simp only[R,RP]at hx
  obtain⟨b,o,cap,sp,hu,ly,oP,hg⟩:=hx;split at iP
  .rename_i mz ln h1 h2
   split at iP
   .rename_i hc
    simp at iP;subst iP;obtain⟨c0,c1,c2⟩:=hc;subst c0;rcases oP with rfl|rfl
    case inr =>
     have e1:mz=0:=sU c1;have e2:ln=0:=oJ;subst e1 e2;refine⟨_,go (some ⟨b,o,sp⟩) _ cap 0 0 hu ly h1 h2 c1 c2,?_⟩;simp only[R,RP];refine⟨b,o,cap,sp,?_,sJ,.inr sJ,by simp[RG]⟩;simp[Addr.add]
    simp_all[R,c2K,a5Q]
   .simp at iP
  .simp at iP
 .simp only[R]at hx
  obtain⟨b,o,z,cap,hm,hu,ly,hz⟩:=hx;rename_i id off len sz;split at iP
  .rename_i mz ln h1 h2
   split at iP
   .rename_i hc
    obtain⟨c0,c1,c2⟩:=hc;subst c0;have:=go (some ⟨b,o+off,none⟩) _ cap ln mz hu ly h1 h2 c1 c2;refine⟨_,this,?_⟩;split at iP
    .rename_i jq
     simp at iP;subst iP;have jt:cap≠ln:=oJ;simp only[R,so jt,He,a5Q];refine⟨b,o,z,cap-ln,hm,sJ,oJ,?_⟩;have:ln*sz+(cap-ln)*sz=cap*sz:=by rw[<- HX];congr 1;omega
     omega
    .simp at iP;subst iP
     have:mz-ln=0:=oJ;rw[this];simp only[R,RP];by_cases kU:cap=ln
     .exact⟨b,o+off,cap-ln,none,by simp[kU],sJ,.inl rfl,by simp only[RG]⟩
     .exact⟨b,o+off+ln*sz,cap-ln,none,by simp[kU,a5Q],sJ,.inl rfl,by simp only[RG]⟩
   .simp at iP
  .simp at iP
end Go.V
namespace Go.V
variable{P:Program}{μ:Mu}{Φ:W9}{d:D}{s:Sem Value}{w:World}
theorem a4A(h:∃v,s.run P w=.ok v w/\R μ Φ d v):a4X P μ Φ (do pure (.value (<- s))) w d:=by
 obtain⟨v,h1,h2⟩:=h;exact⟨v,by simp[h1],h2⟩
theorem b1Z{isMax:Bool}:∀{xs:List D}{x:D}{us:List Value}{u:Value}(w:World),R μ Φ x u->RL μ Φ xs us->a6T isMax x xs=some d ->
 ∃v,(us.foldlM (if isMax then Builtin.max2 else Builtin.min2) u:Sem Value).run P w=.ok v w/\R μ Φ d v
 |[],x,us,u,w,hx,hr,h=>by
  simp_all[RL,a6T]
 |y::xs,x,us,u,w,hx,hr,h=>by
  simp only[RL]at hr;obtain⟨v,vs,rfl,hv,hvs⟩:=hr;simp only[a6T]at h;split at h
  .rename_i k n k' m
   simp only[R]at hx hv;subst hx hv;cases isMax
   .obtain⟨r,h1,h2⟩:=b1Z (us:=vs) (u:=.int k (if m<n then m else n)) w (by simp only[R];rfl) hvs h
    grind[Builtin.min2]
   .obtain⟨r,h1,h2⟩:=b1Z (us:=vs) (u:=.int k (if m>n then m else n)) w (by simp only[R];rfl) hvs h
    grind[Builtin.max2]
  .simp at h
variable{t:TypeId}
theorem b8v{n:Option Nat}(ht:a7w P t=some n){off:Nat}{cs:List D}(h:a2V n off cs=some d){us:List Value}(hr:RL μ Φ cs us)(w:World) :
 ∃v,(part t us.toArray off).run P w=.ok v w/\R μ Φ d v:=by
 have hp:=b7N h hr;unfold a7w b3o at ht;cases hu:P.underlying t with
 |none=>simp[hu]at ht
 |some td =>
  have oC:(∃k,a1Y P t=some k/\n=some k)->(isAgg t).run P w=.ok true w->∃v,(part t us.toArray off).run P w=.ok v w/\R μ Φ d v:=by
   rintro⟨k,hk,rfl⟩ yS;refine⟨_,?_,hp.2⟩;have lB:=a5y hk w;simp only[part,Gj,yS,FM,FG,lB,Ha];congr 2
   simp[List.extract_eq_take_drop]
  have mR:n=none->(isAgg t).run P w=.ok false w->∃v,(part t us.toArray off).run P w=.ok v w/\R μ Φ d v:=by
   rintro rfl yS;obtain⟨u,h1,h2⟩:=hp;exact⟨u,by simp_all[part],h2⟩
  cases td<;>simp only[hu]at ht<;>cases hs:a1Y P t<;>simp[hs]at ht<;>first
   |(refine oC ⟨_,hs,ht.symm⟩ ?_;simp[isAgg,FD hu])
   |(refine mR ht.symm ?_;simp[isAgg,FD hu])
variable{n:Nat}{x:D}
theorem c23{t e:TypeId}(ht:a49 P t=some e)(hn:a1Y P e=some n){i:D}{u j:Value}(hx:R μ Φ x u)(hi:R μ Φ i j)(h:W7 n x i=some d)(w:World) :
 ∃v,(Instr.indexAt t u j).run P w=.ok v w/\R μ Φ d v:=by
 have wy:P.underlying t=some (.slice e):=by grind[a49]
 unfold W7 at h;split at h
 .rename_i s xs k m
  simp only[R,RP]at hx hi;obtain⟨b,o,cap,sp,rfl,_,oP,hg⟩:=hx;subst hi;split at h
  .rename_i hc
   obtain⟨rfl,h0⟩:=hc;obtain⟨g,DN,e1⟩:=map_some h;subst e1;have jq:=(Hx.1 DN).1;obtain rfl:sp=none:=by grind
   refine⟨.pointer (some ⟨b,o+m.toNat*s,none⟩),?_,?_⟩
   .simp_all[Instr.indexAt,asIntOf,FD,a5y,a5Q]
   .simp only[R,RP]
    exact⟨b,o+m.toNat*s,rfl,(b7J hg DN).2⟩
  .simp at h
 .rename_i id off len s k m
  simp only[R]at hx hi;obtain⟨b,o,z,cap,hm,rfl,ly,hz⟩:=hx;subst hi;split at h
  .rename_i hc
   obtain⟨rfl,hb⟩:=hc;simp at h;subst h;simp_all[Instr.indexAt,asIntOf,FD,a5y,a5Q,R,Hu]
  .simp at h
 .simp at h
theorem c2V(ht:P.underlying t=some .string){i:D}{u j:Value}(hx:R μ Φ x u)(hi:R μ Φ i j)(h:b1b x i=some d)(w:World) :
 ∃v,(Instr.index t u j).run P w=.ok v w/\R μ Φ d v:=by
 unfold b1b at h;split at h
 .rename_i s k m
  simp only[R]at hx hi;subst hx hi;split at h
  .rename_i h0
   obtain⟨b,hb,e1⟩:=map_some h;subst e1;simp_all[Instr.index,asIntOf,FD,R]
  .simp at h
 .simp at h
theorem b8J{i:Bool}(ht:if i then P.underlying t=some .string else ∃e,P.underlying t=some (.slice e)){u:Value}(hx:R μ Φ x u)(h:a0x i x=some d)(w:World)(ty:TypeId) :
 ∃v,(Builtin.len_ #[t] ty #[u]).run P w=.ok v w/\R μ Φ d v:=by
 unfold a0x at h;split at h
 .simp only[R]at hx
  subst hx;simp at h;subst h;simp_all[Builtin.len_,FD,goInt,R]
 .simp only[R]at hx
  subst hx;simp at h;subst h;obtain⟨e,ht⟩:=ht;simp_all[Builtin.len_,FD,goInt,R]
 .simp only[R,RP]at hx
  obtain⟨b,o,cap,sp,rfl,_⟩:=hx;simp at h;subst h;obtain⟨e,ht⟩:=ht;simp_all[Builtin.len_,FD,goInt,R]
 .simp only[R]at hx
  obtain⟨b,o,z,cap,_,rfl,_⟩:=hx;simp at h;subst h;obtain⟨e,ht⟩:=ht;simp_all[Builtin.len_,FD,goInt,R]
 .simp at h
variable{a:Act}
theorem b2c{b:Builtin}{args:Array Operand}{types:Array TypeId}{ty:TypeId}
 (hb:∀consts,builtin b types ty consts (args.map a.eval)=(do pure (.value (<- s))))(h:∃v,s.run P w=.ok v w/\R μ Φ d v)(dst pos after guard) :
 a4X P μ Φ (execOp a.eval ⟨dst,.call ⟨.builtin b,args,types⟩,ty,pos,after,guard⟩) w d:=by
 obtain⟨v,h1,h2⟩:=h;refine⟨v,?_,h2⟩;simp_all[execOp,resolve,invoke]
theorem a93{z:List D}(hz:a7c P t=some z):∃i v,P.info? t=some i/\i.zero=some v/\bm Φ z v.cells.toList/\z.all V5=true:=by
 unfold a7c at hz;split at hz
 .rename_i i hi
  split at hz
  .rename_i v hv
   obtain⟨dz,pM,e⟩:=map_some hz;refine⟨i,v,hi,hv,?_⟩;subst e;have bo:∀(v:Value)(dz:D),a7t v=some dz->V5 dz=true:=by
    intro v dz h;unfold a7t at h;split at h<;>simp at h<;>subst h<;>rfl
   have hr:=c1d (Φ:=Φ) pM;unfold ofV at pM;split at pM
   .rename_i c
    obtain⟨l1,h1,e1⟩:=map_some pM;subst e1;simp only[cellsOf,Value.cells];refine⟨b3A h1,?_⟩;have:∀(vs:List Value)(l:List D),a6K vs=some l->l.all V5=true:=by
     intro vs;induction vs with
     |nil=>simp[a6K]
     |cons v vs ih =>
      grind[a6K]
    exact this _ _ h1
   .have:v.cells=#[v]/\cellsOf dz=[dz]:=by
     unfold a7t at pM;split at pM<;>simp at pM<;>subst pM<;>exact⟨rfl,rfl⟩
    rw[this.1,this.2];refine⟨by simp only[bm];grind,by simp[bo _ _ pM]⟩
  .simp at hz
 .simp at hz
theorem a8F{i:TypeInfo}{v:Value}(h1:P.info? t=some i)(h2:i.zero=some v)(w:World):(zeroValue t).run P w=.ok v w:=by
 simp_all[zeroValue,typeInfo]
theorem c9k{fs:Array Field}(h:b7E P fs=true)(w:World) :
 (fs.mapM (λf=>do pure (f.offset,<- sizeOf f.type)):Sem (Array (Nat×Nat))).run P w=.ok (fs.map λf=>(f.offset,(a1Y P f.type).getD 0)) w:=by
 rw[Jg];have:∀(l:List Field),l.all (λf=>(a1Y P f.type).isSome)=true ->
  (l.mapM (λf=>do pure (f.offset,<- sizeOf f.type)):Sem (List (Nat×Nat))).run P w=.ok (l.map λf=>(f.offset,(a1Y P f.type).getD 0)) w:=by
  intro l;induction l with
  |nil=>intro _;simp
  |cons f l ih =>
   simp_all[Jt,a5y]
 have h2:=this fs.toList h;rw[Sem.run_map,h2];simp only[FM];congr 1
 apply IZ;simp
variable{env:k6}
theorem c1a{fs:Array Field}(he:a2h μ Φ env a):∀{l:List (Nat×Operand)}{ps:List (Nat×Nat×Z1)},a9Z P fs l=some ps ->
 ps.length=(l.map λ(i,x)=>(i,a.eval x)).length /\
 ∀(j:Nat)(p:Nat×Nat×Z1)(q:Nat×Value),ps[j]?=some p->(l.map λ(i,x)=>(i,a.eval x))[j]?=some q ->
  (fs.map λf=>(f.offset,(a1Y P f.type).getD 0))[q.1]?=some (p.1,p.2.1)/\R μ Φ (env.ev p.2.2) q.2
 |[],ps,h=>by simp[a9Z]at h;subst h;simp
 |(i,x)::l,ps,h=>by
  simp only[a9Z]at h;split at h
  .rename_i f y l' hf hy hl
   split at h
   .rename_i n hn
    simp at h;subst h;have ih:=c1a he hl;refine⟨sU ih.1,?_⟩;intro j p q hp hq;cases j with
    |zero =>
     simp at hp hq;subst hp hq;refine⟨by simp[hf,hn],a0D he hy⟩
    |succ j=>exact ih.2 j p q (sU hp) (sU hq)
   .simp at h
  .simp at h
theorem c2p{f:Field}(h:a1Y P f.type=some (n+1))(b o:Nat)(w:World):(fieldPlace ⟨b,o,none⟩ f).run P w=.ok ⟨b,o+f.offset,none⟩ w:=by
 simp[fieldPlace,a5y h,a5Q]
theorem b7Q{f:Nat}{fd:Field}(h:b2z P t f=some fd):∃fs,P.underlying t=some (.struct fs)/\fs[f]?=some fd:=by
 grind[b2z]
theorem c8l{md:FuncId->a16}{o:Oper}{po:gw}(iN:a33 P md o=some (.p po))(he:a2h μ Φ env a)(iP:bY env po=some d)(w:World):a4X P μ Φ (execOp a.eval o) w d:=by
 obtain⟨dst,op,type,pos,after,guard⟩:=o;cases op<;>simp only[a33]at iN
 case move x =>
  obtain⟨y,hy,e⟩:=map_some iN;cases e;simp only[bY]at iP;cases iP;exact⟨a.eval x,by simp[execOp],a0D he hy⟩
 case assign x =>
  obtain⟨y,hy,e⟩:=map_some iN;cases e;simp only[bY]at iP;cases iP;exact⟨a.eval x,by simp[execOp],a0D he hy⟩
 case pick c x y =>
  split at iN
  .rename_i c' x' y' hc hx hy
   cases iN;simp only[bY]at iP;split at iP
   .rename_i t ht
    have rc:=a0D he hc;rw[ht]at rc;simp only[R]at rc;cases iP;cases t
    .exact⟨a.eval y,by simp[execOp,rc,asBool],a0D he hy⟩
    .exact⟨a.eval x,by simp[execOp,rc,asBool],a0D he hx⟩
   .simp at iP
  .simp at iN
 case nilCheck x =>
  obtain⟨y,hy,e⟩:=map_some iN;cases e;have rx:=a0D he hy;simp only[bY]at iP;split at iP
  .rename_i id off hx
   cases iP;rw[hx]at rx;refine⟨a.eval x,?_,rx⟩;simp only[R]at rx;obtain⟨b,o,z,_,e⟩:=rx;simp[execOp,e]
  .rename_i cs off hx
   cases iP;rw[hx]at rx;refine⟨a.eval x,?_,rx⟩;simp only[R,RP]at rx;obtain⟨b,o,e,_⟩:=rx;simp[execOp,e]
  .rename_i f iX hx
   cases iP;rw[hx]at rx;refine⟨a.eval x,?_,rx⟩;simp only[R]at rx;obtain⟨vs,e,_⟩:=rx;simp[execOp,e]
  .simp at iP
 case binOp op t x y yt =>
  obtain⟨p,hp,e⟩:=map_some iN;grind[c7b]
 case unOp op t x =>
  obtain⟨y,hy,e⟩:=map_some iN;cases e;have rx:=a0D he hy;simp only[bY]at iP;refine a4A (s:=Op.unary op (a.eval x)) ?_;unfold unV at iP;split at iP
  .rename_i k n hx
   rw[hx]at rx;simp only[R]at rx;cases iP;simp_all[Op.unary,Op.intArith,R]
  .rename_i k n hx
   rw[hx]at rx;simp only[R]at rx;cases iP;exact⟨_,by rw[rx];rfl,by simp only[R]⟩
  .rename_i b hx
   rw[hx]at rx;simp only[R]at rx;cases iP;simp_all[Op.unary,R]
  .simp at iP
 case convert src dst' x =>
  split at iN
  .rename_i y k0 k hy hs hd
   cases iN;have rx:=a0D he hy;simp only[bY]at iP;split at iP
   .rename_i k1 n hx
    rw[hx]at rx;simp only[R]at rx;cases iP;exact⟨_,by simp[execOp,convert,rx,FD hs,FD hd,Conv.intToInt];rfl,by simp only[R]⟩
   .simp at iP
  .split at iN<;>simp at iN
  .simp at iN
 case build t parts =>
  split at iN
  .rename_i fs z hu hz
   split at iN
   .rename_i l hl
    split at iN
    rotate_left
    .simp at iN
    rename_i Cn;cases iN;simp only[bY]at iP;obtain⟨cs,qd,e⟩:=map_some iP;subst e;obtain⟨i,zv,hi,uU,tY,_⟩:=a93 (Φ:=Φ) hz;obtain⟨p1,p2⟩:=c1a he hl;obtain⟨ws,w1,w2,_⟩:=b3w (μ:=μ) (Φ:=Φ) ((fs.map λf=>(f.offset,(a1Y P f.type).getD 0))[·]?) l _ z cs zv.cells.toList p1 p2 (aU _ _ tY) qd;refine a4A (s:=Instr.build t (parts.map λ(i,x)=>(i,a.eval x))) ⟨.agg ws.toArray,?_,(by simp only[R];exact⟨ws,rfl,w2⟩:R μ Φ (.agg cs) (.agg ws.toArray))⟩;have ky:(parts.map λ(i,x)=>(i,a.eval x)).toList=parts.toList.map λ(i,x)=>(i,a.eval x):=JC
    simp only[IN]at w1;simp only[Instr.build,Gj,a8F hi uU,FM,FD hu,c9k Cn,ky,w1,Ha]
   .simp at iN
  .simp at iN
 case fieldAddr t x f =>
  split at iN
  .rename_i y fd hy hf
   split at iN
   .rename_i n hn
    cases iN;have rx:=a0D he hy;obtain⟨fs,hu,kn⟩:=b7Q hf;simp only[bY]at iP;refine a4A (s:=Instr.fieldAt t (a.eval x) f) ?_;split at iP
    .rename_i id o hx
     rw[hx]at rx;simp only[R]at rx;obtain⟨b,o',z,hm,e⟩:=rx;cases iP;simp_all[Instr.fieldAt,FD,Instr.sureAddr,c2p,R,Hu]
    .rename_i cs o hx
     rw[hx]at rx;simp only[R,RP]at rx;obtain⟨b,o',e,hc⟩:=rx;cases iP;refine⟨_,by simp[Instr.fieldAt,FD hu,kn,e,Instr.sureAddr,c2p hn];rfl,?_⟩;grind[R,RP]
    .simp at iP
   .simp at iN
  .simp at iN
 case field t x f =>
  split at iN
  .rename_i y fd hy hf
   split at iN
   .rename_i n hn
    cases iN;have rx:=a0D he hy;obtain⟨fs,hu,kn⟩:=b7Q hf;simp only[bY]at iP;refine a4A (s:=Instr.field t (a.eval x) f) ?_;split at iP
    .rename_i cs hx
     rw[hx]at rx;simp only[R]at rx;obtain⟨us,e,hr⟩:=rx;obtain⟨v,h1,h2⟩:=b8v hn iP hr w;simp_all[Instr.field,FD,asAgg]
    .simp at iP
   .simp at iN
  .simp at iN
 case indexAddr t x i =>
  split at iN
  .rename_i off ho
   split at iN
   .rename_i y hy
    cases iN;have rx:=a0D he hy;obtain⟨len,e,k,n,s,hu,rfl,hs,hb,rfl⟩:=c4J ho;simp only[bY]at iP;refine a4A (s:=Instr.indexAt t (a.eval x) (a.eval (.const (.int k n)))) ?_;have hc:a.eval (.const (.int k n))=.int k n:=rfl;rw[hc];split at iP
    .rename_i id o hx
     rw[hx]at rx;simp only[R]at rx;obtain⟨b,o',z,hm,e⟩:=rx;cases iP;simp_all[Instr.indexAt,asIntOf,FD,Instr.sureAddr,a5y,R,Hu,a5Q]
    .rename_i cs o hx
     rw[hx]at rx;simp only[R,RP]at rx;obtain⟨b,o',e,hc⟩:=rx;cases iP;refine⟨_,by simp[Instr.indexAt,asIntOf,FD hu,e,Instr.sureAddr,hb,a5y hs];rfl,?_⟩;grind[R,RP,a5Q]
    .simp at iP
   .simp at iN
  .split at iN
   .rename_i y j e hy hj he'
    split at iN
    .rename_i n hn
     cases iN;simp only[bY]at iP;exact a4A (c23 he' hn (a0D he hy) (a0D he hj) iP w)
    .simp at iN
   .simp at iN
 case index t x i =>
  split at iN
  .rename_i y j hy hj hu
   cases iN;simp only[bY]at iP;exact a4A (c2V hu (a0D he hy) (a0D he hj) iP w)
  .rename_i y j len e hy hj hu
   split at iN
   .rename_i n s hn hs
    cases iN;simp only[bY]at iP;have rx:=a0D he hy;have ri:=a0D he hj;refine a4A (s:=Instr.index t (a.eval x) (a.eval i)) ?_;split at iP
    .rename_i cs kk k hx hi
     rw[hx]at rx;rw[hi]at ri;simp only[R]at rx ri;obtain⟨us,e1,hr⟩:=rx;split at iP
     .rename_i hc
      obtain⟨v,h1,h2⟩:=b8v hn iP hr w;simp_all[Instr.index,asIntOf,FD,a5y]
     .simp at iP
    .simp at iP
   .simp at iN
  .simp at iN
 case slice t x lo hi mx =>
  cases mx with
  |some _=>simp at iN
  |none =>
   simp only at iN;split at iN
   .rename_i y l h hy hl hh hu
    cases iN;simp only[bY]at iP;exact a4A (c9g hu (a0D he hy) (b2V he hl) (b2V he hh) iP w)
   .rename_i y l h e hy hl hh hu
    split at iN
    .rename_i n hn
     cases iN;simp only[bY]at iP;exact a4A (c9v hu hn (a0D he hy) (b2V he hl) (b2V he hh) iP w)
    .simp at iN
   .simp at iN
 case extract x i =>
  obtain⟨y,hy,e⟩:=map_some iN;cases e;have rx:=a0D he hy;simp only[bY]at iP;split at iP
  .rename_i vs hx
   rw[hx]at rx;simp only[R]at rx;obtain⟨us,e,hr⟩:=rx;obtain⟨u,h1,h2⟩:=a97 hr iP;exact a4A (s:=Instr.extract (a.eval x) i) ⟨u,by simp[Instr.extract,e,h1],h2⟩
  .simp at iP
 case makeFunc fn first iX =>
  cases fn<;>simp only at iN<;>try(cases iN;done)
  rename_i f;split at iN
  .rename_i h0
   obtain⟨l,hl,e⟩:=map_some iN;cases e;simp only[bY]at iP;cases iP;have hr:=b0F he hl;refine a4A (s:=Instr.makeFunc (.func f) (first.map a.eval) (iX.map a.eval)) ⟨.func (.func f) #[] (iX.map a.eval),?_,?_⟩
   .simp_all[Instr.makeFunc]
   .simp only[R]
    exact⟨_,by apply Ig;apply IZ;simp,hr⟩
  .simp at iN
 case call c =>
  obtain⟨callee,args,types⟩:=c;cases callee with
  |invoke _ _=>simp at iN
  |value f=>grind
  |builtin b =>
   simp only[a8B]at iN;split at iN
   .rename_i x hargs
    split at iN
    .rename_i y t hy ht
     have ha:args=#[x]:=by grind
     have zK:types=#[t]:=by grind
     subst ha zK;split at iN
     .rename_i e hu
      cases iN;simp only[bY]at iP;exact b2c (s:=Builtin.len_ #[t] type #[a.eval x]) (λ_=>by simp[builtin]) (b8J (t:=t) (i:=false) (by grind) (a0D he hy) iP w type) dst pos after guard
     .rename_i hu
      cases iN;simp only[bY]at iP;exact b2c (s:=Builtin.len_ #[t] type #[a.eval x]) (λ_=>by simp[builtin]) (b8J (t:=t) (i:=true) (sU hu) (a0D he hy) iP w type) dst pos after guard
     .simp at iN
    .simp at iN
   .rename_i x r hargs
    split at iN
    .rename_i y l hy hl
     cases iN;simp only[bY]at iP;have ha:args=(x::r).toArray:=by rw[<- hargs]
     subst ha;refine b2c (s:=Builtin.min_ types type ((x::r).toArray.map a.eval)) (λ_=>by simp[builtin]) ?_ dst pos after guard;obtain⟨v,h1,h2⟩:=b1Z (P:=P) (isMax:=false) w (a0D he hy) (b0F he hl) iP;grind[Builtin.min_]
    .simp at iN
   .rename_i x r hargs
    split at iN
    .rename_i y l hy hl
     cases iN;simp only[bY]at iP;have ha:args=(x::r).toArray:=by rw[<- hargs]
     subst ha;refine b2c (s:=Builtin.max_ types type ((x::r).toArray.map a.eval)) (λ_=>by simp[builtin]) ?_ dst pos after guard;obtain⟨v,h1,h2⟩:=b1Z (P:=P) (isMax:=true) w (a0D he hy) (b0F he hl) iP;grind[Builtin.max_]
    .simp at iN
   .grind
   .grind
   .simp at iN
 case load t x=>split at iN<;>simp at iN
 case lookup t m k ok =>
  grind
 case alloc t=>simp_all
 case box t x=>simp_all
 case buildSlice t len parts =>
  grind
 case makeSlice t l c =>
  grind
 case makeMap t r=>cases r<;>simp at iN
 case store t x y=>grind
 case mapUpdate t m k v =>
  grind
 all_goals(cases iN;done)
end Go.V
namespace Go.V
variable{μ:Mu}{Φ:W9}{w:World}{cs:List D}
theorem a3e.values{b o z:Nat}(h:a3e μ Φ w b o z (.cells cs)):∃vs,RL μ Φ cs vs/\∀j u,vs[j]?=some u->w.cell? ⟨b,o+j,none⟩=some u:=by
 obtain⟨arr,e,vs,tail,h1,h2,h3,h4,_⟩:=h;refine⟨vs,h4,λj u hu=>?_⟩;rw[b4e h1];have h5:(arr.toList.drop o)[j]?=some u:=by
  rw[h3,Ij (Hx.1 hu).1];exact hu
 grind
theorem a3e.one{b o z:Nat}(h:a3e μ Φ w b o z (.cells cs)):cs.all V5=true:=by
 obtain⟨arr,e,vs,tail,h1,h2,h3,h4,h5⟩:=h;exact h5
theorem a8Q{cs ds:List D}(h:cs.all V5=true)(hs:∀x∈ds,x∈cs):ds.all V5=true:=by
 grind
theorem b1u{ds:List D}(h:cs.all V5=true)(k:ds.all V5=true):(cs++ds).all V5=true:=by
 grind
theorem b5p{cs new:List D}{off:Nat}(h:cs.all V5=true)(k:new.all V5=true):(a5Z cs off new).all V5=true :=
 b1u (b1u (a8Q h λ_ hx=>Gh hx) k) (a8Q h λ_ hx=>Gz hx)
theorem b5D{z:List D}(h:z.all V5=true):∀n,(a3l z n).all V5=true
 |0=>rfl
 |n+1=>b1u h (b5D h n)
variable{env:k6}
theorem c1I:∀{ps:List (Nat×Nat×Z1)}{cs out:List D},cs.all V5=true->a5z env cs ps=some out->out.all V5=true
 |[],cs,out,h,e=>by grind[a5z]
 |(off,size,x)::ps,cs,out,h,e=>by
  simp only[a5z]at e;split at e
  .rename_i hc
   exact c1I (b5p h hc.2.2) e
  .simp at e
variable{P:Program}{d:D}{t:TypeId}
theorem b57{n:Option Nat}(ht:a7w P t=some n){off b o:Nat}(h:a2V n off cs=some d){us:List Value}(hr:RL μ Φ cs us)
 (hc:∀j u,us[j]?=some u->w.cell? ⟨b,o+j,none⟩=some u):∃v,(Instr.loadAt t (.pointer (some ⟨b,o+off,none⟩))).run P w=.ok v w/\R μ Φ d v:=by
 have hp:=b7N h hr;unfold a7w b3o at ht;cases hu:P.underlying t with
 |none=>simp[hu]at ht
 |some td =>
  have oC:(∃k,a1Y P t=some k/\n=some k)->(isAgg t).run P w=.ok true w->∃v,(Instr.loadAt t (.pointer (some ⟨b,o+off,none⟩))).run P w=.ok v w/\R μ Φ d v:=by
   rintro⟨k,hk,rfl⟩ yS;refine⟨_,?_,hp.2⟩;have hlen:((us.drop off).take k).length=k:=by grind
   have hl:=b3h P w b (o+off) ((us.drop off).take k) (λj u hj=>by
    grind)
   rw[hlen]at hl;simp only[Instr.loadAt,Instr.sureAddr,loadVar,Gj,Ha,yS,FM,FG,a5y hk,hl]
  have mR:n=none->(isAgg t).run P w=.ok false w->∃v,(Instr.loadAt t (.pointer (some ⟨b,o+off,none⟩))).run P w=.ok v w/\R μ Φ d v:=by
   rintro rfl yS;obtain⟨u,h1,h2⟩:=hp;have:=hc _ _ h1;exact⟨u,by simp_all[Instr.loadAt,Instr.sureAddr,loadVar],h2⟩
  cases td<;>simp only[hu]at ht<;>cases hs:a1Y P t<;>simp[hs]at ht<;>first
   |(refine oC ⟨_,hs,ht.symm⟩ ?_;simp[isAgg,FD hu])
   |(refine mR ht.symm ?_;simp[isAgg,FD hu])
variable{a:Act}{g:a0v}
theorem b43(hs:bc μ Φ g w){x:D}{v:Value}(hx:R μ Φ x v)(h:a1u g x=some cs){sz:Nat}(lB:a1V sz x=true) :
 ∃us n,a3z x=some n/\us.length=n*sz/\RL μ Φ cs us/\cs.all V5=true/\((v=.slice none 0 0/\us=[]/\n=0)\/∃a cap,v=.slice (some a) n cap/\n<=cap/\(∀w1:World,w1.heap=w.heap->(loadCells a us.length).run P w1=.ok us.toArray w1)):=by
 have sL:∀(b o:Nat)(us:List Value),(∀j u,us[j]?=some u->w.cell? ⟨b,o+j,none⟩=some u)->∀w1:World,w1.heap=w.heap->(loadCells ⟨b,o,none⟩ us.length).run P w1=.ok us.toArray w1:=by grind[b3h,World.cell?]
 unfold a1u at h;split at h
 .simp only[R]at hx
  cases h;exact⟨[],0,rfl,sJ,by simp[RL],rfl,.inl ⟨hx,rfl,rfl⟩⟩
 .rename_i sz' xs
  cases h;have:sz'=sz:=by simpa[a1V]using lB
  subst this;simp only[R,RP]at hx;obtain⟨b,o,cap,sp,e,h1,oP,h2⟩:=hx;obtain⟨us,u1,u2⟩:=b6D (b2g h2).1;have hlen:us.length=xs.length*sz':=by rw[a3L (aU (μ:=μ) _ _ u1),(b2g h2).2]
  refine⟨us,xs.length,rfl,?_,aU _ _ u1,b78 (b2g h2).1,.inr ⟨⟨b,o,sp⟩,cap,e,h1,?_⟩⟩
  case refine_2 =>
   rcases oP with rfl|rfl
   .exact sL b o us λj u hu=>hs.cellP (u2 j u hu)
   .have:us=[]:=by apply Gi;simpa using hlen
    subst this;intro w1 _;rfl
  assumption
 .rename_i id off len sz'
  have:sz'=sz:=by grind[a1V]
  subst this;simp only[R]at hx;obtain⟨b,o,z,cap,hm,e,ly,hz⟩:=hx;split at h
  .rename_i cs0 hg
   split at h
   .rename_i hle
    cases h;obtain⟨b',o',z',m1,m2,_⟩:=hs.obj id _ hg;rw[hm]at m1;cases m1;obtain⟨us,u1,u2⟩:=m2.values;refine⟨(us.drop off).take (len*sz'),len,rfl,?_,b2r _ (a9c _ u1),a8Q (m2.one) (λx hx=>Gz (Gh hx)),.inr ⟨⟨b,o+off,none⟩,cap,e,ly,sL b (o+off) _ ?_⟩⟩
    .have:=a3L u1
     simp;omega
    grind
   .simp at h
  .simp at h
 .simp at h
theorem c0i:∀{cs:List D}{us:List Value}{l:List UInt8},RL μ Φ cs us->b0i cs=some l->∃ns:List Int,us=ns.map (Value.int .u8)/\l=ns.map λn=>UInt8.ofNat n.toNat
 |[],us,l,hr,h=>by simp only[RL]at hr;simp[b0i]at h;simp_all
 |c::cs,us,l,hr,h=>by
  simp only[RL]at hr;obtain⟨u,AG,rfl,h1,h2⟩:=hr;simp only[b0i]at h;split at h
  .rename_i b l' hb hl
   simp at h;subst h;obtain⟨ns,e1,e2⟩:=c0i h2 hl;unfold b8i at hb;split at hb
   .rename_i n
    simp only[R]at h1;split at hb
    .simp at hb
     subst h1 hb e1 e2;exact⟨n::ns,rfl,rfl⟩
    .simp at hb
   .simp at hb
  .simp at h
variable{em:Bool}
theorem c3W(n:Nat){k:SK}(ht:a8l P t=some k)(v:Value):(Instr.checkKey em (n+1) t v).run P w=.ok () w:=by
 unfold a8l at ht;split at ht<;>simp_all[Instr.checkKey,FD]
def a69(em:Bool)(d:Nat)(xs:Array Value):List Field->Sem Unit
 |[]=>pure ()
 |f::fs=>if f.name≠"_" then do
   let v <- part f.type xs f.offset
   Instr.checkKey em d f.type v
   a69 em d xs fs
  else a69 em d xs fs
theorem c0S(em:Bool)(n:Nat):∀(fs:List Field)(k:Nat)(ks:List SK)(xs:Array Value),a6J P fs k=some ks->k+fs.length<=xs.size->(a69 em (n+1) xs fs).run P w=.ok () w
 |[],k,ks,xs,_,_=>by simp[a69]
 |f::fs,k,ks,xs,hf,hl=>by
  simp only[a6J]at hf;split at hf
  .rename_i lQ
   split at hf
   .rename_i kk l hk kE
    simp only[Gt]at hl;have ih:=c0S em n fs (k+1) l xs kE oJ;have hx:xs[f.offset]?=some xs[k]:=by simp_all
    simp only[a69,lQ.2,ne_eq,Jm,FG,Gj,b6a hk hx,FM,c3W n hk,ih]
   .simp at hf
  .simp at hf
theorem b9p:∀{fs:List Field}{k:Nat}{ks:List SK},a6J P fs k=some ks->ks.length=fs.length
 |[],k,ks,h=>by grind[a6J]
 |f::fs,k,ks,h=>by
  simp only[a6J]at h;split at h
  .split at h
   .rename_i h2
    simp at h;subst h;simp[b9p h2]
   .simp at h
  .simp at h
theorem c4s(em:Bool)(n:Nat){fs:Array Field}(us:Array Value)(hu:P.underlying t=some (.struct fs))(w:World) :
 (Instr.checkKey em (n+1) t (.agg us)).run P w=(a69 em n us fs.toList).run P w:=by
 simp only[Instr.checkKey,Gj,FD hu,FM];rw[<- Array.forIn_toList];generalize fs.toList=l;clear hu;induction l generalizing w with
 |nil=>simp[a69]
 |cons f l ih =>
  simp only[List.forIn_cons,a69,Gj,Jn];split
  .generalize(part f.type us f.offset).run P w=r1
   cases r1 with
   |halt h w1=>simp
   |ok v w1 =>
    simp only[FM];generalize(Instr.checkKey em n f.type v).run P w1=r2;cases r2 with
    |halt h w2=>simp
    |ok _ w2=>simp only[FM,Ha];exact ih w2
  simp_all
theorem c0I{ks:List SK}(ht:a36 P t=some ks)(us:List Value)(hl:ks.length<=us.length):(Instr.checkKey em 10000 t (.agg us.toArray)).run P w=.ok () w:=by
 grind[a36,c0S,b9p,c4s]
theorem b5F{t:TypeId}{ks:List SK}(ht:a36 P t=some ks){k:List D}{us:List Value}(hk:RL μ Φ k us):∀{dg:List (D×D)}{es:List MapEntry}(i:Nat){r:Option D},en μ Φ dg es->a8Z ks k dg=some r ->
 (r=none/\(Instr.findAsking t (.agg us.toArray) es i).run P w=.ok none w)\/∃j v x,r=some x/\(Instr.findAsking t (.agg us.toArray) es i).run P w=.ok (some (i+j,v)) w/\R μ Φ x v/\(∃e,es[j]?=some e/\e.val=v/\∃kk,dg[j]?=some (kk,x)/\∃l,kk=.agg l/\a21 ks k l=some true)
 |[],es,i,r,hr,h=>by
  simp_all[en,a8Z,Instr.findAsking]
 |(k',v')::dg,es,i,r,hr,h=>by
  simp only[en]at hr;obtain⟨e,l,rfl,h1,h2,h3⟩:=hr;by_cases tv:∃b',k'=.agg b'
  .obtain⟨b',rfl⟩:=tv
   simp only[a8Z]at h;simp only[R]at h1;obtain⟨ws,hw,hws⟩:=h1;split at h
   .rename_i jS
    simp at h;subst h;have:=a9K (w:=w) ht hk hws jS;refine .inr ⟨0,e.val,v',rfl,?_,h2,e,sJ,rfl,_,sJ,b',rfl,jS⟩;simp_all[Instr.findAsking]
   .rename_i jS
    have:=a9K (w:=w) ht hk hws jS;rcases b5F ht hk (i+1) h3 h with⟨rfl,q⟩|⟨j,v,x,rfl,q,q2,e2,q3,q4,kk,q5,q6⟩
    .exact .inl ⟨rfl,by simp_all[Instr.findAsking]⟩
    .refine .inr ⟨j+1,v,x,rfl,?_,q2,e2,sU q3,q4,kk,sU q5,q6⟩
     simp only[Instr.findAsking,Gj,hw,this,FM,Fw,FF,q];congr 3
     omega
   .simp at h
  .cases k'<;>first|exact absurd ⟨_,rfl⟩ tv|(simp[a8Z]at h)
theorem b4f{ks:List SK}(ht:a36 P t=some ks)(us:List Value)(es:List MapEntry) :
 (Instr.findKey t (.agg us.toArray) es).run P w=(Instr.findAsking t (.agg us.toArray) es).run P w:=by
 unfold a36 at ht;split at ht
 .rename_i fs hu
  cases es with
  |nil=>simp[Instr.findKey,FD hu,Instr.findNow,Instr.findAsking]
  |cons e es=>simp[Instr.findKey,FD hu,Instr.findNow,Instr.sameNow]
 .simp at ht
variable{md:FuncId->a16}{o:Oper}
theorem c8G{ro:ROp}(iN:a33 P md o=some (.r ro))(he:a2h μ Φ env a)(hs:bc μ Φ g w)(iP:dE env g ro=some d):a4X P μ Φ (execOp a.eval o) w d:=by
 obtain⟨dst,op,type,pos,after,guard⟩:=o;cases op<;>simp only[a33]at iN
 case load t x =>
  split at iN
  .rename_i y n hy hn
   cases iN;have rx:=a0D he hy;simp only[dE]at iP;refine a4A (s:=Instr.loadAt t (a.eval x)) ?_;split at iP
   .rename_i id off hx
    rw[hx]at rx;simp only[R]at rx;obtain⟨b,o,z,hm,e⟩:=rx;split at iP
    .rename_i cs hg
     obtain⟨b',o',z',m1,m2,_⟩:=hs.obj id _ hg;rw[hm]at m1;cases m1;obtain⟨us,u1,u2⟩:=m2.values;rw[e];exact b57 hn iP u1 u2
    .simp at iP
   .rename_i cs off hx
    rw[hx]at rx;simp only[R,RP]at rx;obtain⟨b,o,e,hc⟩:=rx;obtain⟨us,u1,u2⟩:=b6D hc;rw[e];exact b57 hn iP (aU _ _ u1) (λj u hu=>hs.cellP (u2 j u hu))
   .simp at iP
  .simp at iN
 case lookup t m k ok =>
  split at iN
  .rename_i m' k' kt et hm hk hu
   split at iN
   .rename_i zd hz
    split at iN
    .rename_i ks kx
     cases iN;simp only[dE]at iP;have rm:=a0D he hm;have rk:=a0D he hk;refine a4A (s:=Instr.lookup t (a.eval m) (a.eval k) ok) ?_;split at iP
     .rename_i id hx
      rw[hx]at rm;simp only[R]at rm;obtain⟨b,o,z,hmu,e⟩:=rm;split at iP
      .rename_i dg hg
       obtain⟨b',o',z',m1,m2,_⟩:=hs.obj id _ hg;rw[hmu]at m1;cases m1;obtain⟨es,clock,hb,yG⟩:=m2;split at iP
       .rename_i kl jJ
        unfold b0K at jJ;split at jJ
        .rename_i k0 oQ
         split at jJ
         .rename_i hlen
          simp at jJ;subst jJ;rw[oQ]at rk;simp only[R]at rk;obtain⟨us,ek,hus⟩:=rk;have Ak:=c0I (P:=P) (w:=w) (em:=es.isEmpty) kx us (by rw[a3L hus,hlen.1];exact sm _);have tN:∃i v,P.info? et=some i/\i.zero=some v/\R μ Φ zd v:=by grind[b8U,a9J,b42]
          obtain⟨iz,zv,hi,uU,tY⟩:=tN;have qQ:∀r,(Instr.findAsking kt (.agg us.toArray) es.toList).run P w=.ok r w->(Instr.findKey kt (.agg us.toArray) es.toList).run P w=.ok r w:=λr hr=>by
           grind[b4f]
          have zH:=JK (P:=P) hb;split at iP
          .rename_i v hfv
           cases iP;rcases b5F (w:=w) kx hus 0 yG hfv with⟨h0,_⟩|⟨j,v',x,h0,h1,h2,_⟩
           .simp at h0
           .simp at h0
            subst h0;have h3:=qQ _ h1;cases ok
            .simp_all[Instr.lookup,FD]
            .refine⟨.tuple #[v',.bool true],by simp_all[Instr.lookup,FD],?_⟩
             simp only[FG,R];exact⟨[v',.bool true],rfl,by simp only[RL];exact⟨_,_,rfl,h2,_,_,rfl,by simp only[R],rfl⟩⟩
          .rename_i hfv
           cases iP;rcases b5F (w:=w) kx hus 0 yG hfv with⟨_,h1⟩|⟨j,v',x,h0,_⟩
           .have h3:=qQ _ h1
            cases ok
            .simp_all[Instr.lookup,FD,a8F]
            .refine⟨.tuple #[zv,.bool false],by simp_all[Instr.lookup,FD,a8F],?_⟩
             simp only[FG,R];exact⟨[zv,.bool false],rfl,by simp only[RL];exact⟨_,_,rfl,tY,_,_,rfl,by simp only[R],rfl⟩⟩
           .simp at h0
          .simp at iP
         .simp at jJ
        .simp at jJ
       .simp at iP
      .simp at iP
     .simp at iP
    .simp at iN
   .simp at iN
  .simp at iN
 case convert src dst' x =>
  split at iN
  .simp at iN
  .rename_i y e hy rX hd
   split at iN
   .rename_i hu8
    cases iN;simp only[dE]at iP;have rx:=a0D he hy;refine a4A (s:=convert src dst' (a.eval x)) ?_;split at iP
    .rename_i cs qd lB
     obtain⟨l,hl,e1⟩:=map_some iP;subst e1;obtain⟨us,n,_,hlen,u1,_,u2⟩:=b43 hs rx qd lB;obtain⟨ns,n1,n2⟩:=c0i u1 hl;subst n1 n2;rcases u2 with⟨e2,e3,_⟩|⟨ad,cap,e2,_,hc⟩
     .have:ns=[]:=by simpa using e3
      subst this;refine⟨.string ByteArray.empty,?_,by simp only[R];rfl⟩;simp_all[Ju,Conv.bytesToString]
     .have ly:=hc w rfl
      have hn:(ns.map (Value.int .u8)).length=n:=oJ;rw[hn]at ly;refine⟨_,?_,by simp only[R];rfl⟩;rw[e2,Ju w src dst' e _ _ _ rX hu8 hd,run_bytesToString w _ n cap ns ly,foldl_push_bytes];simp
    .simp at iP
   .simp at iN
  .simp at iN
 case move x=>simp_all
 case assign x=>simp_all
 case pick c x y=>grind
 case nilCheck x=>simp_all
 case binOp op t x y yt=>simp_all
 case unOp op t x=>simp_all
 case build t parts =>
  grind
 case fieldAddr t x f =>
  grind
 case field t x f =>
  grind
 case indexAddr t x f =>
  grind
 case index t x f =>
  grind
 case slice t x lo hi mx =>
  grind
 case extract x i=>simp_all
 case makeFunc fn first iX =>
  cases fn<;>simp only at iN<;>try(cases iN;done)
  simp_all
 case call c =>
  obtain⟨callee,args,types⟩:=c;cases callee with
  |invoke _ _=>simp at iN
  |value f=>grind
  |builtin b =>
   simp only[a8B]at iN;grind
 case alloc t=>simp_all
 case box t x=>simp_all
 case buildSlice t len parts =>
  grind
 case makeSlice t l c =>
  grind
 case makeMap t r=>grind
 case store t x y=>split at iN<;>simp at iN
 case mapUpdate t m k v =>
  grind
 all_goals(cases iN;done)
theorem b5a:∀{z:List D}{us:List Value}(n:Nat),bm Φ z us->bm Φ (a3l z n) (List.replicate n us).flatten
 |z,us,0,_=>by simp[a3l,bm]
 |z,us,n+1,h=>by
  have app:∀(ds:List D)(vs:List Value)(es:List D)(ws:List Value),bm Φ ds vs->bm Φ es ws->bm Φ (ds++es) (vs++ws):=by
   intro ds;induction ds with
   |nil=>grind[bm]
   |cons d ds ih =>
    intro vs es ws h1 h2;simp only[bm]at h1;obtain⟨u,AG,rfl,e1,e2⟩:=h1;simp only[Fx,bm];grind
  simp only[a3l,Hw,GF];exact app _ _ _ _ h (b5a n h)
theorem c1y(us:List Value)(n:Nat)(h:us.length≠0):((Array.range (n*us.length)).map (us.toArray[· % us.toArray.size]!)).toList=(List.replicate n us).flatten:=by
 apply List.ext_getElem?;intro i;simp only[JC,Array.toList_range,List.getElem?_map];by_cases hi:i<n*us.length
 .have hm:i%us.length<us.length:=Ja _ oJ
  rw[IU hi];simp only[He,List.size_toArray];have hd:=Nat.div_lt_of_lt_mul (by rw[Kw];exact hi);have:∀(m i:Nat),i<m*us.length->(List.replicate m us).flatten[i]?=us[i%us.length]?:=by
   intro m;induction m with
   |zero=>intro i hi;simp at hi
   |succ m ih =>
    intro i hi;rw[Hw,GF];by_cases h1:i<us.length
    .rw[Ij h1,HA h1]
    .have h2:us.length<=i:=oJ
     rw[Jb h2,ih (i-us.length) (by rw[HX]at hi;omega),Nat.mod_eq_sub_mod h2]
  rw[this n i hi];simp[hm]
 simp_all
theorem b9O(w:World)(ob:Obj):(w.alloc ob).heap[w.heap.size]?=some ob:=by
 show(w.heap.push ob)[w.heap.size]?=_
 simp
theorem a9W{μ':Mu}{e:TypeId}{arr:Array Value}{vs tail:List Value}(h1:arr.toList=vs++tail)(h2:RL μ' Φ cs vs)(h3:cs.all V5=true) :
 a3e μ' Φ (w.alloc (.cells arr e)) w.heap.size 0 arr.size (.cells cs) :=
 ⟨arr,e,vs,tail,b9O _ _,rfl,sU h1,h2,h3⟩
theorem b2t{Φ':W9}:∀{ds:List D}{vs:List Value},bm Φ' ds vs->vs.length=ds.length
 |[],vs,e=>by grind[bm]
 |d::ds,vs,e=>by
  simp only[bm]at e;obtain⟨u,us,rfl,_,e3⟩:=e;simp[b2t e3]
theorem c0r{n:Nat}(he:a2h μ Φ env a):∀{l:List (Nat×Operand)}{ps:List (Nat×Z1)},a95 l=some ps ->
 (ps.map λ(i,x)=>(i*n,n,x)).length=(l.map λ(i,x)=>(i,a.eval x)).length /\
 ∀(j:Nat)(p:Nat×Nat×Z1)(q:Nat×Value),(ps.map λ(i,x)=>(i*n,n,x))[j]?=some p->(l.map λ(i,x)=>(i,a.eval x))[j]?=some q ->
  (λi=>some (i*n,n)) q.1=some (p.1,p.2.1)/\R μ Φ (env.ev p.2.2) q.2
 |[],ps,h=>by simp[a95]at h;subst h;simp
 |(i,x)::l,ps,h=>by
  simp only[a95]at h;split at h
  .rename_i y l' hy hl
   simp at h;subst h;have ih:=c0r (n:=n) he hl;refine⟨sU ih.1,?_⟩;intro j p q hp hq;cases j with
   |zero =>
    simp at hp hq;subst hp hq;exact⟨rfl,a0D he hy⟩
   |succ j=>exact ih.2 j p q (sU hp) (sU hq)
  .simp at h
theorem c0H{n:Int}(h1:0<=n)(h2:n<2^62):IntKind.i64.wrap n=n:=IntWalk.i64_in n oJ
variable{vo:Z7}
theorem c4L{ao:AOp}(iN:a33 P md o=some (.a ao))(he:a2h μ Φ env a){m:a0n}(iP:eO env ao=some (vo,m))(w:World)(id:Nat)(jb:μ id=none) :
 ∃v ob z,(execOp a.eval o).run P w=.ok (.value v) (w.alloc ob)/\a3e (a2n μ id (w.heap.size,0,z)) Φ (w.alloc ob) w.heap.size 0 z vo/\R (a2n μ id (w.heap.size,0,z)) Φ (m.at id) v:=by
 have hm:∀z,a2n μ id (w.heap.size,0,z) id=some (w.heap.size,0,z):=λz=>by simp[a2n]
 have hle:∀z,μ.le (a2n μ id (w.heap.size,0,z)):=λz=>a8C jb
 obtain⟨dst,op,type,pos,after,guard⟩:=o;cases op<;>simp only[a33]at iN
 case alloc t =>
  obtain⟨z,hz,e⟩:=map_some iN;cases e;simp only[eO]at iP;cases iP;obtain⟨i,v,hi,hv,hr,jN⟩:=a93 (Φ:=Φ) hz;refine⟨.pointer (some ⟨w.heap.size,0,none⟩),.cells v.cells t,v.cells.size,?_,a9W (vs:=v.cells.toList) (tail:=[]) sJ (aU _ _ hr) jN,?_⟩
  .simp_all[execOp,Instr.alloc,a8F,newVar,newRow]
  .simp only[a0n.at,R]
   simp_all
 case box t x =>
  obtain⟨y,hy,e⟩:=map_some iN;cases e;simp only[eO]at iP;split at iP
  .rename_i iR
   cases iP;obtain⟨h1,h2⟩:=b4Z (a0D he hy) iR;refine⟨.pointer (some ⟨w.heap.size,0,none⟩),.cells (a.eval x).cells t,(a.eval x).cells.size,?_,a9W (vs:=(a.eval x).cells.toList) (tail:=[]) sJ (bT (hle _) (W9.le_refl _) _ _ h1) iR,?_⟩
   .simp[execOp,Instr.box,newVar,newRow]
   .simp only[a0n.at,R]
    simp_all
  .simp at iP
 case buildSlice t len parts =>
  split at iN
  .rename_i e l mO hl
   split at iN
   .rename_i n z hn hz
    split at iN
    .rename_i hc
     cases iN;simp only[eO]at iP;obtain⟨cs,qd,e1⟩:=map_some iP;cases e1;obtain⟨i,zv,hi,uU,tY,jN⟩:=a93 (Φ:=Φ) hz;have wy:P.underlying t=some (.slice e):=by grind[a49]
     obtain⟨p1,p2⟩:=c0r (n:=n) he hl;have BK:zv.cells.toList.length=n:=by grind[b2t]
     obtain⟨ws,w1,w2,w3⟩:=b3w (μ:=μ) (Φ:=Φ) (λi=>some (i*n,n)) _ _ (a3l z len) cs (List.replicate len zv.cells.toList).flatten p1 p2 (aU _ _ (b5a len tY)) qd;have oD:∀(zz:Array Value),(len*n=0/\zz=#[]\/len*n≠0/\zz=zv.cells)->((Array.range (len*n)).map (zz[· % zz.size]!))=(List.replicate len zv.cells.toList).flatten.toArray:=by
      intro zz hzz;apply IZ;rcases hzz with⟨h0,rfl⟩|⟨h0,rfl⟩
      .simp_all[Gi]
      .grind[c1y]
     refine⟨.slice (some ⟨w.heap.size,0,none⟩) len len,.cells ws.toArray e,ws.toArray.size,?_,a9W (vs:=ws) (tail:=[]) sJ (bT (hle _) (W9.le_refl _) _ _ w2) (c1I (b5D jN len) qd),?_⟩
     .have AA:¬(len*n>2^24):=oJ
      have ky:(parts.map λ(i,x)=>(i,a.eval x)).toList=parts.toList.map λ(i,x)=>(i,a.eval x):=JC
      simp only[execOp,Instr.buildSlice,Gj,FD wy,FM,a5y hn,AA,FF,Ha,ky];by_cases h0:len*n=0
      .rw[Fk h0]
       simp only[Ha,FM,oD #[] (.inl ⟨h0,rfl⟩),w1,Gj,newRow,Kv];rfl
      .rw[so h0]
       simp only[Gj,a8F hi uU,Ha,FM,oD zv.cells (.inr ⟨h0,rfl⟩),w1,newRow,Kv];rfl
     .simp only[a0n.at,R]
      refine⟨_,_,_,len,hm _,rfl,sm _,?_⟩;simp_all
    .simp at iN
   .simp at iN
  .simp at iN
 case makeSlice t lx cx =>
  split at iN
  .rename_i e l c mO hl hc
   split at iN
   .rename_i i z hi hz
    split at iN
    .rename_i BK
     cases iN;simp only[eO]at iP;split at iP
     .rename_i n mm hn hmm
      split at iP
      .rename_i hcond
       obtain⟨c1,c2,c3,c4⟩:=hcond;cases iP;have rl:=a0D he hl;have rc:=a0D he hc;rw[hn]at rl;rw[hmm]at rc;simp only[R]at rl rc;obtain⟨i',zv,jF,uU,tY,jN⟩:=a93 (Φ:=Φ) hz;rw[hi]at jF;cases jF;have wy:P.underlying t=some (.slice e):=by grind[a49]
       have lB:a1Y P e=some i.size:=by simp[a1Y,hi]
       have hzl2:zv.cells.toList.length=i.size:=by grind[b2t]
       obtain⟨nn,rfl⟩:=Iy c1;obtain⟨mn,rfl⟩:=Iy (show 0<=mm by omega);have rL:nn<=mn:=oJ;have me:=c0H oJ oJ;have wi:IntKind.i64.wrap (mn:Int)=mn:=c0H oJ oJ;have oD:∀(zz:Array Value),(mn*i.size=0/\zz=#[]\/mn*i.size≠0/\zz=zv.cells)->((Array.range (mn*i.size)).map (zz[· % zz.size]!))=(List.replicate mn zv.cells.toList).flatten.toArray:=by
        intro zz hzz;apply IZ;rcases hzz with⟨h0,rfl⟩|⟨h0,rfl⟩
        .simp_all[Gi]
        .grind[c1y]
       have hflen:(List.replicate mn zv.cells.toList).flatten.length=mn*i.size:=by simp_all
       refine⟨.slice (some ⟨w.heap.size,0,none⟩) nn mn,.cells (List.replicate mn zv.cells.toList).flatten.toArray e,_,?_,
        a9W (vs:=(List.replicate nn zv.cells.toList).flatten) (tail:=(List.replicate (mn-nn) zv.cells.toList).flatten) ?_ (aU _ _ (b5a nn tY)) (b5D jN nn),?_⟩
       .have AA:¬((i.bytes:Int)*(mn:Int)>2^48):=oJ
        have t1:(decide ((mn:Int)<0)||decide ((i.bytes:Int)*(mn:Int)>2^48))=false:=by simp;omega
        have xH:¬(((decide ((mn:Int)<0)||decide ((i.bytes:Int)*(mn:Int)>2^48))||decide ((nn:Int)<0)||decide ((nn:Int)>(mn:Int)))=true):=by grind
        simp only[execOp,Instr.makeSlice,Gj,FD wy,FM,rl,rc,asInt,asIntOf,Ha,typeInfo,Kd,hi,me,wi,xH,Jn];rw[so sJ];simp only[FM,run_askRoom,an,a5y lB];by_cases h0:mn*i.size=0
        .simp only[h0,FG,Ha,FM,newRow,Kv,Gj]
         simp_all
        .simp only[h0,FF,Gj,a8F hi uU,Ha,FM,oD zv.cells (.inr ⟨h0,rfl⟩),newRow,Kv]
         rfl
       .grind[List.replicate_append_replicate]
       .simp only[a0n.at,R,an]
        refine⟨_,_,_,mn,hm _,rfl,rL,?_⟩;simp[hflen]
      .simp at iP
     .simp at iP
    .simp at iN
   .simp at iN
  .simp at iN
 case makeMap t r =>
  cases r with
  |some _=>simp at iN
  |none =>
   simp at iN;subst iN;simp only[eO]at iP;cases iP;refine⟨.map (some w.heap.size),.map #[] 0,0,?_,⟨#[],0,b9O _ _,by simp[en]⟩,?_⟩
   .simp[execOp,Instr.makeMap]
   .simp only[a0n.at,R]
    simp_all
 case move x=>simp_all
 case assign x=>simp_all
 case nilCheck x=>simp_all
 case binOp op t x y yt=>simp_all
 case unOp op t x=>simp_all
 case extract x i=>simp_all
 case pick c x y=>grind
 case load t x=>split at iN<;>simp at iN
 case store t x y=>split at iN<;>simp at iN
 case fieldAddr t x f =>
  grind
 case field t x f =>
  grind
 case indexAddr t x f =>
  grind
 case mapUpdate t m k v =>
  grind
 case build t parts =>
  grind
 case lookup t m k ok =>
  grind
 case index t x f =>
  grind
 case convert src dst' x =>
  grind
 case slice t x lo hi mx =>
  grind
 case makeFunc fn first iX =>
  cases fn<;>simp only at iN<;>try(cases iN;done)
  simp_all
 case call c =>
  obtain⟨callee,args,types⟩:=c;cases callee with
  |invoke _ _=>simp at iN
  |value f=>grind
  |builtin b =>
   simp only[a8B]at iN;grind
 all_goals(cases iN;done)
theorem b8j{A vs tail new:List Value}{o off:Nat}(h:A.drop o=vs++tail)(hl:off+new.length<=vs.length) :
 (A.take (o+off)++new++A.drop (o+off+new.length)).drop o=(vs.take off++new++vs.drop (off+new.length))++tail:=by
 have hA:o+vs.length<=A.length\/vs=[]:=by
  by_cases hv:vs=[]
  .exact .inr hv
  .left
   have:=Ig List.length h;simp at this;have:0<vs.length:=by cases vs<;>simp at hv⊢
   omega
 have e1:A.drop (o+off+new.length)=vs.drop (off+new.length)++tail:=by
  rw[Hu,<- Ih,h,Hh hl]
 have e2:(A.take (o+off)).drop o=vs.take off:=by
  rw[List.drop_take,h];have:o+off-o=off:=oJ;rw[this,HY oJ]
 rcases hA with hA|hA
 .rw[Fj,Hh qJ,e2,e1]
  simp[Fj]
 .subst hA
  simp at hl;obtain⟨rfl,hn⟩:=hl;subst hn;simp at h⊢;exact h
theorem c5y{n:Nat}{ad x:Z1}(iN:a33 P md o=some (.w n ad x))(he:a2h μ Φ env a)(hs:bc μ Φ g w){id:Nat}(iP:ei env g n ad x=some (id,vo)) :
 ∃w' b o' z vo0,(execOp a.eval o).run P w=.ok .skip w'/\g id=some vo0/\μ id=some (b,o',z)/\a5f b w w'/\a3e μ Φ w' b o' z vo:=by
 obtain⟨dst,op,type,pos,after,guard⟩:=o;cases op<;>simp only[a33]at iN
 case store t xa xv =>
  split at iN
  .rename_i ya yv n0 hya hyv hn
   cases iN;unfold ei at iP;have ra:=a0D he hya;have rv:=a0D he hyv;split at iP
   .rename_i jl off hx
    rw[hx]at ra;simp only[R]at ra;obtain⟨b,o',z,hm,e⟩:=ra;split at iP
    .rename_i cs hg
     simp only at iP;split at iP
     .rename_i hc
      obtain⟨c1,c2,c3,c4⟩:=hc;simp at iP;obtain⟨rfl,rfl⟩:=iP;obtain⟨b',o'',z',m1,m2,_⟩:=hs.obj jl _ hg;rw[hm]at m1;cases m1;obtain⟨arr,et,vs,tail,h1,h2,h3,h4,h5⟩:=m2;obtain⟨d1,d2⟩:=b4Z rv c3;have Bq:=a3L h4;have yf:=a3L d1;have hlen:=Ig List.length h3;simp at hlen yf;have iQ:o'+off+0+(a.eval xv).cells.toList.length<=arr.size:=by grind
      obtain⟨w',tp,r1,r2,r3,r4,r5⟩:=b15 P b (o'+off) et (a.eval xv).cells.toList 0 w arr h1 d2 iQ;refine⟨w',b,o',z,_,?_,hg,hm,r2,tp,et,_,tail,r3,by rw[r4];exact h2,?_,b5B h4 d1,b5p h5 c3⟩
      .simp_all[execOp,Instr.storeAt,storeVar,Instr.sureAddr,a5y]
      .rw[r5]
       simp only[GN];exact b8j h3 qJ
     .simp at iP
    .simp at iP
   .simp at iP
  .simp at iN
 case move x=>simp_all
 case assign x=>simp_all
 case nilCheck x=>simp_all
 case binOp op t x y yt=>simp_all
 case unOp op t x=>simp_all
 case extract x i=>simp_all
 case alloc t=>simp_all
 case box t x=>simp_all
 case pick c x y=>grind
 case load t x=>split at iN<;>simp at iN
 case fieldAddr t x f =>
  grind
 case field t x f =>
  grind
 case indexAddr t x f =>
  grind
 case mapUpdate t m k v =>
  grind
 case build t parts =>
  grind
 case buildSlice t len parts =>
  grind
 case makeSlice t l c =>
  grind
 case lookup t m k ok =>
  grind
 case index t x f =>
  grind
 case convert src dst' x =>
  grind
 case slice t x lo hi mx =>
  grind
 case makeFunc fn first iX =>
  cases fn<;>simp only at iN<;>try(cases iN;done)
  simp_all
 case makeMap t r=>grind
 case call c =>
  obtain⟨callee,args,types⟩:=c;cases callee with
  |invoke _ _=>simp at iN
  |value f=>grind
  |builtin b =>
   simp only[a8B]at iN;grind
 all_goals(cases iN;done)
end Go.V
namespace Go.V
variable{μ:Mu}{Φ:W9}{g:a0v}{w w':World}
theorem bc.move(h:bc μ Φ g w){id jl b o o' z:Nat}{vo rP:Z7}(hg:g id=some vo)(jb:μ id=some (b,o,z))(hw:a5f b w w')(hn:μ jl=none)(Fa:g jl=none)
 (rC:a3e (a2n μ jl (b,o',z)) Φ w' b o' z rP) :
 bc (a2n μ jl (b,o',z)) Φ (bU (bU g id none) jl (some rP)) w'/\bQ μ Φ g w (a2n μ jl (b,o',z)) Φ (bU (bU g id none) jl (some rP)) w' jl (jl+1):=by
 have jt:id≠jl:=λe=>by grind
 have lF:a5G μ g b:=⟨id,o,z,by rw[hg];simp,jb⟩
 have qI:Φ b=none:=by
  obtain⟨b',o',z',e1,_,e3⟩:=h.obj id vo hg;rw[jb]at e1;cases e1;exact e3
 have hle:=a8C (l:=(b,o',z)) hn;have qq:a2n μ jl (b,o',z) jl=some (b,o',z):=by simp[a2n]
 have mJ:∀i,i≠jl->a2n μ jl (b,o',z) i=μ i:=λi hi=>by simp[a2n,hi]
 have zp:∀i,i≠jl->i≠id->bU (bU g id none) jl (some rP) i=g i:=λi h1 h2=>by simp[bU,h1,h2]
 have hgid:bU (bU g id none) jl (some rP) id=none:=by simp[bU,jt]
 have blk:∀i o1 z1,i≠jl->i≠id->g i≠none->μ i=some (b,o1,z1)->False:=by
  intro i o1 z1 h1 h2 h3 h4;exact h2 (h.inj i id _ _ _ _ _ h3 (by rw[hg];simp) h4 jb)
 refine⟨⟨?_,?_,?_⟩,⟨hle,?_,W9.le_refl _,hw.os,hw.tape,hw.output,by rw[hw.size];exact sm _,?_,λ_ _ h=>.inl h,?_⟩⟩
 .intro b' ob e
  rw[hw.block b' (λe'=>by grind)];exact h.dZ b' ob e
 .intro i ob e
  by_cases hi:i=jl
  .subst hi
   simp only[bU,FG]at e;grind
  .by_cases sP:i=id
   .grind
   .rw[zp i hi sP]at e
    obtain⟨b',o1,z1,e1,e2,e3⟩:=h.obj i ob e;refine⟨b',o1,z1,by rw[mJ i hi];exact e1,b01 (hw.block b' ?_) (b17 hle (W9.le_refl _) e2),e3⟩;grind
 .intro i i' b1 o1 z1 o2 z2 h1 h2 e1 e2
  by_cases hi:i=jl
  .grind
  .by_cases jF:i'=jl
   .grind
   .rw[mJ i hi]at e1
    rw[mJ i' jF]at e2;have f:∀j,j≠jl->bU (bU g id none) jl (some rP) j≠none->g j≠none:=by grind
    exact h.inj i i' _ _ _ _ _ (f i hi h1) (f i' jF h2) e1 e2
 .grind
 .intro b' _ mz
  exact hw.block b' (λe=>by grind)
 .rintro b' ⟨i,o2,z2,h1,h2⟩
  by_cases hi:i=jl
  .grind
  .rw[mJ i hi]at h2
   refine .inl ⟨i,o2,z2,?_,h2⟩;grind
theorem bQ.gV{g':a0v}(hg:∀id ob,g' id=some ob->g id=some ob)(n:Nat)(h1:w'.heap=w.heap)(h2:w'.os=w.os)(h3:w'.tape=w.tape)(h4:w'.output=w.output) :
 bQ μ Φ g w μ Φ g' w' n n:=by
 refine⟨Mu.le_refl _,λ_ _=>rfl,W9.le_refl _,h2,h3,h4,by grind,λ_ _ _=>by rw[h1],λ_ _ h=>.inl h,?_⟩;rintro b ⟨q,o,zz,h1,h2⟩;refine .inl ⟨q,o,zz,?_,h2⟩;intro h3;cases hq:g' q with
 |none=>exact h1 hq
 |some ob=>grind
theorem b9d(s:k4)(id:Nat)(o:Option Z7)(ob:Z7)(h:id<s.next)(i:Nat):((s.set id o).push ob).get i=bU (bU s.get id o) s.next (some ob) i:=by
 grind[k4.aO,k4.bp,bU,k4.au]
theorem b8D(s:k4)(ob:Z7)(i:Nat):(s.push ob).get i=bU s.get s.next (some ob) i:=by
 rw[k4.aO];rfl
theorem b3T(s:k4)(id:Nat)(o:Option Z7)(h:id<s.next)(i:Nat):(s.set id o).get i=bU s.get id o i:=by
 grind[k4.bp,bU]
variable{id:Nat}
theorem b0G{s:k4}{ob:Z7}(h:s.get id=some ob):id<s.next:=by
 grind[k4.get]
variable{P:Program}
theorem c7W(size n:Nat)(b o l c:Nat)(us:List Value)(hl:us.length=n*size)(h:∀j u,us[j]?=some u->w.cell? ⟨b,o+j,none⟩=some u) :
 (Builtin.firstCells size n (.slice (some ⟨b,o,none⟩) l c)).run P w=.ok us.toArray w:=by
 grind[Builtin.firstCells,b3h]
theorem c71(ml cap bytes:Nat)(h1:cap<ml)(h2:ml*bytes<=2^45)(h3:bytes<=2^20):¬(Builtin.nextslicecap ml cap*bytes>2^48):=by
 have h4:Builtin.nextslicecap ml cap<=2*ml+192*4:=by
  unfold Builtin.nextslicecap;split
  .omega
  .split
   .omega
   .have:∀(r c:Nat),c<=2*ml->Builtin.growBy ml r c<=2*ml+192*4:=by
     intro r;induction r with
     |zero=>intro c hc;simp[Builtin.growBy];omega
     |succ r ih =>
      intro c hc;simp only[Builtin.growBy];split
      .omega
      .by_cases h5:c+(c+768)/4<=2*ml
       .exact ih _ h5
       .have:∀(r c:Nat),ml<=c->Builtin.growBy ml r c=c:=by
         intro r c hc;cases r with
         |zero=>rfl
         |succ r=>simp[Builtin.growBy,hc]
        rw[this r _ oJ];omega
    exact this 4 cap oJ
 have h5:Builtin.nextslicecap ml cap*bytes<=(2*ml+192*4)*bytes:=GR _ h4;grind
variable{i:TypeInfo}{jf jz:Nat}{vx:Value}
theorem c5R{t u e e':TypeId}{z:Value}(ht:P.underlying t=some (.slice e))(hu:P.underlying u=some (.slice e'))(hi:P.info? e=some i)(hz:i.zero=some z)
 {base:Option Addr}{n:Nat}(hx:(Builtin.lenOf vx).run P w=.ok n w)(wj:jz<jf+n)(hb:(jf+n)*i.bytes<=2^45)(jr:i.bytes<=2^20)(kV:jf+n<=2^45)
 {bO new:List Value}(hold:(Builtin.firstCells i.size jf (.slice base jf jz)).run P w.drew=.ok bO.toArray w.drew)
 (oi:(Builtin.firstCells i.size n vx).run P w.drew=.ok new.toArray w.drew)(ty:TypeId) :
 ∃cap rest,jf+n<=cap/\rest=(Builtin.zeroCells z.cells (cap-(jf+n))).toList /\
  (Builtin.append_ #[t,u] ty #[.slice base jf jz,vx]).run P w=.ok (.slice (some ⟨w.heap.size,0,none⟩) (jf+n) cap) (w.drew.alloc (.cells (bO++new++rest).toArray e)):=by
 refine⟨(Question.appendCap (jf+n) jz e).cut (w.tape w.drawn (Question.appendCap (jf+n) jz e)),_,by simp[Question.cut],rfl,?_⟩;have h1:¬(jf+n<=jz):=oJ;have h2:¬(9223372036854775807<(jf:Int)+(n:Int)/\i.bytes=0):=oJ;have h3:=c71 (jf+n) jz i.bytes wj hb jr;simp[Builtin.append_,FD ht,FD hu,sizeOf,typeInfo,zeroValue,hi,hz,hx,h1,h3,Question.forced,newRow];rw[so h2,hold];simp only[FM,oi];congr 2
 simp
theorem c3o{t u e e':TypeId}(ht:P.underlying t=some (.slice e))(hu:P.underlying u=some (.slice e'))(hi:P.info? e=some i)
 {b o n:Nat}(hx:(Builtin.lenOf vx).run P w=.ok n w)(jR:jf+n<=jz){new:List Value}(oi:(Builtin.firstCells i.size n vx).run P w=.ok new.toArray w)
(jZ:(storeCells ⟨b,o+jf*i.size,none⟩ new).run P w=.ok () w')(ty:TypeId) :
 (Builtin.append_ #[t,u] ty #[.slice (some ⟨b,o,none⟩) jf jz,vx]).run P w=.ok (.slice (some ⟨b,o,none⟩) (jf+n) jz) w':=by
 simp[Builtin.append_,FD ht,FD hu,sizeOf,typeInfo,hi,hx,jR,oi,a5Q,jZ]
theorem c3h{t u e e':TypeId}(ht:P.underlying t=some (.slice e))(hu:P.underlying u=some (.slice e'))(hi:P.info? e=some i)
 {base:Option Addr}(hx:(Builtin.lenOf vx).run P w=.ok 0 w)(jR:jf<=jz)(oi:(Builtin.firstCells i.size 0 vx).run P w=.ok #[] w)(ty:TypeId) :
 (Builtin.append_ #[t,u] ty #[.slice base jf jz,vx]).run P w=.ok (.slice base jf jz) w:=by
 cases base<;>simp[Builtin.append_,FD ht,FD hu,sizeOf,typeInfo,hi,hx,jR,oi,storeCells]
variable{d:D}
theorem c6y{t u e e':TypeId}{zl:List D}(ht:P.underlying t=some (.slice e))(hu:P.underlying u=some (.slice e'))(hi:P.info? e=some i)(hz:a7c P e=some zl)(lB:i.size≠0)(hzlen:zl.length=i.size)
 {st ju:k4}(hs:bc μ Φ st.get w)(zq:ju.next=st.next\/μ st.next=none){s x:D}{vs:Value}(rs:R μ Φ s vs)(rx:R μ Φ x vx)(iP:a0e i.size i.bytes s x st=some (d,ju))(ty:TypeId) :
 ∃v w' μ',(Builtin.append_ #[t,u] ty #[vs,vx]).run P w=.ok v w'/\bc μ' Φ ju.get w'/\bQ μ Φ st.get w μ' Φ ju.get w' st.next ju.next/\R μ' Φ d v:=by
 obtain⟨i',zv,jF,uU,tY,_⟩:=a93 (Φ:=Φ) hz;rw[hi]at jF;cases jF;unfold a0e at iP;split at iP
 .rename_i new n iS hlen
  split at iP
  .rename_i hc
   simp only[Fo,Fy]at hc;obtain⟨rX,hby⟩:=hc;obtain⟨us,n',mz,rF,hur,jN,hus⟩:=b43 hs rx iS rX;rw[hlen]at mz;cases mz;have hx:∀w,(Builtin.lenOf vx).run P w=.ok n w:=by
    intro w;rcases hus with⟨e1,_,e3⟩|⟨ad,cap,e1,_⟩
    .rw[e1,e3];rfl
    .rw[e1];rfl
   have oi:∀w1:World,w1.heap=w.heap->(Builtin.firstCells i.size n vx).run P w1=.ok us.toArray w1:=by
    intro w1 me;rcases hus with⟨e1,e2,e3⟩|⟨ad,cap,e1,_,hcell⟩
    .rw[e1,e2];rfl
    .rw[e1]
     simp only[Builtin.firstCells];rw[<- rF];exact hcell w1 me
   have grow:∀(g':a0v)(base:Option Addr)(jf jz:Nat)(bO:List D)(ov:List Value),vs=.slice base jf jz->jz<jf+n->(jf+n)*i.bytes<=2^45->jf+n<=2^45 ->
    RL μ Φ bO ov->bO.all V5=true->ov.length=jf*i.size->(∀w1:World,w1.heap=w.heap->(Builtin.firstCells i.size jf (.slice base jf jz)).run P w1=.ok ov.toArray w1) ->
    (∀id ob,g' id=some ob->st.get id=some ob)->(∀j,ju.get j=bU g' st.next (some (.cells (bO++new))) j)->ju.next=st.next+1->d=.arr st.next 0 (jf+n) i.size ->
    ∃v w' μ',(Builtin.append_ #[t,u] ty #[vs,vx]).run P w=.ok v w'/\bc μ' Φ ju.get w'/\bQ μ Φ st.get w μ' Φ ju.get w' st.next ju.next/\R μ' Φ d v:=by
    intro g' base jf jz bO ov hvs hgr lG kV AN hoo ym hold hg' hst' jL hd;have iW:=zq.resolve_left oJ;obtain⟨cap,rest,hcap,lU,jj⟩:=c5R (w:=w) (base:=base) (jz:=jz) ht hu hi uU (hx w) hgr lG hby kV (hold w.drew rfl) (oi w.drew rfl) ty;have kR:bc μ Φ g' w.drew:=(hs.gV hg').drew _;have hle:=a8C (l:=(w.drew.heap.size,0,(bO++new).length+rest.length)) iW;have Fa:g' st.next=none:=by
     cases hq:g' st.next with
     |none=>rfl
     |some ob=>have:=hg' _ _ hq;simp_all[k4.get_none]
    have qH:=a3L hur;have hol2:=a3L AN;have uT:=kR.push (ob:=.cells (ov++us++rest).toArray e) (vo:=.cells (bO++new)) (z:=(ov++us++rest).toArray.size) iW Fa
     (a9W (w:=w.drew) (vs:=ov++us) (tail:=rest) sJ (bT (a8C iW) (W9.le_refl _) _ _ (a9U AN hur)) (b1u hoo jN))
    refine⟨_,_,_,by rw[hvs];exact jj,uT.1.congr hst',?_,?_⟩
    .have he:=uT.2
     have:bQ μ Φ st.get w μ Φ g' w.drew st.next st.next:=bQ.gV hg' _ rfl rfl rfl rfl;have h2:=this.trans (sm _) (Hn _) he;rw[jL];have nu:=funext hst';rw[nu];exact h2
    .rw[hd]
     simp only[R];refine⟨_,_,_,cap,by simp[a2n];rfl,rfl,hcap,?_⟩;have hzc:zv.cells.size=i.size:=by
      have:=b2t tY;simp at this;omega
     have BK:rest.length=(cap-(jf+n))*i.size:=by
      rw[lU];simp[Builtin.zeroCells,hzc]
     simp[ym,rF,BK];have:(jf+n)*i.size+(cap-(jf+n))*i.size=cap*i.size:=by rw[<- HX];congr 1;omega
     grind
   have none0:∀(base:Option Addr)(jf jz:Nat),vs=.slice base jf jz->jf<=jz->n=0->d=s->ju=st ->
    ∃v w' μ',(Builtin.append_ #[t,u] ty #[vs,vx]).run P w=.ok v w'/\bc μ' Φ ju.get w'/\bQ μ Φ st.get w μ' Φ ju.get w' st.next ju.next/\R μ' Φ d v:=by
    intro base jf jz hvs hle pX hd jZ;subst hd jZ;have hus0:us=[]:=by simp_all
    have h1:=oi w rfl;rw[pX,hus0]at h1;have h2:=hx w;rw[pX]at h2;refine⟨vs,w,μ,?_,hs,bQ.refl _ _ _ _ _,rs⟩;rw[hvs];exact c3h ht hu hi h2 hle h1 ty
   split at iP
   ·-- onto nil
    simp only[R]at rs;split at iP
    .grind
    .rename_i pX
     split at iP
     .rename_i hb
      cases iP;exact grow st.get none 0 0 [] [] rs oJ (sU hb.1) (sU hb.2) (by simp[RL]) rfl sJ (λw1 _=>rfl) (λ_ _ h=>h) (λj=>b8D st _ j) rfl sJ
     .simp at iP
   ·-- onto a row of its own
    rename_i id off len sz';simp only[R]at rs;obtain⟨b,o,z,cap,hm,hv,ly,wW⟩:=rs;split at iP
    .rename_i cs hg
     split at iP
     .rename_i vW
      obtain⟨rfl,xZ⟩:=vW;split at iP
      .grind
      .rename_i pX
       split at iP
       .rename_i hb
        cases iP;have pF:=b0G hg;obtain⟨b',o',z',m1,m2,m3⟩:=hs.obj id _ hg;rw[hm]at m1;cases m1;by_cases jR:len+n<=cap
        ·-- in place
         have iW:=zq.resolve_left sJ;obtain⟨arr,et,wv,tail,q1,q2,q3,q4,q5⟩:=m2;have nU:=a3L q4;have sw:=b2T jN hur;have uz:=Nat.mul_pos (GU pX) (GU lB);have iQ:o+off+len*i.size+0+us.length<=arr.size:=by
          rw[rF,q2];have:(len+n)*i.size<=cap*i.size:=GR _ jR;rw[HX]at this;omega
         obtain⟨w',tp,r1,r2,r3,r4,r5⟩:=b15 P b (o+off+len*i.size) et us 0 w arr q1 sw iQ;have jj:=c3o (P:=P) (b:=b) (o:=o+off) (jf:=len) (jz:=cap) ht hu hi (hx w) jR (oi w rfl) r1 ty;have rC:a3e (a2n μ st.next (b,o+off,z)) Φ w' b (o+off) z (.cells (cs.drop off++new)):=by
          refine⟨tp,et,wv.drop off++us,tail.drop us.length,r3,by rw[r4];exact q2,?_,bT (a8C iW) (W9.le_refl _) _ _ (a9U (a9c off q4) hur),b1u (a8Q q5 λ_ hx=>Gz hx) jN⟩;rw[r5];simp only[GN];have e1:o+off+len*i.size=o+wv.length:=oJ;rw[e1];have hA:o+wv.length+us.length<=arr.toList.length:=by simp;omega
          have e2:arr.toList.take (o+wv.length)=arr.toList.take o++wv:=by
           have:arr.toList=arr.toList.take o++(wv++tail):=by rw[<- q3];simp
           conv=>lhs;rw[this]
           rw[List.take_append,Gk qJ];congr 1
           have:o+wv.length-(arr.toList.take o).length=wv.length:=by simp;omega
           rw[this];simp
          have e3:arr.toList.drop (o+wv.length+us.length)=tail.drop us.length:=by
           rw[Hu,<- Ih,q3,List.drop_append];have:wv.length+us.length-wv.length=us.length:=oJ;rw[this];simp
          rw[e2,e3];have hlen1:(arr.toList.take o).length=o:=by simp;omega
          rw[<- Ih,Fj,Fj,Hh oJ];have:List.drop o (arr.toList.take o)=[]:=sJ;rw[this,Fv,Hh oJ];simp[Fj]
         have kh:=hs.move hg hm r2 iW (k4.get_none _ _ (sm _)) rC;have nu:((st.set id none).push (.cells (cs.drop off++new))).get=bU (bU st.get id none) st.next (some (.cells (cs.drop off++new))):=funext λj=>b9d st id none _ pF j
         refine⟨_,w',_,by rw[hv];exact jj,by rw[nu];exact kh.1,by rw[nu];exact kh.2,?_⟩;grind[R,a2n]
        ·-- a new row
         obtain⟨ov,DU,ov2⟩:=m2.values;have hovl:=a3L DU;refine grow (bU st.get id none) _ len cap (cs.drop off) (ov.drop off) hv oJ hb.1 hb.2 (a9c off DU) (a8Q m2.one λ_ hx=>Gz hx) qJ ?_ ?_ ?_ rfl rfl
         .intro w1 me
          refine c7W (w:=w1) i.size len b (o+off) len cap (ov.drop off) qJ ?_;intro j q hj;rw[Jc]at hj;have:=ov2 _ _ hj;simp only[World.cell?,me]at this⊢;rw[Hu];exact this
         .intro q ob hq
          by_cases e:q=id
          .subst e;simp[bU]at hq
          .simpa[bU,e]using hq
         grind[b9d]
       .simp at iP
     .simp at iP
    .simp at iP
   ·-- onto a list: nothing
    rename_i sz' xs;split at iP
    .rename_i pX
     cases iP;simp only[R,RP]at rs;grind
    .simp at iP
   .simp at iP
  .simp at iP
 .simp at iP
theorem c4j{t u e:TypeId}(ht:P.underlying t=some (.slice e))(hi:P.info? e=some i)(lB:i.size=1)
 {st ju:k4}(hs:bc μ Φ st.get w){s x:D}{vs:Value}(rs:R μ Φ s vs)(rx:R μ Φ x vx)(iP:a60 s x st=some (d,ju))(ty:TypeId) :
 ∃v w',(Builtin.copy_ #[t,u] ty #[vs,vx]).run P w=.ok v w'/\bc μ Φ ju.get w'/\bQ μ Φ st.get w μ Φ ju.get w' st.next st.next/\R μ Φ d v:=by
 unfold a60 at iP;split at iP
 .rename_i id off len new n iS hlen
  split at iP
  .rename_i cs hg
   split at iP
   .rename_i hc
    obtain⟨rX,h0,qH,iQ⟩:=hc;cases iP;obtain⟨us,n',mz,rF,hur,jN,hus⟩:=b43 (P:=P) hs rx iS rX;rw[hlen]at mz;cases mz;rw[HM]at rF;rcases hus with⟨_,_,e3⟩|⟨ad,cap,rfl,_,hcell⟩
    .omega
    simp only[R]at rs;obtain⟨b,o,z,cap2,hm,rfl,ly,_⟩:=rs;obtain⟨b',o',z',m1,m2,_⟩:=hs.obj id _ hg;rw[hm]at m1;cases m1;obtain⟨arr,et,wv,tail,q1,q2,q3,q4,q5⟩:=m2;have nU:=a3L q4;have hnw:=a3L hur;have sw:=b2T jN hur;have hlen3:=Ig List.length q3;simp at hlen3;have jR:o+off+0+us.length<=arr.size:=oJ;obtain⟨w',tp,r1,r2,r3,r4,r5⟩:=b15 P b (o+off) et us 0 w arr q1 sw jR;have rC:a3e μ Φ w' b o z (.cells (a5Z cs off new)):=by
     refine⟨tp,et,_,tail,r3,by rw[r4];exact q2,?_,b5B q4 hur,b5p q5 jN⟩;rw[r5];simp only[GN];exact b8j q3 oJ
    have pF:=b0G hg;have hw:=hs.write hg hm r2 rC st.next;have nu:=λy=>funext λj=>b3T st id y pF j
    refine⟨goInt n,w',?_,by grind,by grind,?_⟩
    .have wJ:=hcell w rfl
     simp_all[Builtin.copy_,FD,Builtin.lenOf,Builtin.firstCells,sizeOf,typeInfo]
    .simp[R,goInt]
   .simp at iP
  .simp at iP
 .simp at iP
theorem b9H{t:TypeId}{ks:List SK}(ht:a36 P t=some ks){k:List D}{x:D}{us:List Value}(hk:RL μ Φ k us):∀{dg kZ:List (D×D)}{es:List MapEntry}(i:Nat),en μ Φ dg es->a8n ks k x dg=some kZ ->
 (kZ=dg++[(.agg k,x)]/\(Instr.findAsking t (.agg us.toArray) es i).run P w=.ok none w) \/
 ∃j v l e,kZ=dg.set j (.agg k,x)/\(Instr.findAsking t (.agg us.toArray) es i).run P w=.ok (some (i+j,v)) w/\es[j]?=some e/\R μ Φ (.agg l) e.key/\a21 ks k l=some true
 |[],kZ,es,i,hr,h=>by
  simp_all[en,a8n,Instr.findAsking]
 |(k',v')::dg,kZ,es,i,hr,h=>by
  simp only[en]at hr;obtain⟨e,l,rfl,h1,h2,h3⟩:=hr;by_cases tv:∃b',k'=.agg b'
  .obtain⟨b',rfl⟩:=tv
   simp only[a8n]at h;have h1':=h1;simp only[R]at h1;obtain⟨ws,hw,hws⟩:=h1;split at h
   .rename_i jS
    simp at h;subst h;have:=a9K (w:=w) ht hk hws jS;exact .inr ⟨0,e.val,b',e,sJ,by simp_all[Instr.findAsking],sJ,h1',jS⟩
   .rename_i jS
    obtain⟨kvs1,hp,e1⟩:=map_some h;subst e1;have:=a9K (w:=w) ht hk hws jS;rcases b9H ht hk (i+1) h3 hp with⟨q0,q⟩|⟨j,v,l2,e2,q0,q,q2,q3,q4⟩
    .simp_all[Instr.findAsking]
    .refine .inr ⟨j+1,v,l2,e2,by simp[q0],?_,sU q2,q3,q4⟩
     simp only[Instr.findAsking,Gj,hw,this,FM,Fw,FF,q];congr 3
     omega
   .simp at h
  .cases k'<;>first|exact absurd ⟨_,rfl⟩ tv|(simp[a8n]at h)
theorem c1U:∀{dg:List (D×D)}{es:List MapEntry}{k v:D}{e:MapEntry},en μ Φ dg es->R μ Φ k e.key->R μ Φ v e.val->en μ Φ (dg++[(k,v)]) (es++[e])
 |[],es,k,v,e,h,h1,h2=>by
  simp only[en]at h;subst h;simp only[Fv,en];grind
 |(k',v')::r,es,k,v,e,h,h1,h2=>by
  simp only[en]at h;obtain⟨e',l,rfl,q1,q2,q3⟩:=h;simp only[Fx,en];exact⟨e',l++[e],rfl,q1,q2,c1U q3 h1 h2⟩
theorem b9N:∀{dg:List (D×D)}{es:List MapEntry}(j:Nat){k v:D}(f:MapEntry->MapEntry),en μ Φ dg es->(∀e,R μ Φ k (f e).key/\R μ Φ v (f e).val)->en μ Φ (dg.set j (k,v)) (es.modify j f)
 |[],es,j,k,v,f,h,_=>by
  grind[en]
 |(k',v')::r,es,j,k,v,f,h,hf=>by
  simp only[en]at h;obtain⟨e',l,rfl,q1,q2,q3⟩:=h;cases j with
  |zero=>simp only[List.set_cons_zero,List.modify_zero_cons,en];grind
  |succ j=>simp only[List.set_cons_succ,List.modify_succ_cons,en];exact⟨_,_,rfl,q1,q2,b9N j f q3 hf⟩
theorem c7Y{a b:ByteArray}(h:(a==b)=true):a=b:=by
 rw[beq_toListBytes,Io,Io]at h;obtain⟨⟨x⟩⟩:=a;simp_all
theorem c6E(a:ByteArray):(a==a)=true:=by
 rw[beq_toListBytes];simp
theorem b6T:∀{ks:List SK}{k l:List D}{us vs:List Value},a21 ks k l=some true->RL μ Φ k us->RL μ Φ l vs->us=vs/\∀n x,x∈us->Instr.sameBits n x x=true
 |[],[],[],us,vs,_,h1,h2=>by
  grind[RL]
 |[],[],_::_,_,_,h,_,_=>by simp[a21]at h
 |[],_::_,_,_,_,h,_,_=>by simp[a21]at h
 |_::_,[],_,_,_,h,_,_=>by simp[a21]at h
 |_::_,_::_,[],_,_,h,_,_=>by simp[a21]at h
 |t::ks,x::k,y::l,us,vs,h,h1,h2=>by
  simp only[a21]at h;split at h
  .rename_i p q hp hq
   simp at h;obtain⟨rfl,rfl⟩:=h;simp only[RL]at h1 h2;obtain⟨u,AG,rfl,r1,r2⟩:=h1;obtain⟨v,yQ,rfl,r3,r4⟩:=h2;obtain⟨e1,e2⟩:=b6T hq r2 r4;have mV:u=v/\∀n,Instr.sameBits n u u=true:=by
    cases t<;>cases x<;>cases y<;>simp[a7O]at hp<;>simp only[R]at r1 r3<;>subst r1<;>subst r3
    .obtain⟨rfl,rfl⟩:=hp;exact⟨rfl,λn=>by cases n<;>simp[Instr.sameBits]⟩
    .subst hp;exact⟨rfl,λn=>by cases n<;>simp[Instr.sameBits]⟩
    .have:=c7Y hp
     subst this;exact⟨rfl,λn=>by cases n<;>simp[Instr.sameBits,c6E]⟩
   grind
  .simp at h
theorem c63(n:Nat)(us:List Value)(h:∀n x,x∈us->Instr.sameBits n x x=true):Instr.sameBits (n+1) (.agg us.toArray) (.agg us.toArray)=true:=by
 simp only[Instr.sameBits,Ii,Gd];rw[FZ];intro p hp;obtain⟨x,y⟩:=p;have um:x=y/\x∈us:=by
  have:∀(l:List Value),(x,y)∈l.zip l->x=y/\x∈l:=by
   intro l;induction l with
   |nil=>simp
   |cons a l ih =>
    intro hm;simp at hm;rcases hm with⟨rfl,rfl⟩|hm
    .simp
    .have:=ih hm;exact⟨this.1,by simp[this.2]⟩
  exact this us hp
 grind
theorem c7F{t kt et:TypeId}{ks:List SK}(hu:P.underlying t=some (.map kt et))(kx:a36 P kt=some ks){st:k4}(hs:bc μ Φ st.get w){dg kZ:List (D×D)}(hg:st.get id=some (.map dg))
 {m k v:Value}{kd:List D}{vd:D}(rm:R μ Φ (.map id) m)(rk:R μ Φ (.agg kd) k)(jJ:kd.length=ks.length)(rv:R μ Φ vd v)(xN:a8n ks kd vd dg=some kZ) :
 ∃w',(Instr.mapUpdate t m k v).run P w=.ok () w'/\bc μ Φ (st.set id (some (.map kZ))).get w'/\bQ μ Φ st.get w μ Φ (st.set id (some (.map kZ))).get w' st.next st.next:=by
 simp only[R]at rm rk;obtain⟨b,o,z,hm,rfl⟩:=rm;obtain⟨us,rfl,hus⟩:=rk;obtain⟨b',o',z',m1,m2,_⟩:=hs.obj id _ hg;rw[hm]at m1;cases m1;obtain⟨es,clock,hb,yG⟩:=m2;have Ak:=c0I (P:=P) (w:=w) (em:=false) kx us (by rw[a3L hus,jJ];exact sm _);have zH:=JK (P:=P) hb;have pF:=b0G hg;have nu:=λx=>funext λj=>b3T st id x pF j
 have fin:∀(yB:Array MapEntry)(mU:Nat),en μ Φ kZ yB.toList ->
  bc μ Φ (st.set id (some (.map kZ))).get { w with heap:=w.heap.setIfInBounds b (.map yB mU) } /\
  bQ μ Φ st.get w μ Φ (st.set id (some (.map kZ))).get { w with heap:=w.heap.setIfInBounds b (.map yB mU) } st.next st.next:=by
  intro yB mU Bl;have jq:=(Ie.1 hb).1;have nI:a5f b w { w with heap:=w.heap.setIfInBounds b (.map yB mU) } :=
   ⟨rfl,rfl,rfl,sJ,λj hj=>by grind⟩
  have hw:=hs.write hg hm nI (rP:=.map kZ) ⟨yB,mU,by simp[jq],Bl⟩ st.next;rw[nu];exact hw
 rcases b9H (w:=w) kx hus 0 yG xN with⟨e1,hf⟩|⟨j,v0,l,e,e1,hf,hej,DA,jS⟩
 .have qQ:(Instr.findKey kt (.agg us.toArray) es.toList).run P w=.ok none w:=by grind[b4f]
  refine⟨_,?_,fin (es.push { key:=.agg us.toArray,val:=v,born:=clock }) (clock+1) ?_⟩
  .simp[Instr.mapUpdate,FD hu,zH,Ak,qQ,JL _ hb]
  .rw[e1]
   simp only[Array.toList_push];exact c1U yG (by simp only[R];exact⟨us,rfl,hus⟩) rv
 .have qQ:(Instr.findKey kt (.agg us.toArray) es.toList).run P w=.ok (some (0+j,v0)) w:=by grind[b4f]
  rw[GJ]at qQ;simp only[R]at DA;obtain⟨vs,ek,hvs⟩:=DA;obtain⟨q1,q2⟩:=b6T jS hus hvs;have nI:Instr.sameBits 10000 (.agg us.toArray) (.agg us.toArray)=true:=c63 9999 us q2;have hkey:es[j]?=some e:=sU hej;refine⟨_,?_,fin (es.modify j λe=>{ e with key:=.agg us.toArray,val:=v }) clock ?_⟩
  .have hstay:(Instr.keyThatStays (((es[j]?).map (·.key)).getD (.agg us.toArray)) (.agg us.toArray)).run P w=.ok (.agg us.toArray) w:=by simp_all[Instr.keyThatStays]
   simp only[Instr.mapUpdate,Gj,FD hu,FM,zH,Ak,qQ,hstay,JL _ hb]
  .rw[e1,Array.toList_modify]
   exact b9N j _ yG (λe=>⟨by simp only[R];exact⟨us,rfl,hus⟩,rv⟩)
end Go.V
namespace Go.V
def a6a(μ:Mu)(n0 n1:Nat):Prop:=∀id,n0<=id->id<n1->μ id=none
def a4J(P:Program)(C:a1s):Prop:=∀f args s d s',C f args s=some (d,s')->s.next<=s'.next/\(∃fn,P.funcs[f]?=some fn/\fn.body.isSome=true/\(fn.name=="runtime.NumGoroutine")=false) /\
 ∀μ Φ w vs,bc μ Φ s.get w->RL μ Φ args vs->a6a μ s.next s'.next ->
  Calls P f vs.toArray w λe w'=>∃v μ' Φ',e=.returned v/\bc μ' Φ' s'.get w'/\R μ' Φ' d v/\bQ μ Φ s.get w μ' Φ' s'.get w' s.next s'.next
variable{Φ:W9}
theorem b75{sz:Nat}:∀(n:Nat){l:List D}{b o:Nat},RC Φ l b o->l.length=n*sz->RG Φ sz (a53 sz n l) b o
 |0,l,b,o,_,_=>by simp[a53,RG]
 |n+1,l,b,o,h,hl=>by
  simp only[a53,RG];rw[HX]at hl;exact⟨by simp;omega,b8k sz h,b75 n (c1o sz h) qJ⟩
theorem b47(sz:Nat):∀(n:Nat)(l:List D),(a53 sz n l).length=n
 |0,_=>rfl
 |n+1,l=>by simp[a53,b47 sz n]
theorem b7z{f:D->Option D}:∀{l l':List D},X8 f l=some l'->l'.length=l.length
 |[],l',h=>by grind[X8]
 |d::l,l',h=>by
  simp only[X8]at h;split at h
  .rename_i h2;simp at h;subst h;simp[b7z h2]
  .simp at h
variable{g:a0v}{d:D}
theorem c3A{n:Nat}{d':D}(h:aK g n d=some d')(ho:V5 d=true):V5 d'=true:=by
 cases n with
 |zero=>simp[aK]at h
 |succ n =>
  cases d<;>simp[V5]at ho<;>simp only[aK]at h<;>first
   |(cases h;rfl)
   |(split at h
     .obtain⟨l,_,e⟩:=map_some h;subst e;rfl
     .simp at h)
   |(simp at h)
variable{μ:Mu}{w:World}
theorem b33{Φ2:W9}(hs:bc μ Φ g w)(hle:Φ.le Φ2)(zf:∀b,a5G μ g b->Φ2 b=w.heap[b]?):∀(n:Nat)(d d':D)(v:Value),aK g n d=some d'->R μ Φ d v->RP Φ2 d' v:=by
 intro n;induction n with
 |zero=>simp[aK]
 |succ n ih =>
  have hlist:∀(l l':List D)(vs:List Value),X8 (aK g n) l=some l'->RL μ Φ l vs->bm Φ2 l' vs:=by
   intro l;induction l with
   |nil=>simp[X8,RL,bm]
   |cons d l il =>
    intro l' vs h hr;simp only[X8]at h;split at h
    .rename_i x l1 h1 h2
     simp at h;subst h;simp only[RL]at hr;obtain⟨u,us,rfl,r1,r2⟩:=hr;simp only[bm];grind
    .simp at h
  have hcells:∀(l l':List D)(b o:Nat),X8 (aK g n) l=some l'->l.all V5=true->(∀j e,l[j]?=some e->∃u,Φ2.cell b (o+j)=some u/\R μ Φ e u)->RC Φ2 l' b o:=by
   intro l;induction l with
   |nil=>grind[X8,RC]
   |cons d l il =>
    intro l' b o h ho hr;simp only[X8]at h;split at h
    .rename_i x l1 h1 h2
     simp at h;subst h;simp only[HH,Fo]at ho;simp only[RC];obtain⟨u,u1,u2⟩:=hr 0 d sJ;refine⟨⟨c3A h1 ho.1,u,u1,ih _ _ _ h1 u2⟩,il _ _ _ h2 ho.2 ?_⟩;intro j e hj;obtain⟨u,u1,u2⟩:=hr (j+1) e (sU hj);grind
    .simp at h
  intro d d' v h hr;cases d<;>simp only[aK]at h
  case undef=>simp at h
  case int k x=>grind[R,RP]
  case bool b=>grind[R,RP]
  case str s=>grind[R,RP]
  case bG=>grind[R,RP]
  case ptr id off=>simp at h
  case fp cs o=>grind[R,a87]
  case ag=>grind[R,RP]
  case bu sz xs=>grind[R,a87]
  case arr id off len sz =>
   simp only[R]at hr;obtain⟨b,o,z,cap,hm,e,ly,hz⟩:=hr;split at h
   .rename_i cs iS
    obtain⟨l,hl,e1⟩:=map_some h;subst e1;simp only[a1u]at iS;split at iS
    .rename_i cs0 hg
     split at iS
     .rename_i iQ
      cases iS;obtain⟨b',o',z',m1,m2,_⟩:=hs.obj id _ hg;rw[hm]at m1;cases m1;have hb:=zf b ⟨id,o,z,by rw[hg];simp,hm⟩;have jN:=m2.one;obtain⟨arr,et,vs,tail,q1,q2,q3,q4,_⟩:=m2;have hrc:RC Φ2 l b (o+off):=by
       refine hcells _ _ _ _ hl (a8Q jN λx hx=>Gz (Gh hx)) ?_;intro j e hj;rw[List.getElem?_take]at hj;split at hj
       .rw[Jc]at hj
        obtain⟨u,u1,u2⟩:=a97 q4 hj;refine⟨u,?_,u2⟩;simp only[W9.cell,hb,q1];have h5:(arr.toList.drop o)[off+j]?=some u:=by
         rw[q3,Ij (Hx.1 u1).1];exact u1
        grind
       .simp at hj
      have nJ:l.length=len*sz:=by
       rw[b7z hl];simp;omega
      simp only[RP];exact⟨b,o+off,cap,none,by rw[e,b47],by grind[b47],.inl rfl,b75 len hrc nJ⟩
     .simp at iS
    .simp at iS
   .simp at h
  case agg cs =>
   obtain⟨l,hl,e1⟩:=map_some h;grind[R,RP]
  case aT cs =>
   obtain⟨l,hl,e1⟩:=map_some h;grind[R,RP]
  case fn f cs=>simp at h
  case bR=>grind[R,RP]
  case bS=>grind[R,RP]
  case map id=>simp at h
theorem b6R{Φ2:W9}(hs:bc μ Φ g w)(hle:Φ.le Φ2)(zf:∀b,a5G μ g b->Φ2 b=w.heap[b]?)(n:Nat):∀{l l':List D}{vs:List Value},X8 (aK g n) l=some l'->RL μ Φ l vs->bm Φ2 l' vs
 |[],l',vs,h,hr=>by grind[X8,RL,bm]
 |d::l,l',vs,h,hr=>by
  simp only[X8]at h;split at h
  .rename_i x l1 h1 h2
   simp at h;subst h;simp only[RL]at hr;obtain⟨u,us,rfl,r1,r2⟩:=hr;simp only[bm];exact⟨u,us,rfl,b33 hs hle zf n _ _ _ h1 r1,b6R hs hle zf n h2 r2⟩
  .simp at h
mutual
theorem c00{Φ Φ':W9}:∀(d:D)(v:Value),a2B d=true->RP Φ d v->RP Φ' d v
 |.int _ _,_,_,e=>by assumption
 |.bool _,_,_,e=>by assumption
 |.str _,_,_,e=>by assumption
 |.bG,_,_,e=>by assumption
 |.fp cs off,v,h,e=>by simp[a2B]at h
 |.ag,_,_,e=>by assumption
 |.bu sz xs,v,h,e=>by simp[a2B]at h
 |.agg cs,v,h,e=>by
  simp only[a2B]at h;simp only[RP]at e⊢;obtain⟨vs,e1,e2⟩:=e;exact⟨vs,e1,dy cs vs h e2⟩
 |.aT cs,v,h,e=>by
  simp only[a2B]at h;simp only[RP]at e⊢;obtain⟨vs,e1,e2⟩:=e;exact⟨vs,e1,dy cs vs h e2⟩
 |.bR,_,_,e=>by assumption
 |.bS,_,_,e=>by assumption
 |.undef,_,_,e=>by simp only[RP]at e
 |.ptr _ _,_,_,e=>by simp only[RP]at e
 |.arr _ _ _ _,_,_,e=>by simp only[RP]at e
 |.fn _ _,_,_,e=>by simp only[RP]at e
 |.map _,_,_,e=>by simp only[RP]at e
theorem dy{Φ Φ':W9}:∀(ds:List D)(vs:List Value),bJ ds=true->bm Φ ds vs->bm Φ' ds vs
 |[],_,_,e=>by assumption
 |d::ds,vs,h,e=>by
  simp only[bJ,Fo]at h;simp only[bm]at e⊢;obtain⟨u,us,e1,e2,e3⟩:=e;exact⟨u,us,e1,c00 d u h.1 e2,dy ds us h.2 e3⟩
end
mutual
theorem c9a:∀(d:D)(v:Value),a1j d=true->R μ Φ d v->RP Φ d v
 |.int _ _,_,_,e=>by assumption
 |.bool _,_,_,e=>by assumption
 |.str _,_,_,e=>by assumption
 |.bG,_,_,e=>by assumption
 |.fp cs off,v,h,e=>by assumption
 |.ag,_,_,e=>by assumption
 |.bu sz xs,v,h,e=>by assumption
 |.agg cs,v,h,e=>by
  simp only[a1j]at h;simp only[R,RP]at e⊢;obtain⟨vs,e1,e2⟩:=e;exact⟨vs,e1,eH cs vs h e2⟩
 |.aT cs,v,h,e=>by simp[a1j]at h
 |.bR,_,_,e=>by assumption
 |.bS,_,_,e=>by assumption
 |.undef,_,h,_=>by simp[a1j]at h
 |.ptr _ _,_,h,_=>by simp[a1j]at h
 |.arr _ _ _ _,_,h,_=>by simp[a1j]at h
 |.fn _ _,_,h,_=>by simp[a1j]at h
 |.map _,_,h,_=>by simp[a1j]at h
theorem eH:∀(ds:List D)(vs:List Value),aM ds=true->RL μ Φ ds vs->bm Φ ds vs
 |[],_,_,e=>by assumption
 |d::ds,vs,h,e=>by
  simp only[aM,Fo]at h;simp only[RL,bm]at e⊢;obtain⟨u,us,e1,e2,e3⟩:=e;exact⟨u,us,e1,c9a d u h.1 e2,eH ds us h.2 e3⟩
end
mutual
theorem c5m:∀(d:D)(n:Nat)(d':D),a1j d=true->aK g n d=some d'->d'=d
 |.agg cs,n,d',h,e=>by
  cases n with
  |zero=>simp[aK]at e
  |succ n =>
   simp only[a1j]at h;simp only[aK]at e;obtain⟨l,hl,e1⟩:=map_some e;rw[<- e1,dR cs n l h hl]
 |.int _ _,n,d',_,e=>by cases n<;>simp[aK]at e;exact e.symm
 |.bool _,n,d',_,e=>by cases n<;>simp[aK]at e;exact e.symm
 |.str _,n,d',_,e=>by cases n<;>simp[aK]at e;exact e.symm
 |.bG,n,d',_,e=>by cases n<;>simp[aK]at e;exact e.symm
 |.fp _ _,n,d',_,e=>by cases n<;>simp[aK]at e;exact e.symm
 |.ag,n,d',_,e=>by cases n<;>simp[aK]at e;exact e.symm
 |.bu _ _,n,d',_,e=>by cases n<;>simp[aK]at e;exact e.symm
 |.bR,n,d',_,e=>by cases n<;>simp[aK]at e;exact e.symm
 |.bS,n,d',_,e=>by cases n<;>simp[aK]at e;exact e.symm
 |.aT _,_,_,h,_=>by simp[a1j]at h
 |.undef,_,_,h,_=>by simp[a1j]at h
 |.ptr _ _,_,_,h,_=>by simp[a1j]at h
 |.arr _ _ _ _,_,_,h,_=>by simp[a1j]at h
 |.fn _ _,_,_,h,_=>by simp[a1j]at h
 |.map _,_,_,h,_=>by simp[a1j]at h
theorem dR:∀(ds:List D)(n:Nat)(l:List D),aM ds=true->X8 (aK g n) ds=some l->l=ds
 |[],n,l,_,e=>by grind[X8]
 |d::ds,n,l,h,e=>by
  simp only[aM,Fo]at h;simp only[X8]at e;split at e
  .rename_i x l1 h1 h2
   simp at e;rw[<- e,c5m d n x h.1 h1,dR ds n l1 h.2 h2]
  .simp at e
end
theorem b3P(h:∀b ob,Φ b=some ob->w.heap[b]?=some ob):bc (λ_=>none) Φ k4.empty.get w :=
 ⟨h,λid ob e=>by simp at e,λid jl b o z o' z' h1 _ _ _=>by simp at h1⟩
theorem b3v(b:Nat):¬a5G (λ_=>none) k4.empty.get b:=by
 rintro⟨id,o,z,h,_⟩;simp at h
theorem b3N{P:Program}{C:a1s}(hC:a4J P C){m:a16}{f:FuncId}{iX args:List D}{s s':k4}(iP:a3c C m (.fn f iX) args s=some (d,s')) :
 s.next<=s'.next/\(∃fn,P.funcs[f]?=some fn/\fn.body.isSome=true/\(fn.name=="runtime.NumGoroutine")=false) /\
 ∀μ Φ w vs,bc μ Φ s.get w->RL μ Φ (args++iX) vs->a6a μ s.next s'.next ->
  Calls P f vs.toArray w λe w'=>∃v μ' Φ',e=.returned v/\bc μ' Φ' s'.get w'/\R μ' Φ' d v/\bQ μ Φ s.get w μ' Φ' s'.get w' s.next s'.next:=by
 cases m with
 |raw=>exact hC f (args++iX) s d s' iP
 |gu =>
  simp only[a3c]at iP;split at iP
  .simp at iP
  .rename_i mD hargs
   split at iP
   .simp at iP
   .rename_i r s1 hcall
    split at iP
    .simp at iP
    .rename_i r' hr'
     split at iP
     .rename_i hcond
      simp at iP;obtain⟨rfl,rfl⟩:=iP;obtain⟨h0,h1,h2⟩:=hC f mD k4.empty r s1 hcall;refine⟨sm _,h1,?_⟩;intro μ Φ w vs hs hr _;have qE:∀(Φc:W9)(μ1:Mu)(Φ1:W9)(w':World),bQ (λ_=>none) Φc k4.empty.get w μ1 Φ1 s1.get w' k4.empty.next s1.next->∀b,b<w.heap.size->w'.heap[b]?=w.heap[b]? :=
       λΦc μ1 Φ1 w' he b hb=>he.aG b hb (b3v b)
      by_cases qF:a2B r'=true
      ·-- all of memory is frozen for the call
       let Φc:W9:=λb=>w.heap[b]?
       have hle:Φ.le Φc:=λb ob e=>hs.dZ b ob e
       have ha:=b6R hs hle (λ_ _=>rfl) 20 hargs hr;refine(h2 (λ_=>none) Φc w vs (b3P λ_ _ e=>e) (aU _ _ ha) (λ_ _ _=>rfl)).mono ?_;rintro e w' ⟨v,μ1,Φ1,rfl,kR,ji,he⟩;have hk:=qE Φc μ1 Φ1 w' he;let Φ2:W9:=λb=>w'.heap[b]?
       have hp:=b33 (Φ2:=Φ2) kR (λb ob e=>kR.dZ b ob e) (λ_ _=>rfl) 20 _ _ _ hr' ji;refine⟨v,μ,Φ,rfl,hs.world (λb ob e=>hk b (hs.eF e)) (λb ho=>hk b (hs.cU ho)),a9J _ _ (c00 _ _ qF hp),?_⟩;exact⟨Mu.le_refl _,λ_ _=>rfl,W9.le_refl _,he.os,he.tape,he.output,he.size,λb hb _=>hk b hb,λ_ _ h=>.inl h,λ_ h=>.inl h⟩
      ·-- the arguments are plain
       have vm:aM (args++iX)=true:=by grind
       have heq:=dR _ _ _ vm hargs;subst heq;have ha:=eH _ _ vm hr;refine(h2 (λ_=>none) Φ w vs (b3P λb ob e=>hs.dZ b ob e) (aU _ _ ha) (λ_ _ _=>rfl)).mono ?_;rintro e w' ⟨v,μ1,Φ1,rfl,kR,ji,he⟩;have hk:=qE Φ μ1 Φ1 w' he;let Φ2:W9:=λb=>if b<w.heap.size then Φ b else w'.heap[b]?
       have Cg:Φ.le Φ2:=λb ob e=>by
        have:=hs.eF e;grind
       have yZ:Φ1.le Φ2:=λb ob e=>by
        rcases he.cr b ob e with h|h
        .exact Cg b ob h
        .simp only[Φ2,Nat.not_lt.2 h,FF]
         exact kR.dZ b ob e
       have lF:∀b,a5G μ1 s1.get b->Φ2 b=w'.heap[b]?:=λb ho=>by
        rcases he.bN b ho with h|h
        .exact absurd h (b3v b)
        grind
       have hp:=b33 (Φ2:=Φ2) kR yZ lF 20 _ _ _ hr' ji;have mj:=hs.world (λb ob e=>hk b (hs.eF e)) (λb ho=>hk b (hs.cU ho));refine⟨v,μ,Φ2,rfl,⟨?_,?_,hs.inj⟩,a9J _ _ hp,?_⟩
       .intro b ob e
        by_cases hb:b<w.heap.size
        .simp only[Φ2,hb,FG]at e
         exact mj.dZ b ob e
        grind
       .intro id ob e
        obtain⟨b,o,z,e1,e2,e3⟩:=mj.obj id ob e;refine⟨b,o,z,e1,b17 (Mu.le_refl _) Cg e2,?_⟩;have hb:=hs.cU ⟨id,o,z,by rw[e];simp,e1⟩;grind
       .exact⟨Mu.le_refl _,λ_ _=>rfl,Cg,he.os,he.tape,he.output,he.size,λb hb _=>hk b hb,λb ob e=>by
         grind,λ_ h=>.inl h⟩
     .simp at iP
end Go.V
namespace Go.V
variable{P:Program}{μ:Mu}{Φ:W9}{a:Act}{d:D}{w:World}{K:Act->World->Prop}{Q:Exit->Act->World->Prop}{o:Oper}
theorem b7F(h:a4X P μ Φ (execOp a.eval o) w d)(hK:∀v,R μ Φ d v->K (a.put o.dst v) w):o.wp P a w K Q:=by
 obtain⟨v,h1,h2⟩:=h;unfold Oper.wp;rw[h1];exact hK v h2
variable{md:FuncId->a16}{env:k6}
theorem P_wp{po:gw}(iN:a33 P md o=some (.p po))(he:a2h μ Φ env a)(iP:bY env po=some d)(hK:∀v,R μ Φ d v->K (a.put o.dst v) w):o.wp P a w K Q :=
 b7F (c8l iN he iP w) hK
variable{g:a0v}
theorem R_wp{ro:ROp}(iN:a33 P md o=some (.r ro))(he:a2h μ Φ env a)(hs:bc μ Φ g w)(iP:dE env g ro=some d)(hK:∀v,R μ Φ d v->K (a.put o.dst v) w):o.wp P a w K Q :=
 b7F (c8G iN he hs iP) hK
variable{vo:Z7}{id:Nat}
theorem A_wp{ao:AOp}(iN:a33 P md o=some (.a ao))(he:a2h μ Φ env a)(hs:bc μ Φ g w){m:a0n}(iP:eO env ao=some (vo,m))(jb:μ id=none)(hg:g id=none)
 (hK:∀v w' μ',bc μ' Φ (bU g id (some vo)) w'->R μ' Φ (m.at id) v->bQ μ Φ g w μ' Φ (bU g id (some vo)) w' id (id+1)->K (a.put o.dst v) w'):o.wp P a w K Q:=by
 obtain⟨v,ob,z,h1,h2,h3⟩:=c4L iN he iP w id jb;obtain⟨h4,h5⟩:=hs.push jb hg h2;unfold Oper.wp;rw[h1];exact hK v _ _ h4 h3 h5
theorem W_wp{n:Nat}{ad x:Z1}(iN:a33 P md o=some (.w n ad x))(he:a2h μ Φ env a)(hs:bc μ Φ g w)(iP:ei env g n ad x=some (id,vo))(k:Nat)
 (hK:∀w',bc μ Φ (bU g id (some vo)) w'->bQ μ Φ g w μ Φ (bU g id (some vo)) w' k k->K (a.put o.dst undef) w'):o.wp P a w K Q:=by
 obtain⟨w',b,o',z,vo0,h1,h2,h3,h4,h5⟩:=c5y iN he hs iP;obtain⟨h6,h7⟩:=hs.write h2 h3 h4 h5 k;unfold Oper.wp;rw[h1];exact hK w' h6 h7
theorem a9S:R μ Φ (.aT []) undef:=by
 simp only[R];exact⟨[],rfl,by simp[RL]⟩
theorem M_wp{C:a1s}(hC:a4J P C){mo:MOp}(iN:a33 P md o=some (.m mo))(he:a2h μ Φ env a){s s':k4}(hs:bc μ Φ s.get w)(iP:cO C env s mo=some (d,s')) :
 s.next<=s'.next/\(a6a μ s.next s'.next->(∀v w' μ' Φ',bc μ' Φ' s'.get w'->R μ' Φ' d v->bQ μ Φ s.get w μ' Φ' s'.get w' s.next s'.next->K (a.put o.dst v) w')->o.wp P a w K Q):=by
 obtain⟨dst,op,type,pos,after,guard⟩:=o;cases op<;>simp only[a33]at iN
 case mapUpdate t m k v =>
  split at iN
  .rename_i m' k' v' kt et hm hk hv hu
   split at iN
   .rename_i ks kx
    cases iN;simp only[cO]at iP;split at iP
    .rename_i id hx
     split at iP
     .rename_i dg hg
      split at iP
      .rename_i kl jJ
       split at iP
       .rename_i jN
        obtain⟨kZ,xN,e⟩:=map_some iP;cases e;refine⟨sm _,λ_ hK=>?_⟩;have rm:=a0D he hm;have rk:=a0D he hk;have rv:=a0D he hv;rw[hx]at rm;unfold b0K at jJ;split at jJ
        .rename_i k0 oQ
         split at jJ
         .rename_i hlen
          simp at jJ;subst jJ;rw[oQ]at rk;obtain⟨w',h1,h2,h3⟩:=c7F (P:=P) hu kx hs hg rm rk hlen.1 rv xN;unfold Oper.wp;have:(execOp a.eval ⟨dst,.mapUpdate t m k v,type,pos,after,guard⟩).run P w=.ok .skip w':=by simp_all[execOp]
          rw[this];exact hK undef w' μ Φ h2 a9S h3
         .simp at jJ
        .simp at jJ
       .simp at iP
      .simp at iP
     .simp at iP
    .simp at iP
   .simp at iN
  .simp at iN
 case call c =>
  obtain⟨callee,args,types⟩:=c;cases callee with
  |invoke _ _=>simp at iN
  |value f =>
   simp only at iN;split at iN
   .rename_i f' l hf hl
    cases iN;simp only[cO]at iP;have rf:=a0D he hf;have rl:=b0F he hl;generalize hfd:env.ev f'=fd at iP rf;cases fd<;>try(simp[a3c]at iP;done)
    rename_i ff iX;simp only[R]at rf;obtain⟨cv,ef,xU⟩:=rf;obtain⟨h0,⟨fn,nu,hbody,lQ⟩,h2⟩:=b3N hC iP;refine⟨h0,λiW hK=>?_⟩;have hcalls:=h2 μ Φ w _ hs (a9U rl xU) iW;unfold Oper.wp;have hbn:fn.body.isNone=false:=by cases hb:fn.body<;>simp[hb]at hbody⊢
    have jj:(execOp a.eval ⟨dst,.call ⟨.value f,args,types⟩,type,pos,after,guard⟩).run P w=.ok (.enter ff ((args.toList.map a.eval)++cv).toArray) w:=by
     simp only[execOp,resolve,Gj,ef,Deferred.ofValue,Ha,FM,invoke,callFunc,Kd,nu,lQ,hbn,Fw,FF];congr 2
     apply IZ;simp
    rw[jj];refine hcalls.mono ?_;grind
   .simp at iN
  |builtin b =>
   simp only[a8B]at iN;split at iN
   .grind
   .split at iN<;>simp at iN
   .grind
   .rename_i s0 x0 hargs
    split at iN
    .rename_i sy xy t u hsy um htypes
     split at iN
     .rename_i e e' mO hel'
      split at iN
      .rename_i i zl hi hz
       split at iN
       .simp at iN
       .rename_i xH
        cases iN;simp only[cO]at iP;have wy:P.underlying t=some (.slice e):=by grind[a49]
        have htu':P.underlying u=some (.slice e'):=by grind[a49]
        have ha:args=#[s0,x0]:=by grind
        have zK:types=#[t,u]:=by grind
        have jL:s.next<=s'.next/\(s'.next<=s.next+1):=by
         unfold a0e at iP;split at iP
         .split at iP
          .split at iP
           .split at iP
            .grind
            .split at iP
             .cases iP;simp
             .simp at iP
           .split at iP
            .split at iP
             .split at iP
              .grind
              .split at iP
               .cases iP;simp
               .simp at iP
             .simp at iP
            .simp at iP
           .grind
           .simp at iP
          .simp at iP
         .simp at iP
        refine⟨jL.1,λiW hK=>?_⟩;subst ha zK;have main:∀hf:s'.next=s.next\/μ s.next=none,(⟨dst,.call ⟨.builtin .append,#[s0,x0],#[t,u]⟩,type,pos,after,guard⟩:Oper).wp P a w K Q:=by
         intro hf;obtain⟨v,w',μ',h1,h2,h3,h4⟩:=c6y (P:=P) wy htu' hi hz oJ oJ hs hf (a0D he hsy) (a0D he um) iP type;unfold Oper.wp;have jj:(execOp a.eval ⟨dst,.call ⟨.builtin .append,#[s0,x0],#[t,u]⟩,type,pos,after,guard⟩).run P w=.ok (.value v) w':=by grind[execOp,resolve,Sem.run_bind,Sem.run_pure,Result.andThen_ok,invoke,builtin]
         rw[jj];exact hK v w' μ' Φ h2 h4 h3
        by_cases wj:s'.next=s.next
        .grind
        .exact main (.inr (iW s.next (sm _) oJ))
      .simp at iN
     .simp at iN
    .simp at iN
   .rename_i s0 x0 hargs
    split at iN
    .rename_i sy xy t u hsy um htypes
     split at iN
     .rename_i e mO
      split at iN
      .rename_i i hi
       split at iN
       .rename_i lB
        cases iN;simp only[cO]at iP;have wy:P.underlying t=some (.slice e):=by
         unfold a49 at mO;split at mO
         .rename_i hu;simp at mO;rw[hu,mO]
         .simp at mO
        have ha:args=#[s0,x0]:=by rw[<- IN (xs:=args),hargs]
        have zK:types=#[t,u]:=by rw[<- IN (xs:=types),htypes]
        subst ha zK;have jL:s'.next=s.next:=by
         unfold a60 at iP;split at iP
         .split at iP
          .split at iP
           .cases iP;rfl
           .simp at iP
          .simp at iP
         .simp at iP
        refine⟨oJ,λiW hK=>?_⟩;obtain⟨v,w',h1,h2,h3,h4⟩:=c4j (P:=P) (u:=u) wy hi lB hs (a0D he hsy) (a0D he um) iP type;unfold Oper.wp;have jj:(execOp a.eval ⟨dst,.call ⟨.builtin .copy,#[s0,x0],#[t,u]⟩,type,pos,after,guard⟩).run P w=.ok (.value v) w':=by
         simp only[execOp,resolve,Gj,Ha,FM,invoke,builtin];have:(#[s0,x0].map a.eval)=#[a.eval s0,a.eval x0]:=sJ;rw[this,h1];rfl
        rw[jj];refine hK v w' μ Φ h2 h4 ?_;grind
       .simp at iN
      .simp at iN
     .simp at iN
    .simp at iN
   .simp at iN
 case move x=>simp_all
 case assign x=>simp_all
 case nilCheck x=>simp_all
 case binOp op t x y yt=>simp_all
 case unOp op t x=>simp_all
 case extract x i=>simp_all
 case alloc t=>simp_all
 case box t x=>simp_all
 case pick c x y=>split at iN<;>simp at iN
 case load t x=>split at iN<;>simp at iN
 case store t x y=>grind
 case fieldAddr t x f =>
  grind
 case field t x f =>
  grind
 case indexAddr t x f =>
  grind
 case build t parts =>
  grind
 case buildSlice t len parts =>
  grind
 case makeSlice t l c =>
  grind
 case lookup t m k ok =>
  grind
 case index t x f =>
  grind
 case convert src dst' x =>
  grind
 case slice t x lo hi mx =>
  grind
 case makeFunc fn first iX =>
  cases fn<;>simp only at iN<;>try(cases iN;done)
  simp_all
 case makeMap t r=>cases r<;>simp at iN
 all_goals(cases iN;done)
end Go.V
namespace Go.V
def c0x(ops:Array Oper):Option (Nat×Bool)->Option (Option (Nat×Bool))
 |none=>some none
 |some (j,want)=>match(ops[j]?).bind (·.dst)with
  |some t=>some (some (t,want))
  |none=>none
def a8W(N:Nat):Option Nat->Bool
 |some t=>decide (t<N)
 |none=>true
def a3Y(P:Program)(md:FuncId->a16)(N:Nat)(ops:Array Oper)(o:Oper):Option a0f :=
 match a33 P md o,c0x ops o.guard with
 |some v,some g=>if a8W N o.dst then some ⟨o.dst,v,g⟩else none
 |_,_=>none
structure gA(N:Nat)(μ:Mu)(Φ:W9)(env:k6)(a:Act):Prop where
 env:a2h μ Φ env a
 size:N<=a.tmps.size
 defers:a.defers=[]
theorem gA.mono{N:Nat}{μ μ':Mu}{Φ Φ':W9}{env:k6}{a:Act}(hm:μ.le μ')(h:Φ.le Φ')(e:gA N μ Φ env a):gA N μ' Φ' env a:=⟨e.env.mono hm h,e.size,e.defers⟩
theorem b4R{a:Act}{t:Nat}{v:Value}(t':Nat)(h:t<a.tmps.size):(a.put (some t) v).tmps.getD t' undef=if t'=t then v else a.tmps.getD t' undef:=by
 simp only[Act.put,Gm];grind
theorem gA.put{N:Nat}{μ:Mu}{Φ:W9}{env:k6}{a:Act}(h:gA N μ Φ env a){dst:Option Nat}(hd:a8W N dst=true){d:D}{v:Value}(hr:R μ Φ d v):gA N μ Φ (env.put dst d) (a.put dst v):=by
 cases dst with
 |none=>exact h
 |some t =>
  have ht:=Gq (by simpa[a8W]using hd) h.size;refine⟨λt'=>?_,?_,h.defers⟩
  .rw[b4R t' ht]
   simp only[k6.put,k6.get];by_cases e:t'=t
   .subst e;simp[hr]
   .have e2:¬t=t':=λx=>e x.symm
    simp only[e,e2,FF];exact h.env t'
  .simpa[Act.put]using h.size
theorem gA.aG{N:Nat}{μ:Mu}{Φ:W9}{env:k6}{a:Act}(h:gA N μ Φ env a)(vars:List Nat):gA N μ Φ (env.aG vars) a:=by
 refine⟨λt=>?_,h.size,h.defers⟩;have:∀l:List Nat,R μ Φ (k6.get (l.map λt=>(t,k6.get env t)) t) (a.tmps.getD t undef):=by
  intro l;induction l with
  |nil=>simp[k6.get,R]
  |cons x l ih =>
   simp only[FJ,k6.get];by_cases e:x=t
   .subst e;simp only[FG];exact h.env x
   grind
 exact this vars
variable{P:Program}{md:FuncId->a16}{N:Nat}{μ:Mu}{Φ:W9}{env:k6}{ops:Array Oper}{o:Oper}{vo:a0f}
theorem b1R{a:Act}(hc:a3Y P md N ops o=some vo)(he:a2h μ Φ env a){b:Bool}
 (h:a2v env vo.guard=some b):Region.wanted o (yielded ops a.tmps)=b:=by
 unfold a3Y at hc;split at hc
 .rename_i v g hv hg
  split at hc
  .simp at hc;subst hc
   simp only at h;unfold c0x at hg;split at hg
   .grind[a2v,Region.wanted]
   .rename_i j want hgd
    split at hg
    .rename_i t ht
     simp at hg;subst hg;have hr:=he t;simp only[a2v]at h;simp only[Region.wanted,hgd,yielded,ht,Option.bind_some];split at h
     .rename_i b' hb
      rw[hb]at hr;simp only[R,Gm]at hr;simp at h;subst h;grind[undef]
     .rename_i hb
      rw[hb]at hr;simp only[R,RL,Gm]at hr;grind
     .simp at h
    .simp at hg
  .simp at hc
 .simp at hc
theorem b8f(hc:a3Y P md N ops o=some vo):a33 P md o=some vo.op/\vo.dst=o.dst/\a8W N o.dst=true:=by
 unfold a3Y at hc;grind
variable{a:Act}{w:World}{K:Act->World->Prop}{Q:Exit->Act->World->Prop}
theorem op_wp{d:D}{C:a1s}(hC:a4J P C){vo:fV}(iN:a33 P md o=some vo)(he:a2h μ Φ env a){s s':k4}(hs:bc μ Φ s.get w)(iP:a0y C env s vo=some (d,s')) :
 s.next<=s'.next/\(a6a μ s.next s'.next->(∀v w' μ' Φ',bc μ' Φ' s'.get w'->R μ' Φ' d v->bQ μ Φ s.get w μ' Φ' s'.get w' s.next s'.next->K (a.put o.dst v) w')->o.wp P a w K Q):=by
 cases vo with
 |p po =>
  simp only[a0y]at iP;obtain⟨d',h1,e⟩:=map_some iP;cases e;exact⟨sm _,λ_ hK=>P_wp iN he h1 λv hv=>hK v w μ Φ hs hv (bQ.refl _ _ _ _ _)⟩
 |r ro =>
  simp only[a0y]at iP;obtain⟨d',h1,e⟩:=map_some iP;cases e;exact⟨sm _,λ_ hK=>R_wp iN he hs h1 λv hv=>hK v w μ Φ hs hv (bQ.refl _ _ _ _ _)⟩
 |a ao =>
  simp only[a0y]at iP;split at iP
  .rename_i ob m h1
   cases iP;refine⟨Hn _,λhf hK=>A_wp iN he hs h1 (hf s.next (sm _) (GD _)) (k4.get_none _ _ (sm _)) λv w' μ' h2 h3 h4=>?_⟩;have nu:=funext λj=>b8D s ob j
   exact hK v w' μ' Φ (by rw[nu];exact h2) h3 (by rw[nu];exact h4)
  .simp at iP
 |w n ad x =>
  simp only[a0y]at iP;split at iP
  .rename_i id ob h1
   cases iP;have jq:id<s.next:=by
    unfold ei at h1;split at h1
    .split at h1
     .simp_all[b0G]
     .simp at h1
    .simp at h1
   refine⟨sm _,λ_ hK=>W_wp iN he hs h1 s.next λw' h2 h3=>?_⟩;have nu:(s.set id (some ob)).get=bU s.get id (some ob):=funext λj=>b3T s id _ jq j
   exact hK undef w' μ Φ (by rw[nu];exact h2) a9S (by rw[nu];exact h3)
  .simp at iP
 |m mo=>exact M_wp hC iN he hs iP
theorem c2d(j:Tr):∀l:List Tr,a1D [] j l=true
 |[]=>rfl
 |i::l=>by simp[a1D,c2d j l]
def a70(N:Nat)(μ:Mu)(Φ:W9)(s:k4)(w:World)(iO:k6)(s':k4)(K:Act->World->Prop):Prop :=
 ∀a' w' μ' Φ',gA N μ' Φ' iO a'->bc μ' Φ' s'.get w'->bQ μ Φ s.get w μ' Φ' s'.get w' s.next s'.next->K a' w'
theorem a9t{C:a1s}(hC:a4J P C){ops:Array Oper}{af:List (Nat×Nat)}:∀{vl:List (Nat×a0f)}{tr:List Tr}{env iO:k6}{s s':k4},
 (∀x∈vl,∃o,a3Y P md N ops o=some x.2)->a1z C af vl tr env s=some (iO,s')->s.next<=s'.next
 |[],tr,env,iO,s,s',_,h=>by simp_all[a1z]
 |(i,o)::vl,tr,env,iO,s,s',hx,h=>by
  simp only[a1z]at h;split at h
  .simp at h
  .exact a9t hC (λx hm=>hx x (by simp[hm])) h
  .split at h
   .simp at h
   .rename_i d1 s1 h1
    split at h
    .have h2:=a9t hC (λx hm=>hx x (by simp[hm])) h
     obtain⟨o',Dc⟩:=hx (i,o) sJ;have h3:s.next<=s1.next:=by
      cases jU:o.op with
      |p po=>rw[jU]at h1;simp only[a0y]at h1;obtain⟨_,_,e⟩:=map_some h1;grind
      |r po=>rw[jU]at h1;simp only[a0y]at h1;obtain⟨_,_,e⟩:=map_some h1;grind
      |a ao=>rw[jU]at h1;simp only[a0y]at h1;split at h1<;>simp at h1;rw[<- h1.2];exact Hn _
      |w n ad x=>rw[jU]at h1;simp only[a0y]at h1;split at h1<;>simp at h1;rw[<- h1.2];exact sm _
      |m mo =>
       rw[jU]at h1;simp only[a0y]at h1;cases mo with
       |call md' f args =>
        simp only[cO]at h1;generalize env.ev f=fd at h1;cases fd<;>try(simp[a3c]at h1;done)
        exact(b3N hC h1).1
       |append sz bytes sx x =>
        simp only[cO,a0e]at h1;split at h1
        .split at h1
         .split at h1
          .split at h1
           .grind
           .split at h1
            .cases h1;exact Hn _
            .simp at h1
          .split at h1
           .split at h1
            .split at h1
             .grind
             .split at h1
              .cases h1;exact Hn _
              .simp at h1
            .simp at h1
           .simp at h1
          .grind
          .simp at h1
         .simp at h1
        .simp at h1
       |copy sx x =>
        simp only[cO,a60]at h1;split at h1
        .split at h1
         .split at h1
          .cases h1;exact sm _
          .simp at h1
         .simp at h1
        .simp at h1
       |du ks m k v =>
        simp only[cO]at h1;split at h1
        .split at h1
         .split at h1
          .split at h1
           .obtain⟨_,_,e⟩:=map_some h1;cases e;exact sm _
           .simp at h1
          .simp at h1
         .simp at h1
        .simp at h1
     omega
    .simp at h
theorem b4j{C:a1s}(hC:a4J P C){ops:Array Oper}:∀{l:List Oper}{vl:List (Nat×a0f)}{tr:List Tr}{env iO:k6}{s s':k4}{μ:Mu}{Φ:W9}{a:Act}{w:World},
 vl.length=l.length->(∀(j:Nat)(o:Oper)(x:Nat×a0f),l[j]?=some o->vl[j]?=some x->a3Y P md N ops o=some x.2)->a1z C [] vl tr env s=some (iO,s') ->
 gA N μ Φ env a->bc μ Φ s.get w->a6a μ s.next s'.next->a70 N μ Φ s w iO s' (λa w=>Q .normal a w)->wpList P ops Q l a w
 |[],vl,tr,env,iO,s,s',μ,Φ,a,w,hl,_,h,hf,hs,_,hQ=>by
  cases vl with
  |cons _ _=>simp at hl
  |nil =>
   simp[a1z]at h;obtain⟨rfl,rfl⟩:=h;exact hQ a w μ Φ hf hs (bQ.refl _ _ _ _ _)
 |o::l,vl,tr,env,iO,s,s',μ,Φ,a,w,hl,hx,h,hf,hs,iW,hQ=>by
  cases vl with
  |nil=>simp at hl
  |cons v vl =>
   obtain⟨i,vo⟩:=v;have hc:=hx 0 o (i,vo) sJ sJ;obtain⟨iN,qc,hdok⟩:=b8f hc;have lM:=λj o x h1 h2=>hx (j+1) o x (sU h1) (sU h2)
   have kE:vl.length=l.length:=sU hl;have iR:∀x∈vl,∃o,a3Y P md N ops o=some x.2:=by grind[List.getElem?_of_mem]
   simp only[a1z]at h;split at h
   .simp at h
   .rename_i hw
    have mX:=b1R hc hf.env hw;unfold wpList;rw[mX];simp only[Fw,FF];have xC:=hf.put hdok (d:=.aT []) (v:=undef) a9S;rw[<- qc]at xC;rw[<- qc];exact b4j hC kE lM h xC hs iW hQ
   .rename_i hw
    have mX:=b1R hc hf.env hw;split at h
    .simp at h
    .rename_i d1 s1 h1
     simp only[c2d,FG]at h;have hn:=a9t (P:=P) (md:=md) (N:=N) hC iR h;unfold wpList;rw[mX];simp only[FG];left;obtain⟨pP,Ag⟩:=op_wp (K:=wpList P ops Q l) (Q:=Q) hC iN hf.env hs h1;refine Ag (λid h2 h3=>iW id h2 oJ) ?_;intro v w' μ' Φ' mj hr he;have xC:=(hf.mono he.mu he.dZ).put hdok hr;rw[<- qc]at xC;rw[<- qc];refine b4j hC kE lM h xC mj ?_ ?_
     .intro id h2 h3
      rw[he.bZ id (.inr h2)];exact iW id oJ h3
     .intro a2 w2 μ2 Φ2 g1 g2 g3
      exact hQ a2 w2 μ2 Φ2 g1 g2 (he.trans pP hn g3)
end Go.V
namespace Go.V
def Z1.slot:Z1->List Nat
 |.tmp t=>[t]
 |.aL _=>[]
def a89:List Z1->List Nat
 |[]=>[]
 |x::r=>x.slot++a89 r
def b2F:Option Z1->List Nat
 |some x=>x.slot
 |none=>[]
def a8L:List (Nat×Nat×Z1)->List Nat
 |[]=>[]
 |(_,_,x)::r=>x.slot++a8L r
def b2R:List (Nat×Z1)->List Nat
 |[]=>[]
 |(_,x)::r=>x.slot++b2R r
def gw.br:gw->List Nat
 |.mov x=>x.slot
 |.pick c a b=>c.slot++(a.slot++b.slot)
 |.aV x=>x.slot
 |.bin _ x y=>x.slot++y.slot
 |.eqB _ x y=>x.slot++y.slot
 |.eD _ _ x y=>x.slot++y.slot
 |.dY _ _ x=>x.slot
 |.un _ x=>x.slot
 |.conv _ x=>x.slot
 |.build _ ps=>a8L ps
 |.cT _ x=>x.slot
 |.field _ _ x=>x.slot
 |.az _ x i=>x.slot++i.slot
 |.idxS x i=>x.slot++i.slot
 |.idxV _ _ _ x i=>x.slot++i.slot
 |.len _ x=>x.slot
 |.bM _ x xs=>x.slot++a89 xs
 |.slice _ x lo hi=>x.slot++(b2F lo++b2F hi)
 |.extract x _=>x.slot
 |.fL _ xs=>a89 xs
def ROp.br:ROp->List Nat
 |.load _ x=>x.slot
 |.lookup _ _ _ m k=>m.slot++k.slot
 |.b2s x=>x.slot
def AOp.br:AOp->List Nat
 |.alloc _=>[]
 |.box x=>x.slot
 |.aD _ _ _ ps=>b2R ps
 |.aH _ _ _ l c=>l.slot++c.slot
 |.fM=>[]
def MOp.br:MOp->List Nat
 |.call _ f xs=>f.slot++a89 xs
 |.append _ _ s x=>s.slot++x.slot
 |.du _ m k v=>m.slot++(k.slot++v.slot)
 |.copy s x=>s.slot++x.slot
def fV.br:fV->List Nat
 |.p o=>o.br
 |.r o=>o.br
 |.a o=>o.br
 |.w _ ad x=>ad.slot++x.slot
 |.m o=>o.br
def b4M:Option (Nat×Bool)->List Nat
 |some (t,_)=>[t]
 |none=>[]
def a0f.looks(o:a0f):List Nat:=b4M o.guard++o.op.br
variable{env iO:k6}
def a31(env iO:k6)(l:List Nat):Prop:=∀t∈l,env.get t=iO.get t
theorem a31.left{l m:List Nat}(h:a31 env iO (l++m)):a31 env iO l:=λt ht=>h t (by simp[ht])
theorem a31.right{l m:List Nat}(h:a31 env iO (l++m)):a31 env iO m:=λt ht=>h t (by simp[ht])
theorem a13{x:Z1}(h:a31 env iO x.slot):env.ev x=iO.ev x:=by
 cases x with
 |tmp t=>exact h t (by simp[Z1.slot])
 |aL d=>rfl
theorem b25:∀{xs:List Z1},a31 env iO (a89 xs)->env.aR xs=iO.aR xs
 |[],_=>rfl
 |x::xs,h=>by simp only[k6.aR,a89]at h⊢;rw[a13 h.left,b25 h.right]
theorem c1t{x:Option Z1}(h:a31 env iO (b2F x)):env.evO x=iO.evO x:=by
 cases x with
 |none=>rfl
 |some x=>grind[k6.evO,b2F,a13]
theorem b4I:∀{ps:List (Nat×Nat×Z1)}(cs:List D),a31 env iO (a8L ps)->a5z env cs ps=a5z iO cs ps
 |[],cs,_=>rfl
 |(off,size,x)::ps,cs,h=>by
  simp only[a5z,a8L]at h⊢;rw[a13 h.left];split
  .exact b4I _ h.right
  .rfl
theorem b7k(sz:Nat):∀ps:List (Nat×Z1),a8L (ps.map λ(i,x)=>(i*sz,sz,x))=b2R ps
 |[]=>rfl
 |(i,x)::ps=>by simp only[FJ,a8L,b2R,b7k sz ps]
theorem evP_c{po:gw}(h:a31 env iO po.br):bY env po=bY iO po:=by
 cases po<;>simp only[gw.br]at h<;>simp only[bY]<;>first
  |rw[a13 h]
  |rw[a13 h.left,a13 h.right.left,a13 h.right.right]
  |rw[a13 h.left,a13 h.right]
  |rw[b4I _ h]
  |rw[a13 h.left,b25 h.right]
  |rw[a13 h.left,c1t h.right.left,c1t h.right.right]
  |rw[b25 h]
variable{ro:ROp}{g:a0v}
theorem evR_c(h:a31 env iO ro.br):dE env g ro=dE iO g ro:=by
 cases ro<;>simp only[ROp.br]at h<;>simp only[dE]<;>first
  |rw[a13 h.left,a13 h.right]
  |rw[a13 h]
theorem evA_c{ao:AOp}(h:a31 env iO ao.br):eO env ao=eO iO ao:=by
 cases ao with
 |alloc z=>rfl
 |box x=>simp only[eO];rw[a13 h]
 |aD sz len z ps=>simp only[eO];rw[b4I _ (by rw[b7k];exact h)]
 |aH sz b z l c=>simp only[eO];simp only[AOp.br]at h;rw[a13 h.left,a13 h.right]
 |fM=>rfl
variable{n:Nat}
theorem evW_c{ad x:Z1}(h:a31 env iO (ad.slot++x.slot)):ei env g n ad x=ei iO g n ad x:=by
 simp only[ei];rw[a13 h.left,a13 h.right]
theorem evM_c{C:a1s}{s:k4}{mo:MOp}(h:a31 env iO mo.br):cO C env s mo=cO C iO s mo:=by
 cases mo with
 |call m f xs=>simp only[cO];simp only[MOp.br]at h;rw[a13 h.left,b25 h.right]
 |append sz b s x=>simp only[cO];simp only[MOp.br]at h;rw[a13 h.left,a13 h.right]
 |du ks m k v=>simp only[cO];simp only[MOp.br]at h;rw[a13 h.left,a13 h.right.left,a13 h.right.right]
 |copy s x=>simp only[cO];simp only[MOp.br]at h;rw[a13 h.left,a13 h.right]
theorem b7Z{g:Option (Nat×Bool)}(h:a31 env iO (b4M g)):a2v env g=a2v iO g:=by
 cases g with
 |none=>rfl
 |some p =>
  obtain⟨t,b⟩:=p;simp only[a2v];rw[h t (by simp[b4M])]
theorem c5C{g':a0v}(h:∀id,gT env ro=some id->g id=g' id):dE env g ro=dE env g' ro:=by
 cases ro with
 |load n x =>
  simp only[dE,gT]at h⊢;grind
 |lookup ks z ok m k =>
  simp only[dE,gT]at h⊢;grind
 |b2s x =>
  simp only[dE,gT]at h⊢;have:a1u g (env.ev x)=a1u g' (env.ev x):=by
   generalize env.ev x=d at h⊢;cases d<;>simp only[a1u];rw[h _ rfl]
  rw[this]
theorem c4X{ad x:Z1}{g':a0v}(h:∀id,rdW env ad=some id->g id=g' id):ei env g n ad x=ei env g' n ad x:=by
 simp only[ei,rdW]at h⊢;grind
def dT:fV->Bool|.p _=>true|_=>false
def gX:fV->Bool|.r _=>true|_=>false
def iv:fV->Bool|.a _=>true|_=>false
def gY:fV->Bool|.w _ _ _=>true|_=>false
def gB:fV->Bool|.m _=>true|_=>false
def a5a(af:List (Nat×Nat))(i j:Nat)(x y:fV):Bool :=
 dT x||dT y||(gX x&&gX y)||(iv y)||(!(gB x&&gB y)&&!(gB x&&gY y)&&!(gY x&&gB y)&&!(iv x&&gB y)&&af.contains (i,j))
def b2I(d:Option Nat)(l:List Nat):Bool :=
 match d with
 |some t=>!l.contains t
 |none=>true
def a8k(x y:a0f):Bool :=
 b2I x.dst y.looks&&b2I y.dst x.looks&&(match x.dst,y.dst with|some t,some u=>t != u|_,_=>true)
def cV(acc:List Nat):List Edge->Nat
 |[]=>0
 |e::es=>(if Region.binds .any e then 2^e.on ||| acc.getD e.on 0 else 0) ||| cV acc es
def a58:List Oper->List Nat->List Nat
 |[],acc=>acc
 |o::r,acc=>a58 r (acc++[cV acc o.after.toList])
def a7d(ms:List Nat)(af:List (Nat×Nat))(x y:Nat×a0f):Bool :=
 !(ms.getD x.1 0).testBit y.1&&((ms.getD y.1 0).testBit x.1||(a8k x.2 y.2&&a5a af x.1 y.1 x.2.op y.2.op))
def b1E(f:Nat×a0f->Nat×a0f->Bool):List (Nat×a0f)->Bool
 |[]=>true
 |x::r=>r.all (f x)&&b1E f r
def a7o:List Oper->Nat->Bool
 |[],_=>true
 |o::r,i=>o.after.toList.all (λe=>!Region.binds .any e||decide (e.on<i))&&a7o r (i+1)
def b2Q(ops:Array Oper)(l:List (Nat×a0f))(af:List (Nat×Nat)):Bool :=
 decide (l.map (·.1)).Nodup&&decide (l.length=ops.size)&&l.all (λx=>decide (x.1<ops.size))&&a7o ops.toList 0&&(List.range ops.size).all (λi=>(l.map (·.1)).contains i)&&b1E (a7d (a58 ops.toList []) af) l
def On(L:Array Bool)(i:Nat):Prop:=L.getD i false=true
def Shut(ops:Array Oper)(L:Array Bool):Prop:=∀(j:Nat)(o:Oper),ops[j]?=some o->On L j->∀e∈o.after.toList,Region.binds .any e=true->On L e.on
theorem c0P{acc:List Nat}:∀{es:List Edge}{i:Nat},(cV acc es).testBit i=true->∃e∈es,Region.binds .any e=true/\(e.on=i\/(acc.getD e.on 0).testBit i=true)
 |[],i,h=>by simp[cV]at h
 |e::es,i,h=>by
  simp only[cV,IA,Gg]at h;rcases h with h|h
  .grind
  .obtain⟨e',h1,h2,h3⟩:=c0P h
   grind
theorem c1X:∀(l:List Oper)(acc:List Nat),∃ms,a58 l acc=acc++ms/\ms.length=l.length/\∀(j:Nat)(o:Oper),l[j]?=some o->ms[j]?=some (cV (acc++ms.take j) o.after.toList)
 |[],acc=>⟨[],by simp[a58],rfl,sJ⟩
 |o::l,acc=>by
  obtain⟨ms,h1,h2,h3⟩:=c1X l (acc++[cV acc o.after.toList]);refine⟨cV acc o.after.toList::ms,by simp[a58,h1],by simp[h2],?_⟩;intro j o' hj;cases j with
  |zero=>grind
  |succ j =>
   grind
theorem b9Q:∀{l:List Oper}{i:Nat},a7o l i=true->∀(j:Nat)(o:Oper),l[j]?=some o->∀e∈o.after.toList,Region.binds .any e=true->e.on<i+j
 |[],i,_,j,o,h=>by simp at h
 |o::l,i,hb,j,o',hj=>by
  simp only[a7o,Fo,FZ]at hb;intro e he tF;cases j with
  |zero =>
   grind
  |succ j =>
   have:=b9Q hb.2 j o' (sU hj) e he tF;omega
theorem b61{ops:Array Oper}{L:Array Bool}(hb:a7o ops.toList 0=true)(hs:Shut ops L):∀(j:Nat)(o:Oper),ops[j]?=some o->(∀e∈o.after.toList,Region.binds .any e=true->On L e.on) ->
 ∀i,((a58 ops.toList []).getD j 0).testBit i=true->On L i:=by
 obtain⟨ms,h1,h2,h3⟩:=c1X ops.toList [];simp only[Fv]at h1;intro j;induction j using Nat.strongRecOn with
 |_ j ih =>
  intro o ho hpre i hi;have hm:=h3 j o (sU ho);rw[h1]at hi;simp only[Fv]at hm;rw[Hv,hm,Ho]at hi;obtain⟨e,he,tF,rW⟩:=c0P hi;have Aw:=hpre e he tF;rcases rW with rfl|mW
  .exact Aw
  .have jq:e.on<j:=by grind
   rw[Hv,List.getElem?_take_of_lt jq,<- Hv]at mW;have hjs:=(Ie.1 ho).1;have DC:ops[e.on]?=some ops[e.on]:=sJ;refine ih e.on jq _ DC (hs e.on _ DC Aw) i ?_;rw[h1];exact mW
structure Rec where
 i:Nat
 o:a0f
 env:k6
 s:k4
 d:D
 s':k4
 rd:Option Nat
def Rec.ok(C:a1s)(r:Rec):Prop :=
 (a2v r.env r.o.guard=some false/\r.d=.aT []/\r.s'=r.s/\r.rd=none) \/
 (a2v r.env r.o.guard=some true/\a0y C r.env r.s r.o.op=some (r.d,r.s')/\r.rd=a1O r.env r.o.op)
def a3B(C:a1s):k6->k4->List Rec->k6->k4->Prop
 |env,s,[],iO,s'=>iO=env/\s'=s
 |env,s,r::rs,iO,s'=>r.env=env/\r.s=s/\r.ok C/\a3B C (r.env.put r.o.dst r.d) r.s' rs iO s'
def a6E(af:List (Nat×Nat))(p q:Rec):Prop:=af.contains (p.i,q.i)=true->a2s q.s q.s' p.rd=true/\a2s p.s p.s' q.rd=true
theorem b74(s:k4)(rd:Option Nat):a2s s s rd=true:=by
 cases rd with
 |none=>rfl
 |some id=>exact b1i _
theorem c1E{af:List (Nat×Nat)}{j:Tr}:∀{l:List Tr},a1D af j l=true->∀i∈l,af.contains (i.idx,j.idx)=true->a2s j.pre j.post i.rd=true/\a2s i.pre i.post j.rd=true
 |[],_,i,hi=>by simp at hi
 |t::l,h,i,hi=>by
  simp only[a1D,Fo]at h;rcases Fi.1 hi with rfl|hi
  .grind
  .exact c1E h.2 i hi
theorem b6g{C:a1s}{af:List (Nat×Nat)}(jt:af.isEmpty=false):∀{l:List (Nat×a0f)}{tr:List Tr}{env iO:k6}{s s':k4},a1z C af l tr env s=some (iO,s') ->
 ∃rs:List Rec,rs.map (λr=>(r.i,r.o))=l/\a3B C env s rs iO s'/\rs.Pairwise (a6E af) /\
  ∀t∈tr,∀r∈rs,af.contains (t.idx,r.i)=true->a2s r.s r.s' t.rd=true/\a2s t.pre t.post r.rd=true
 |[],tr,env,iO,s,s',h=>by
  simp[a1z]at h;exact⟨[],rfl,⟨h.1.symm,h.2.symm⟩,.nil,sJ⟩
 |(i,o)::l,tr,env,iO,s,s',h=>by
  simp only[a1z]at h;split at h
  .simp at h
  .rename_i hw
   obtain⟨rs,h1,h2,h3,h4⟩:=b6g jt h;refine⟨⟨i,o,env,s,.aT [],s,none⟩::rs,by simp[h1],⟨rfl,rfl,.inl ⟨hw,rfl,rfl,rfl⟩,h2⟩,?_,?_⟩
   .refine Hc.2 ⟨?_,h3⟩
    intro q _ _;exact⟨rfl,b74 _ _⟩
   .intro t ht r hr hp
    rcases Fi.1 hr with rfl|hr
    .exact⟨b74 _ _,rfl⟩
    .grind
  .rename_i hw
   split at h
   .simp at h
   .rename_i d1 s1 h1
    split at h
    .rename_i rV
     simp only[jt,Fw,FF]at h;obtain⟨rs,g1,g2,g3,g4⟩:=b6g jt h;refine⟨⟨i,o,env,s,d1,s1,a1O env o.op⟩::rs,by simp[g1],⟨rfl,rfl,.inr ⟨hw,h1,rfl⟩,g2⟩,?_,?_⟩
     .refine Hc.2 ⟨?_,g3⟩
      intro q hq hp;simp_all
     .intro t ht r hr hp
      rcases Fi.1 hr with rfl|hr
      .exact c1E rV t ht hp
      grind
    .simp at h
theorem b6j{C:a1s}{af:List (Nat×Nat)}(jt:af.isEmpty=true):∀{l:List (Nat×a0f)}{tr:List Tr}{env iO:k6}{s s':k4},a1z C af l tr env s=some (iO,s') ->
 ∃rs:List Rec,rs.map (λr=>(r.i,r.o))=l/\a3B C env s rs iO s'/\rs.Pairwise (a6E af)
 |[],tr,env,iO,s,s',h=>by
  simp[a1z]at h;exact⟨[],rfl,⟨h.1.symm,h.2.symm⟩,.nil⟩
 |(i,o)::l,tr,env,iO,s,s',h=>by
  have jZ:∀p q,a6E af p q:=by
   intro p q hp;have:af=[]:=sU jt;rw[this]at hp;simp at hp
  simp only[a1z]at h;split at h
  .simp at h
  .rename_i hw
   obtain⟨rs,h1,h2,h3⟩:=b6j jt h;exact⟨⟨i,o,env,s,.aT [],s,none⟩::rs,by simp[h1],⟨rfl,rfl,.inl ⟨hw,rfl,rfl,rfl⟩,h2⟩,Hc.2 ⟨λq _=>jZ _ q,h3⟩⟩
  .rename_i hw
   split at h
   .simp at h
   .rename_i d1 s1 h1
    split at h
    .obtain⟨rs,g1,g2,g3⟩:=b6j jt h
     exact⟨⟨i,o,env,s,d1,s1,a1O env o.op⟩::rs,by simp[g1],⟨rfl,rfl,.inr ⟨hw,h1,rfl⟩,g2⟩,Hc.2 ⟨λq _=>jZ _ q,g3⟩⟩
    .simp at h
section
open Classical
variable{V:Type}
noncomputable def cur(pre post:Rec->V)(L:Array Bool):V->List Rec->V
 |v,[]=>v
 |v,r::rs=>cur pre post L (if On L r.i/\pre r≠post r then post r else v) rs
def a4k(pre post:Rec->V):V->List Rec->V->Prop
 |v,[],v'=>v'=v
 |v,r::rs,v'=>pre r=v/\a4k pre post (post r) rs v'
theorem b2p{pre post:Rec->V}{L:Array Bool}:∀{rs:List Rec}(v:V),(∀q∈rs,On L q.i->pre q=post q)->cur pre post L v rs=v
 |[],v,_=>rfl
 |r::rs,v,h=>by
  simp only[cur];have:¬(On L r.i/\pre r≠post r):=λ⟨h1,h2⟩=>h2 (h r sJ h1)
  rw[so this];exact b2p v λq hq=>h q (by simp[hq])
theorem a80{pre post:Rec->V}{L:Array Bool}{r:Rec}{B:List Rec}{v':V}:∀{A:List Rec}{v:V},a4k pre post v (A++r::B) v'->(∀q∈A,¬On L q.i->pre q=post q)->(¬On L r.i\/pre r=post r)->(∀q∈B,On L q.i->pre q=post q) ->
 cur pre post L v (A++r::B)=pre r
 |[],v,hc,_,hr,hB=>by
  simp only[Fv,a4k]at hc;simp only[Fv,cur];have:¬(On L r.i/\pre r≠post r):=by
   rintro⟨h1,h2⟩;rcases hr with h|h
   .exact h h1
   .exact h2 h
  simp_all[b2p]
 |q::A,v,hc,hA,hr,hB=>by
  simp only[Fx,a4k]at hc;simp only[Fx,cur];have hq:(if On L q.i/\pre q≠post q then post q else v)=post q:=by grind
  rw[hq];exact a80 hc.2 (λp hp=>hA p (by simp[hp])) hr hB
theorem a9P{pre post:Rec->V}{L:Array Bool}{r:Rec}{B:List Rec}{v':V}:∀{A:List Rec}{v:V},a4k pre post v (A++r::B) v'->(∀q∈A,¬On L q.i->pre q=post q)->On L r.i->(∀q∈B,On L q.i->pre q=post q) ->
 cur pre post L v (A++r::B)=post r
 |[],v,hc,_,hr,hB=>by
  simp_all[a4k,cur,b2p]
 |q::A,v,hc,hA,hr,hB=>by
  simp only[Fx,a4k]at hc;simp only[Fx,cur];have hq:(if On L q.i/\pre q≠post q then post q else v)=post q:=by grind
  rw[hq];exact a9P hc.2 (λp hp=>hA p (by simp[hp])) hr hB
theorem b70{pre post:Rec->V}{L L':Array Bool}:∀{rs:List Rec}(v:V),(∀q∈rs,(On L' q.i↔On L q.i)\/pre q=post q)->cur pre post L' v rs=cur pre post L v rs
 |[],v,_=>rfl
 |r::rs,v,h=>by
  simp only[cur];have:(if On L' r.i/\pre r≠post r then post r else v)=(if On L r.i/\pre r≠post r then post r else v):=by grind
  rw[this];exact b70 _ λq hq=>h q (by simp[hq])
theorem b6A{pre post:Rec->V}{L:Array Bool}{v':V}:∀{rs:List Rec}{v:V},a4k pre post v rs v'->(∀q∈rs,On L q.i)->cur pre post L v rs=v'
 |[],v,hc,_=>by grind[a4k,cur]
 |r::rs,v,hc,h=>by
  simp only[a4k]at hc;simp only[cur];have:(if On L r.i/\pre r≠post r then post r else v)=post r:=by grind
  rw[this];exact b6A hc.2 λq hq=>h q (by simp[hq])
theorem b6L{pre post:Rec->V}{L:Array Bool}{rs:List Rec}(v:V)(h:∀q∈rs,¬On L q.i):cur pre post L v rs=v:=b2p v λq hq h1=>absurd h1 (h q hq)
end
end Go.V
namespace Go.V
variable{μ:Mu}{Φ:W9}{g:a0v}{w:World}
theorem bQ.gC{μ1 μ2:Mu}{Φ1 Φ2:W9}{g1 g2:a0v}{w1 w2:World}{n0 n1:Nat}
 (h:bQ μ Φ g w μ1 Φ1 g1 w1 n0 n1)(k:bQ μ1 Φ1 g1 w1 μ2 Φ2 g2 w2 n0 n1):bQ μ Φ g w μ2 Φ2 g2 w2 n0 n1 where
 mu:=Mu.le_trans h.mu k.mu
 bZ id jb:=by rw[k.bZ id jb,h.bZ id jb]
 dZ:=W9.le_trans h.dZ k.dZ
 os:=k.os.trans h.os
 tape:=k.tape.trans h.tape
 output:=k.output.trans h.output
 size:=FE h.size k.size
 aG b hb hn:=by
  rw[k.aG b (Gq hb h.size) (λho=>by rcases h.bN b ho with h1|h1;exact hn h1;omega),h.aG b hb hn]
 cr b ob hb:=by
  rcases k.cr b ob hb with h1|h1
  .exact h.cr b ob h1
  .exact .inr (FE h.size h1)
 bN b hb:=by
  rcases k.bN b hb with h1|h1
  .exact h.bN b h1
  .exact .inr (FE h.size h1)
theorem bc.join{μ':Mu}{Φ':W9}{g1 g2 G:a0v}{w':World}{n0 n1:Nat}(h1:bc μ Φ g w)(h2:bc μ' Φ' g2 w')(jo:∀id ob,g1 id=some ob->g id=some ob)(he:bQ μ Φ g1 w μ' Φ' g2 w' n0 n1)
 (hG:∀id ob,G id=some ob->g2 id=some ob\/(g id=some ob/\g1 id=none)):bc μ' Φ' G w'/\bQ μ Φ g w μ' Φ' G w' n0 n1:=by
 have jt:∀id,g1 id≠none->g id≠none:=by
  intro id h3 h4;cases hx:g1 id with
  |none=>exact h3 hx
  |some ob=>grind
 have ext:∀id ob,g id=some ob->g1 id=none->∃b o z,μ id=some (b,o,z)/\a3e μ Φ w b o z ob/\Φ b=none/\¬a5G μ g1 b/\b<w.heap.size:=by
  intro id ob hg xe;obtain⟨b,o,z,e1,e2,e3⟩:=h1.obj id ob hg;refine⟨b,o,z,e1,e2,e3,?_,e2.lt⟩;rintro⟨oO,o1,z1,q1,q2⟩;have:=h1.inj oO id _ _ _ _ _ (jt oO q1) (by rw[hg];simp) q2 e1;subst this;exact q1 xe
 have cls:∀id,G id≠none->(g2 id≠none)\/(∃ob,g id=some ob/\g1 id=none):=by
  intro id jb;cases hx:G id with
  |none=>exact absurd hx jb
  |some ob =>
   grind
 refine⟨⟨h2.dZ,?_,?_⟩,⟨he.mu,he.bZ,he.dZ,he.os,he.tape,he.output,he.size,?_,he.cr,?_⟩⟩
 .intro id ob hx
  rcases hG id ob hx with h|⟨h,hn⟩
  .exact h2.obj id ob h
  .obtain⟨b,o,z,e1,e2,e3,e4,e5⟩:=ext id ob h hn
   refine⟨b,o,z,he.mu _ _ e1,b01 (he.aG b e5 e4) (b17 he.mu he.dZ e2),?_⟩;cases hp:Φ' b with
   |none=>rfl
   |some BI =>
    rcases he.cr b BI hp with q|q
    .grind
    .omega
 .have mixed:∀i i' b o z o' z',g2 i≠none->(∃ob,g i'=some ob/\g1 i'=none)->μ' i=some (b,o,z)->μ' i'=some (b,o',z')->False:=by
   rintro i i' b o z o' z' q1 ⟨ob,q2,q3⟩ q4 q5;obtain⟨b2,o2,z2,e1,_,_,e4,e5⟩:=ext i' ob q2 q3;have:=he.mu _ _ e1;rw[q5]at this;cases this;rcases he.bN b ⟨i,o,z,q1,q4⟩with q|q
   .exact e4 q
   .omega
  intro i i' b o z o' z' q1 q2 q3 q4;rcases cls i q1 with a1|a1
  .rcases cls i' q2 with a2|a2
   .exact h2.inj i i' _ _ _ _ _ a1 a2 q3 q4
   grind
  .rcases cls i' q2 with a2|a2
   .grind
   .obtain⟨ob,a3,a4⟩:=a1
    obtain⟨BI,a5,a6⟩:=a2;obtain⟨b1,o1,z1,e1,_⟩:=ext i ob a3 a4;obtain⟨b2,o2,z2,e2,_⟩:=ext i' BI a5 a6;have f1:=he.mu _ _ e1;have f2:=he.mu _ _ e2;rw[q3]at f1;rw[q4]at f2;cases f1;cases f2;exact h1.inj i i' _ _ _ _ _ (by rw[a3];simp) (by rw[a5];simp) e1 e2
 .intro b hb hn
  refine he.aG b hb ?_;rintro⟨id,o,z,q1,q2⟩;exact hn ⟨id,o,z,jt id q1,q2⟩
 .rintro b ⟨id,o,z,q1,q2⟩
  rcases cls id q1 with a1|⟨ob,a1,a2⟩
  .rcases he.bN b ⟨id,o,z,a1,q2⟩with⟨i1,o1,z1,c1,c2⟩|q
   .exact .inl ⟨i1,o1,z1,jt i1 c1,c2⟩
   .exact .inr q
  .obtain⟨b1,o1,z1,e1,_⟩:=ext id ob a1 a2
   have f1:=he.mu _ _ e1;rw[q2]at f1;cases f1;exact .inl ⟨id,o,z,by rw[a1];simp,e1⟩
def b0n(t:Nat)(r:Rec):D:=r.env.get t
def a82(t:Nat)(r:Rec):D:=(r.env.put r.o.dst r.d).get t
def a1U(id:Nat)(r:Rec):Option Z7:=r.s.get id
def a19(id:Nat)(r:Rec):Option Z7:=r.s'.get id
theorem b1G{C:a1s}(t:Nat):∀{rs:List Rec}{env iO:k6}{s s':k4},a3B C env s rs iO s'->a4k (b0n t) (a82 t) (env.get t) rs (iO.get t)
 |[],env,iO,s,s',h=>by grind[a3B,a4k]
 |r::rs,env,iO,s,s',h=>by
  simp only[a3B]at h;simp only[a4k];refine⟨by grind[b0n],b1G t h.2.2.2⟩
theorem a6Q{C:a1s}(id:Nat):∀{rs:List Rec}{env iO:k6}{s s':k4},a3B C env s rs iO s'->a4k (a1U id) (a19 id) (s.get id) rs (s'.get id)
 |[],env,iO,s,s',h=>by grind[a3B,a4k]
 |r::rs,env,iO,s,s',h=>by
  simp only[a3B]at h;simp only[a4k];refine⟨by grind[a1U],a6Q id h.2.2.2⟩
variable{t:Nat}{r:Rec}
theorem b0g(h:r.o.dst≠some t):b0n t r=a82 t r:=by
 unfold b0n a82;cases hd:r.o.dst with
 |none=>rfl
 |some u =>
  grind[k6.put,k6.get]
theorem c8f(h:r.o.dst=some t):a82 t r=r.d:=by
 grind[a82,k6.put,k6.get]
variable{P:Program}{C:a1s}{env:k6}{s:k4}
theorem c8V(hC:a4J P C){s':k4}{d:D}{vo:fV}(h1:a0y C env s vo=some (d,s')):s.next<=s'.next:=by
 cases vo with
 |p po=>simp only[a0y]at h1;obtain⟨_,_,e⟩:=map_some h1;grind
 |r po=>simp only[a0y]at h1;obtain⟨_,_,e⟩:=map_some h1;grind
 |a ao=>simp only[a0y]at h1;split at h1<;>simp at h1;rw[<- h1.2];exact Hn _
 |w n ad x=>simp only[a0y]at h1;split at h1<;>simp at h1;rw[<- h1.2];exact sm _
 |m mo =>
  simp only[a0y]at h1;cases mo with
  |call md' f args =>
   simp only[cO]at h1;generalize env.ev f=fd at h1;cases fd<;>try(simp[a3c]at h1;done)
   exact(b3N hC h1).1
  |append sz bytes sx x =>
   simp only[cO,a0e]at h1;split at h1
   .split at h1
    .split at h1
     .split at h1
      .grind
      .split at h1
       .cases h1;exact Hn _
       .simp at h1
     .split at h1
      .split at h1
       .split at h1
        .grind
        .split at h1
         .cases h1;exact Hn _
         .simp at h1
       .simp at h1
      .simp at h1
     .grind
     .simp at h1
    .simp at h1
   .simp at h1
  |copy sx x =>
   simp only[cO,a60]at h1;split at h1
   .split at h1
    .split at h1
     .cases h1;exact sm _
     .simp at h1
    .simp at h1
   .simp at h1
  |du ks m k v =>
   simp only[cO]at h1;split at h1
   .split at h1
    .split at h1
     .split at h1
      .obtain⟨_,_,e⟩:=map_some h1;cases e;exact sm _
      .simp at h1
     .simp at h1
    .simp at h1
   .simp at h1
theorem b3y(hC:a4J P C)(h:r.ok C):r.s.next<=r.s'.next:=by
 rcases h with⟨_,_,h,_⟩|⟨_,h,_⟩
 .grind
 .exact c8V hC h
theorem a90(hC:a4J P C):∀{rs:List Rec}{env iO:k6}{s s':k4},a3B C env s rs iO s'->s.next<=s'.next/\∀q∈rs,s.next<=q.s.next/\q.s'.next<=s'.next/\q.ok C
 |[],env,iO,s,s',h=>by grind[a3B]
 |r::rs,env,iO,s,s',h=>by
  simp only[a3B]at h;obtain⟨h1,h2,h3,h4⟩:=h;obtain⟨g1,g2⟩:=a90 hC h4;have g3:=b3y hC h3;grind
theorem b9z(hC:a4J P C){B:List Rec}{r:Rec}:∀{A:List Rec}{env iO:k6}{s s':k4},a3B C env s (A++r::B) iO s' ->
 r.ok C/\(∀q∈A,q.s'.next<=r.s.next)/\(∀q∈B,r.s'.next<=q.s.next)
 |[],env,iO,s,s',h=>by
  simp only[Fv,a3B]at h;exact⟨h.2.2.1,sJ,λq hq=>((a90 hC h.2.2.2).2 q hq).1⟩
 |p::A,env,iO,s,s',h=>by
  simp only[Fx,a3B]at h;obtain⟨g1,g2,g3⟩:=b9z hC h.2.2.2;refine⟨g1,λq hq=>?_,g3⟩;rcases Fi.1 hq with rfl|hq
  .exact((a90 hC h.2.2.2).2 r sJ).1
  .exact g2 q hq
theorem a5A(h:r.ok C)(hk:dT r.o.op=true\/gX r.o.op=true):r.s'=r.s:=by
 rcases h with⟨_,_,h,_⟩|⟨_,h,_⟩
 .exact h
 .cases jU:r.o.op<;>rw[jU]at h hk<;>simp[dT,gX]at hk<;>simp only[a0y]at h
  .obtain⟨_,_,e⟩:=map_some h;simp at e;exact e.2.symm
  .obtain⟨_,_,e⟩:=map_some h;simp at e;exact e.2.symm
theorem b1j(h:r.ok C)(hk:iv r.o.op=true)(id:Nat)(jb:id≠r.s.next):r.s'.get id=r.s.get id:=by
 rcases h with⟨_,_,h,_⟩|⟨_,h,_⟩
 .rw[h]
 .cases jU:r.o.op<;>rw[jU]at h hk<;>simp[iv]at hk
  simp only[a0y]at h;split at h
  .simp at h
   rw[<- h.2,k4.aO,so jb]
  .simp at h
theorem c7a(h:r.ok C)(hk:gY r.o.op=true)(id:Nat)(jb:r.rd≠some id):r.s'.get id=r.s.get id:=by
 rcases h with⟨_,_,h,_⟩|⟨_,h,nO⟩
 .rw[h]
 .cases jU:r.o.op<;>rw[jU]at h hk nO<;>simp[gY]at hk
  grind[a0y,k4.bp,rdW,ei,a1O]
noncomputable def a7N(jC:k6)(rs:List Rec)(L:Array Bool)(t:Nat):D:=cur (b0n t) (a82 t) L (jC.get t) rs
noncomputable def a3v(s0:k4)(rs:List Rec)(L:Array Bool):a0v:=λid=>cur (a1U id) (a19 id) L (s0.get id) rs
variable{N:Nat}
structure Inv(N:Nat)(μ0:Mu)(Φ0:W9)(w0:World)(jC:k6)(s0 sF:k4)(rs:List Rec)(L:Array Bool)(a:Act)(w:World)(μ:Mu)(Φ:W9):Prop where
 env:∀t,R μ Φ (a7N jC rs L t) (a.tmps.getD t undef)
 size:N<=a.tmps.size
 defers:a.defers=[]
 sim:bc μ Φ (a3v s0 rs L) w
 evo:bQ μ0 Φ0 s0.get w0 μ Φ (a3v s0 rs L) w s0.next sF.next
 fresh:∀r∈rs,¬On L r.i->a6a μ r.s.next r.s'.next
theorem b5f(env:k6):∀(l:List Nat)(t:Nat),t∈l->(env.aG l).get t=env.get t
 |[],t,h=>by simp at h
 |x::l,t,h=>by
  simp only[k6.aG,FJ,k6.get];by_cases e:x=t
  .subst e;simp
  .rcases Fi.1 h with h|h
   .omega
   .simp only[e,FF];exact b5f env l t h
theorem c1s(env:k6):∀(l:List Nat)(t:Nat),t∉l->(env.aG l).get t=.undef
 |[],t,_=>rfl
 |x::l,t,h=>by
  simp only[Fi,not_or]at h;simp only[k6.aG,FJ,k6.get];have:¬x=t:=λe=>h.1 e.symm
  simp only[this,FF];exact c1s env l t h.2
variable{L:Array Bool}
theorem b0Y{i j:Nat}(h:i<L.size):On (L.setIfInBounds i true) j↔(j=i\/On L j):=by
 unfold On;simp only[Gm];grind
theorem b66{f:Nat×a0f->Nat×a0f->Bool}:∀{l:List (Nat×a0f)},b1E f l=true->l.Pairwise (λx y=>f x y=true)
 |[],_=>.nil
 |x::l,h=>by
  simp only[b1E,Fo,FZ]at h;exact Hc.2 ⟨h.1,b66 h.2⟩
theorem c08{d:Option Nat}{l:List Nat}(h:b2I d l=true)(ht:t∈l):d≠some t:=by
 grind[b2I]
variable{id:Nat}
theorem c3S{ro:ROp}{d:D}(h:dE env g ro=some d)(hr:gT env ro=some id):g id≠none:=by
 intro hn;cases ro with
 |load n x =>
  grind[dE,gT]
 |lookup ks z ok m k =>
  grind[dE,gT]
 |b2s x =>
  grind[dE,gT,a1u]
theorem b8O(h:s.get id≠none):id<s.next:=by
 grind[k4.get]
theorem b1s{s':k4}(h:a2s s s' (some id)=true):s.get id=s'.get id:=c57 _ _ h
theorem c2H{md:FuncId->a16}{Q:Exit->Act->World->Prop}(hC:a4J P C){ops:Array Oper}{af:List (Nat×Nat)}{jC envF:k6}{s0 sF:k4}{rs:List Rec}(lX:a3B C jC s0 rs envF sF)
 (jZ:rs.Pairwise (a6E af))(jh:rs.Pairwise λx y=>a7d (a58 ops.toList []) af (x.i,x.o) (y.i,y.o)=true)(tG:(rs.map (·.i)).Nodup)(nK:a7o ops.toList 0=true)
 (pJ:∀r∈rs,∃o,ops[r.i]?=some o/\a3Y P md N ops o=some r.o)
 {μ0:Mu}{Φ0:W9}{w0:World}{a:Act}(hI:Inv N μ0 Φ0 w0 jC s0 sF rs L a w μ Φ)(lH:Shut ops L)(lB:L.size=ops.size)
 {r:Rec}(hr:r∈rs)(lz:¬On L r.i)(qj:∀o,ops[r.i]?=some o->∀e∈o.after.toList,Region.binds .any e=true->On L e.on) :
 wpOp P ops Q r.i (λa' w'=>∃μ' Φ',Inv N μ0 Φ0 w0 jC s0 sF rs (L.setIfInBounds r.i true) a' w' μ' Φ') a w:=by
 obtain⟨o,ho,zg⟩:=pJ r hr;obtain⟨iN,qc,hdok⟩:=b8f zg;have hi:r.i<L.size:=by grind
 obtain⟨A,B,hAB⟩:=List.append_of_mem hr;subst hAB;obtain⟨Ae,hnA,hnB⟩:=b9z hC lX;have hrn:=b3y hC Ae
 -- others than r
 have hneA:∀q∈A,q.i≠r.i:=by grind
 have hneB:∀q∈B,q.i≠r.i:=by grind
 have CA:∀q∈A,a7d (a58 ops.toList []) af (q.i,q.o) (r.i,r.o)=true/\a6E af q r:=λq hq =>
  ⟨(HD.1 jh).2.2 q hq r sJ,(HD.1 jZ).2.2 q hq r sJ⟩
 have CC:∀q∈B,a7d (a58 ops.toList []) af (r.i,r.o) (q.i,q.o)=true/\a6E af r q:=λq hq =>
  ⟨(Hc.1 (HD.1 jh).2.1).1 q hq,(Hc.1 (HD.1 jZ).2.1).1 q hq⟩
 have iR:=(a90 hC lX).2;have sX:∀q∈A,¬On L q.i->a8k q.o r.o=true/\a5a af q.i r.i q.o.op r.o.op=true/\a6E af q r:=by
  intro q hq ku;obtain⟨h1,h2⟩:=CA q hq;simp only[a7d,Fo,Gg]at h1;rcases h1.2 with h3|h3
  .grind[b61]
  .grind
 have qT:∀q∈B,On L q.i->a8k r.o q.o=true/\a5a af r.i q.i r.o.op q.o.op=true/\a6E af r q:=by
  intro q hq ku;obtain⟨h1,h2⟩:=CC q hq;simp only[a7d,Fo,Gg]at h1;rcases h1.2 with h3|h3
  .obtain⟨o2,tL,_⟩:=pJ q (by simp[hq])
   exact absurd (b61 nK lH q.i o2 tL (lH q.i o2 tL ku) r.i h3) lz
  .grind
 -- what r looks at is as it was written down
 have agreeE:∀t∈r.o.looks,a7N jC (A++r::B) L t=r.env.get t:=by
  intro t ht;refine a80 (b1G t lX) ?_ (.inl lz) ?_
  .intro q hq ku
   have:=(sX q hq ku).1;simp only[a8k,Fo]at this;grind[b0g,c08]
  .intro q hq ku
   have:=(qT q hq ku).1;simp only[a8k,Fo]at this;grind[b0g,c08]
 have qe:a2h μ Φ (r.env.aG r.o.looks) a:=by
  intro t;by_cases ht:t∈r.o.looks
  .rw[b5f _ _ _ ht,<- agreeE t ht]
   exact hI.env t
  .grind[c1s,R]
 have jS:a31 (r.env.aG r.o.looks) r.env r.o.looks:=λt ht=>b5f _ _ _ ht
 have sh:=jS.left;have jW:=jS.right
 -- the end of a step
 have kj:∀q∈A++r::B,q.i=r.i->q=r:=by grind
 have uB:∀q∈A,(On (L.setIfInBounds r.i true) q.i↔On L q.i):=λq hq=>by grind[b0Y]
 have ug:∀q∈B,(On (L.setIfInBounds r.i true) q.i↔On L q.i):=λq hq=>by grind[b0Y]
 have sK:On (L.setIfInBounds r.i true) r.i:=by rw[b0Y hi];exact .inl rfl
 have lR:∀{V:Type}(pre post:Rec->V)(v:V),pre r=post r->cur pre post (L.setIfInBounds r.i true) v (A++r::B)=cur pre post L v (A++r::B):=by
  intro V pre post v h;refine b70 v ?_;intro q hq;rcases Fm.1 hq with h'|h'
  .grind
  .grind
 have lu:∀v w' μ' Φ',R μ' Φ' r.d v->bc μ' Φ' (a3v s0 (A++r::B) (L.setIfInBounds r.i true)) w'->bQ μ Φ (a3v s0 (A++r::B) L) w μ' Φ' (a3v s0 (A++r::B) (L.setIfInBounds r.i true)) w' r.s.next r.s'.next ->
  Inv N μ0 Φ0 w0 jC s0 sF (A++r::B) (L.setIfInBounds r.i true) (a.put o.dst v) w' μ' Φ':=by
  intro v w' μ' Φ' hrv mj he;refine⟨?_,?_,?_,mj,?_,?_⟩
  .intro t
   by_cases tO:r.o.dst=some t
   .have h1:a7N jC (A++r::B) (L.setIfInBounds r.i true) t=r.d:=by
     rw[<- c8f tO];refine a9P (b1G t lX) ?_ sK ?_
     .intro q hq ku
      rw[uB q hq]at ku;have:=(sX q hq ku).1;simp only[a8k,Fo]at this;refine b0g λe=>?_
      have h3:=this.2;rw[e,tO]at h3;simp at h3
     .intro q hq ku
      rw[ug q hq]at ku;have:=(qT q hq ku).1;simp only[a8k,Fo]at this;refine b0g λe=>?_
      have h3:=this.2;rw[e,tO]at h3;simp at h3
    rw[h1];rw[qc]at tO;rw[tO]at hdok⊢;have jq:=Gq (by simpa[a8W]using hdok) hI.size;grind[b4R]
   .have h1:a7N jC (A++r::B) (L.setIfInBounds r.i true) t=a7N jC (A++r::B) L t:=lR _ _ _ (b0g tO)
    rw[h1];have h2:(a.put o.dst v).tmps.getD t undef=a.tmps.getD t undef:=by
     rw[qc]at tO;cases hd:o.dst with
     |none=>rfl
     |some u =>
      rw[hd]at hdok;have jq:u<a.tmps.size:=Gq (by grind[a8W]) hI.size;rw[b4R t jq,so (λe=>tO (by rw[hd,e]))]
    rw[h2];exact b1w he.mu he.dZ _ _ (hI.env t)
  .cases o.dst<;>simpa[Act.put]using hI.size
  .cases o.dst<;>simpa[Act.put]using hI.defers
  .have h1:=(iR r sJ).1
   have h2:=(iR r sJ).2.1;exact hI.evo.gC (he.widen h1 h2)
  .intro q hq ku
   have hqr:q.i≠r.i:=λe=>ku (by rw[e];exact sK)
   have hqL:¬On L q.i:=λh=>ku (by rw[b0Y hi];exact .inr h)
   intro id h1 h2;rw[he.bZ id]
   .exact hI.fresh q hq hqL id h1 h2
   grind
 have oN:r.s'=r.s->a3v s0 (A++r::B) (L.setIfInBounds r.i true)=a3v s0 (A++r::B) L:=by
  intro h;funext id
  exact lR _ _ _ (by grind[a1U,a19])
 unfold Go.wpOp;simp only[ho];rcases Ae with⟨hw,hd,mj,_⟩|⟨hw,jj,nO⟩
 ·-- passed over
  have mX:=b1R zg qe (by rw[b7Z sh];exact hw);rw[mX];simp only[Fw,FF];refine⟨μ,Φ,lu undef w μ Φ (by rw[hd];exact a9S) ?_ ?_⟩
  .rw[oN mj];exact hI.sim
  grind[bQ.refl]
 .have mX:=b1R zg qe (by rw[b7Z sh];exact hw)
  rw[mX];simp only[FG];left;cases jU:r.o.op with
  |p po =>
   rw[jU]at jj iN jW;simp only[a0y]at jj;obtain⟨d',h1,e⟩:=map_some jj;simp at e;refine P_wp iN qe (d:=r.d) (by rw[evP_c jW,h1,e.1]) λv hv=>⟨μ,Φ,lu v w μ Φ hv ?_ ?_⟩
   .rw[oN e.2.symm];exact hI.sim
   grind[bQ.refl]
  |r ro =>
   rw[jU]at jj iN jW nO;simp only[a0y]at jj;obtain⟨d',h1,e⟩:=map_some jj;simp at e;simp only[a1O]at nO;have hlook:dE r.env (a3v s0 (A++r::B) L) ro=dE r.env r.s.get ro:=by
    refine c5C λid jb=>?_
    have jt:=c3S h1 jb;have jq:=b8O jt;refine a80 (a6Q id lX) ?_ (.inl lz) ?_
    .intro q hq ku
     obtain⟨_,hm,oH⟩:=sX q hq ku;have jH:=(iR q (by simp[hq])).2.2;simp only[a1U,a19];simp only[a5a,jU,dT,gX,iv,gB,gY,Gg,Fo,HS,HR,Gs,Hb,HS]at hm;rcases hm with(hm|hm)|hm
     .rw[a5A jH (.inl hm)]
     .rw[a5A jH (.inr hm)]
     .exact b1s (by have:=(oH hm.2).2;rwa [nO,jb]at this)
    .intro q hq ku
     obtain⟨_,hm,oH⟩:=qT q hq ku;have jH:=(iR q (by simp[hq])).2.2;simp only[a1U,a19];simp only[a5a,jU,dT,gX,gB,gY,Gg,Fo,Gd,FY,Hb,HC]at hm;rcases hm with((hm|hm)|hm)|hm
     .rw[a5A jH (.inl hm)]
     .rw[a5A jH (.inr hm)]
     .exact(b1j jH hm id (by have:=hnB q hq;omega)).symm
     .exact b1s (by have:=(oH hm.2).1;rwa [nO,jb]at this)
   refine R_wp iN qe hI.sim (d:=r.d) (by rw[evR_c jW,hlook,h1,e.1]) λv hv=>⟨μ,Φ,lu v w μ Φ hv ?_ ?_⟩
   .rw[oN e.2.symm];exact hI.sim
   grind[bQ.refl]
  |a ao =>
   rw[jU]at jj iN jW;simp only[a0y]at jj;split at jj
   .rename_i ob m h1
    simp at jj;obtain⟨hd,mj⟩:=jj;have jL:r.s'.next=r.s.next+1:=by rw[<- mj];rfl
    have jT:r.s.get r.s.next=none:=k4.get_none _ _ (sm _);have jE:r.s'.get r.s.next=some ob:=by rw[<- mj,k4.aO];simp
    have cA:∀q∈A,¬On L q.i->a1U r.s.next q=a19 r.s.next q:=by
     intro q hq _;have h2:=hnA q hq;have h3:=b3y hC (iR q (by simp[hq])).2.2;simp only[a1U,a19];rw[k4.get_none _ _ oJ,k4.get_none _ _ oJ]
    have cB:∀q∈B,On L q.i->a1U r.s.next q=a19 r.s.next q:=by
     intro q hq ku;obtain⟨_,hm,oH⟩:=qT q hq ku;have jH:=(iR q (by simp[hq])).2.2;have h2:=hnB q hq;simp only[a1U,a19];simp only[a5a,jU,dT,gX,iv,gB,gY,Gg,Fo,Gd,FY,Hb,HC,HS]at hm;rcases hm with(hm|hm)|hm
     .rw[a5A jH (.inl hm)]
     .exact(b1j jH hm _ oJ).symm
     .have zn:=(oH hm.2).2
      have hrq:q.rd≠some r.s.next:=by
       intro e;rw[e]at zn;have:=b1s zn;rw[jT,jE]at this;cases this
      cases pn:q.o.op with
      |p po=>rw[a5A jH (.inl (by rw[pn];rfl))]
      |r po=>rw[a5A jH (.inr (by rw[pn];rfl))]
      |a ao=>exact(b1j jH (by rw[pn];rfl) _ oJ).symm
      |w n ad x=>exact(c7a jH (by rw[pn];rfl) _ hrq).symm
      |m mo=>rw[pn]at hm;simp at hm
    have hcur:a3v s0 (A++r::B) L r.s.next=none:=by
     have:=a80 (pre:=a1U r.s.next) (post:=a19 r.s.next) (L:=L) (a6Q r.s.next lX) cA (.inl lz) cB;exact this.trans jT
    have rZ:a3v s0 (A++r::B) (L.setIfInBounds r.i true)=bU (a3v s0 (A++r::B) L) r.s.next (some ob):=by
     funext j
     by_cases hj:j=r.s.next
     .subst hj
      have:=a9P (pre:=a1U r.s.next) (post:=a19 r.s.next) (L:=L.setIfInBounds r.i true) (a6Q r.s.next lX) (λq hq h=>cA q hq (by rwa [uB q hq]at h)) sK (λq hq h=>cB q hq (by rwa [ug q hq]at h));simp only[bU,FG];exact this.trans jE
     .simp only[bU,hj,FF]
      exact lR _ _ _ (by simp only[a1U,a19];rw[<- mj,k4.aO,so hj])
    refine A_wp iN qe hI.sim (by rw[evA_c jW,h1]) (hI.fresh r sJ lz r.s.next (sm _) oJ) hcur λv w' μ' g1 g2 g3=>⟨μ',Φ,lu v w' μ' Φ (by rw[<- hd];exact g2) ?_ ?_⟩
    .rw[rZ];exact g1
    grind
   .simp at jj
  |w n ad x =>
   rw[jU]at jj iN jW nO;simp only[a0y]at jj;split at jj
   .rename_i id ob h1
    simp at jj;obtain⟨hd,mj⟩:=jj;have hx:rdW r.env ad=some id/\r.s.get id≠none:=by
     unfold ei at h1;unfold rdW;split at h1
     .rename_i i2 off hx
      split at h1
      .rename_i hg
       simp only at h1;split at h1
       .simp at h1
        rw[<- h1.1];exact⟨rfl,by rw[hg];simp⟩
       .simp at h1
      .simp at h1
     .simp at h1
    simp only[a1O,hx.1]at nO;have jq:=b8O hx.2;have jE:r.s'.get id=some ob:=by rw[<- mj,k4.bp];simp[jq]
    have cA:∀q∈A,¬On L q.i->a1U id q=a19 id q:=by
     intro q hq ku;obtain⟨_,hm,oH⟩:=sX q hq ku;have jH:=(iR q (by simp[hq])).2.2;simp only[a1U,a19];simp only[a5a,jU,dT,gX,iv,gB,gY,Gg,Fo,Gs,HR,Hb,HS]at hm;rcases hm with hm|hm
     .rw[a5A jH (.inl hm)]
     .exact b1s (by have:=(oH hm.2).2;rwa [nO]at this)
    have cB:∀q∈B,On L q.i->a1U id q=a19 id q:=by
     intro q hq ku;obtain⟨_,hm,oH⟩:=qT q hq ku;have jH:=(iR q (by simp[hq])).2.2;have h2:=hnB q hq;simp only[a1U,a19];simp only[a5a,jU,dT,gX,iv,gB,gY,Gg,Fo,Gd,FY,Hb,HC,HS]at hm;rcases hm with(hm|hm)|hm
     .rw[a5A jH (.inl hm)]
     .exact(b1j jH hm _ oJ).symm
     .exact b1s (by have:=(oH hm.2).1;rwa [nO]at this)
    have hagree:a3v s0 (A++r::B) L id=r.s.get id:=a80 (pre:=a1U id) (post:=a19 id) (L:=L) (a6Q id lX) cA (.inl lz) cB;have rZ:a3v s0 (A++r::B) (L.setIfInBounds r.i true)=bU (a3v s0 (A++r::B) L) id (some ob):=by
     funext j
     by_cases hj:j=id
     .subst hj
      have:=a9P (pre:=a1U j) (post:=a19 j) (L:=L.setIfInBounds r.i true) (a6Q j lX) (λq hq h=>cA q hq (by rwa [uB q hq]at h)) sK (λq hq h=>cB q hq (by rwa [ug q hq]at h));simp only[bU,FG];exact this.trans jE
     .simp only[bU,hj,FF]
      exact lR _ _ _ (by simp only[a1U,a19];rw[<- mj,k4.bp];simp[hj])
    have jL:r.s'.next=r.s.next:=by rw[<- mj];rfl
    refine W_wp iN qe hI.sim (id:=id) (vo:=ob) ?_ r.s.next λw' g1 g2=>⟨μ,Φ,lu undef w' μ Φ (by rw[<- hd];exact a9S) ?_ ?_⟩
    .rw[evW_c jW,c4X (g':=r.s.get) (λi2 h2=>by rw[hx.1]at h2;cases h2;exact hagree),h1]
    .rw[rZ];exact g1
    grind
   .simp at jj
  |m mo =>
   rw[jU]at jj iN jW;simp only[a0y]at jj;have kA:∀q∈A,¬On L q.i->q.s'=q.s:=by
    intro q hq ku;obtain⟨_,hm,_⟩:=sX q hq ku;have jH:=(iR q (by simp[hq])).2.2;cases pn:q.o.op with
    |p po=>exact a5A jH (.inl (by rw[pn];rfl))
    |r po=>exact a5A jH (.inr (by rw[pn];rfl))
    |a ao=>rw[pn,jU]at hm;simp[a5a,dT,gX,iv,gB,gY]at hm
    |w n ad x=>rw[pn,jU]at hm;simp[a5a,dT,gX,iv,gB,gY]at hm
    |m mo=>rw[pn,jU]at hm;simp[a5a,dT,gX,iv,gB,gY]at hm
   have kB:∀q∈B,On L q.i->∀id,id≠q.s.next->q.s'.get id=q.s.get id:=by
    intro q hq ku id jb;obtain⟨_,hm,_⟩:=qT q hq ku;have jH:=(iR q (by simp[hq])).2.2;cases pn:q.o.op with
    |p po=>rw[a5A jH (.inl (by rw[pn];rfl))]
    |r po=>rw[a5A jH (.inr (by rw[pn];rfl))]
    |a ao=>exact b1j jH (by rw[pn];rfl) id jb
    |w n ad x=>rw[pn,jU]at hm;simp[a5a,dT,gX,iv,gB,gY]at hm
    |m mo=>rw[pn,jU]at hm;simp[a5a,dT,gX,iv,gB,gY]at hm
   have jo:∀id ob,r.s.get id=some ob->a3v s0 (A++r::B) L id=some ob:=by
    intro id ob hg;have jq:=b0G hg;have:=a80 (pre:=a1U id) (post:=a19 id) (L:=L) (a6Q id lX) (λq hq h=>by simp only[a1U,a19];rw[kA q hq h]) (.inl lz)
     (λq hq h=>by simp only[a1U,a19];exact(kB q hq h id (by have:=hnB q hq;omega)).symm)
    exact this.trans hg
   have kR:=hI.sim.gV jo;obtain⟨_,Ag⟩:=M_wp (K:=λa' w'=>∃μ' Φ',Inv N μ0 Φ0 w0 jC s0 sF (A++r::B) (L.setIfInBounds r.i true) a' w' μ' Φ') (Q:=Q) hC iN qe kR (by rw[evM_c jW];exact jj);refine Ag (hI.fresh r sJ lz) ?_;intro v w' μ' Φ' g1 g2 g3;have hj:=bc.join (G:=a3v s0 (A++r::B) (L.setIfInBounds r.i true)) hI.sim g1 jo g3 (by
    intro id ob hG;by_cases hex:∃q∈B,On L q.i/\id=q.s.next
    .obtain⟨q,hq,ku,jb⟩:=hex
     have h2:=hnB q hq;right;have e1:r.s.get id=none:=k4.get_none _ _ oJ;have e2:r.s'.get id=none:=k4.get_none _ _ oJ;refine⟨?_,e1⟩;rw[<- hG];exact(lR _ _ _ (by simp only[a1U,a19,e1,e2])).symm
    .left
     have:=a9P (pre:=a1U id) (post:=a19 id) (L:=L.setIfInBounds r.i true) (a6Q id lX) (λq hq h=>by simp only[a1U,a19];rw[kA q hq (by rwa [uB q hq]at h)]) sK
      (λq hq h=>by
       rw[ug q hq]at h;simp only[a1U,a19];exact(kB q hq h id (λe=>hex ⟨q,hq,h,e⟩)).symm)
     have hG':a3v s0 (A++r::B) (L.setIfInBounds r.i true) id=r.s'.get id:=this;rw[<- hG',hG])
   grind
end Go.V
namespace Go.V
def a9n(n:Nat)(L:Array Bool):Nat:=(List.range n).countP (λi=>!L.getD i false)
variable{n:Nat}{L:Array Bool}
theorem c6b{i:Nat}(hi:i<n)(hL:i<L.size)(lz:¬On L i):a9n n (L.setIfInBounds i true)+1=a9n n L:=by
 have h0:L.getD i false=false:=by grind[On]
 have key:∀l:List Nat,l.Nodup->(l.countP (λj=>!(L.setIfInBounds i true).getD j false))+(if i∈l then 1 else 0)=l.countP (λj=>!L.getD j false):=by
  intro l;induction l with
  |nil=>intro _;simp
  |cons x l ih =>
   intro hn;rw[Hf]at hn;have:=ih hn.2;rw[List.countP_cons,List.countP_cons];by_cases e:x=i
   .simp_all
   .have hx:(L.setIfInBounds i true).getD x false=L.getD x false:=by
     simp only[Gm];rw[Array.getElem?_setIfInBounds_ne (λh=>e h.symm)]
    grind
 have:=key (List.range n) List.nodup_range;simp only[FU,hi,FG]at this;exact this
theorem c6H(h:a9n n L=0):∀i,i<n->On L i:=by
 grind[a9n,List.countP_eq_zero,On]
variable{ops:Array Oper}
theorem c38(lB:L.size=ops.size)(nK:a7o ops.toList 0=true)(h:Region.ready .any ops L=[]):∀i,i<ops.size->On L i:=by
 intro i;induction i using Nat.strongRecOn with
 |_ i ih =>
  intro hi;apply Jh;intro lz;have kj:i∈Region.ready .any ops L:=by
   unfold Region.ready;rw[Gu];refine⟨FU.2 hi,?_⟩;have h0:L.getD i true=false:=by
    unfold On at lz;simp only[Gm]at lz⊢;have:i<L.size:=oJ;simp[this]at lz⊢;exact lz
   rw[h0];have ho:ops[i]?=some ops[i]:=by simp[hi]
   simp only[Hb,Gd,ho,He,Ho];rw[<- Array.all_toList,FZ];intro e he;by_cases hb:Region.binds .any e=true
   .have jq:=b9Q nK i ops[i] (by simp[hi]) e he hb
    have:=ih e.on oJ oJ;unfold On at this;simp[this]
   .simp at hb
    simp[hb]
  grind
variable{P:Program}{md:FuncId->a16}{N:Nat}{C:a1s}{Q:Exit->Act->World->Prop}{af:List (Nat×Nat)}
theorem c5f(hC:a4J P C){jC envF:k6}{s0 sF:k4}{rs:List Rec}(lX:a3B C jC s0 rs envF sF)
 (jZ:rs.Pairwise (a6E af))(jh:rs.Pairwise λx y=>a7d (a58 ops.toList []) af (x.i,x.o) (y.i,y.o)=true)(tG:(rs.map (·.i)).Nodup)(nK:a7o ops.toList 0=true)
 (pJ:∀r∈rs,∃o,ops[r.i]?=some o/\a3Y P md N ops o=some r.o)(xu:∀i,i<ops.size->∃r∈rs,r.i=i){μ0:Mu}{Φ0:W9}{w0:World}
 (hQ:a70 N μ0 Φ0 s0 w0 envF sF (λa w=>Q .normal a w)):∀(fuel:Nat)(L:Array Bool)(a:Act)(w:World)(μ:Mu)(Φ:W9),L.size=ops.size->Shut ops L->a9n ops.size L=fuel ->
 Inv N μ0 Φ0 w0 jC s0 sF rs L a w μ Φ->wpAny P .any ops Q fuel L a w:=by
 have xZ:∀(L:Array Bool)(a:Act)(w:World)(μ:Mu)(Φ:W9),(∀i,i<ops.size->On L i)->Inv N μ0 Φ0 w0 jC s0 sF rs L a w μ Φ->Q .normal a w:=by
  intro L a w μ Φ Aw hI;have zR:∀q∈rs,On L q.i:=λq hq=>by
   grind
  have hS:a3v s0 rs L=sF.get:=funext λid=>b6A (a6Q id lX) zR
  have hE:∀t,a7N jC rs L t=envF.get t:=λt=>b6A (b1G t lX) zR
  have h1:=hI.sim;have h2:=hI.evo;rw[hS]at h1 h2;exact hQ a w μ Φ ⟨λt=>by rw[<- hE t];exact hI.env t,hI.size,hI.defers⟩ h1 h2
 intro fuel;induction fuel with
 |zero =>
  intro L a w μ Φ lB lH hcnt hI;have Aw:=c6H hcnt;refine⟨?_,xZ L a w μ Φ Aw hI⟩;grind[Region.ready,List.filter_eq_nil_iff,On]
 |succ fuel ih =>
  intro L a w μ Φ lB lH hcnt hI;refine⟨λhr=>xZ L a w μ Φ (c38 lB nK hr) hI,?_⟩;intro i hi;unfold Region.ready at hi;rw[Gu]at hi;obtain⟨vq,sP⟩:=hi;have jq:=FU.1 vq;simp only[Fo]at sP;have lz:¬On L i:=by
   unfold On;have h3:=sP.1;have:i<L.size:=oJ;simp only[Gm]at h3⊢;simp[this]at h3⊢;exact h3
  have qj:∀o,ops[i]?=some o->∀e∈o.after.toList,Region.binds .any e=true->On L e.on:=by
   intro o ho e he hb;have h3:=sP.2;rw[ho]at h3;simp only[He,Ho]at h3;rw[<- Array.all_toList,FZ]at h3;have:=h3 e he;simp[hb]at this;unfold On;simpa using this
  obtain⟨r,hr,rfl⟩:=xu i jq;refine wpOp_mono ?_ (c2H (Q:=Q) hC lX jZ jh tG nK pJ hI lH lB hr lz qj);rintro a' w' ⟨μ',Φ',hI'⟩;refine ih _ _ _ μ' Φ' (sU lB) ?_ ?_ hI'
  .intro j o ho hj e he hb
   rw[b0Y oJ]at hj⊢;right;rcases hj with rfl|hj
   .exact qj o ho e he hb
   .exact lH j o ho hj e he hb
  grind[c6b]
theorem b6I(hC:a4J P C)(pq:P.follows .mixedOrders=true){l:List (Nat×a0f)}(jD:b2Q ops l af=true)
 (pJ:∀x∈l,∃o,ops[x.1]?=some o/\a3Y P md N ops o=some x.2){env iO:k6}{s s':k4}(jj:a1z C af l [] env s=some (iO,s'))
 {μ:Mu}{Φ:W9}{a:Act}{w:World}(hf:gA N μ Φ env a)(hs:bc μ Φ s.get w)(iW:a6a μ s.next s'.next)(hQ:a70 N μ Φ s w iO s' (λa w=>Q .normal a w))(id:Nat) :
 (Code.region id ops true).wp P Q a w:=by
 simp only[b2Q,Fo,Fy,FZ]at jD;obtain⟨⟨⟨⟨⟨h1,h2⟩,h3⟩,h4⟩,h5⟩,h6⟩:=jD;have htrace:∃rs:List Rec,rs.map (λr=>(r.i,r.o))=l/\a3B C env s rs iO s'/\rs.Pairwise (a6E af):=by
  cases hp:af.isEmpty with
  |true=>grind[b6j]
  |false =>
   grind[b6g]
 obtain⟨rs,g1,g2,g3⟩:=htrace;have jh:rs.Pairwise λx y=>a7d (a58 ops.toList []) af (x.i,x.o) (y.i,y.o)=true:=by grind[b66]
 have hmap:l.map (·.1)=rs.map (·.i):=by rw[<- g1];simp
 have tG:(rs.map (·.i)).Nodup:=by grind
 have hcomp':∀r∈rs,∃o,ops[r.i]?=some o/\a3Y P md N ops o=some r.o:=by grind[List.mem_map_of_mem]
 have xu:∀i,i<ops.size->∃r∈rs,r.i=i:=by simp_all
 refine wp_region_any pq ?_;have nW:∀i,¬On (Array.replicate ops.size false) i:=by
  intro i h;unfold On at h;simp only[Gm]at h;by_cases hi:i<ops.size
  .simp[hi]at h
  .grind
 have hQ':a70 N μ Φ s { w with drawn:=w.drawn+1 } iO s' (λa w=>Q .normal a w):=by
  intro a' w' μ' Φ' q1 q2 q3;refine hQ a' w' μ' Φ' q1 q2 ?_;exact⟨q3.mu,q3.bZ,q3.dZ,q3.os,q3.tape,q3.output,q3.size,q3.aG,q3.cr,q3.bN⟩
 refine c5f hC g2 g3 jh tG h4 hcomp' xu hQ' ops.size _ a _ μ Φ sJ ?_ ?_ ?_
 .intro j o _ hj
  exact absurd hj (nW j)
 .simp_all[a9n,On]
 .have hE:∀t,a7N env rs (Array.replicate ops.size false) t=env.get t:=λt=>b6L _ λq _=>nW q.i
  have hS:a3v s rs (Array.replicate ops.size false)=s.get:=funext λid=>b6L _ λq _=>nW q.i
  have hn:=a90 hC g2;refine⟨λt=>by rw[hE];exact hf.env t,hf.size,hf.defers,by rw[hS];exact hs.drew _,?_,?_⟩
  .rw[hS]
   exact(bQ.refl μ Φ s.get { w with drawn:=w.drawn+1 } s.next).widen (sm _) hn.1
  .intro r hr _ id q1 q2
   have:=hn.2 r hr;exact iW id oJ oJ
end Go.V
namespace Go.V
def b0D(P:Program)(md:FuncId->a16)(N:Nat)(ops:Array Oper):List Oper->Option (List a0f)
 |[]=>some []
 |o::r=>match a3Y P md N ops o,b0D P md N ops r with
  |some v,some l=>some (v::l)
  |_,_=>none
def a59:List a0f->Nat->List (Nat×a0f)
 |[],_=>[]
 |v::r,i=>(i,v)::a59 r (i+1)
def a8U(vs:List a0f):List Nat->Option (List (Nat×a0f))
 |[]=>some []
 |i::r=>match vs[i]?,a8U vs r with
  |some v,some l=>some ((i,v)::l)
  |_,_=>none
abbrev iw:=List (Nat×List Nat×List (Nat×Nat))
def iw.find:iw->Nat->Option (List Nat×List (Nat×Nat))
 |[],_=>none
 |(i,x)::r,id=>if i=id then some x else iw.find r id
def b3B(P:Program)(md:FuncId->a16)(N:Nat)(jM:iw)(id:Nat)(ops:Array Oper)(draw:Bool):Option b5V :=
 match b0D P md N ops ops.toList with
 |none=>none
 |some vs =>
  if draw then
   match jM.find id with
   |some (order,af)=>match a8U vs order with
    |some l=>if b2Q ops l af then some ⟨l,af,true⟩else none
    |none=>none
   |none=>if b2Q ops (a59 vs 0) []then some ⟨a59 vs 0,[],true⟩else none
  else some ⟨a59 vs 0,[],false⟩
def a6H(P:Program)(md:FuncId->a16)(N:Nat)(jM:iw):Code->Option a1w
 |.skip=>some .skip
 |.region id ops draw=>(b3B P md N jM id ops draw).map .region
 |.seq a b=>match a6H P md N jM a,a6H P md N jM b with
  |some x,some y=>some (.seq x y)
  |_,_=>none
 |.cond c x y=>match a0G c,a6H P md N jM x,a6H P md N jM y with
  |some c,some x,some y=>some (.cond c x y)
  |_,_,_=>none
 |.block id b=>(a6H P md N jM b).map (.block id)
 |.loop b=>(a6H P md N jM b).map .loop
 |.exit id=>some (.exit id)
 |.ret=>some .ret
 |_=>none
def b5N(P:Program):ResultVar->Option (Nat×Option (Option Nat))
 |.tmp t=>some (t,none)
 |.cell t ty=>(a7w P ty).map λn=>(t,some n)
def a9w(P:Program):List ResultVar->Option (List (Nat×Option (Option Nat)))
 |[]=>some []
 |x::r=>match b5N P x,a9w P r with
  |some y,some l=>some (y::l)
  |_,_=>none
def a62(P:Program)(md:FuncId->a16)(jM:iw)(vars:List Nat)(fn:Func):Option U4 :=
 match fn.body with
 |none=>none
 |some c=>match a6H P md fn.ntmps jM c,a9w P fn.results.toList with
  |some vc,some rs=>if fn.name=="runtime.NumGoroutine" then none else some ⟨vars,vc,rs⟩
  |_,_=>none
def a92(l:List Nat):FuncId->a16:=λg=>if l.contains g then .gu else .raw
def b0b(P:Program)(fs:FuncId->Option U4):Prop:=∀f vf,fs f=some vf->∃fn md jM,P.funcs[f]?=some fn/\a62 P md jM vf.vars fn=some vf
def b1J:a1G->Exit
 |.normal=>.normal
 |.exit id=>.exit id
 |.ret=>.ret
def b81(P:Program)(ex:List Nat->a1w->k6->k4->Option Out):Prop:=∀(md:FuncId->a16)(N:Nat)(jM:iw)(vars:List Nat)(code:Code)(vc:a1w)(env:k6)(s:k4)(e:a1G)(iO:k6)(s':k4),
 a6H P md N jM code=some vc->ex vars vc env s=some (e,iO,s')->s.next<=s'.next /\
 ∀(μ:Mu)(Φ:W9)(a:Act)(w:World)(Q:Exit->Act->World->Prop),gA N μ Φ env a->bc μ Φ s.get w->a6a μ s.next s'.next->a70 N μ Φ s w iO s' (Q (b1J e))->code.wp P Q a w
variable{P:Program}
theorem b9f{md:FuncId->a16}{N:Nat}{ops:Array Oper}:∀{l:List Oper}{vs:List a0f},b0D P md N ops l=some vs->vs.length=l.length/\∀(j:Nat)(o:Oper)(v:a0f),l[j]?=some o->vs[j]?=some v->a3Y P md N ops o=some v
 |[],vs,h=>by grind[b0D]
 |o::l,vs,h=>by
  simp only[b0D]at h;split at h
  .rename_i v l' h1 h2
   simp at h;subst h;obtain⟨g1,g2⟩:=b9f h2;grind
  .simp at h
theorem b2h:∀{vs:List a0f}{i:Nat},(a59 vs i).length=vs.length/\∀(j:Nat)(x:Nat×a0f),(a59 vs i)[j]?=some x->x.1=i+j/\vs[j]?=some x.2
 |[],i=>by simp[a59]
 |v::vs,i=>by
  obtain⟨g1,g2⟩:=@b2h vs (i+1);grind[a59]
theorem b7x{vs:List a0f}:∀{l:List Nat}{r:List (Nat×a0f)},a8U vs l=some r->∀x∈r,vs[x.1]?=some x.2
 |[],r,h,x,hx=>by grind[a8U]
 |i::l,r,h,x,hx=>by
  simp only[a8U]at h;split at h
  .rename_i v l' h1 h2
   simp at h;subst h;rcases Fi.1 hx with rfl|hx
   .exact h1
   .exact b7x h2 x hx
  .simp at h
variable{env:k6}{s':k4}
theorem c4a{C:a1s}(hC:a4J P C)(pq:P.follows .mixedOrders=true){md:FuncId->a16}{N:Nat}{jM:iw}{id:Nat}{ops:Array Oper}{draw:Bool}{r:b5V}(hc:b3B P md N jM id ops draw=some r)
 {iO:k6}{s:k4}(jj:a1z C r.af r.ops [] env s=some (iO,s')):s.next<=s'.next /\
 ∀(μ:Mu)(Φ:W9)(a:Act)(w:World)(Q:Exit->Act->World->Prop),gA N μ Φ env a->bc μ Φ s.get w->a6a μ s.next s'.next->a70 N μ Φ s w iO s' (Q .normal)->(Code.region id ops draw).wp P Q a w:=by
 unfold b3B at hc;split at hc
 .simp at hc
 .rename_i vs hvs
  obtain⟨g1,g2⟩:=b9f hvs;have wQ:∀x∈a59 vs 0,∃o,ops[x.1]?=some o/\a3Y P md N ops o=some x.2:=by
   intro x hx;obtain⟨j,hj⟩:=List.getElem?_of_mem hx;obtain⟨e1,e2⟩:=b2h.2 j x hj;have jq:j<ops.toList.length:=by grind
   have ho:=GY jq;refine⟨ops.toList[j],?_,g2 j _ _ ho e2⟩;have:x.1=j:=oJ;rw[this,<- Array.getElem?_toList];exact ho
  have ve:∀{l:List Nat}{r:List (Nat×a0f)},a8U vs l=some r->∀x∈r,∃o,ops[x.1]?=some o/\a3Y P md N ops o=some x.2:=by
   intro l r h x hx;have e2:=b7x h x hx;have jq:x.1<ops.toList.length:=by grind
   have ho:=GY jq;exact⟨_,sJ,g2 _ _ _ ho e2⟩
  have iR:∀{l:List (Nat×a0f)},(∀x∈l,∃o,ops[x.1]?=some o/\a3Y P md N ops o=some x.2)->∀x∈l,∃o,a3Y P md N ops o=some x.2:=λh x hx=>by
   grind
  split at hc
  .rename_i hd
   subst hd;split at hc
   .split at hc
    .rename_i l hl
     split at hc
     .rename_i jD
      simp at hc;subst hc;exact⟨a9t hC (iR (ve hl)) jj,λμ Φ a w Q hf hs iW hQ=>b6I hC pq jD (ve hl) jj hf hs iW hQ id⟩
     .simp at hc
    .simp at hc
   .split at hc
    .rename_i jD
     simp at hc;subst hc;exact⟨a9t hC (iR wQ) jj,λμ Φ a w Q hf hs iW hQ=>b6I hC pq jD wQ jj hf hs iW hQ id⟩
    .simp at hc
  .rename_i hd
   simp at hd;subst hd;simp at hc;subst hc;refine⟨a9t hC (iR wQ) jj,λμ Φ a w Q hf hs iW hQ=>wp_region_list (b4j hC (md:=md) (vl:=a59 vs 0) ?_ ?_ jj hf hs iW hQ)⟩
   .rw[b2h.1,g1]
   grind[b2h]
theorem c0O{env:k6}{s:k4}{μ:Mu}{Φ:W9}{a:Act}{w:World}(he:a2h μ Φ env a)(hs:bc μ Φ s.get w):∀{l:List ResultVar}{rs:List (Nat×Option (Option Nat))}{ds:List D},a9w P l=some rs->a08 env s rs=some ds ->
 ∃vs:List Value,(l.mapM (fun|.tmp t=>pure (a.tmps.getD t undef)|.cell t ty=>do loadVar ty (<- asAddr (a.tmps.getD t undef))):Sem (List Value)).run P w=.ok vs w/\RL μ Φ ds vs
 |[],rs,ds,h1,h2=>by
  simp_all[a9w,a08,RL]
 |x::l,rs,ds,h1,h2=>by
  simp only[a9w]at h1;split at h1
  .rename_i y l' hy hl
   simp at h1;subst h1;simp only[a08]at h2;split at h2
   .rename_i d DW hd nC
    simp at h2;subst h2;obtain⟨vs,g1,g2⟩:=c0O he hs hl nC;cases x with
    |tmp t =>
     simp[b5N]at hy;subst hy;simp only[a1t]at hd;cases hd;refine⟨a.tmps.getD t undef::vs,?_,?_⟩
     .simp_all
     .simp only[RL]
      exact⟨_,_,rfl,he t,g2⟩
    |cell t ty =>
     simp only[b5N]at hy;obtain⟨n,hn,e⟩:=map_some hy;subst e;simp only[a1t]at hd;have ht:=he t;split at hd
     .rename_i id off hx
      rw[hx]at ht;simp only[R]at ht;obtain⟨b,o,z,hm,e⟩:=ht;split at hd
      .rename_i cs hg
       obtain⟨b',o',z',m1,m2,_⟩:=hs.obj id _ hg;rw[hm]at m1;cases m1;obtain⟨us,u1,u2⟩:=m2.values;obtain⟨v,q1,q2⟩:=b57 (P:=P) hn hd u1 u2;refine⟨v::vs,?_,?_⟩
       .grind[Instr.loadAt,Instr.sureAddr,asAddr,Sem.run_bind,Sem.run_pure,Result.andThen_ok]
       .simp only[RL]
        grind
      .simp at hd
     .simp at hd
   .simp at h2
  .simp at h1
variable{μ:Mu}{Φ:W9}{w:World}{d:D}
theorem c2r{s:k4}{a:Act}(he:a2h μ Φ env a)(hs:bc μ Φ s.get w){fn:Func}{rs:List (Nat×Option (Option Nat))}(h1:a9w P fn.results.toList=some rs)(h2:a03 env s rs=some d) :
 ∃v,(results fn a.tmps).run P w=.ok v w/\R μ Φ d v:=by
 unfold a03 at h2;have key:∀ds,a08 env s rs=some ds->∃vs:List Value,RL μ Φ ds vs/\(results fn a.tmps).run P w=.ok (if h:vs.toArray.size=1 then vs.toArray[0]else .tuple vs.toArray) w:=by
  intro ds nC;obtain⟨vs,g1,g2⟩:=c0O he hs h1 nC;refine⟨vs,g2,?_⟩;unfold results;rw[Jg,Gj,Sem.run_map];erw[g1]
  rfl
 split at h2
 .rename_i d0 nC
  cases h2;obtain⟨vs,g1,g2⟩:=key _ nC;simp only[RL]at g1;obtain⟨u,us,rfl,r1,rfl⟩:=g1;simp_all
 .rename_i l jt nC
  cases h2;obtain⟨vs,g1,g2⟩:=key _ nC;have hl:=a3L g1;have hlen:¬vs.toArray.size=1:=by
   simp;intro e;rw[e]at hl;match l,hl with
   |[x],_=>exact jt x rfl
  rw[dif_neg hlen]at g2;exact⟨.tuple vs.toArray,g2,by simp only[R];exact⟨vs,rfl,g1⟩⟩
 .simp at h2
variable{args:List D}{vs:List Value}
theorem c3J(h:RL μ Φ args vs)(n:Nat)(vars:List Nat):a2h μ Φ (vars.map λt=>(t,args.getD t .undef)) { tmps:=vs.toArray++Array.replicate n undef,defers:=[] }:=by
 intro t;induction vars with
 |nil=>simp[k6.get,R]
 |cons x l ih =>
  simp only[FJ,k6.get];by_cases e:x=t
  .subst e
   simp only[FG];cases hx:args[x]? with
   |none=>simp[Hv,hx,R]
   |some d =>
    obtain⟨u,h1,h2⟩:=a97 h hx;have jq:=(Hx.1 h1).1;simp only[Hv,hx,Ho,Gm];rw[Array.getElem?_append_left (sU jq)];simp[h1];exact h2
  grind
variable{fs:FuncId->Option U4}
theorem c1L(kn:b0b P fs){ex:List Nat->a1w->k6->k4->Option Out}(hex:b81 P ex):a4J P (a2H fs ex):=by
 intro f args s d s' h;unfold a2H at h;split at h
 .simp at h
 .rename_i vf hvf
  obtain⟨fn,md,jM,nu,hcf⟩:=kn f vf hvf;unfold a62 at hcf;split at hcf
  .simp at hcf
  .rename_i c hbody
   split at hcf
   .rename_i vc rs CT nH
    split at hcf
    .simp at hcf
    .rename_i lQ
     simp at hcf;have hvc2:vf.code=vc:=by rw[<- hcf]
     have hrs2:vf.res=rs:=by rw[<- hcf]
     have done:∀e iO s1,ex vf.vars vf.code (vf.vars.map λt=>(t,args.getD t .undef)) s=some (e,iO,s1)->(e=.normal\/e=.ret)->(a03 iO s1 vf.res).map (λd=>(d,s1))=some (d,s') ->
      s.next<=s'.next/\(∃fn,P.funcs[f]?=some fn/\fn.body.isSome=true/\(fn.name=="runtime.NumGoroutine")=false) /\
      ∀μ Φ w vs,bc μ Φ s.get w->RL μ Φ args vs->a6a μ s.next s'.next ->
       Calls P f vs.toArray w λe w'=>∃v μ' Φ',e=.returned v/\bc μ' Φ' s'.get w'/\R μ' Φ' d v/\bQ μ Φ s.get w μ' Φ' s'.get w' s.next s'.next:=by
      intro e iO s1 hx rW iN;obtain⟨d',uV,e1⟩:=map_some iN;cases e1;rw[hvc2]at hx;rw[hrs2]at uV;obtain⟨g1,g2⟩:=hex md fn.ntmps jM vf.vars c vc _ s e iO s' CT hx;refine⟨g1,⟨fn,nu,by rw[hbody];rfl,sU lQ⟩,?_⟩;intro μ Φ w vs hs hr iW;refine calls_of_wp nu hbody ?_;refine g2 μ Φ _ w _ ⟨c3J hr _ vf.vars,by simp;omega,rfl⟩ hs iW ?_;intro a' w' μ' Φ' q1 q2 q3;obtain⟨v,r1,r2⟩:=c2r q1.env q2 nH uV;rcases rW with rfl|rfl
      .exact⟨q1.defers,v,r1,v,μ',Φ',rfl,q2,r2,q3⟩
      .exact⟨q1.defers,v,r1,v,μ',Φ',rfl,q2,r2,q3⟩
     grind
   .simp at hcf
def c1h(P:Program)(fs:FuncId->Option U4)(n:Nat):Prop:=∀(md:FuncId->a16)(N:Nat)(jM:iw)(vars:List Nat)(code:Code)(vc:a1w)(env:k6)(s:k4)(e:a1G)(iO:k6)(s':k4),
 a6H P md N jM code=some vc->a0q fs n vars (.loop vc) env s=some (e,iO,s')->s.next<=s'.next /\
 ∃k,∀(μ:Mu)(Φ:W9)(a:Act)(w:World)(Q:Exit->Act->World->Prop),gA N μ Φ env a->bc μ Φ s.get w->a6a μ s.next s'.next->a70 N μ Φ s w iO s' (Q (b1J e))->Code.rounds P code Q k a w
theorem c6A(kn:b0b P fs)(pq:P.follows .mixedOrders=true):∀n,b81 P (a0q fs n)/\c1h P fs n:=by
 intro n;induction n with
 |zero=>exact⟨λ_ _ _ _ _ _ _ _ _ _ _ _ h=>by simp[a0q]at h,λ_ _ _ _ _ _ _ _ _ _ _ _ h=>by simp[a0q]at h⟩
 |succ n ih =>
  obtain⟨tU,ih2⟩:=ih;have wm:c1h P fs (n+1):=by
   intro md N jM vars code vc env s e iO s' hc h;simp only[a0q]at h;split at h
   .rename_i env1 s1 h1
    obtain⟨g1,g2⟩:=tU md N jM vars code vc env s .normal env1 s1 hc h1;obtain⟨g3,k,g4⟩:=ih2 md N jM vars code vc env1 s1 e iO s' hc h;refine⟨oJ,k+1,?_⟩;intro μ Φ a w Q hf hs iW hQ;rw[rounds_succ];refine g2 μ Φ a w _ hf hs (λid q1 q2=>iW id q1 oJ) ?_;intro a1 w1 μ1 Φ1 q1 q2 q3;refine g4 μ1 Φ1 a1 w1 Q q1 q2 (λid r1 r2=>by rw[q3.bZ id (.inr r1)];exact iW id oJ r2) ?_;intro a2 w2 μ2 Φ2 r1 r2 r3;exact hQ a2 w2 μ2 Φ2 r1 r2 (q3.trans g1 g3 r3)
   .rename_i jt
    obtain⟨g1,g2⟩:=tU md N jM vars code vc env s e iO s' hc h;refine⟨g1,1,?_⟩;intro μ Φ a w Q hf hs iW hQ;rw[rounds_succ];refine g2 μ Φ a w _ hf hs iW ?_;intro a1 w1 μ1 Φ1 q1 q2 q3;have:=hQ a1 w1 μ1 Φ1 q1 q2 q3;cases e with
    |normal=>grind
    |exit id=>exact this
    |ret=>exact this
  refine⟨?_,wm⟩;intro md N jM vars code vc env s e iO s' hc h;cases code<;>simp only[a6H]at hc
  case skip =>
   cases hc;simp only[a0q]at h;cases h;exact⟨sm _,λμ Φ a w Q hf hs _ hQ=>wp_skip (hQ a w μ Φ hf hs (bQ.refl _ _ _ _ _))⟩
  case region id ops draw =>
   obtain⟨r,hr,e1⟩:=map_some hc;cases e1;simp only[a0q]at h;split at h
   .rename_i env1 s1 h1
    cases h;obtain⟨g1,g2⟩:=c4a (c1L kn tU) pq hr h1;refine⟨g1,λμ Φ a w Q hf hs iW hQ=>g2 μ Φ a w Q hf hs iW ?_⟩;intro a1 w1 μ1 Φ1 q1 q2 q3;exact hQ a1 w1 μ1 Φ1 (q1.aG vars) q2 q3
   .simp at h
  case seq x y =>
   split at hc
   .rename_i vx vy hx hy
    cases hc;simp only[a0q]at h;split at h
    .rename_i env1 s1 h1
     obtain⟨g1,g2⟩:=tU md N jM vars x vx env s .normal env1 s1 hx h1;obtain⟨g3,g4⟩:=tU md N jM vars y vy env1 s1 e iO s' hy h;refine⟨oJ,?_⟩;intro μ Φ a w Q hf hs iW hQ;refine wp_seq (g2 μ Φ a w _ hf hs (λid q1 q2=>iW id q1 oJ) ?_);intro a1 w1 μ1 Φ1 q1 q2 q3;refine g4 μ1 Φ1 a1 w1 Q q1 q2 (λid r1 r2=>by rw[q3.bZ id (.inr r1)];exact iW id oJ r2) ?_;intro a2 w2 μ2 Φ2 r1 r2 r3;exact hQ a2 w2 μ2 Φ2 r1 r2 (q3.trans g1 g3 r3)
    .rename_i jt
     obtain⟨g1,g2⟩:=tU md N jM vars x vx env s e iO s' hx h;refine⟨g1,?_⟩;intro μ Φ a w Q hf hs iW hQ;refine wp_seq (g2 μ Φ a w _ hf hs iW ?_);intro a1 w1 μ1 Φ1 q1 q2 q3;have:=hQ a1 w1 μ1 Φ1 q1 q2 q3;cases e with
     |normal=>grind
     |exit id=>exact this
     |ret=>exact this
   .simp at hc
  case cond c x y =>
   split at hc
   .rename_i vc' vx vy vW hx hy
    cases hc;simp only[a0q]at h;split at h
    .rename_i ht
     obtain⟨g1,g2⟩:=tU md N jM vars x vx env s e iO s' hx h;refine⟨g1,λμ Φ a w Q hf hs iW hQ=>?_⟩;have hr:=a0D hf.env vW;grind[R,wp_cond_true]
    .rename_i ht
     obtain⟨g1,g2⟩:=tU md N jM vars y vy env s e iO s' hy h;refine⟨g1,λμ Φ a w Q hf hs iW hQ=>?_⟩;have hr:=a0D hf.env vW;grind[R,wp_cond_false]
    .simp at h
   .simp at hc
  case block id b =>
   obtain⟨vb,hb,e1⟩:=map_some hc;cases e1;simp only[a0q]at h;split at h
   .rename_i jl env1 s1 h1
    obtain⟨g1,g2⟩:=tU md N jM vars b vb env s (.exit jl) env1 s1 hb h1;split at h
    .rename_i jb
     cases h;refine⟨g1,λμ Φ a w Q hf hs iW hQ=>wp_block (g2 μ Φ a w _ hf hs iW ?_)⟩;intro a1 w1 μ1 Φ1 q1 q2 q3;have:=hQ a1 w1 μ1 Φ1 q1 q2 q3;simp_all[b1J,Exit.inBlock]
    .rename_i jb
     cases h;refine⟨g1,λμ Φ a w Q hf hs iW hQ=>wp_block (g2 μ Φ a w _ hf hs iW ?_)⟩;intro a1 w1 μ1 Φ1 q1 q2 q3;have:=hQ a1 w1 μ1 Φ1 q1 q2 q3;simp_all[b1J,Exit.inBlock]
   .rename_i jt
    obtain⟨g1,g2⟩:=tU md N jM vars b vb env s e iO s' hb h;refine⟨g1,λμ Φ a w Q hf hs iW hQ=>wp_block (g2 μ Φ a w _ hf hs iW ?_)⟩;intro a1 w1 μ1 Φ1 q1 q2 q3;have:=hQ a1 w1 μ1 Φ1 q1 q2 q3;cases e with
    |normal=>exact this
    |exit jl=>grind
    |ret=>exact this
  case loop b =>
   obtain⟨vb,hb,e1⟩:=map_some hc;cases e1;obtain⟨g1,k,g2⟩:=wm md N jM vars b vb env s e iO s' hb h;exact⟨g1,λμ Φ a w Q hf hs iW hQ=>wp_loop_rounds k (g2 μ Φ a w Q hf hs iW hQ)⟩
  case exit id =>
   cases hc;simp only[a0q]at h;cases h;exact⟨sm _,λμ Φ a w Q hf hs _ hQ=>wp_exit (hQ a w μ Φ hf hs (bQ.refl _ _ _ _ _))⟩
  case ret =>
   cases hc;simp only[a0q]at h;cases h;exact⟨sm _,λμ Φ a w Q hf hs _ hQ=>wp_ret (hQ a w μ Φ hf hs (bQ.refl _ _ _ _ _))⟩
  all_goals(cases hc;done)
theorem c9z(kn:b0b P fs)(pq:P.follows .mixedOrders=true){n f:Nat}(h:a84 fs n f args k4.empty=some (d,s'))(hr:bm (λb=>w.heap[b]?) args vs) :
 Calls P f vs.toArray w λe w'=>∃v μ' Φ',e=.returned v/\R μ' Φ' d v/\RowKit.Below w.heap.size w w':=by
 obtain⟨_,_,h2⟩:=c1L kn (c6A kn pq n).1 f args k4.empty d s' h;refine(h2 (λ_=>none) (λb=>w.heap[b]?) w vs (b3P λ_ _ e=>e) (aU _ _ hr) (λ_ _ _=>rfl)).mono ?_;rintro e w' ⟨v,μ',Φ',rfl,q1,q2,q3⟩;exact⟨v,μ',Φ',rfl,q2,q3.os,q3.tape,q3.output,q3.size,λk hk=>q3.aG k hk (b3v k)⟩
end Go.V
