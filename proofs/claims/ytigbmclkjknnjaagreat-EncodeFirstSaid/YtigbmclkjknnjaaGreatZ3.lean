/- Texts one behind the other. -/
import Derived.Test.YtigbmclkjknnjaaGreatZ1
import Derived.Laws.Strings
import Derived.Test.YtigbmclkjknnjaaGreatVt
set_option linter.unusedSimpArgs false
set_option linter.unusedVariables false
set_option maxRecDepth 100000
set_option maxHeartbeats 8000000
namespace Go.V
theorem Z5 {n:Int} (h1:-9223372036854775808<=n) (h2:n<9223372036854775808):IntKind.i64.wrap n=n:=IntWalk.i64_in n ⟨by omega,by omega⟩
def Fr (ids:List Nat) (s s':k4):Prop:=s.next<=s'.next/\∀i,i<s.next->i∉ids->s'.get i=s.get i
theorem Fr.refl (ids:List Nat) (s:k4):Fr ids s s:=⟨Nat.le_refl _,fun _ _ _=>rfl⟩
theorem Fr.trans {ids:List Nat} {xV:List Nat} {a b c:k4} (h:Fr ids a b) (k:Fr xV b c) (hi:∀i∈xV,i∈ids∨a.next<=i):Fr ids a c:=by
 refine ⟨Nat.le_trans h.1 k.1,fun i hl hn=>?_⟩;rw [k.2 i (Nat.lt_of_lt_of_le hl h.1) ?_,h.2 i hl hn];intro hc;rcases hi i hc with h1 | h1
 ·exact hn h1
 ·omega
theorem Fr.push {ids:List Nat} {s:k4} (o:Y1):Fr ids s (s.push o):=⟨by rw [k4.ai];omega,fun i hl _=>by rw [k4.aM,if_neg (by omega)]⟩
theorem Fr.set {ids:List Nat} {s:k4} {id:Nat} (o:Option Y1) (h:id∈ids):Fr ids s (s.set id o):=⟨by rw [k4.aq];omega,fun i hl hn=>by
 rw [k4.aX,if_neg];rintro ⟨rfl,_⟩;exact hn h⟩
theorem Fr.aj {ids:List Nat} {a b:k4} (h:Fr ids a b) (o:Y1):Fr ids a (b.push o):=h.trans (Fr.push (ids:=[]) o) (by simp)
theorem Fr.aD {ids:List Nat} {a b:k4} {id:Nat} (h:Fr ids a b) (o:Option Y1) (hi:id∈ids∨a.next<=id):Fr ids a (b.set id o) :=
 h.trans (Fr.set (ids:=[id]) o (by simp)) (by simpa using hi)
theorem u7 {s:k4} {i:Nat} {o:Y1} (h:s.get i=some o):i<s.next:=by
 unfold k4.get at h;split at h
 ·assumption
 ·cases h
theorem a0l {s:k4} {o:Y1} {i:Nat} (h:i<s.next):(s.push o).get i=s.get i:=by rw [k4.aM,if_neg (by omega)]
theorem W2 {s:k4} {o:Y1} {i:Nat} (h:i=s.next):(s.push o).get i=some o:=by rw [k4.aM,if_pos h]
theorem Z7 {s:k4} {o:Option Y1} {i id:Nat} (h:i≠id):(s.set id o).get i=s.get i:=by rw [k4.aX,if_neg (by rintro ⟨rfl,_⟩;exact h rfl)]
theorem a0d {s:k4} {o:Option Y1} {i:Nat} (h:i<s.next):(s.set i o).get i=o:=by rw [k4.aX,if_pos ⟨rfl,h⟩]
def a5s (l:List Bool):List D:=l.map fun b=>.bool b
def cF (l:List ((Nat×Nat)×Nat)):List (D×D):=l.map fun x=>(.agg [.int .i64 (x.1.1:Int),.int .i64 (x.1.2:Int)],.int .i64 (x.2:Int))
@[simp] theorem c1J (l:List Bool):(a5s l).length=l.length:=by simp [a5s]
def Rd (s:k4) (d:D) (l:List D):Prop :=
 (d=.ag/\l=[])∨d=.bg 1 (l.map fun x=>[x])∨∃id off cs,d=.arr id off l.length 1/\s.get id=some (.cells cs)/\off+l.length<=cs.length/\(cs.drop off).take l.length=l
theorem Rd.len {s:k4} {d:D} {l:List D} (h:Rd s d l):a0C false d=some (.int .i64 (l.length:Int)):=by
 rcases h with ⟨rfl,rfl⟩ | rfl | ⟨id,off,cs,rfl,_⟩<;>simp [a0C]
theorem Rd.one {s:k4} {d:D} {l:List D} (h:Rd s d l):V1 d=true:=by
 rcases h with ⟨rfl,rfl⟩ | rfl | ⟨id,off,cs,rfl,_⟩<;>rfl
theorem Rd.idx {s:k4} {d:D} {l:List D} (h:Rd s d l) (ho:l.all V1=true) {i:Nat} (hi:i<l.length) {k:IntKind} {z:Int} (hz:z=(i:Int)):∃p,W1 1 d (.int k z)=some p/\bk s.get none p=some l[i]:=by
 subst hz;have zN:V1 l[i]=true:=by rw [List.all_eq_true] at ho;exact ho _ (List.getElem_mem hi)
 rcases h with ⟨rfl,rfl⟩ | rfl | ⟨id,off,cs,rfl,h1,h2,h3⟩
 ·simp at hi
 ·refine ⟨.fp [l[i]] 0,?_,?_⟩
  ·simp [W1,hi]
  ·simp [bk,a2J,zN]
 ·refine ⟨.ptr id (off+i),?_,?_⟩
  ·simp only [W1]
   rw [if_pos (by refine ⟨trivial,?_,?_⟩<;>omega)];simp
  ·simp only [bk,h1,a2J]
   have:cs[off+i]?=some l[i]:=by
    have e:l[i]?=some l[i]:=List.getElem?_eq_getElem hi;rw [<- e];conv=>rhs;rw [<- h3]
    rw [List.getElem?_take_of_lt hi,List.getElem?_drop]
   rw [this];simp [zN]
theorem Rd.row {s:k4} {d:D} {l:List D} (h:Rd s d l):a1h s.get d=some l/\a3i d=some l.length/\a1O 1 d=true:=by
 rcases h with ⟨rfl,rfl⟩ | rfl | ⟨id,off,cs,rfl,h1,h2,h3⟩
 ·simp [a1h,a3i,a1O]
 ·refine ⟨?_,by simp [a3i],by simp [a1O]⟩
  simp only [a1h];congr 1
  induction l with
  | nil=>rfl
  | cons a l ih=>simp [ih]
 ·refine ⟨?_,by simp [a3i],by simp [a1O]⟩
  simp only [a1h,h1,Nat.mul_one];rw [if_pos h2,h3]
theorem Rd.arr {s:k4} {id:Nat} {l:List D} (h:s.get id=some (.cells l)):Rd s (.arr id 0 l.length 1) l:=.inr (.inr ⟨id,0,l,rfl,h,by simp,by simp⟩)
def a1Y:D->Bool
 | .int _ _=>true
 | .bool _=>true
 | .str _=>true
 | _=>false
theorem b2W {g:a0k} {d:D} (h:a1Y d=true):∀n,aL g (n+1) d=some d:=by
 intro n;cases d<;>first | rfl | (simp [a1Y] at h)
theorem b9S {d:D} (h:a1Y d=true):a2d d=true:=by cases d<;>first | rfl | (simp [a1Y] at h)
theorem b1x {g:a0k} {n:Nat}:∀ {l:List D},l.all a1Y=true->X2 (aL g (n+1)) l=some l
 | [],_=>rfl
 | d::r,h=>by
   simp only [List.all_cons,Bool.and_eq_true] at h;simp only [X2,b2W h.1,b1x h.2]
theorem b1A:∀ (l:List D),a48 1 l.length l=l.map fun x=>[x]
 | []=>rfl
 | d::r=>by simp [a48,b1A r]
theorem Rd.aL {s:k4} {d:D} {l:List D} (h:Rd s d l) (hl:l.all a1Y=true):∃d',aL s.get 20 d=some d'/\Rd k4.empty d' l:=by
 have gV:=h.row.1;rcases h with ⟨rfl,rfl⟩ | rfl | ⟨id,off,cs,rfl,h1,h2,h3⟩
 ·exact ⟨.ag,rfl,.inl ⟨rfl,rfl⟩⟩
 ·exact ⟨_,rfl,.inr (.inl rfl)⟩
 ·refine ⟨.bg 1 (l.map fun x=>[x]),?_,.inr (.inl rfl)⟩
  simp only [V.aL,gV];rw [b1x hl];simp only [Option.map_some,b1A]
theorem a4Q {fs:FuncId->Option U3} {ae i t f args rest s Q} {env:q8} {l l':List D} {r:D} {s1:k4} (hr:Ev fs f l' k4.empty r s1) (hs:a1Y r=true) (hl:env.aP args=l) (ha:X2 (V.aL s.get 20) l=some l')
 (h:WQ fs ae rest ((t,r)::env) s Q):WQ fs ae ((i,⟨some t,.m (.call .fF (.aG (.fn f [])) args),none⟩)::rest) env s Q :=
 a5z hl ha hr (b2W hs 19) (by rw [b9S hs];rfl) h
theorem c1p {fs:FuncId->Option U3} {n:Nat} {f:FuncId} {args:List D} {s:k4} {d:D} (h:(a7W fs n f args s).map Prod.fst=some d):∃s',Ev fs f args s d s':=by
 cases hv:a7W fs n f args s with
 | none=>rw [hv] at h;cases h
 | some r =>
   rw [hv] at h;obtain ⟨d',s'⟩:=r;simp at h;subst h;exact ⟨s',n,hv⟩
def Sl (s:k4) (d:D) (l:List D) (ids:List Nat):Prop :=
 (d=.ag/\l=[]/\ids=[])∨∃id,d=.arr id 0 l.length 1/\s.get id=some (.cells l)/\ids=[id]
theorem Sl.rd {s:k4} {d:D} {l:List D} {ids:List Nat} (h:Sl s d l ids):Rd s d l:=by
 rcases h with ⟨rfl,rfl,_⟩ | ⟨id,rfl,h,_⟩
 ·exact .inl ⟨rfl,rfl⟩
 ·exact Rd.arr h
theorem Sl.one {s:k4} {d:D} {l:List D} {ids:List Nat} (h:Sl s d l ids):V1 d=true:=h.rd.one
theorem Sl.push {s:k4} {d:D} {l:List D} {ids:List Nat} {new:List D} {lX bytes:Nat} (h:Sl s d l ids) (h3:s.get lX=some (.cells new)) (iw:new≠[]) (hb:bytes<=16) (hl:l.length+new.length<=2 ^ 40) :
 ∃s' d',Z6 1 bytes d (.arr lX 0 new.length 1) s=some (d',s')/\Sl s' d' (l++new) [s.next]/\s'.next=s.next+1/\∀i,i∉ids->i<s.next->s'.get i=s.get i:=by
 have hn:new.length≠0:=by simpa using iw
 have b1:(l.length+new.length)*bytes<=2 ^ 45:=Nat.le_trans (Nat.mul_le_mul hl hb) (by decide);have b2:l.length+new.length<=2 ^ 45:=Nat.le_trans hl (by decide);have b3:bytes<=2 ^ 20:=Nat.le_trans hb (by decide);rcases h with ⟨rfl,rfl,rfl⟩ | ⟨id,rfl,h1,rfl⟩
 ·refine ⟨s.push (.cells new),.arr s.next 0 new.length 1,?_,.inr ⟨s.next,by simp,by simp [k4.aM],rfl⟩,rfl,fun i _ hi=>by rw [k4.aM,if_neg (by omega)]⟩
  unfold Z6;simp only [List.length_nil,Nat.zero_add] at b1 b2;simp only [a1h,h3,a3i,a1O,Nat.zero_add,Nat.mul_one,Nat.le_refl,if_true,List.drop_zero,beq_self_eq_true,b3,decide_true,Bool.and_self,and_self,hn,if_false,b1,b2,List.take_length]
 ·refine ⟨(s.set id none).push (.cells (l++new)),.arr s.next 0 (l.length+new.length) 1,?_,.inr ⟨s.next,by simp,by rw [k4.aM,if_pos (by simp only [k4.aq])],rfl⟩,rfl,fun i hi hl=>?_⟩
  ·unfold Z6
   simp only [a1h,h3,a3i,a1O,Nat.zero_add,Nat.mul_one,Nat.le_refl,if_true,List.drop_zero,beq_self_eq_true,b3,decide_true,Bool.and_self,h1,and_self,hn,if_false,b1,b2,List.take_length]
  ·simp only [List.mem_singleton] at hi
   rw [k4.aM,if_neg (by simp only [k4.aq];omega),k4.aX,if_neg (by rintro ⟨rfl,_⟩;exact hi rfl)]
theorem Sl.stay {s s':k4} {d:D} {l:List D} {ids uw:List Nat} (h:Sl s d l ids) (hf:Fr uw s s') (hd:∀i∈ids,i∉uw):Sl s' d l ids:=by
 rcases h with h1 | ⟨id,h1,h2,rfl⟩
 ·exact .inl h1
 ·exact .inr ⟨id,h1,by rw [hf.2 id (u7 h2) (hd id (by simp)),h2],rfl⟩
def find (k:Nat×Nat):List ((Nat×Nat)×Nat)->Option Nat
 | []=>none
 | (p,n)::r=>if k=p then some n else find k r
attribute [go_sem] a0l W2 Z7 a0d Z5
def FL (sz:Nat) (d:D) (rows:List (List D)):Prop:=(d=.ag/\rows=[])∨d=.bg sz rows
theorem FL.len {sz:Nat} {d:D} {rows:List (List D)} (h:FL sz d rows):a0C false d=some (.int .i64 (rows.length:Int)):=by
 rcases h with ⟨rfl,rfl⟩ | rfl<;>rfl
theorem FL.one {sz:Nat} {d:D} {rows:List (List D)} (h:FL sz d rows):V1 d=true:=by
 rcases h with ⟨rfl,rfl⟩ | rfl<;>rfl
theorem FL.pure {sz:Nat} {d:D} {rows:List (List D)} (h:FL sz d rows):a0Y d=true:=by
 rcases h with ⟨rfl,rfl⟩ | rfl<;>rfl
theorem FL.aL {sz:Nat} {d:D} {rows:List (List D)} (h:FL sz d rows) {g:a0k} {n:Nat}:aL g (n+1) d=some d:=by
 rcases h with ⟨rfl,rfl⟩ | rfl<;>rfl
theorem FL.idx {sz:Nat} {d:D} {rows:List (List D)} (h:FL sz d rows) {i:Nat} (hi:i<rows.length) {k:IntKind}:W1 sz d (.int k (i:Int))=some (.fp rows[i] 0):=by
 rcases h with ⟨rfl,rfl⟩ | rfl
 ·simp at hi
 ·simp [W1,hi]
def FS (d:D) (l:List ByteArray):Prop:=FL 1 d (l.map fun x=>[.str x])
def FI (d:D) (l:List Int):Prop:=FL 1 d (l.map fun n=>[.int .i64 n])
theorem FS.len {d:D} {l:List ByteArray} (h:FS d l):a0C false d=some (.int .i64 (l.length:Int)):=by rw [FL.len h,List.length_map]
theorem FI.len {d:D} {l:List Int} (h:FI d l):a0C false d=some (.int .i64 (l.length:Int)):=by rw [FL.len h,List.length_map]
theorem FS.idx {d:D} {l:List ByteArray} (h:FS d l) {i:Nat} (hi:i<l.length) {k:IntKind}:W1 1 d (.int k (i:Int))=some (.fp [.str l[i]] 0):=by
 rw [FL.idx h (by simpa using hi)];simp
theorem FI.idx {d:D} {l:List Int} (h:FI d l) {i:Nat} (hi:i<l.length) {k:IntKind}:W1 1 d (.int k (i:Int))=some (.fp [.int .i64 l[i]] 0):=by
 rw [FL.idx h (by simpa using hi)];simp
theorem FL.drop {sz:Nat} {d:D} {rows:List (List D)} (h:FL sz d rows) {n:Nat} (hn:n<=rows.length) {k:IntKind}:∃d',a25 (some sz) d (some (.int k (n:Int))) none=some d'/\FL sz d' (rows.drop n):=by
 rcases h with ⟨rfl,rfl⟩ | rfl
 ·obtain rfl:n=0:=by simpa using hn
  exact ⟨.ag,by simp [a25,a13],.inl ⟨rfl,rfl⟩⟩
 ·exact ⟨_,by simp [a25,a13,hn],.inr rfl⟩
theorem str_eq {a b:ByteArray}:(a.toList==b.toList)=decide (a=b):=by
 rw [Bool.eq_iff_iff,beq_iff_eq,decide_eq_true_eq];constructor
 ·intro h
  rw [ByteArray.toList_eq,ByteArray.toList_eq] at h;cases a;cases b;simp at h;rw [h]
 ·rintro rfl;rfl
theorem c0d {a b:ByteArray}:b0K .eql a b=some (.bool (decide (a=b))):=by rw [<- str_eq];rfl
attribute [go_sem] c0d
end Go.V
namespace Go.V
theorem b1a {α β:Type} {f:α->β} {P:α->Prop}:∀ {xs:List β},(∀x∈xs,∃a,x=f a/\P a)->∃aa:List α,xs=aa.map f/\∀a∈aa,P a
 | [],_=>⟨[],rfl,by simp⟩
 | x::r,h=>by
   obtain ⟨a,rfl,ha⟩:=h x (by simp);obtain ⟨aa,rfl,has⟩:=b1a (xs:=r) fun x hx=>h x (by simp [hx])
   exact ⟨a::aa,rfl,by simpa using ⟨ha,has⟩⟩
def a3F (n:Int):Prop:=-9223372036854775808<=n/\n<9223372036854775808
theorem b77 {n:Int} (h:(Lit.int .i64 n).wf=true):a3F n:=by
 simp only [Lit.wf,Bool.and_eq_true,decide_eq_true_eq] at h;have h1:IntKind.i64.min=-9223372036854775808:=rfl;have h2:IntKind.i64.max=9223372036854775807:=rfl;rw [h1,h2] at h;exact ⟨h.1,by omega⟩
theorem Sl.push1 {s:k4} {d:D} {l:List D} {ids:List Nat} (h:Sl s d l ids) (x:D) {bytes:Nat} (hb:bytes<=16) (hl:l.length<2 ^ 40) :
 ∃s' d',Z6 1 bytes d (.arr s.next 0 1 1) (s.push (.cells [x]))=some (d',s')/\Sl s' d' (l++[x]) [s.next+1]/\s'.next=s.next+2/\Fr ids s s':=by
 have h':Sl (s.push (.cells [x])) d l ids:=h.stay (uw:=[]) (Fr.push _) (by simp);obtain ⟨s',d',e1,e2,e3,e4⟩:=h'.push (new:=[x]) (lX:=s.next) (bytes:=bytes) (W2 rfl) (by simp) hb (by simp;omega);refine ⟨s',d',e1,e2,e3,by rw [e3,k4.ai];omega,fun i hi hn=>?_⟩;rw [e4 i hn (by simp only [k4.ai];omega),a0l hi]
section
variable {fs:FuncId->Option U3}
theorem b8G {l:List D} {n:Nat} {x:D} (h:n<l.length):a43 l n [x]=l.set n x:=by
 simp only [a43,List.length_singleton];rw [List.set_eq_take_append_cons_drop,if_pos h];simp
theorem b0F {i a v rest s Q} {env:q8} {id n:Nat} {l:List D} {x:D} (hg:s.get id=some (.cells l)) (hn:n<l.length) (ho:V1 x=true) (ha:env.ev a=.ptr id n) (hv:env.ev v=x)
 (h:WQ fs [] rest env (s.set id (some (.cells (l.set n x)))) Q):WQ fs [] ((i,⟨none,.w 1 a v,none⟩)::rest) env s Q:=by
 refine a91 (id:=id) (ob:=.cells (l.set n x)) ?_ h;simp only [dh,ha,hg,hv,b7J ho,List.length_singleton,List.all_cons,List.all_nil,ho];rw [if_pos ⟨trivial,by omega,rfl,by omega⟩,b8G hn]
end
theorem b8T:∀n,a2Q [.bool false] n=a5s (List.replicate n false)
 | 0=>rfl
 | n+1=>by simp only [a2Q,b8T n,List.replicate_succ,a5s,List.map_cons,List.cons_append,List.nil_append]
end Go.V
namespace Go.V
structure Nd where
 kind:Int
 dw:D
 dn:D
 dk:D
 pos:Int
 words:List ByteArray
 aH:List Int
 kids:List Int
 deriving Inhabited
def Nd.row (x:Nd):List D:=[.int .i64 x.kind,x.dw,x.dn,x.dk,.int .i64 x.pos]
structure Nd.Ok (x:Nd):Prop where
 w:FS x.dw x.words
 n:FI x.dn x.aH
 k:FI x.dk x.kids
 ki:a3F x.kind
 wl:x.words.length<=maxLen
 nl:x.aH.length<=maxLen
 kl:x.kids.length<=maxLen
 ni:∀n∈x.aH,a3F n
 ii:∀n∈x.kids,a3F n
structure X8 (d:D) (t:List Nd):Prop where
 fl:FL 5 d (t.map Nd.row)
 ok:∀x∈t,x.Ok
 le:t.length<=maxLen
theorem X8.len {d:D} {t:List Nd} (h:X8 d t):a0C false d=some (.int .i64 (t.length:Int)):=by rw [h.fl.len,List.length_map]
theorem X8.idx {d:D} {t:List Nd} (h:X8 d t) {i:Nat} (hi:i<t.length) {k:IntKind}:W1 5 d (.int k (i:Int))=some (.fp [.int .i64 t[i].kind,t[i].dw,t[i].dn,t[i].dk,.int .i64 t[i].pos] 0):=by
 rw [h.fl.idx (by simpa using hi)];simp [Nd.row]
theorem X8.get {d:D} {t:List Nd} (h:X8 d t) {i:Nat} (hi:i<t.length):t[i].Ok:=h.ok _ (List.getElem_mem hi)
def Ty.node:Ty:=.struct [.int .i64,.slice 1 .str,.slice 1 (.int .i64),.slice 1 (.int .i64),.int .i64]
def Ty.tree:Ty:=.slice 5 Ty.node
theorem c4B {a:List D} (h:a1s (.slice 1 .str) a):∃d l,a=[d]/\FS d l/\l.length<=maxLen:=by
 simp only [a1s] at h;rcases h with rfl | ⟨xs,rfl,hl,hx⟩
 ·exact ⟨.ag,[],rfl,.inl ⟨rfl,rfl⟩,by simp⟩
 ·obtain ⟨l,rfl,_⟩:=b1a (f:=fun (b:ByteArray)=>[D.str b]) (P:=fun _=>True) (xs:=xs) (fun x hm=>by
   obtain ⟨b,hb,_⟩:=hx x hm;exact ⟨b,hb,trivial⟩)
  exact ⟨_,l,rfl,.inr rfl,by simpa using hl⟩
theorem b80 {a:List D} (h:a1s (.slice 1 (.int .i64)) a):∃d l,a=[d]/\FI d l/\l.length<=maxLen/\∀n∈l,a3F n:=by
 simp only [a1s] at h;rcases h with rfl | ⟨xs,rfl,hl,hx⟩
 ·exact ⟨.ag,[],rfl,.inl ⟨rfl,rfl⟩,by simp,by simp⟩
 ·obtain ⟨l,rfl,hi⟩:=b1a (f:=fun (n:Int)=>[D.int .i64 n]) (P:=fun n=>a3F n) (xs:=xs) (fun x hm=>by
   obtain ⟨n,hn,w⟩:=hx x hm;exact ⟨n,hn,b77 w⟩)
  exact ⟨_,l,rfl,.inr rfl,by simpa using hl,hi⟩
theorem c1Y {a:List D} (h:a1s Ty.node a):∃x:Nd,a=x.row/\x.Ok:=by
 simp only [Ty.node,a1s,eA] at h;obtain ⟨a1,b1,rfl,⟨n1,rfl,w1⟩,a2,b2,rfl,h2,a3,b3,rfl,h3,a4,b4,rfl,h4,a5,b5,rfl,⟨n5,rfl,w5⟩,rfl⟩:=h;obtain ⟨dw,lw,rfl,fw,lwl⟩:=c4B (by simpa only [a1s] using h2);obtain ⟨dn,ln,rfl,fn,lnl,lni⟩:=b80 (by simpa only [a1s] using h3);obtain ⟨dk,lk,rfl,fk,lkl,lki⟩:=b80 (by simpa only [a1s] using h4);exact ⟨⟨n1,dw,dn,dk,n5,lw,ln,lk⟩,rfl,fw,fn,fk,b77 w1,lwl,lnl,lkl,lni,lki⟩
theorem c0h {d:D} (h:b0w Ty.tree d):∃t,X8 d t:=by
 have h:a1s Ty.tree [d]:=h;rw [Ty.tree,a1s] at h;rcases h with h | ⟨xs,h,hl,hx⟩
 ·simp at h
  subst h;exact ⟨[],.inl ⟨rfl,rfl⟩,by simp,by simp⟩
 ·simp at h
  subst h;obtain ⟨t,rfl,hi⟩:=b1a (f:=Nd.row) (P:=Nd.Ok) (xs:=xs) fun x hm=>c1Y (hx x hm)
  exact ⟨t,.inr rfl,hi,by simpa using hl⟩
structure Ch where
 name:ByteArray
 room:Int
 width:Int
 bm:Bool
 aT:Bool
 deriving Inhabited
structure Vr where
 name:ByteArray
 width:Int
 value:Int
 deriving Inhabited
structure Ed where
 au:Nat
 to:Nat
 act:Nat
 expr:Int
 var:Int
 chan:Int
 aF:Bool
 node:Nat
 deriving Inhabited
structure Pr where
 name:ByteArray
 copy:Nat
 locals:List Nat
 ah:Nat
 rest:List Bool
 ak:List Ed
 names:List ByteArray
 vars:List Nat
 deriving Inhabited
def Ch.row (c:Ch):List D:=[.str c.name,.int .i64 c.room,.int .i64 c.width,.bool c.bm,.bool c.aT]
def Vr.row (v:Vr):List D:=[.str v.name,.int .i64 v.width,.int .i64 v.value]
def Ed.row (e:Ed):List D:=[.int .i64 (e.au:Int),.int .i64 (e.to:Int),.int .i64 (e.act:Int),.int .i64 e.expr,.int .i64 e.var,.int .i64 e.chan,.bool e.aF,.int .i64 (e.node:Int)]
def Pr.put (p:Pr) (au to act:Nat) (node:Nat) (expr v c:Int):Pr:={ p with ak:=p.ak++[⟨au,to,act,expr,v,c,false,node⟩] }
def Pr.place (p:Pr):Pr:={ p with ah:=p.ah+1,rest:=p.rest++[false] }
def Pr.idle (p:Pr) (n:Nat) (is:Int):Pr:=if is=1 then { p with rest:=p.rest.set n true } else p
def a2B (l:List ByteArray) (s:ByteArray):Nat:=if l.findIdx (fun x=>decide (x=s))<l.length then l.findIdx (fun x=>decide (x=s)) else 0
def dY (l:List ByteArray) (s:ByteArray):Bool:=l.any fun x=>decide (x=s)
theorem b4q {l:List ByteArray} {s:ByteArray}:dY l s=true↔s∈l:=by
 unfold dY;rw [List.any_eq_true];constructor
 ·rintro ⟨x,hx,h⟩
  rw [decide_eq_true_eq] at h;exact h▸hx
 ·intro h
  exact ⟨s,h,by simp⟩
def nd (t:List Nd) (i:Nat):Nd:=t.getD i default
def Nd.aC (x:Nd) (i:Nat):Nat:=(x.kids.getD i 0).toNat
def Nd.ks (x:Nd):List Nat:=x.kids.map Int.toNat
def Nd.word (x:Nd) (i:Nat):ByteArray:=x.words.getD i default
def Nd.num (x:Nd) (i:Nat):Int:=x.aH.getD i 0
def a5y (st:Pr->Nat->Nat->Nat->Pr) (node:Nat):Pr->List Nat->Nat->Nat->Pr
 | p,[],au,to=>p.put au to 0 node (-1) (-1) (-1)
 | p,[k],au,to=>st p k au to
 | p,k::k'::ks,au,to=>a5y st node (st p.place k au p.ah) (k'::ks) p.ah to
def a1v (t:List Nd) (st:Pr->Nat->Nat->Nat->Pr) (p:Pr) (b au to:Nat):Pr:=a5y st b p (nd t b).ks au to
def a9g (t:List Nd) (b:Nat):Bool:=match (nd t b).ks with
 | []=>false
 | k::_=>(nd t k).kind==12
def a2I (t:List Nd) (st:Pr->Nat->Nat->Nat->Pr) (au to:Nat):Pr->List Nat->Pr
 | p,[]=>p
 | p,k::ks=>a2I t st au to (if a9g t k then a1v t st (p.place.put au p.ah 0 k (-1) (-1) (-1)) k p.ah to else a1v t st p k au to) ks
def a3U (n to:Nat) (l:List Ed):List Ed:=l.take n++(l.drop n).map fun e=>{ e with aF:=e.to != to&&e.to != 1 }
def W7 (t:List Nd) (ch:List ByteArray):Nat->Pr->Nat->Nat->Nat->Pr
 | 0,p,_,_,_=>p
 | f+1,p,aI,au,to =>
   let n:=nd t aI
   let st:=W7 t ch f
   if n.kind=6 then p.put au to 1 aI (n.aC 0) (p.vars.getD (a2B p.names (n.word 0)) 0:Nat) (-1)
   else if n.kind=7 then p.put au to 2 aI (n.aC 0) (-1) (a2B ch (n.word 0):Nat)
   else if n.kind=8 then (p.idle au (n.num 0)).put au to 3 aI (-1) (p.vars.getD (a2B p.names (n.word 1)) 0:Nat) (a2B ch (n.word 0):Nat)
   else if n.kind=9 then (p.idle au (n.num 0)).put au to 4 aI (n.aC 0) (-1) (-1)
   else if n.kind=10 then a2I t st au to (p.idle au (n.num 0)) n.ks
   else if n.kind=11 then
    let p1:=a1v t st (p.place.put au p.ah 4 aI (n.aC 0) (-1) (-1)) (n.aC 1) p.ah to
    if n.kids.length=2 then p1.put au to 5 aI (n.aC 0) (-1) (-1)
    else a1v t st (p1.place.put au p1.ah 5 aI (n.aC 0) (-1) (-1)) (n.aC 2) p1.ah to
   else if n.kind=12 then a1v t st ((p.place.put au p.ah 4 aI (n.aC 0) (-1) (-1)).put au to 5 aI (n.aC 0) (-1) (-1)) (n.aC 1) p.ah au
   else if n.kind=13 then
    let p1:=a1v t st p (n.aC 0) au to
    { p1 with ak:=a3U p.ak.length to p1.ak }
   else if n.kind=15 then p.put au 1 0 aI (-1) (-1) (-1)
   else p.put au to 0 aI (-1) (-1) (-1)
def a2Y (k:Int):Prop:=17<=k/\k<=22
def a5l (k:Int):Prop:=6<=k/\k<=15
def a10 (k:Int):Nat:=if k=8 then 2 else if k=1∨k=2∨k=3∨k=6∨k=7∨k=18∨k=19 then 1 else 0
def a14 (k:Int):Nat:=if k=1 then 4 else if k=2 then 2 else if k=3∨k=8∨k=9∨k=10∨k=17∨k=22 then 1 else 0
structure b0a (t:List Nd) (x:Nd):Prop where
 kr:0<=x.kind/\x.kind<=22
 wl:x.words.length=a10 x.kind
 nl:x.aH.length=a14 x.kind
 prog:x.kind=0->∀k∈x.ks,1<=(nd t k).kind/\(nd t k).kind<=5
 chan:x.kind=1->0<=x.num 0/\0<=x.num 1/\0<=x.num 2/\x.num 2<=1/\0<=x.num 3/\x.num 3<=1
 var:x.kind=2->-999999<=x.num 1/\x.num 1<=999999
 proc:x.kind=3->∃v,v<=x.ks.length/\(∀k∈x.ks.take v,(nd t k).kind=2)/\∀k∈x.ks.drop v,a5l (nd t k).kind
 copies:x.kind=3->0<=x.num 0/\x.num 0<=999999
 one:x.kind=4∨x.kind=6∨x.kind=7∨x.kind=9∨x.kind=20∨x.kind=21->x.kids.length=1/\a2Y (nd t (x.aC 0)).kind
 none:x.kind=1∨x.kind=2∨x.kind=5∨x.kind=8∨x.kind=14∨x.kind=15∨x.kind=17∨x.kind=18∨x.kind=19->x.kids=[]
 choose:x.kind=10->1<=x.kids.length/\∀k∈x.ks,(nd t k).kind=16
 cond:x.kind=11->(x.kids.length=2∨x.kids.length=3)/\a2Y (nd t (x.aC 0)).kind/\(nd t (x.aC 1)).kind=16/\(x.kids.length=3->(nd t (x.aC 2)).kind=16)
 loop:x.kind=12->x.kids.length=2/\a2Y (nd t (x.aC 0)).kind/\(nd t (x.aC 1)).kind=16
 atom:x.kind=13->x.kids.length=1/\(nd t (x.aC 0)).kind=16
 block:x.kind=16->∀k∈x.ks,a5l (nd t k).kind
 bin:x.kind=22->x.kids.length=2/\a2Y (nd t (x.aC 0)).kind/\a2Y (nd t (x.aC 1)).kind/\0<=x.num 0/\x.num 0<=8
 flag:x.kind=8∨x.kind=9∨x.kind=10->0<=x.num 0/\x.num 0<=1
 lit:x.kind=17->0<=x.num 0/\x.num 0<=999999
structure a11 (t:List Nd):Prop where
 pos:0<t.length
 le:t.length<=800
 root:(nd t 0).kind=0
 kids:∀i,i<t.length->∀k∈(nd t i).kids,(i:Int)<k/\k<(t.length:Int)
 node:∀i,i<t.length->b0a t (nd t i)
theorem b6f {t:List Nd} {i:Nat} (h:i<t.length):nd t i=t[i]:=by simp [nd,List.getD,h]
theorem a11.ks {t:List Nd} (h:a11 t) {i:Nat} (hi:i<t.length):∀k∈(nd t i).ks,i<k/\k<t.length:=by
 intro k hk;obtain ⟨z,hz,rfl⟩:=List.mem_map.1 hk;have:=h.kids i hi z hz;omega
theorem a1U {x:Nd} {i:Nat} (h:i<x.kids.length):x.aC i∈x.ks:=by
 unfold Nd.aC Nd.ks;simp only [List.getD,List.getElem?_eq_getElem h,Option.getD_some];exact List.mem_map_of_mem (List.getElem_mem h)
theorem a20 (x:Nd):x.ks.length=x.kids.length:=by simp [Nd.ks]
structure a5O (t:List Nd) (iU pl:Nat) (vars:List Nat) (e:Ed):Prop where
 f:e.au<pl
 to:e.to<pl
 act:e.act<=5
 ex0:e.act=0∨e.act=3->e.expr=-1
 gD:e.act=1∨e.act=2∨e.act=4∨e.act=5->∃n:Nat,e.expr=(n:Int)/\n<t.length/\a2Y (nd t n).kind
 v1:e.act=1∨e.act=3->∃n∈vars,e.var=((n:Nat):Int)
 v0:e.act=0∨e.act=2∨e.act=4∨e.act=5->e.var=-1
 c1:e.act=2∨e.act=3->∃n:Nat,e.chan=(n:Int)/\n<iU
 c0:e.act=0∨e.act=1∨e.act=4∨e.act=5->e.chan=-1
theorem a5O.mono {t:List Nd} {iU pl pl':Nat} {vars:List Nat} {e:Ed} (h:a5O t iU pl vars e) (hp:pl<=pl'):a5O t iU pl' vars e :=
 ⟨by have:=h.f;omega,by have:=h.to;omega,h.act,h.ex0,h.gD,h.v1,h.v0,h.c1,h.c0⟩
structure a1C (t:List Nd) (iU:Nat) (p:Pr):Prop where
 two:2<=p.ah
 rest:p.rest.length=p.ah
 ed:∀e∈p.ak,a5O t iU p.ah p.vars e
structure a21 (p q:Pr):Prop where
 name:q.name=p.name
 copy:q.copy=p.copy
 locals:q.locals=p.locals
 names:q.names=p.names
 vars:q.vars=p.vars
 ah:p.ah<=q.ah
 ak:∃l,q.ak=p.ak++l
theorem a21.refl (p:Pr):a21 p p:=⟨rfl,rfl,rfl,rfl,rfl,Nat.le_refl _,[],by simp⟩
theorem a21.trans {p q r:Pr} (h:a21 p q) (k:a21 q r):a21 p r:=by
 obtain ⟨l,hl⟩:=h.ak;obtain ⟨m,hm⟩:=k.ak;exact ⟨k.name.trans h.name,k.copy.trans h.copy,k.locals.trans h.locals,k.names.trans h.names,k.vars.trans h.vars,Nat.le_trans h.ah k.ah,l++m,by rw [hm,hl,List.append_assoc]⟩
theorem a3k (p:Pr) (au to act node:Nat) (expr v c:Int):a21 p (p.put au to act node expr v c):=⟨rfl,rfl,rfl,rfl,rfl,Nat.le_refl _,_,rfl⟩
theorem a5M (p:Pr):a21 p p.place:=⟨rfl,rfl,rfl,rfl,rfl,Nat.le_succ _,[],by simp [Pr.place]⟩
theorem b8M (p:Pr) (n:Nat) (is:Int):a21 p (p.idle n is):=by
 unfold Pr.idle;split
 ·exact ⟨rfl,rfl,rfl,rfl,rfl,Nat.le_refl _,[],by simp⟩
 ·exact a21.refl p
theorem b0M (p:Pr) (n:Nat) (is:Int):(p.idle n is).ah=p.ah/\(p.idle n is).ak=p.ak/\(p.idle n is).vars=p.vars/\(p.idle n is).names=p.names:=by
 unfold Pr.idle;split<;>exact ⟨rfl,rfl,rfl,rfl⟩
theorem a3c {t:List Nd} {iU:Nat} {p:Pr} {au to act node:Nat} {expr v c:Int} (h:a1C t iU p) (he:a5O t iU p.ah p.vars ⟨au,to,act,expr,v,c,false,node⟩):a1C t iU (p.put au to act node expr v c):=by
 refine ⟨h.two,h.rest,fun e hm=>?_⟩;rcases List.mem_append.1 hm with hm | hm
 ·exact h.ed e hm
 ·simp at hm;subst hm;exact he
theorem a5e {t:List Nd} {iU:Nat} {p:Pr} (h:a1C t iU p):a1C t iU p.place :=
 ⟨by have:=h.two;simp [Pr.place];omega,by simp [Pr.place,h.rest],fun e hm=>(h.ed e hm).mono (Nat.le_succ _)⟩
theorem b42 {t:List Nd} {iU:Nat} {p:Pr} {n:Nat} {is:Int} (h:a1C t iU p):a1C t iU (p.idle n is):=by
 unfold Pr.idle;split
 ·exact ⟨h.two,by simp [h.rest],h.ed⟩
 ·exact h
theorem a8A {t:List Nd} {iU pl:Nat} {vars:List Nat} {au to node:Nat} (hf:au<pl) (ht:to<pl):a5O t iU pl vars ⟨au,to,0,-1,-1,-1,false,node⟩ :=
 ⟨hf,ht,by simp,by simp,by simp,by simp,by simp,by simp,by simp⟩
theorem a5P {t:List Nd} {iU pl:Nat} {vars:List Nat} {au to node n:Nat} {a:Nat} (ha:a=4∨a=5) (hf:au<pl) (ht:to<pl) (hn:n<t.length) (hk:a2Y (nd t n).kind):a5O t iU pl vars ⟨au,to,a,(n:Int),-1,-1,false,node⟩:=by
 refine ⟨hf,ht,?_,?_,fun _=>⟨n,rfl,hn,hk⟩,?_,fun _=>rfl,?_,fun _=>rfl⟩<;>simp<;>omega
def a4o (t:List Nd) (iU:Nat) (names:List ByteArray) (vars:List Nat) (st:Pr->Nat->Nat->Nat->Pr) (k:Nat):Prop :=
 ∀p au to,a1C t iU p->p.names=names->p.vars=vars->au<p.ah->to<p.ah->a1C t iU (st p k au to)/\a21 p (st p k au to)
theorem a7j {t:List Nd} {iU:Nat} {names:List ByteArray} {vars:List Nat} {st:Pr->Nat->Nat->Nat->Pr} {node:Nat}:∀ {ks:List Nat} {p:Pr} {au to:Nat},(∀k∈ks,a4o t iU names vars st k) ->
 a1C t iU p->p.names=names->p.vars=vars->au<p.ah->to<p.ah->a1C t iU (a5y st node p ks au to)/\a21 p (a5y st node p ks au to)
 | [],p,au,to,_,h,hn,hv,hf,ht=>⟨a3c h (a8A hf ht),a3k _ _ _ _ _ _ _ _⟩
 | [k],p,au,to,hs,h,hn,hv,hf,ht=>hs k (by simp) p au to h hn hv hf ht
 | k::k'::ks,p,au,to,hs,h,hn,hv,hf,ht=>by
   have h1:=hs k (by simp) p.place au p.ah (a5e h) hn hv (Nat.lt_succ_of_lt hf) (Nat.lt_succ_self _);have g1:=(a5M p).trans h1.2;have:=h1.2.ah;have:p.place.ah=p.ah+1:=rfl;have h2:=a7j (node:=node) (ks:=k'::ks) (p:=st p.place k au p.ah) (au:=p.ah) (to:=to) (fun x hx=>hs x (by simp only [List.mem_cons] at hx ⊢;right;exact hx)) h1.1 (g1.names.trans hn) (g1.vars.trans hv) (by omega) (by omega);exact ⟨h2.1,g1.trans h2.2⟩
theorem b5A {t:List Nd} {iU:Nat} {names:List ByteArray} {vars:List Nat} {st:Pr->Nat->Nat->Nat->Pr} {au to:Nat}:∀ {ks:List Nat} {p:Pr},(∀b∈ks,∀k∈(nd t b).ks,a4o t iU names vars st k) ->
 a1C t iU p->p.names=names->p.vars=vars->au<p.ah->to<p.ah->a1C t iU (a2I t st au to p ks)/\a21 p (a2I t st au to p ks)
 | [],p,_,h,_,_,_,_=>⟨h,a21.refl p⟩
 | k::ks,p,hs,h,hn,hv,hf,ht=>by
   have key:∀q,a1C t iU q->a21 p q->a1C t iU (a2I t st au to q ks)/\a21 p (a2I t st au to q ks):=fun q hq gq=>by
    have:=gq.ah;have:=b5A (ks:=ks) (p:=q) (au:=au) (to:=to) (fun b hb=>hs b (by simp [hb])) hq (gq.names.trans hn) (gq.vars.trans hv) (by omega) (by omega);exact ⟨this.1,gq.trans this.2⟩
   have hk:=hs k (by simp);unfold a2I;split
   ·have h1:=a3c (node:=k) (a5e h) (a8A (au:=au) (to:=p.ah) (Nat.lt_succ_of_lt hf) (Nat.lt_succ_self _))
    have g1:=(a5M p).trans (a3k p.place au p.ah 0 k (-1) (-1) (-1));have:=a7j (node:=k) (au:=p.ah) (to:=to) hk h1 hn hv (Nat.lt_succ_self _) (Nat.lt_succ_of_lt ht);exact key _ this.1 (g1.trans this.2)
   ·have:=a7j (node:=k) (au:=au) (to:=to) hk h hn hv hf ht
    exact key _ this.1 this.2
theorem a66 {t:List Nd} {iU:Nat} {names:List ByteArray} {vars:List Nat} {st:Pr->Nat->Nat->Nat->Pr} {b:Nat} {p:Pr} {au to:Nat} (hs:∀k∈(nd t b).ks,a4o t iU names vars st k)
 (h:a1C t iU p) (hn:p.names=names) (hv:p.vars=vars) (hf:au<p.ah) (ht:to<p.ah):a1C t iU (a1v t st p b au to)/\a21 p (a1v t st p b au to):=a7j hs h hn hv hf ht
structure b1f (t:List Nd) (iU:Nat) (ch names:List ByteArray) (vars:List Nat) (k:Nat):Prop where
 same:names.length=vars.length
 bt:ch.length=iU
 v:(nd t k).kind=6∨(nd t k).kind=8->0<names.length
 c:(nd t k).kind=7∨(nd t k).kind=8->0<ch.length
theorem b0X {l:List ByteArray} {s:ByteArray} (h:0<l.length):a2B l s<l.length:=by
 unfold a2B;split<;>assumption
theorem c2O {l:List Nat} {i:Nat} (h:i<l.length):l.getD i 0∈l:=by simp [List.getD,h]
theorem c2y {n to:Nat} {l:List Ed} {e:Ed} (h:e∈a3U n to l):∃e'∈l,∃b,e={ e' with aF:=b }:=by
 rcases List.mem_append.1 h with h | h
 ·exact ⟨e,List.mem_of_mem_take h,e.aF,rfl⟩
 ·obtain ⟨e',h',rfl⟩:=List.mem_map.1 h
  exact ⟨e',List.mem_of_mem_drop h',_,rfl⟩
theorem a92 {t:List Nd} (ht:a11 t) {iU:Nat} {ch names:List ByteArray} {vars:List Nat} {P:Nat->Prop} (hc:∀j,j<t.length->P j->∀k∈(nd t j).ks,P k) (hs:∀k,P k->b1f t iU ch names vars k):∀ (f k:Nat),k<t.length->P k->a5l (nd t k).kind->t.length-k<f->a4o t iU names vars (W7 t ch f) k
 | 0,k,_,_,_,hf=>by omega
 | f+1,k,hk,hP,jm,hf=>by
   intro p au to h hn hv gY km;have hD:=ht.node k hk;have je:=ht.ks hk;have hS:=hs k hP;have bl:∀b∈(nd t k).ks,(nd t b).kind=16->∀x∈(nd t b).ks,a4o t iU names vars (W7 t ch f) x:=fun b hb jr x hx=>by
    have h1:=je b hb;have h2:=ht.ks h1.2 x hx;exact a92 ht hc hs f x h2.2 (hc b h1.2 (hc k hk hP b hb) x hx) ((ht.node b h1.2).block jr x hx) (by omega)
   have pY:0<names.length->∀s,∃n∈p.vars,((p.vars.getD (a2B p.names s) 0:Nat):Int)=((n:Nat):Int):=fun hp s=>by
    refine ⟨_,c2O ?_,rfl⟩;rw [hv,hn,<- hS.same];exact b0X hp
   have lu:0<ch.length->∀s,∃n:Nat,((a2B ch s:Nat):Int)=(n:Int)/\n<iU:=fun hp s=>⟨_,rfl,by rw [<- hS.bt];exact b0X hp⟩
   have hex:1<=(nd t k).kids.length->a2Y (nd t ((nd t k).aC 0)).kind->∃n:Nat,(((nd t k).aC 0:Nat):Int)=(n:Int)/\n<t.length/\a2Y (nd t n).kind:=fun h1 h2=>⟨_,rfl,(je _ (a1U h1)).2,h2⟩
   have ip:=b0M p au ((nd t k).num 0);have gi:=b8M p au ((nd t k).num 0);have ii:=b42 (n:=au) (is:=(nd t k).num 0) h;unfold W7;simp only;have js:=h.two;by_cases c6:(nd t k).kind=6
   ·rw [if_pos c6]
    have h1:=hD.one (by omega);refine ⟨a3c h ⟨gY,km,by simp,by simp,fun _=>hex (by omega) h1.2,fun _=>pY (hS.v (by omega)) _,by simp,by simp,fun _=>rfl⟩,a3k _ _ _ _ _ _ _ _⟩
   rw [if_neg c6];by_cases c7:(nd t k).kind=7
   ·rw [if_pos c7]
    have h1:=hD.one (by omega);refine ⟨a3c h ⟨gY,km,by simp,by simp,fun _=>hex (by omega) h1.2,by simp,fun _=>rfl,fun _=>lu (hS.c (by omega)) _,by simp⟩,a3k _ _ _ _ _ _ _ _⟩
   rw [if_neg c7];by_cases c8:(nd t k).kind=8
   ·rw [if_pos c8]
    refine ⟨a3c ii ⟨by rw [ip.1];exact gY,by rw [ip.1];exact km,by simp,fun _=>rfl,by simp,fun _=>by rw [ip.2.2.1];exact pY (hS.v (by omega)) _,by simp,fun _=>lu (hS.c (by omega)) _,by simp⟩,gi.trans (a3k _ _ _ _ _ _ _ _)⟩
   rw [if_neg c8];by_cases c9:(nd t k).kind=9
   ·rw [if_pos c9]
    have h1:=hD.one (by omega);exact ⟨a3c ii (a5P (.inl rfl) (by rw [ip.1];exact gY) (by rw [ip.1];exact km) (je _ (a1U (by omega))).2 h1.2),gi.trans (a3k _ _ _ _ _ _ _ _)⟩
   rw [if_neg c9];by_cases tQ:(nd t k).kind=10
   ·rw [if_pos tQ]
    have h1:=hD.choose tQ;have:=b5A (au:=au) (to:=to) (fun b hb=>bl b hb (h1.2 b hb)) ii (ip.2.2.2.trans hn) (ip.2.2.1.trans hv) (by rw [ip.1];exact gY) (by rw [ip.1];exact km);exact ⟨this.1,gi.trans this.2⟩
   rw [if_neg tQ];by_cases uu:(nd t k).kind=11
   ·rw [if_pos uu]
    obtain ⟨l1,l2,l3,l4⟩:=hD.cond uu;have k0:=(je _ (a1U (i:=0) (by omega))).2;have m1:=a1U (x:=nd t k) (i:=1) (by omega);have i1:=a3c (node:=k) (a5e h) (a5P (.inl rfl) (au:=au) (to:=p.ah) (Nat.lt_succ_of_lt gY) (Nat.lt_succ_self _) k0 l2);have g1:=(a5M p).trans (a3k p.place au p.ah 4 k ((nd t k).aC 0:Nat) (-1) (-1));have s1:=a66 (b:=(nd t k).aC 1) (au:=p.ah) (to:=to) (bl _ m1 l3) i1 hn hv (Nat.lt_succ_self _) (Nat.lt_succ_of_lt km);generalize a1v t (W7 t ch f) (p.place.put au p.ah 4 k ((nd t k).aC 0:Nat) (-1) (-1)) ((nd t k).aC 1) p.ah to=q at *;have g2:=g1.trans s1.2;have:=g2.ah;split
    ·exact ⟨a3c s1.1 (a5P (.inr rfl) (by omega) (by omega) k0 l2),g2.trans (a3k _ _ _ _ _ _ _ _)⟩
    ·have l3':(nd t k).kids.length=3:=by omega
     have m2:=a1U (x:=nd t k) (i:=2) (by omega);have jE:q.place.ah=q.ah+1:=rfl;have i2:=a3c (node:=k) (a5e s1.1) (a5P (.inr rfl) (au:=au) (to:=q.ah) (by omega) (Nat.lt_succ_self _) k0 l2);have g3:=(g2.trans (a5M _)).trans (a3k _ au q.ah 5 k ((nd t k).aC 0:Nat) (-1) (-1));have s2:=a66 (b:=(nd t k).aC 2) (au:=q.ah) (to:=to) (bl _ m2 (l4 l3')) i2 (g3.names.trans hn) (g3.vars.trans hv) (Nat.lt_succ_self _) (by show to<q.ah+1;omega);exact ⟨s2.1,g3.trans s2.2⟩
   rw [if_neg uu];by_cases ue:(nd t k).kind=12
   ·rw [if_pos ue]
    obtain ⟨l1,l2,l3⟩:=hD.loop ue;have k0:=(je _ (a1U (i:=0) (by omega))).2;have m1:=a1U (x:=nd t k) (i:=1) (by omega);have i1:=a3c (node:=k) (a5e h) (a5P (.inl rfl) (au:=au) (to:=p.ah) (Nat.lt_succ_of_lt gY) (Nat.lt_succ_self _) k0 l2);have i2:=a3c (node:=k) i1 (a5P (.inr rfl) (au:=au) (to:=to) (Nat.lt_succ_of_lt gY) (Nat.lt_succ_of_lt km) k0 l2);have g1:=((a5M p).trans (a3k p.place au p.ah 4 k ((nd t k).aC 0:Nat) (-1) (-1))).trans (a3k _ au to 5 k ((nd t k).aC 0:Nat) (-1) (-1));have s1:=a7j (node:=(nd t k).aC 1) (au:=p.ah) (to:=au) (bl _ m1 l3) i2 hn hv (Nat.lt_succ_self _) (Nat.lt_succ_of_lt gY);exact ⟨s1.1,g1.trans s1.2⟩
   rw [if_neg ue];by_cases uc:(nd t k).kind=13
   ·rw [if_pos uc]
    obtain ⟨l1,l2⟩:=hD.atom uc;have m0:=a1U (x:=nd t k) (i:=0) (by omega);have s1:=a7j (node:=(nd t k).aC 0) (au:=au) (to:=to) (bl _ m0 l2) h hn hv gY km;obtain ⟨l,hl⟩:=s1.2.ak;refine ⟨⟨s1.1.two,s1.1.rest,fun e he=>?_⟩,⟨s1.2.name,s1.2.copy,s1.2.locals,s1.2.names,s1.2.vars,s1.2.ah,l.map fun e=>{ e with aF:=e.to != to&&e.to != 1 },?_⟩⟩
    ·obtain ⟨e',h',b,rfl⟩:=c2y he
     have:=s1.1.ed e' h';exact ⟨this.f,this.to,this.act,this.ex0,this.gD,this.v1,this.v0,this.c1,this.c0⟩
    ·show a3U _ _ (a1v t (W7 t ch f) p ((nd t k).aC 0) au to).ak=p.ak++l.map fun e=>{ e with aF:=e.to != to&&e.to != 1 }
     unfold a3U a1v;rw [hl,List.take_left,List.drop_left]
   rw [if_neg uc];by_cases vZ:(nd t k).kind=15
   ·rw [if_pos vZ]
    exact ⟨a3c h (a8A gY (by omega)),a3k _ _ _ _ _ _ _ _⟩
   rw [if_neg vZ];exact ⟨a3c h (a8A gY km),a3k _ _ _ _ _ _ _ _⟩
def Fz (d:D):Prop:=∀g n,aL g (n+3) d=some d
theorem U2 {k:IntKind} {n:Int}:Fz (.int k n):=fun _ _=>rfl
theorem a0U {x:ByteArray}:Fz (.str x):=fun _ _=>rfl
theorem FL.fz {sz:Nat} {d:D} {rows:List (List D)} (h:FL sz d rows):Fz d:=fun _ _=>h.aL
theorem X8.fz {d:D} {t:List Nd} (h:X8 d t):Fz d:=h.fl.fz
theorem b6B {f:D->Option D}:∀ {l:List D},(∀d∈l,f d=some d)->X2 f l=some l
 | [],_=>rfl
 | d::r,h=>by
   rw [X2,h d (by simp),b6B fun x hx=>h x (by simp [hx])]
theorem fz1 {g:a0k} {a:D} (ha:Fz a):X2 (V.aL g 20) [a]=some [a]:=by simp only [X2,ha g 17]
theorem X3 {g:a0k} {a b:D} (ha:Fz a) (hb:Fz b):X2 (V.aL g 20) [a,b]=some [a,b]:=by simp only [X2,ha g 17,hb g 17]
theorem X1 {g:a0k} {a b c:D} (ha:Fz a) (hb:Fz b) (hc:Fz c):X2 (V.aL g 20) [a,b,c]=some [a,b,c]:=by simp only [X2,ha g 17,hb g 17,hc g 17]
theorem fK {g:a0k} {a b c d e:D} (ha:Fz a) (hb:Fz b) (hc:Fz c) (hd:Fz d) (he:Fz e):X2 (V.aL g 20) [a,b,c,d,e]=some [a,b,c,d,e]:=by simp only [X2,ha g 17,hb g 17,hc g 17,hd g 17,he g 17]
theorem b9k {l:List D} (h:∀d∈l,∀g n,aL g (n+2) d=some d):Fz (.agg l):=fun g n=>by
 show (X2 (V.aL g (n+2)) l).map D.agg=some (D.agg l)
 rw [b6B fun d hd=>h d hd g n];rfl
theorem FL.ic {sz:Nat} {d:D} {rows:List (List D)} (h:FL sz d rows):∀g n,V.aL g (n+2) d=some d:=fun _ _=>h.aL
theorem Nd.Ok.fz {x:Nd} (h:x.Ok):Fz (.agg x.row):=b9k fun d hd=>by
 simp only [Nd.row,List.mem_cons,List.not_mem_nil,or_false] at hd;rcases hd with rfl | rfl | rfl | rfl | rfl
 ·exact fun _ _=>rfl
 ·exact FL.ic h.w
 ·exact FL.ic h.n
 ·exact FL.ic h.k
 ·exact fun _ _=>rfl
theorem a61 {x:Nd} {i:Nat} (h:i<x.kids.length):x.aC i=x.kids[i].toNat:=by simp [Nd.aC,List.getD,h]
theorem a7p {x:Nd} {i:Nat} (h:i<x.aH.length):x.num i=x.aH[i]:=by simp [Nd.num,List.getD,h]
theorem a5o {x:Nd} {i:Nat} (h:i<x.words.length):x.word i=x.words[i]:=by simp [Nd.word,List.getD,h]
theorem X8.at {d:D} {t:List Nd} (h:X8 d t) {z:Int} (h0:0<=z) (hl:z<(t.length:Int)) {k:IntKind}:W1 5 d (.int k z)=some (.fp [.int .i64 (nd t z.toNat).kind,(nd t z.toNat).dw,(nd t z.toNat).dn,(nd t z.toNat).dk,.int .i64 (nd t z.toNat).pos] 0):=by
 have hz:((z.toNat:Nat):Int)=z:=Int.toNat_of_nonneg h0;have:=h.idx (i:=z.toNat) (by omega) (k:=k);rw [hz,<- b6f (by omega)] at this;exact this
theorem X8.nd {d:D} {t:List Nd} (h:X8 d t) {i:Nat} (hi:i<t.length):(V.nd t i).Ok:=by rw [b6f hi];exact h.get hi
section
variable {fs:FuncId->Option U3}
structure bN where
 i:Nat
 rd:Option Nat
 eff:List Nat
structure TrE (n:Nat) (e:bN) (t:Tr):Prop where
 i:t.idx=e.i
 rd:t.rd=e.rd
 ef:∀id,id∉e.eff->t.pre.get id=t.post.get id
 lt:∀id,e.rd=some id->id<n
def TrM (n:Nat) (T:List bN) (tr:List Tr):Prop:=∀t∈tr,(t.rd=none/\∀id,t.pre.get id=t.post.get id)∨∃e∈T,TrE n e t
def WX (fs:FuncId->Option U3) (ae:List (Nat×Nat)) (T:List bN) (ops:List (Nat×Z3)) (env:q8) (s:k4) (Q:q8->k4->Prop):Prop:=∀tr,TrM s.next T tr->WO fs ae ops tr env s Q
theorem vw_rgx {vars ops p ae dr env s Q} (h:WX fs (p::ae) [] ops env s fun gQ s'=>Q .normal (gQ.aF vars) s'):WP fs vars (.region ⟨ops,p::ae,dr⟩) env s Q:=b3H (h [] (by simp [TrM]))
theorem b06 {a b:k4} {r:Option Nat} (h:∀id,r=some id->a.get id=b.get id):a1N a b r=true:=by
 cases r with
 | none=>rfl
 | some id=>simp only [a1N];rw [h id rfl];exact a9S _
def Free (ae:List (Nat×Nat)) (T:List bN) (i:Nat) (r:Option Nat) (E:List Nat):Prop:=∀e∈T,(e.i,i)∈ae->(∀id,e.rd=some id->id∉E)/\∀id,r=some id->id∉e.eff
theorem b22 {ae:List (Nat×Nat)} {T:List bN} {n:Nat} {j:Tr} {E:List Nat} (hE:∀id,id∉E->j.pre.get id=j.post.get id) (hf:Free ae T j.idx j.rd E):∀ {tr:List Tr},TrM n T tr->a1q ae j tr=true
 | [],_=>rfl
 | t::r,h=>by
   have ih:=b22 hE hf (tr:=r) fun x hx=>h x (by simp [hx])
   rcases h t (by simp) with ⟨k1,k2⟩ | ⟨e,he,k⟩
   ·have s1:a1N j.pre j.post t.rd=true:=by rw [k1];rfl
    have s2:a1N t.pre t.post j.rd=true:=b06 fun id _=>k2 id
    simp only [a1q,s1,s2,Bool.and_self,ite_self,Bool.true_and,ih]
   by_cases hc:(t.idx,j.idx)∈ae
   ·rw [k.i] at hc
    obtain ⟨f1,f2⟩:=hf e he hc;have s1:a1N j.pre j.post t.rd=true:=b06 fun id gX=>hE id (f1 id (by rw [<- k.rd];exact gX))
    have s2:a1N t.pre t.post j.rd=true:=b06 fun id gX=>k.ef id (f2 id gX)
    simp only [a1q,s1,s2,Bool.and_self,ite_self,Bool.true_and,ih]
   ·have pQ:ae.contains (t.idx,j.idx)=false:=by rw [Bool.eq_false_iff];intro h';rw [List.contains_iff_mem] at h';exact hc h'
    simp only [a1q,pQ,Bool.false_eq_true,if_false,Bool.true_and,ih]
theorem TrM.grow {n m:Nat} {T:List bN} {tr:List Tr} (h:TrM n T tr) (hm:n<=m) (e:bN):TrM m (e::T) tr:=fun t ht=>by
 rcases h t ht with k | ⟨e',h1,h2⟩
 ·exact .inl k
 ·exact .inr ⟨e',by simp [h1],h2.i,h2.rd,h2.ef,fun id gX=>Nat.lt_of_lt_of_le (h2.lt id gX) hm⟩
theorem b4e {ae T i o rest env s Q} (hw:a2c env o.guard=some true) {d s'} {E:List Nat} (m:Nat) (hr:a0i (a2j fs (a0a fs m)) env s o.op=some (d,s')) (hE:∀id,id∉E->s.get id=s'.get id) (hn:s.next<=s'.next) (hl:∀id,a1p env o.op=some id->id<s.next) (hf:Free ae T i (a1p env o.op) E)
 (h:WX fs ae (⟨i,a1p env o.op,E⟩::T) rest (env.put o.dst d) s' Q):WX fs ae T ((i,o)::rest) env s Q:=by
 intro tr ht;refine a4i hw m hr (b22 (j:=⟨i,a1p env o.op,s,s'⟩) hE hf ht) (h _ ?_);split
 ·exact ht.grow hn _
 ·intro t hm
  rcases List.mem_cons.1 hm with rfl | hm
  ·exact .inr ⟨⟨i,a1p env o.op,E⟩,by simp,rfl,rfl,hE,fun id gX=>Nat.lt_of_lt_of_le (hl id gX) hn⟩
  ·exact ht.grow hn _ t hm
theorem c4x {ae:List (Nat×Nat)} {T:List bN} {i:Nat}:Free ae T i none []:=fun e _ _=>⟨by simp,by simp⟩
theorem b2h {ae T i o rest env s Q} (hw:a2c env o.guard=some true) {d} (m:Nat) (hr:a0i (a2j fs (a0a fs m)) env s o.op=some (d,s)) (hn:a1p env o.op=none) (h:WX fs ae T rest (env.put o.dst d) s Q):WX fs ae T ((i,o)::rest) env s Q:=by
 intro tr ht;refine a4i hw m hr (b22 (E:=[]) (fun _ _=>rfl) (by rw [hn];exact c4x) ht) (h _ ?_);split
 ·exact ht
 ·intro t hm
  rcases List.mem_cons.1 hm with rfl | hm
  ·exact .inl ⟨hn,fun _=>rfl⟩
  ·exact ht t hm
theorem wx_nil {ae T env s Q} (h:Q env s):WX fs ae T [] env s Q:=fun _ _=>b9v h
theorem b9B {ae T i o rest env s Q} (hw:a2c env o.guard=some false) (h:WX fs ae T rest (env.put o.dst (.aR [])) s Q):WX fs ae T ((i,o)::rest) env s Q:=fun tr ht=>b9z hw (h tr ht)
theorem wx_p {ae T i t o rest s Q} {env:q8} {d:D} (hr:bH env o=some d) (h:WX fs ae T rest ((t,d)::env) s Q):WX fs ae T ((i,⟨some t,.p o,none⟩)::rest) env s Q :=
 b2h rfl 0 (by simp only [a0i,hr,Option.map_some]) rfl h
theorem wx_fp {ae T i t n x rest s Q} {env:q8} {d:D} {cs:List D} {off:Nat} (hx:env.ev x=.fp cs off) (hr:bk s.get n (.fp cs off)=some d) (h:WX fs ae T rest ((t,d)::env) s Q):WX fs ae T ((i,⟨some t,.r (.load n x),none⟩)::rest) env s Q :=
 b2h rfl 0 (by simp only [a0i,a8C,hx,hr,Option.map_some]) (by simp only [a1p,fV,hx]) h
theorem wx_ld {ae T i t n x rest s Q} {env:q8} {d:D} {id off:Nat} (hx:env.ev x=.ptr id off) (hr:bk s.get n (.ptr id off)=some d) (hf:∀e∈T,(e.i,i)∈ae->id∉e.eff) (h:WX fs ae (⟨i,some id,[]⟩::T) rest ((t,d)::env) s Q):WX fs ae T ((i,⟨some t,.r (.load n x),none⟩)::rest) env s Q:=by
 have kJ:a1p env (.r (.load n x))=some id:=by simp only [a1p,fV,hx]
 have iC:id<s.next:=by
  simp only [bk] at hr;cases hg:s.get id with
  | none=>rw [hg] at hr;cases hr
  | some o=>exact u7 hg
 refine b4e (E:=[]) rfl 0 (d:=d) (s':=s) (by simp only [a0i,a8C,hx,hr,Option.map_some]) (fun _ _=>rfl) (Nat.le_refl _) ?_ ?_ ?_
 ·intro j hj
  simp only [kJ,Option.some.injEq] at hj;subst hj;exact iC
 ·simp only [kJ]
  intro e he hp;refine ⟨by simp,fun j hj=>?_⟩;simp only [Option.some.injEq] at hj;subst hj;exact hf e he hp
 ·simp only [kJ];exact h
theorem wx_a {ae T i t o rest s Q} {env:q8} {ob:Y1} {m:a0f} (hr:dW env o=some (ob,m)) (h:WX fs ae (⟨i,none,[s.next]⟩::T) rest ((t,m.at s.next)::env) (s.push ob) Q):WX fs ae T ((i,⟨some t,.a o,none⟩)::rest) env s Q:=by
 intro tr ht;have hE:∀id,id∉[s.next]->s.get id=(s.push ob).get id:=fun id gX=>by
  rw [k4.aM,if_neg (by simpa using gX)]
 refine a4i rfl 0 (d:=m.at s.next) (s':=s.push ob) (by simp only [a0i,hr]) ?_ (h _ ?_)
 ·have key:∀ {tr:List Tr},TrM s.next T tr->a1q ae ⟨i,none,s,s.push ob⟩ tr=true:=by
   intro tr;induction tr with
   | nil=>intro _;rfl
   | cons x r ih =>
     intro hx;have ih:=ih fun y hy=>hx y (by simp [hy])
     have s1:a1N s (s.push ob) x.rd=true:=by
      rcases hx x (by simp) with ⟨k1,_⟩ | ⟨e,_,k⟩
      ·rw [k1];rfl
      ·refine b06 fun id gX=>hE id ?_
       have:=k.lt id (by rw [<- k.rd];exact gX);simp only [List.mem_singleton];omega
     have s2:a1N x.pre x.post none=true:=rfl;simp only [a1q,s1,s2,Bool.and_self,ite_self,Bool.true_and,ih]
  exact key ht
 ·have hn:s.next<=(s.push ob).next:=by simp
  split
  ·exact ht.grow hn _
  ·intro x hm
   rcases List.mem_cons.1 hm with rfl | hm
   ·exact .inr ⟨⟨i,none,[s.next]⟩,by simp,rfl,rfl,hE,by simp⟩
   ·exact ht.grow hn _ x hm
theorem wx_w {ae T i n a v rest s Q} {env:q8} {id off:Nat} {ob:Y1} (hx:env.ev a=.ptr id off) (hr:dh env s.get n a v=some (id,ob)) (hf:∀e∈T,(e.i,i)∈ae->e.rd≠some id/\id∉e.eff) (h:WX fs ae (⟨i,some id,[id]⟩::T) rest env (s.set id (some ob)) Q):WX fs ae T ((i,⟨none,.w n a v,none⟩)::rest) env s Q:=by
 have kJ:a1p env (.w n a v)=some id:=by simp only [a1p,rdW,hx]
 have iC:id<s.next:=by
  simp only [dh,hx] at hr;cases hg:s.get id with
  | none=>rw [hg] at hr;cases hr
  | some o=>exact u7 hg
 refine b4e (E:=[id]) rfl 0 (d:=.aR []) (s':=s.set id (some ob)) (by simp only [a0i,hr]) (fun j hj=>by rw [Z7 (by simpa using hj)]) (by simp) ?_ ?_ ?_
 ·intro j hj
  simp only [kJ,Option.some.injEq] at hj;subst hj;exact iC
 ·simp only [kJ]
  intro e he hp;obtain ⟨f1,f2⟩:=hf e he hp;refine ⟨fun j hj hm=>?_,fun j hj=>?_⟩
  ·simp only [List.mem_singleton] at hm
   subst hm;exact f1 hj
  ·simp only [Option.some.injEq] at hj
   subst hj;exact f2
 ·simp only [kJ];exact h
theorem b1j {ae T i t o rest s Q} {env:q8} {d:D} {s':k4} {E:List Nat} (hr:∃n,bZ (a2j fs (a0a fs n)) env s o=some (d,s')) (hE:∀id,id∉E->s.get id=s'.get id) (hn:s.next<=s'.next) (hf:∀e∈T,(e.i,i)∈ae->∀id,e.rd=some id->id∉E)
 (h:WX fs ae (⟨i,none,E⟩::T) rest ((t,d)::env) s' Q):WX fs ae T ((i,⟨some t,.m o,none⟩)::rest) env s Q:=by
 obtain ⟨n,jH⟩:=hr;refine b4e (E:=E) rfl n (d:=d) (s':=s') (by simp only [a0i];exact jH) hE hn (by intro id gX;simp [a1p] at gX) (fun e he hp=>⟨hf e he hp,by intro id gX;simp [a1p] at gX⟩) h
theorem wx_iso {ae T i t f args rest s Q} {env:q8} {l l':List D} {d r:D} {s1:k4} (hl:env.aP args=l) (ha:X2 (aL s.get 20) l=some l')
 (hr:Ev fs f l' k4.empty r s1) (hi:aL s1.get 20 r=some d) (hs:(a2d d||aJ l)=true)
 (h:WX fs ae T rest ((t,d)::env) s Q):WX fs ae T ((i,⟨some t,.m (.call .fF (.aG (.fn f [])) args),none⟩)::rest) env s Q:=by
 subst hl;obtain ⟨n,hn⟩:=hr;have jH:a2j fs (a0a fs n) f l' k4.empty=some (r,s1):=hn;exact b2h rfl n (by simp only [a0i,bZ,a2U,q8.ev,List.append_nil,ha,jH,hi,hs,if_true]) rfl h
end
def a4P (w:Nat->Nat×Bool) (len:Nat):List Int->Nat->Nat×Bool
 | [],next=>(next,true)
 | k::ks,next=>if k≠(next:Int)∨len<=next then (next,false) else if (w next).2 then a4P w len ks (w next).1 else ((w next).1,false)
def a0K (t:List Nd):Nat->Nat->Nat×Bool
 | 0,i=>(i,false)
 | f+1,i=>a4P (a0K t f) t.length (nd t i).kids (i+1)
structure Sub (t:List Nd) (i n:Nat):Prop where
 lt:i<n
 le:n<=t.length
 down:∀j,i<=j->j<n->∀k∈(nd t j).kids,(j:Int)<k/\k<(n:Int)
 up:∀j,i<j->j<n->∃p,i<=p/\p<n/\(j:Int)∈(nd t p).kids
def a1R (t:List Nd):List Int->Nat->Nat->Prop
 | [],a,n=>a=n
 | k::ks,a,n=>k=(a:Int)/\∃b,Sub t a b/\a1R t ks b n
theorem a1R.le {t:List Nd}:∀ {ks:List Int} {a n:Nat},a1R t ks a n->a<=n
 | [],a,n,h=>Nat.le_of_eq h
 | k::ks,a,n,h=>by
   obtain ⟨_,b,h1,h2⟩:=h;have:=h1.lt;have:=h2.le;omega
theorem a1R.down {t:List Nd}:∀ {ks:List Int} {a n:Nat},a1R t ks a n->∀j,a<=j->j<n->∀k∈(nd t j).kids,(j:Int)<k/\k<(n:Int)
 | [],a,n,h,j,h1,h2=>by simp only [a1R] at h;omega
 | k::ks,a,n,h,j,h1,h2=>by
   obtain ⟨_,b,h3,h4⟩:=h;have:=h4.le;by_cases hj:j<b
   ·intro x hx
    have:=h3.down j h1 hj x hx;omega
   ·exact h4.down j (by omega) h2
theorem a1R.up {t:List Nd}:∀ {ks:List Int} {a n:Nat},a1R t ks a n->∀j,a<=j->j<n->(j:Int)∈ks∨∃p,a<=p/\p<n/\(j:Int)∈(nd t p).kids
 | [],a,n,h,j,h1,h2=>by simp only [a1R] at h;omega
 | k::ks,a,n,h,j,h1,h2=>by
   obtain ⟨rfl,b,h3,h4⟩:=h;have:=h4.le;have:=h3.lt;by_cases hj:j<b
   ·by_cases ha:j=a
    ·subst ha;exact .inl (by simp)
    ·obtain ⟨p,p1,p2,p3⟩:=h3.up j (by omega) hj
     exact .inr ⟨p,p1,by omega,p3⟩
   ·rcases h4.up j (by omega) h2 with h | ⟨p,p1,p2,p3⟩
    ·exact .inl (by simp [h])
    ·exact .inr ⟨p,by omega,p2,p3⟩
theorem a1R.mem {t:List Nd}:∀ {ks:List Int} {a n:Nat},a1R t ks a n->∀k∈ks,(a:Int)<=k/\k<(n:Int)
 | [],a,n,h=>by simp
 | k::ks,a,n,h=>by
   obtain ⟨rfl,b,h3,h4⟩:=h;have:=h4.le;have:=h3.lt;intro x hx;rcases List.mem_cons.1 hx with rfl | hx
   ·omega
   ·have:=h4.mem x hx
    omega
theorem sub_of {t:List Nd} {i n:Nat} (h:a1R t (nd t i).kids (i+1) n) (hn:n<=t.length):Sub t i n:=by
 have hl:=h.le;refine ⟨by omega,hn,fun j h1 h2=>?_,fun j h1 h2=>?_⟩
 ·by_cases hj:j=i
  ·subst hj
   intro k hk;have:=h.mem k hk;omega
  ·exact h.down j (by omega) h2
 ·rcases h.up j (by omega) h2 with h | ⟨p,p1,p2,p3⟩
  ·exact ⟨i,by omega,by omega,h⟩
  ·exact ⟨p,by omega,p2,p3⟩
theorem b4Z {t:List Nd} {w:Nat->Nat×Bool} (hw:∀i n,i<t.length->w i=(n,true)->Sub t i n):∀ {ks:List Int} {next n:Nat},next<=t.length->a4P w t.length ks next=(n,true)->a1R t ks next n/\n<=t.length
 | [],next,n,hl,h=>by
   simp only [a4P,Prod.mk.injEq,and_true] at h;subst h;exact ⟨rfl,hl⟩
 | k::ks,next,n,hl,h=>by
   unfold a4P at h;split at h
   ·simp at h
   ·rename_i hc
    split at h
    ·rename_i ht
     have hk:k=(next:Int)/\next<t.length:=by omega
     have a:=hw next (w next).1 hk.2 (by rw [<- ht]);obtain ⟨b1,b2⟩:=b4Z hw a.le h;exact ⟨⟨hk.1,_,a,b1⟩,b2⟩
    ·simp at h
theorem a5I {t:List Nd}:∀ (f:Nat) {i n:Nat},i<t.length->a0K t f i=(n,true)->Sub t i n/\a1R t (nd t i).kids (i+1) n
 | 0,i,n,_,h=>by simp [a0K] at h
 | f+1,i,n,hi,h=>by
   obtain ⟨a1,a2⟩:=b4Z (fun i n hi h=>(a5I f hi h).1) (by omega) h;exact ⟨sub_of a1 a2,a1⟩
theorem b48 {t:List Nd} {w:Nat->Nat×Bool} (hw:∀i,i<t.length->(w i).1<=t.length):∀ {ks:List Int} {next:Nat},next<=t.length->(a4P w t.length ks next).1<=t.length
 | [],next,h=>h
 | k::ks,next,h=>by
   unfold a4P;split
   ·exact h
   ·rename_i hc
    split
    ·exact b48 hw (hw next (by omega))
    ·exact hw next (by omega)
theorem b9g {t:List Nd}:∀ (f:Nat) {i:Nat},i<t.length->(a0K t f i).1<=t.length
 | 0,i,h=>Nat.le_of_lt h
 | f+1,i,h=>b48 (fun i hi=>b9g f hi) (by omega)
structure Y9 (t:List Nd):Prop where
 ok:a11 t
 cK:a1R t (nd t 0).kids 1 t.length
 walk:a0K t 20 0=(t.length,true)
def a4f:List Int->Nat->Nat->Nat
 | [],_,out=>out
 | k::ks,i,out=>a4f ks i (if k<=(i:Int) then k.toNat else out)
def item (t:List Nd) (i:Nat):Nat:=a4f (nd t 0).kids i 0
theorem b1e {ks:List Int} {i out:Nat} (h:∀k∈ks,(i:Int)<k):a4f ks i out=out:=by
 induction ks generalizing out with
 | nil=>rfl
 | cons k ks ih =>
   have:=h k (by simp);unfold a4f;rw [if_neg (by omega)];exact ih fun x hx=>h x (by simp [hx])
theorem b7h {t:List Nd}:∀ {ks:List Int} {a n i out:Nat},a1R t ks a n->a<=i->i<n->∃b,(a4f ks i out:Int)∈ks/\Sub t (a4f ks i out) b/\a4f ks i out<=i/\i<b
 | [],a,n,i,out,h,h1,h2=>by simp only [a1R] at h;omega
 | k::ks,a,n,i,out,h,h1,h2=>by
   obtain ⟨rfl,b,h3,h4⟩:=h;unfold a4f;rw [if_pos (by omega)];by_cases hb:i<b
   ·rw [b1e fun x hx=>by have:=h4.mem x hx;omega]
    exact ⟨b,by simp,by simpa using h3,by simpa using h1,hb⟩
   ·obtain ⟨c,c1,c2,c3,c4⟩:=b7h (out:=(a:Int).toNat) h4 (by omega) h2
    exact ⟨c,List.mem_cons_of_mem _ c1,c2,c3,c4⟩
theorem c1K {t:List Nd} (h:Y9 t) {i:Nat} (h1:1<=i) (h2:i<t.length):∃b,(item t i:Int)∈(nd t 0).kids/\Sub t (item t i) b/\item t i<=i/\i<b:=b7h h.cK h1 h2
theorem a7d {t:List Nd} (h:Y9 t) {x:Nat} (hx:(x:Int)∈(nd t 0).kids):item t x=x:=by
 have hm:=h.cK.mem _ hx;have key:∀ {ks:List Int} {a n out:Nat},a1R t ks a n->(x:Int)∈ks->a4f ks x out=x:=by
  intro ks;induction ks with
  | nil=>intro a n out _ hx;simp at hx
  | cons k ks ih =>
    intro a n out hs hx;obtain ⟨rfl,b,h3,h4⟩:=hs;unfold a4f;rcases List.mem_cons.1 hx with hx | hx
    ·rw [if_pos (by omega),b1e fun y hy=>by have:=h4.mem y hy;have:=h3.lt;omega]
     omega
    ·exact ih h4 hx
 exact key h.cK hx
theorem b44 {t:List Nd} (h:Y9 t) {x i:Nat} (hx:(x:Int)∈(nd t 0).kids):∃b,Sub t x b/\b<=t.length/\∀i,x<=i->i<b->item t i=x:=by
 have key:∀ {ks:List Int} {a n:Nat},a1R t ks a n->(x:Int)∈ks->∃b,Sub t x b/\b<=n/\∀i out,x<=i->i<b->a4f ks i out=x:=by
  intro ks;induction ks with
  | nil=>intro a n _ hx;simp at hx
  | cons k ks ih =>
    intro a n hs hx;obtain ⟨rfl,b,h3,h4⟩:=hs;have hl:=h4.le;rcases List.mem_cons.1 hx with hx | hx
    ·obtain rfl:x=a:=by omega
     refine ⟨b,h3,hl,fun i out h1 h2=>?_⟩;unfold a4f;rw [if_pos (by omega),b1e fun y hy=>by have:=h4.mem y hy;omega];omega
    ·obtain ⟨c,c1,c2,c3⟩:=ih h4 hx
     exact ⟨c,c1,c2,fun i out h1 h2=>c3 i _ h1 h2⟩
 obtain ⟨b,b1,b2,b3⟩:=key h.cK hx;exact ⟨b,b1,b2,fun i h1 h2=>b3 i 0 h1 h2⟩
def a3t (t:List Nd) (kind:Int) (aI:Nat) (s:ByteArray):Prop:=∃i,i<aI/\(nd t i).kind=kind/\(item t i=i∨item t i=item t aI)/\(nd t i).word 0=s
def a1m (t:List Nd) (aI:Nat) (kind:Int):Nat->List ByteArray
 | 0=>[]
 | i+1=>if (nd t i).kind=kind/\(item t i=i∨item t i=item t aI)/\dY (a1m t aI kind i) ((nd t i).word 0)=false then a1m t aI kind i++[(nd t i).word 0] else a1m t aI kind i
theorem b5p {t:List Nd} {aI:Nat} {kind:Int} {s:ByteArray}:∀ {n:Nat},s∈a1m t aI kind n↔∃i,i<n/\(nd t i).kind=kind/\(item t i=i∨item t i=item t aI)/\(nd t i).word 0=s
 | 0=>by simp [a1m]
 | n+1=>by
   have ih:=b5p (t:=t) (aI:=aI) (kind:=kind) (s:=s) (n:=n);rw [a1m];split
   ·rename_i hc
    rw [List.mem_append,ih];constructor
    ·rintro (⟨i,h1,h2⟩ | h)
     ·exact ⟨i,by omega,h2⟩
     ·simp at h
      exact ⟨n,by omega,hc.1,hc.2.1,h.symm⟩
    ·rintro ⟨i,h1,h2,h3,h4⟩
     by_cases hi:i=n
     ·subst hi;right;simp [h4]
     ·exact .inl ⟨i,by omega,h2,h3,h4⟩
   ·rename_i hc
    rw [ih];constructor
    ·rintro ⟨i,h1,h2⟩
     exact ⟨i,by omega,h2⟩
    ·rintro ⟨i,h1,h2,h3,h4⟩
     by_cases hi:i=n
     ·subst hi
      have:(nd t i).word 0∈a1m t aI kind i:=by
       rw [<- b4q];cases h:dY (a1m t aI kind i) ((nd t i).word 0)
       ·exact (hc ⟨h2,h3,h⟩).elim
       ·rfl
      rw [h4] at this;obtain ⟨j,j1,j2⟩:=ih.1 this;exact ⟨j,j1,j2⟩
     ·exact ⟨i,by omega,h2,h3,h4⟩
structure a5h (t:List Nd):Prop where
 use:∀i,i<t.length->(nd t i).kind=6∨(nd t i).kind=18->a3t t 2 i ((nd t i).word 0)
 chan:∀i,i<t.length->(nd t i).kind=7∨(nd t i).kind=19∨(nd t i).kind=8->a3t t 1 i ((nd t i).word 0)
 recv:∀i,i<t.length->(nd t i).kind=8->a3t t 2 i ((nd t i).word 1)
 once:∀i,i<t.length->(nd t i).kind=1∨(nd t i).kind=2∨(nd t i).kind=3->¬ a3t t 1 i ((nd t i).word 0)/\¬ a3t t 2 i ((nd t i).word 0)/\¬ a3t t 3 i ((nd t i).word 0)
def KF (t:List Nd) (g:Nat) (ks:List Int) (a n:Nat):Prop:=a4P (a0K t g) t.length ks a=(n,true)
theorem KF.cons {t:List Nd} {g:Nat} {z:Int} {zs:List Int} {a n:Nat} (h:KF t g (z::zs) a n):z=(a:Int)/\a<t.length/\∃b,a0K t g a=(b,true)/\a<b/\b<=t.length/\KF t g zs b n:=by
 unfold KF a4P at h;split at h
 ·simp at h
 ·rename_i hc
  split at h
  ·rename_i ht
   have ha:a<t.length:=by omega
   have hw:a0K t g a=((a0K t g a).1,true):=by rw [<- ht]
   have hs:=(a5I g ha hw).1;exact ⟨by omega,ha,(a0K t g a).1,hw,hs.lt,hs.le,h⟩
  ·simp at h
theorem KF.nil {t:List Nd} {g:Nat} {a n:Nat} (h:KF t g [] a n):n=a:=by
 simp only [KF,a4P,Prod.mk.injEq,and_true] at h;exact h.symm
theorem KF.le {t:List Nd} {g:Nat}:∀ {ks:List Int} {a n:Nat},KF t g ks a n->a<=n
 | [],a,n,h=>by have:=h.nil;omega
 | z::zs,a,n,h=>by
   obtain ⟨_,_,b,_,h1,_,h2⟩:=h.cons;have:=h2.le;omega
theorem a5G {t:List Nd} {g k n:Nat} (h:a0K t g k=(n,true)):∃g',g=g'+1/\KF t g' (nd t k).kids (k+1) n:=by
 cases g with
 | zero=>simp [a0K] at h
 | succ g=>exact ⟨g,rfl,h⟩
structure Gw (p q:Pr) (n:Nat):Prop where
 pl:q.ah<=p.ah+n
 rl:q.rest.length<=p.rest.length+n
 el:q.ak.length<=p.ak.length+n
theorem Gw.refl (p:Pr):Gw p p 0:=⟨Nat.le_refl _,Nat.le_refl _,Nat.le_refl _⟩
theorem Gw.trans {p q r:Pr} {a b:Nat} (h:Gw p q a) (k:Gw q r b):Gw p r (a+b):=⟨by have:=h.pl;have:=k.pl;omega,by have:=h.rl;have:=k.rl;omega,by have:=h.el;have:=k.el;omega⟩
theorem Gw.le {p q:Pr} {a b:Nat} (h:Gw p q a) (k:a<=b):Gw p q b:=⟨by have:=h.pl;omega,by have:=h.rl;omega,by have:=h.el;omega⟩
theorem a22 (p:Pr) (au to act node:Nat) (expr v c:Int):Gw p (p.put au to act node expr v c) 1:=⟨by simp [Pr.put],by simp [Pr.put],by simp [Pr.put]⟩
theorem a5n (p:Pr):Gw p p.place 1:=⟨by simp [Pr.place],by simp [Pr.place],by simp [Pr.place]⟩
theorem b0u (p:Pr) (n:Nat) (is:Int):Gw p (p.idle n is) 0:=by
 unfold Pr.idle;split
 ·exact ⟨Nat.le_refl _,by simp,Nat.le_refl _⟩
 ·exact Gw.refl p
def fL (t:List Nd) (st:Pr->Nat->Nat->Nat->Pr) (k:Nat):Prop:=∀g n,a0K t g k=(n,true)->∀p au to,Gw p (st p k au to) (4*(n-k)-1)
theorem b1E {t:List Nd} {st:Pr->Nat->Nat->Nat->Pr} {node g:Nat}:∀ {ks:List Int} {a n:Nat} {p:Pr} {au to:Nat},KF t g ks a n->(∀k∈ks.map Int.toNat,fL t st k)->Gw p (a5y st node p (ks.map Int.toNat) au to) (4*(n-a)+1)
 | [],a,n,p,au,to,h,_=>(a22 _ _ _ _ _ _ _ _).le (by omega)
 | [z],a,n,p,au,to,h,hs=>by
   obtain ⟨rfl,h1,b,h2,h3,h4,h5⟩:=h.cons;obtain rfl:=h5.nil;exact (hs _ (by simp) g n (by simpa using h2) p au to).le (by simp;omega)
 | z::z'::zs,a,n,p,au,to,h,hs=>by
   obtain ⟨rfl,h1,b,h2,h3,h4,h5⟩:=h.cons;have hle:=h5.le;have s1:=hs ((a:Int).toNat) (by simp) g b (by simpa using h2) p.place au p.ah;have s2:=b1E (st:=st) (node:=node) (p:=st p.place (a:Int).toNat au p.ah) (au:=p.ah) (to:=to) h5 (fun k hk=>hs k (by simp only [List.map_cons,List.mem_cons] at hk ⊢;right;exact hk));exact (((a5n p).trans s1).trans s2).le (by simp;omega)
theorem a4X {t:List Nd} {st:Pr->Nat->Nat->Nat->Pr} {g b n:Nat} {p:Pr} {au to:Nat} (hb:b<t.length) (h:a0K t g b=(n,true)) (hs:∀k∈(nd t b).ks,fL t st k):Gw p (a1v t st p b au to) (4*(n-b)-3):=by
 obtain ⟨g',rfl,hk⟩:=a5G h;have:=hk.le;exact (b1E hk hs).le (by omega)
theorem b6x {t:List Nd} {st:Pr->Nat->Nat->Nat->Pr} {au to g:Nat}:∀ {ks:List Int} {a n:Nat} {p:Pr},KF t g ks a n->(∀b∈ks.map Int.toNat,∀k∈(nd t b).ks,fL t st k)->Gw p (a2I t st au to p (ks.map Int.toNat)) (4*(n-a))
 | [],a,n,p,h,_=>(Gw.refl p).le (by omega)
 | z::zs,a,n,p,h,hs=>by
   obtain ⟨rfl,h1,b,h2,h3,h4,h5⟩:=h.cons;have hle:=h5.le;have AL:∀k∈(nd t a).ks,fL t st k:=by simpa using hs (a:Int).toNat (by simp)
   rw [List.map_cons,a2I];simp only [Int.toNat_natCast];have key:∀q,Gw p q (4*(b-a)-1)->Gw p (a2I t st au to q (zs.map Int.toNat)) (4*(n-a)):=fun q hq=>(hq.trans (b6x h5 fun b hb=>hs b (by simp only [List.map_cons,List.mem_cons];right;exact hb))).le (by omega)
   split
   ·exact key _ ((((a5n p).trans (a22 p.place au p.ah 0 a (-1) (-1) (-1))).trans (a4X h1 h2 AL)).le (by omega))
   ·exact key _ ((a4X h1 h2 AL).le (by omega))
theorem b0Y {t:List Nd} (ht:a11 t) (ch:List ByteArray):∀ (f k:Nat),k<t.length->a5l (nd t k).kind->t.length-k<f->fL t (W7 t ch f) k
 | 0,k,_,_,h=>by omega
 | f+1,k,hk,jm,hf=>by
   intro g n hw p au to;have iM:=(a5I g hk hw).1;have iC:=iM.lt;have hle:=iM.le;obtain ⟨g',rfl,iv⟩:=a5G hw;have hD:=ht.node k hk;have je:=ht.ks hk;have bl:∀b∈(nd t k).ks,(nd t b).kind=16->∀x∈(nd t b).ks,fL t (W7 t ch f) x:=fun b hb jr x hx=>by
    have h1:=je b hb;have h2:=ht.ks h1.2 x hx;exact b0Y ht ch f x h2.2 ((ht.node b h1.2).block jr x hx) (by omega)
   have one:∀q:Pr,Gw p q 1->Gw p q (4*(n-k)-1):=fun q h=>h.le (by omega)
   unfold W7;simp only;by_cases c6:(nd t k).kind=6
   ·rw [if_pos c6];exact one _ (a22 _ _ _ _ _ _ _ _)
   rw [if_neg c6];by_cases c7:(nd t k).kind=7
   ·rw [if_pos c7];exact one _ (a22 _ _ _ _ _ _ _ _)
   rw [if_neg c7];by_cases c8:(nd t k).kind=8
   ·rw [if_pos c8];exact one _ (((b0u _ _ _).trans (a22 _ _ _ _ _ _ _ _)).le (by omega))
   rw [if_neg c8];by_cases c9:(nd t k).kind=9
   ·rw [if_pos c9];exact one _ (((b0u _ _ _).trans (a22 _ _ _ _ _ _ _ _)).le (by omega))
   rw [if_neg c9];by_cases tQ:(nd t k).kind=10
   ·rw [if_pos tQ]
    have h1:=hD.choose tQ;exact ((b0u _ _ _).trans (b6x iv fun b hb=>bl b hb (h1.2 b hb))).le (by omega)
   rw [if_neg tQ];by_cases uu:(nd t k).kind=11
   ·rw [if_pos uu]
    obtain ⟨l1,l2,l3,l4⟩:=hD.cond uu;match ju:(nd t k).kids,l1,iv with
    | [z0,z1],_,iv =>
      obtain ⟨e0,_,b0,_,s0,_,iv⟩:=iv.cons;obtain ⟨e1,q1,b1,w1,s1,_,iv⟩:=iv.cons;have:=iv.nil;have k1:(nd t k).aC 1=b0:=by simp [Nd.aC,ju,e1]
      have m1:b0∈(nd t k).ks:=by simp [Nd.ks,ju,e1]
      rw [k1] at l3 ⊢;rw [if_pos (by simp)];exact ((((a5n p).trans (a22 _ _ _ _ _ _ _ _)).trans (a4X q1 w1 (bl _ m1 l3))).trans (a22 _ _ _ _ _ _ _ _)).le (by omega)
    | [z0,z1,z2],_,iv =>
      obtain ⟨e0,_,b0,_,s0,_,iv⟩:=iv.cons;obtain ⟨e1,q1,b1,w1,s1,_,iv⟩:=iv.cons;obtain ⟨e2,q2,b2,w2,s2,_,iv⟩:=iv.cons;have:=iv.nil;have k1:(nd t k).aC 1=b0:=by simp [Nd.aC,ju,e1]
      have k2:(nd t k).aC 2=b1:=by simp [Nd.aC,ju,e2]
      have m1:b0∈(nd t k).ks:=by simp [Nd.ks,ju,e1]
      have m2:b1∈(nd t k).ks:=by simp [Nd.ks,ju,e2]
      have l4:=l4 (by rw [ju];rfl);rw [k1] at l3 ⊢;rw [k2] at l4 ⊢;rw [if_neg (by simp)];exact ((((((a5n p).trans (a22 _ _ _ _ _ _ _ _)).trans (a4X q1 w1 (bl _ m1 l3))).trans (a5n _)).trans (a22 _ _ _ _ _ _ _ _)).trans (a4X q2 w2 (bl _ m2 l4))).le (by omega)
   rw [if_neg uu];by_cases ue:(nd t k).kind=12
   ·rw [if_pos ue]
    obtain ⟨l1,l2,l3⟩:=hD.loop ue;match ju:(nd t k).kids,l1,iv with
    | [z0,z1],_,iv =>
      obtain ⟨e0,_,b0,_,s0,_,iv⟩:=iv.cons;obtain ⟨e1,q1,b1,w1,s1,_,iv⟩:=iv.cons;have:=iv.nil;have k1:(nd t k).aC 1=b0:=by simp [Nd.aC,ju,e1]
      have m1:b0∈(nd t k).ks:=by simp [Nd.ks,ju,e1]
      rw [k1] at l3 ⊢;exact ((((a5n p).trans (a22 _ _ _ _ _ _ _ _)).trans (a22 _ _ _ _ _ _ _ _)).trans (a4X q1 w1 (bl _ m1 l3))).le (by omega)
   rw [if_neg ue];by_cases uc:(nd t k).kind=13
   ·rw [if_pos uc]
    obtain ⟨l1,l2⟩:=hD.atom uc;match ju:(nd t k).kids,l1,iv with
    | [z0],_,iv =>
      obtain ⟨e0,q0,b0,w0,s0,_,iv⟩:=iv.cons;have:=iv.nil;have k0:(nd t k).aC 0=k+1:=by simp [Nd.aC,ju,e0]
      have m0:k+1∈(nd t k).ks:=by simp [Nd.ks,ju,e0]
      rw [k0] at l2 ⊢;have h:=a4X (p:=p) (au:=au) (to:=to) q0 w0 (bl _ m0 l2);refine ⟨Nat.le_trans h.pl (by omega),Nat.le_trans h.rl (by omega),?_⟩;have hl:∀ (n to:Nat) (l:List Ed),(a3U n to l).length=l.length:=fun n to l=>by
       unfold a3U;rw [List.length_append,List.length_map,<- List.length_append,List.take_append_drop]
      show (a3U _ _ _).length<=_
      rw [hl];exact Nat.le_trans h.el (by omega)
   rw [if_neg uc];by_cases vZ:(nd t k).kind=15
   ·rw [if_pos vZ];exact one _ (a22 _ _ _ _ _ _ _ _)
   rw [if_neg vZ];exact one _ (a22 _ _ _ _ _ _ _ _)
def SN (s:k4) (sz:Nat) (d:D) (rows:List (List D)):Prop:=(d=.ag/\rows=[])∨(∃id,d=.arr id 0 rows.length sz/\s.get id=some (.cells rows.flatten))∨d=.bg sz rows
theorem SN.one {s:k4} {sz:Nat} {d:D} {rows:List (List D)} (h:SN s sz d rows):V1 d=true:=by
 rcases h with ⟨rfl,_⟩ | ⟨id,rfl,_⟩ | rfl<;>rfl
theorem SN.stay {s s':k4} {sz:Nat} {d:D} {rows:List (List D)} (h:SN s sz d rows) (hf:Fr [] s s'):SN s' sz d rows:=by
 rcases h with h | ⟨id,rfl,h⟩ | h
 ·exact .inl h
 ·exact .inr (.inl ⟨id,rfl,by rw [hf.2 id (u7 h) (by simp),h]⟩)
 ·exact .inr (.inr h)
theorem SN.len {s:k4} {sz:Nat} {d:D} {rows:List (List D)} (h:SN s sz d rows):a0C false d=some (.int .i64 (rows.length:Int)):=by
 rcases h with ⟨rfl,rfl⟩ | ⟨id,rfl,_⟩ | rfl<;>rfl
theorem SN.row {s:k4} {sz:Nat} {d:D} {rows:List (List D)} (h:SN s sz d rows) (hr:∀r∈rows,r.length=sz):a1h s.get d=some rows.flatten/\a3i d=some rows.length/\a1O sz d=true:=by
 rcases h with ⟨rfl,rfl⟩ | ⟨id,rfl,h⟩ | rfl
 ·exact ⟨rfl,rfl,rfl⟩
 rotate_left
 ·exact ⟨rfl,rfl,by simp [a1O]⟩
 ·refine ⟨?_,rfl,by simp [a1O]⟩
  have hl:rows.flatten.length=rows.length*sz:=by
   clear h;induction rows with
   | nil=>simp
   | cons a r ih =>
     rw [List.flatten_cons,List.length_append,ih fun x hx=>hr x (by simp [hx]),hr a (by simp),List.length_cons,Nat.succ_mul];omega
  simp only [a1h,h];rw [if_pos (by omega),List.drop_zero,List.take_of_length_le (by omega)]
theorem a75 {sz:Nat} {rows:List (List D)} (hr:∀r∈rows,r.length=sz):rows.flatten.length=rows.length*sz:=by
 induction rows with
 | nil=>simp
 | cons a r ih =>
   rw [List.flatten_cons,List.length_append,ih fun x hx=>hr x (by simp [hx]),hr a (by simp),List.length_cons,Nat.succ_mul];omega
theorem a9h {s:k4} {sz bytes id:Nat} {d:D} {bC rows:List (List D)} (h:s.get id=some (.cells bC.flatten)) (ho:∀r∈bC,r.length=sz) (hd:SN s sz d rows) (hr:∀r∈rows,r.length=sz) (hb:bytes<=128) (hl:bC.length+rows.length<=2 ^ 30) :
 ∃d' s',Z6 sz bytes (.arr id 0 bC.length sz) d s=some (d',s')/\∃iA,d'=.arr iA 0 (bC++rows).length sz/\s'.get iA=some (.cells (bC++rows).flatten)/\Fr [id] s s'/\(iA=id∨s.next<=iA):=by
 have b1:(bC.length+rows.length)*bytes<=2 ^ 45:=Nat.le_trans (Nat.mul_le_mul hl hb) (by decide);have b2:bC.length+rows.length<=2 ^ 45:=Nat.le_trans hl (by decide);have b3:bytes<=2 ^ 20:=Nat.le_trans hb (by decide);obtain ⟨r1,r2,r3⟩:=hd.row hr;have hf:=a75 ho;by_cases hn:rows.length=0
 ·obtain rfl:=List.length_eq_zero_iff.1 hn
  refine ⟨.arr id 0 bC.length sz,s,?_,id,by simp,by simpa using h,Fr.refl _ _,.inl rfl⟩;unfold Z6;simp only [r1,r2,r3,b3,decide_true,Bool.and_self,if_true,h,Nat.zero_add,hf,and_self,List.length_nil]
 ·refine ⟨.arr s.next 0 (bC.length+rows.length) sz,(s.set id none).push (.cells (bC.flatten++rows.flatten)),?_,s.next,by simp,?_,(Fr.set _ (by simp)).aj _,.inr (Nat.le_refl _)⟩
  ·unfold Z6
   simp only [r1,r2,r3,b3,decide_true,Bool.and_self,if_true,h,Nat.zero_add,hf,and_self,hn,if_false,b1,b2,List.drop_zero]
  ·rw [W2 (by simp),List.flatten_append]
theorem a3S {fs:FuncId->Option U3} {i t sz bytes a x rest s Q} {env:q8} {da dx:D} {Φ:D->k4->Prop} (hr:∃d s',Z6 sz bytes da dx s=some (d,s')/\Φ d s') (ha:env.ev a=da) (hx:env.ev x=dx)
 (h:∀d s',Φ d s'->WQ fs [] rest ((t,d)::env) s' Q):WQ fs [] ((i,⟨some t,.m (.append sz bytes a x),none⟩)::rest) env s Q:=by
 obtain ⟨d,s',h1,h2⟩:=hr;exact b2v ha hx h1 (h d s' h2)
theorem SN.of {s:k4} {sz id n:Nat} {rows:List (List D)} (h:s.get id=some (.cells rows.flatten)) (hn:rows.length=n):SN s sz (.arr id 0 n sz) rows:=.inr (.inl ⟨id,by rw [hn],h⟩)
theorem a9x:∀ {sz:Nat} {rows:List (List D)},(∀r∈rows,r.length=sz)->∀ {i f:Nat} (hi:i<rows.length),f<sz->rows.flatten[i*sz+f]?=rows[i][f]?
 | sz,[],_,i,f,hi,_=>by simp at hi
 | sz,a::r,hr,0,f,_,hf=>by
   rw [Nat.zero_mul,Nat.zero_add,List.flatten_cons,List.getElem?_append_left (by rw [hr a (by simp)];exact hf)];rfl
 | sz,a::r,hr,i+1,f,hi,hf=>by
   have ha:=hr a (by simp);rw [List.flatten_cons,List.getElem?_append_right (by rw [ha,Nat.succ_mul];omega),ha,show (i+1)*sz+f-sz=i*sz+f by rw [Nat.succ_mul];omega];exact a9x (fun x hx=>hr x (by simp [hx])) (by simpa using hi) hf
theorem SN.get1 {s:k4} {sz:Nat} {d:D} {rows:List (List D)} (h:SN s sz d rows) (hr:∀r∈rows,r.length=sz) {i:Nat} (hi:i<rows.length) {c:D} (hc:(rows[i])[0]?=some c) (ho:V1 c=true) (hz:0<sz):∃p,W1 sz d (.int .i64 (i:Int))=some p/\bk s.get none p=some c/\∀id off,p=.ptr id off->id<s.next:=by
 rcases h with ⟨_,rfl⟩ | ⟨id,rfl,hg⟩ | rfl
 ·simp at hi
 ·refine ⟨.ptr id (i*sz),?_,?_,?_⟩
  ·simp only [W1]
   rw [if_pos ⟨trivial,by omega,by omega⟩];simp
  ·simp only [bk,hg,a2J]
   have:=a9x hr hi (f:=0) hz;rw [Nat.add_zero] at this;rw [this,hc];simp [ho]
  ·rintro a b e
   cases e;exact u7 hg
 ·refine ⟨.fp rows[i] 0,by simp [W1,hi],?_,by simp⟩
  simp only [bk,a2J,hc,ho,if_true]
def a0x (l:List Nat):List (List D):=l.map fun (n:Nat)=>[.int .i64 (n:Int)]
def a0h (l:List Bool):List (List D):=l.map fun b=>[.bool b]
def a1G (l:List ByteArray):List (List D):=l.map fun x=>[.str x]
def a0T (l:List Ed):List (List D):=l.map Ed.row
theorem a49 (l:List Bool):∀r∈a0h l,r.length=1:=by intro r h;obtain ⟨b,_,rfl⟩:=List.mem_map.1 h;rfl
theorem a7M (l:List Ed):∀r∈a0T l,r.length=8:=by intro r h;obtain ⟨b,_,rfl⟩:=List.mem_map.1 h;rfl
@[simp] theorem a8q (l:List Bool):(a0h l).length=l.length:=by simp [a0h]
@[simp] theorem a6s (l:List Ed):(a0T l).length=l.length:=by simp [a0T]
theorem b66 (a b:List Bool):a0h (a++b)=a0h a++a0h b:=by simp [a0h]
theorem b76 (a b:List Ed):a0T (a++b)=a0T a++a0T b:=by simp [a0T]
structure X0 where
 dl:D
 dr:D
 de:D
 dn:D
 dv:D
def U6 (p:Pr) (x:X0):List D:=[.str p.name,.int .i64 (p.copy:Int),x.dl,.int .i64 (p.ah:Int),x.dr,x.de,x.dn,x.dv]
structure Y0 (s:k4) (p:Pr) (x:X0):Prop where
 l:SN s 1 x.dl (a0x p.locals)
 r:SN s 1 x.dr (a0h p.rest)
 e:SN s 8 x.de (a0T p.ak)
 n:SN s 1 x.dn (a1G p.names)
 v:SN s 1 x.dv (a0x p.vars)
theorem Y0.stay {s s':k4} {p:Pr} {x:X0} (h:Y0 s p x) (hf:Fr [] s s'):Y0 s' p x:=⟨h.l.stay hf,h.r.stay hf,h.e.stay hf,h.n.stay hf,h.v.stay hf⟩
theorem a5L (l:List Nat):∀r∈a0x l,r.length=1:=by intro r h;obtain ⟨b,_,rfl⟩:=List.mem_map.1 h;rfl
theorem a95 (l:List ByteArray):∀r∈a1G l,r.length=1:=by intro r h;obtain ⟨b,_,rfl⟩:=List.mem_map.1 h;rfl
@[simp] theorem b59 (l:List Nat):(a0x l).length=l.length:=by simp [a0x]
@[simp] theorem b6a (l:List ByteArray):(a1G l).length=l.length:=by simp [a1G]
def a2y (l:List Ch):List (List D):=l.map Ch.row
theorem b4o (l:List Ch):∀r∈a2y l,r.length=5:=by intro r h;obtain ⟨b,_,rfl⟩:=List.mem_map.1 h;rfl
@[simp] theorem a9L (l:List Ch):(a2y l).length=l.length:=by simp [a2y]
structure X6 where
 dt:D
 dc:D
 dv:D
 dp:D
 ds:D
 g:Int
 b:Bool
def Y5 (m:X6):List D:=[m.dt,.int .i64 m.g,m.dc,m.dv,m.dp,m.ds,.bool m.b]
structure a2M (s:k4) (m:X6) (t:List Nd) (ch:List Ch):Prop where
 tr:X8 m.dt t
 c:SN s 5 m.dc (a2y ch)
 ov:V1 m.dv=true
 op:V1 m.dp=true
 os:V1 m.ds=true
theorem a2M.stay {s s':k4} {m:X6} {t:List Nd} {ch:List Ch} (h:a2M s m t ch) (hf:Fr [] s s'):a2M s' m t ch:=⟨h.tr,h.c.stay hf,h.ov,h.op,h.os⟩
structure a0z (p:Pr) (n:Nat):Prop where
 pl:p.ah<=n
 rl:p.rest.length<=n
 el:p.ak.length<=n
section
variable {fs:FuncId->Option U3}
def fM (fs:FuncId->Option U3) (ae:List (Nat×Nat)) (R:List Nat) (ops:List (Nat×Z3)) (env:q8) (s:k4) (Q:q8->k4->Prop):Prop :=
 ∀tr:List Tr,(∀x∈tr,x.pre=x.post/\∀id,x.rd=some id->id∈R)->WO fs ae ops tr env s Q
theorem b2G {vars ops p ae dr env s Q} (h:fM fs (p::ae) [] ops env s fun gQ s'=>Q .normal (gQ.aF vars) s'):WP fs vars (.region ⟨ops,p::ae,dr⟩) env s Q:=b3H (h [] (by simp))
theorem a9Q {R:List Nat} {ae:List (Nat×Nat)} {tr:List Tr} {t:Tr} (h:∀x∈tr,x.pre=x.post/\∀id,x.rd=some id->id∈R) (ht:t.pre=t.post/\∀id,t.rd=some id->id∈R):∀x∈(if ae.isEmpty then tr else t::tr),x.pre=x.post/\∀id,x.rd=some id->id∈R:=by
 split
 ·exact h
 ·intro x hx
  rcases List.mem_cons.1 hx with rfl | hx
  ·exact ht
  ·exact h x hx
theorem wt_p {ae R i t o rest s Q} {env:q8} {d:D} (hr:bH env o=some d) (h:fM fs ae R rest ((t,d)::env) s Q):fM fs ae R ((i,⟨some t,.p o,none⟩)::rest) env s Q:=by
 intro tr ht;exact a4i rfl 0 (d:=d) (s':=s) (by simp only [a0i,hr,Option.map_some]) (a7o rfl fun t hm=>(ht t hm).1) (h _ (a9Q ht ⟨rfl,by simp [a1p]⟩))
theorem b3n {ae R i t n x rest s Q} {env:q8} {d:D} {id off:Nat} (hx:env.ev x=.ptr id off) (hr:cO env s.get (.load n x)=some d) (h:fM fs ae (id::R) rest ((t,d)::env) s Q):fM fs ae R ((i,⟨some t,.r (.load n x),none⟩)::rest) env s Q:=by
 intro tr ht;refine a4i rfl 0 (d:=d) (s':=s) (by simp only [a0i,hr,Option.map_some]) (a7o rfl fun t hm=>(ht t hm).1) (h _ (a9Q (fun y hy=>⟨(ht y hy).1,fun id h=>List.mem_cons_of_mem _ ((ht y hy).2 id h)⟩) ⟨rfl,fun j hj=>?_⟩));simp only [a1p,fV,hx,Option.some.injEq] at hj;simp [hj]
theorem wt_w {ae R i n a v rest s Q} {env:q8} {id:Nat} {ob:Y1} (hr:dh env s.get n a v=some (id,ob)) (gX:id∉R) (hp:(rest.all fun o=>ae.all fun p=>p.2 != o.1)=true) (h:WQ fs [] rest env (s.set id (some ob)) Q):fM fs ae R ((i,⟨none,.w n a v,none⟩)::rest) env s Q:=by
 intro tr ht;refine a4i rfl 0 (d:=.aR []) (s':=s.set id (some ob)) (by simp only [a0i,hr]) ?_ ?_
 ·have key:∀ {l:List Tr},(∀x∈l,x.pre=x.post/\∀j,x.rd=some j->j∈R)->a1q ae ⟨i,a1p env (.w n a v),s,s.set id (some ob)⟩ l=true:=by
   intro l;induction l with
   | nil=>intro _;rfl
   | cons t r ih =>
     intro hl;have h1:=hl t (by simp);have oI:a1N s (s.set id (some ob)) t.rd=true:=by
      cases kJ:t.rd with
      | none=>rfl
      | some j =>
        have hj:=h1.2 j kJ;have iw:j≠id:=fun e=>gX (e▸hj)
        simp only [a1N];rw [Z7 iw];exact a9S _
     have zk:a1N t.pre t.post (a1p env (.w n a v))=true:=by rw [h1.1];exact b7q _ _
     simp only [a1q,oI,zk,Bool.and_self,ite_self,Bool.true_and];exact ih fun x hx=>hl x (by simp [hx])
  exact key ht
 ·obtain ⟨m,gQ,s',h1,h2⟩:=h [] a7L
  exact ⟨m,gQ,s',a67 hp h1,h2⟩
theorem b3j {ae R i t n x rest s Q} {env:q8} {d:D} {cs:List D} {off:Nat} (hx:env.ev x=.fp cs off) (hr:cO env s.get (.load n x)=some d) (h:fM fs ae R rest ((t,d)::env) s Q):fM fs ae R ((i,⟨some t,.r (.load n x),none⟩)::rest) env s Q:=by
 intro tr ht;refine a4i rfl 0 (d:=d) (s':=s) (by simp only [a0i,hr,Option.map_some]) (a7o rfl fun t hm=>(ht t hm).1) (h _ (a9Q ht ⟨rfl,fun j hj=>?_⟩));simp only [a1p,fV,hx] at hj;cases hj
def a9o:D->List Nat
 | .ptr id _=>[id]
 | _=>[]
theorem c0P {p:D} {id:Nat} (h:id∈a9o p):∃off,p=.ptr id off:=by
 cases p<;>simp [a9o] at h;subst h;exact ⟨_,rfl⟩
theorem wt_ldv {ae R i t n x rest s Q} {env:q8} {d p:D} (hl:bk s.get n p=some d) (hx:env.ev x=p) (h:fM fs ae (a9o p++R) rest ((t,d)::env) s Q):fM fs ae R ((i,⟨some t,.r (.load n x),none⟩)::rest) env s Q:=by
 intro tr ht;refine a4i rfl 0 (d:=d) (s':=s) (by simp only [a0i,a8C,hx,hl,Option.map_some]) (a7o rfl fun t hm=>(ht t hm).1) (h _ (a9Q (fun y hy=>⟨(ht y hy).1,fun id h=>List.mem_append_right _ ((ht y hy).2 id h)⟩) ⟨rfl,fun j hj=>?_⟩));simp only [a1p,fV,hx] at hj;refine List.mem_append_left _ ?_;cases p<;>simp_all [a9o]
theorem c2Z {ae R i t f args rest s Q} {env:q8} {l:List D} {d:D} (hr:Ev fs f l s d s) (ha:env.aP args=l) (h:fM fs ae R rest ((t,d)::env) s Q):fM fs ae R ((i,⟨some t,.m (.call .raw (.aG (.fn f [])) args),none⟩)::rest) env s Q:=by
 subst ha;obtain ⟨n,hn⟩:=hr;intro tr ht;exact a4i rfl n (d:=d) (s':=s) (by simp only [a0i,bZ,a2U,q8.ev,List.append_nil];exact hn) (a7o rfl fun t hm=>(ht t hm).1) (h _ (a9Q ht ⟨rfl,by simp [a1p]⟩))
theorem b45 {ae R i t f args rest s Q} {env:q8} {l:List D} {P:D->k4->Prop} (hr:X9 fs f l s P) (hP:∀d s',P d s'->Fr [] s s') (hR:∀id∈R,id<s.next) (hp:(rest.all fun o=>ae.all fun p=>p.2 != o.1)=true) (ha:env.aP args=l)
 (h:∀d s',P d s'->WQ fs [] rest ((t,d)::env) s' Q):fM fs ae R ((i,⟨some t,.m (.call .raw (.aG (.fn f [])) args),none⟩)::rest) env s Q:=by
 subst ha;obtain ⟨d,s',⟨n,hn⟩,hd⟩:=hr;have hF:=hP d s' hd;intro tr ht;refine a4i rfl n (d:=d) (s':=s') (by simp only [a0i,bZ,a2U,q8.ev,List.append_nil];exact hn) ?_ ?_
 ·have key:∀ {l:List Tr},(∀x∈l,x.pre=x.post/\∀j,x.rd=some j->j∈R)->a1q ae ⟨i,none,s,s'⟩ l=true:=by
   intro l;induction l with
   | nil=>intro _;rfl
   | cons t r ih =>
     intro hl;have h1:=hl t (by simp);have oI:a1N s s' t.rd=true:=by
      cases kJ:t.rd with
      | none=>rfl
      | some j =>
        have hj:=hR j (h1.2 j kJ);simp only [a1N];rw [hF.2 j hj (by simp)];exact a9S _
     have zk:a1N t.pre t.post none=true:=rfl;simp only [a1q,oI,zk,Bool.and_self,ite_self,Bool.true_and];exact ih fun x hx=>hl x (by simp [hx])
  exact key ht
 ·obtain ⟨m,gQ,s2,h1,h2⟩:=h d s' hd [] a7L
  exact ⟨m,gQ,s2,a67 hp h1,h2⟩
theorem a1k {ae ops env s Q} {Φ:k4->Prop} (h:Φ s) (k:∀s',Φ s'->WQ fs ae ops env s' Q):WQ fs ae ops env s Q:=k s h
theorem b8Q {ae R ops env s Q} {Φ:k4->Prop} (h:Φ s) (k:∀s',Φ s'->fM fs ae R ops env s' Q):fM fs ae R ops env s Q:=k s h
theorem zT {F P Q:Prop} (f:F) (k:Q) (h:F->Q->P:=by
 intro f k
 (first|(with_reducible refine b2G ?_)|((with_reducible apply wt_p);(focus (simp (disch:=(first|with_reducible assumption|omega|((repeat (first|rw [nP]|rw [nS]))<;>omega)|fail)) only [go_sem,q8.ev,q8.get,↓reduceIte,f]<;>rfl)))|((with_reducible apply b3n);(focus (simp only [q8.ev,q8.get,Nat.reduceEqDiff,↓reduceIte,a0f.at,Nat.add_zero,Nat.zero_add,f]<;>rfl));(focus (simp (disch:=(first|with_reducible assumption|omega|((repeat (first|rw [nP]|rw [nS]))<;>omega)|fail)) only [go_sem,q8.ev,q8.get,↓reduceIte,f]<;>rfl)))|((with_reducible apply b3j);(focus (simp only [q8.ev,q8.get,Nat.reduceEqDiff,↓reduceIte,a0f.at,Nat.add_zero,Nat.zero_add,f]<;>rfl));(focus (simp (disch:=(first|with_reducible assumption|omega|((repeat (first|rw [nP]|rw [nS]))<;>omega)|fail)) only [go_sem,q8.ev,q8.get,↓reduceIte,f]<;>rfl)))|(with_reducible first|apply vA|apply vB|apply vC)|((with_reducible apply vD);(focus rfl))|((with_reducible first|apply vE|apply vF|apply vG|apply vH);simp only [q8.aF,q8.get,q8.ev,List.map,Nat.reduceEqDiff,↓reduceIte,a2x,a0j])|((with_reducible first|apply vI|apply vJ|apply vK|apply vL|apply vM|apply vN);(focus (simp (disch:=(first|with_reducible assumption|omega|((repeat (first|rw [nP]|rw [nS]))<;>omega)|fail)) only [go_sem,q8.ev,q8.get,↓reduceIte,f]<;>rfl));(first|(with_reducible (first|apply vO|apply vP|apply vQ|apply vR|apply vS|apply vT|apply vU);try simp only [q8.put])|with_reducible refine (?_:WQ _ _ _ _ _ _))))
 repeat (first|(with_reducible refine b2G ?_)|((with_reducible apply wt_p);(focus (simp (disch:=(first|with_reducible assumption|omega|((repeat (first|rw [nP]|rw [nS]))<;>omega)|fail)) only [go_sem,q8.ev,q8.get,↓reduceIte,f]<;>rfl)))|((with_reducible apply b3n);(focus (simp only [q8.ev,q8.get,Nat.reduceEqDiff,↓reduceIte,a0f.at,Nat.add_zero,Nat.zero_add,f]<;>rfl));(focus (simp (disch:=(first|with_reducible assumption|omega|((repeat (first|rw [nP]|rw [nS]))<;>omega)|fail)) only [go_sem,q8.ev,q8.get,↓reduceIte,f]<;>rfl)))|((with_reducible apply b3j);(focus (simp only [q8.ev,q8.get,Nat.reduceEqDiff,↓reduceIte,a0f.at,Nat.add_zero,Nat.zero_add,f]<;>rfl));(focus (simp (disch:=(first|with_reducible assumption|omega|((repeat (first|rw [nP]|rw [nS]))<;>omega)|fail)) only [go_sem,q8.ev,q8.get,↓reduceIte,f]<;>rfl)))|(with_reducible first|apply vA|apply vB|apply vC)|((with_reducible apply vD);(focus rfl))|((with_reducible first|apply vE|apply vF|apply vG|apply vH);simp only [q8.aF,q8.get,q8.ev,List.map,Nat.reduceEqDiff,↓reduceIte,a2x,a0j])|((with_reducible first|apply vI|apply vJ|apply vK|apply vL|apply vM|apply vN);(focus (simp (disch:=(first|with_reducible assumption|omega|((repeat (first|rw [nP]|rw [nS]))<;>omega)|fail)) only [go_sem,q8.ev,q8.get,↓reduceIte,f]<;>rfl));(first|(with_reducible (first|apply vO|apply vP|apply vQ|apply vR|apply vS|apply vT|apply vU);try simp only [q8.put])|with_reducible refine (?_:WQ _ _ _ _ _ _))))
 exact k):P:=h f k
end
structure SF (s0:k4) (m:X6) (nr:List D) (pr:List D) (s:k4):Prop where
 fr:Fr [] s0 s
 nx:s0.next+4<=s.next
 m:s.get s0.next=some (.cells (Y5 m))
 p:s.get (s0.next+1)=some (.cells pr)
 r:s.get (s0.next+2)=some (.cells [.str (bs []),.int .i64 0,.ag,.int .i64 0,.ag,.ag,.ag,.ag])
 n:s.get (s0.next+3)=some (.cells nr)
theorem SF.call {s0:k4} {m:X6} {nr pr:List D} {s s':k4} (h:SF s0 m nr pr s) (hf:Fr [] s s'):SF s0 m nr pr s':=by
 have:=h.nx;have:=hf.1;refine ⟨h.fr.trans hf (by simp),by omega,?_,?_,?_,?_⟩
 ·rw [hf.2 _ (by omega) (by simp),h.m]
 ·rw [hf.2 _ (by omega) (by simp),h.p]
 ·rw [hf.2 _ (by omega) (by simp),h.r]
 ·rw [hf.2 _ (by omega) (by simp),h.n]
theorem SF.dj {s0:k4} {m:X6} {nr pr pr':List D} {s:k4} (h:SF s0 m nr pr s):SF s0 m nr pr' (s.set (s0.next+1) (some (.cells pr'))):=by
 have:=h.nx;refine ⟨h.fr.aD _ (.inr (by omega)),by simp only [k4.aq];omega,?_,?_,?_,?_⟩
 ·rw [Z7 (by omega),h.m]
 ·rw [a0d (by omega)]
 ·rw [Z7 (by omega),h.r]
 ·rw [Z7 (by omega),h.n]
def a2i (s:k4) (d:D):Prop:=∃id n z,d=.arr id 0 n z/\s.next<=id
theorem a6T {s s':k4} {d:D} {id n z:Nat} (h:d=.arr id 0 n z) (h1:s'.next<=id) (h2:s.next<=s'.next):a2i s d:=⟨id,n,z,h,Nat.le_trans h2 h1⟩
theorem a2i.mono {s s':k4} {d:D} (h:a2i s' d) (h2:s.next<=s'.next):a2i s d:=by
 obtain ⟨id,n,z,h,h1⟩:=h;exact ⟨id,n,z,h,Nat.le_trans h2 h1⟩
def eE (s:k4) (p q:Pr) (r:D) (s':k4):Prop:=∃x',r=.agg (U6 q x')/\Fr [] s s'/\Y0 s' q x'/\a2i s x'.de
theorem a2N {t:List Nd} {d:D} (hT:X8 d t) {k:Nat} (hk:k<t.length):V1 (nd t k).dw=true/\V1 (nd t k).dn=true/\V1 (nd t k).dk=true:=⟨FL.one (hT.nd hk).w,FL.one (hT.nd hk).n,FL.one (hT.nd hk).k⟩
theorem a2H {t:List Nd} {d:D} (hT:X8 d t) (ht:a11 t) {k:Nat} (hk:k<t.length) {i:Nat} (hi:i<(nd t k).kids.length):W1 1 (nd t k).dk (.int .i64 (i:Int))=some (.fp [.int .i64 ((nd t k).aC i:Int)] 0):=by
 have:=FI.idx (hT.nd hk).k hi (k:=.i64);have hr:=ht.kids k hk _ (List.getElem_mem hi);rw [this,a61 hi,Int.toNat_of_nonneg (by omega)]
theorem a6g {t:List Nd} {d:D} (hT:X8 d t) {k:Nat} (hk:k<t.length) {i:Nat} (hi:i<(nd t k).words.length):W1 1 (nd t k).dw (.int .i64 (i:Int))=some (.fp [.str ((nd t k).word i)] 0):=by
 rw [a5o hi];exact FS.idx (hT.nd hk).w hi
theorem Y0.az {s:k4} {p:Pr} {x:X0} (h:Y0 s p x):V1 x.dl=true/\V1 x.dr=true/\V1 x.de=true/\V1 x.dn=true/\V1 x.dv=true:=⟨h.l.one,h.r.one,h.e.one,h.n.one,h.v.one⟩
theorem a2M.az {s:k4} {m:X6} {t:List Nd} {ch:List Ch} (h:a2M s m t ch):V1 m.dt=true/\V1 m.dc=true/\V1 m.dv=true/\V1 m.dp=true/\V1 m.ds=true:=⟨FL.one h.tr.fl,h.c.one,h.ov,h.op,h.os⟩
theorem SN.set {s:k4} {sz id:Nat} {d:D} {rows:List (List D)} {cs:List D} {o:Option Y1} (h:SN s sz d rows) (hg:s.get id=some (.cells cs)) (iw:rows.flatten≠cs):SN (s.set id o) sz d rows:=by
 rcases h with h | ⟨j,rfl,h⟩ | h
 ·exact .inl h
 rotate_left
 ·exact .inr (.inr h)
 ·refine .inr (.inl ⟨j,rfl,?_⟩)
  rw [Z7,h];rintro rfl;rw [hg] at h;simp only [Option.some.injEq,Y1.cells.injEq] at h;exact iw h.symm
theorem Y0.set {s:k4} {p:Pr} {x:X0} {id:Nat} {a:ByteArray} {k:IntKind} {n:Int} {rest:List D} {o:Option Y1} (h:Y0 s p x) (hg:s.get id=some (.cells (.str a::.int k n::rest))):Y0 (s.set id o) p x:=by
 refine ⟨h.l.set hg ?_,h.r.set hg ?_,h.e.set hg ?_,h.n.set hg ?_,h.v.set hg ?_⟩
 ·cases p.locals<;>simp [a0x]
 ·cases p.rest<;>simp [a0h]
 ·cases p.ak<;>simp [a0T,Ed.row]
 ·match p.names with
  | []=>simp [a1G]
  | [y]=>simp [a1G]
  | y::z::r=>simp [a1G]
 ·cases p.vars<;>simp [a0x]
theorem SF.fin {s0 s:k4} {m:X6} {nr pr:List D} {p q:Pr} {x:X0} (h:SF s0 m nr pr s) (hq:Y0 s q x) (hz:a2i s0 x.de):eE s0 p q (.agg (U6 q x)) (s.set (s0.next+2) (some (.cells (U6 q x)))) :=
 ⟨x,rfl,h.fr.aD _ (.inr (by omega)),hq.set h.r,hz⟩
theorem SF.res {s0 s:k4} {m:X6} {nr pr:List D} {q:Pr} {x:X0} {env:q8} (h:SF s0 m nr pr s) (hE:env.get 10=.ptr (s0.next+2) 0):a04 env (s.set (s0.next+2) (some (.cells (U6 q x)))) [(10,some (some 8))]=some (.agg (U6 q x)):=by
 have:=h.nx;simp only [a04,a1g,a1t,hE,a0d (s:=s) (i:=s0.next+2) (by omega)];rfl
structure SL (s0:k4) (m:X6) (nr pr:List D) (B:Nat) (lr:List D) (s:k4):Prop where
 sf:SF s0 m nr pr s
 lo:s0.next+4<=B
 l:s.get B=some (.cells lr)
theorem SL.call {s0:k4} {m:X6} {nr pr lr:List D} {B:Nat} {s s':k4} (h:SL s0 m nr pr B lr s) (hf:Fr [] s s'):SL s0 m nr pr B lr s' :=
 ⟨h.sf.call hf,h.lo,by rw [hf.2 _ (u7 h.l) (by simp),h.l]⟩
theorem SL.fN {s0:k4} {m:X6} {nr pr lr lr':List D} {B:Nat} {s:k4} (h:SL s0 m nr pr B lr s):SL s0 m nr pr B lr' (s.set B (some (.cells lr'))):=by
 have:=h.lo;have hf:=h.sf;refine ⟨⟨hf.fr.aD _ (.inr (by omega)),by simp only [k4.aq];exact hf.nx,?_,?_,?_,?_⟩,h.lo,by rw [a0d (u7 h.l)]⟩
 ·rw [Z7 (by omega),hf.m]
 ·rw [Z7 (by omega),hf.p]
 ·rw [Z7 (by omega),hf.r]
 ·rw [Z7 (by omega),hf.n]
theorem SL.new {s0:k4} {m:X6} {nr pr lr:List D} {s:k4} {z:List D} (h:SF s0 m nr pr s):SL s0 m nr pr s.next lr ((s.push (.cells z)).set s.next (some (.cells lr))):=by
 have h1:=h.call (Fr.push (ids:=[]) (s:=s) (.cells z));have:=h.nx;exact SL.fN (lr:=z) ⟨h1,by omega,W2 rfl⟩
theorem Y0.new {s:k4} {q:Pr} {x:X0} {a:ByteArray} {k:IntKind} {n:Int} {rest:List D} {o:Option Y1} (h:Y0 s q x):Y0 ((s.push (.cells (.str a::.int k n::rest))).set s.next o) q x :=
 (h.stay (Fr.push (ids:=[]) _)).set (W2 rfl)
def a8d (fs:FuncId->Option U3) (fn:Nat) (t:List Nd) (ch:List Ch) (names:List ByteArray) (vars:List Nat) (f b:Nat):Prop :=
 ∀g n,a0K t g b=(n,true)->∀ (s:k4) (m:X6) (p:Pr) (x:X0) (au to:Nat),a2M s m t ch->Y0 s p x->a1C t ch.length p->p.names=names->p.vars=vars->au<p.ah->to<p.ah->∀N,a0z p N->N+4*(n-b)<=900000 ->
  X9 fs fn [.agg (Y5 m),.agg (U6 p x),.int .i64 (b:Int),.int .i64 (au:Int),.int .i64 (to:Int)] s (eE s p (a1v t (W7 t (ch.map Ch.name) f) p b au to))
theorem b7R {l:List Ed} {i f:Nat} (hi:i<l.length) (hf:f<8):(a0T l).flatten[i*8+f]?=(l[i].row)[f]?:=by
 rw [a9x (a7M l) (by simpa using hi) hf];simp [a0T]
theorem b5s:∀ {l:List Ed} {i:Nat} (hi:i<l.length) (b:Bool),(a0T l).flatten.set (i*8+6) (.bool b)=(a0T (l.set i { l[i] with aF:=b })).flatten
 | [],i,hi,_=>by simp at hi
 | e::r,0,hi,b=>by simp [a0T,Ed.row]
 | e::r,i+1,hi,b=>by
   have ih:=b5s (l:=r) (i:=i) (by simpa using hi) b;simp only [a0T,List.map_cons,List.flatten_cons,List.set_cons_succ,List.getElem_cons_succ] at ih ⊢;have hl:e.row.length=8:=rfl;rw [List.set_append_right _ _ (by omega),hl,show (i+1)*8+6-8=i*8+6 by omega,ih]
theorem Y0.bn {s:k4} {p:Pr} {x:X0} {id n i:Nat} {b:Bool} (h:Y0 s p x) (hd:x.de=.arr id 0 n 8) (hi:i<p.ak.length):Y0 (s.set id (some (.cells ((a0T p.ak).flatten.set (i*8+6) (.bool b))))) { p with ak:=p.ak.set i { p.ak[i] with aF:=b } } x:=by
 have he:=h.e;rcases he with ⟨h0,_⟩ | ⟨j,hj,hg⟩ | h0
 ·rw [hd] at h0;cases h0
 rotate_left
 ·rw [hd] at h0;cases h0
 ·rw [hd] at hj
  cases hj;have ne:∀ (rows:List (List D)),rows.flatten[6]?≠some (.bool p.ak[0].aF)->rows.flatten≠(a0T p.ak).flatten:=fun rows h e=>by
   apply h;rw [e];have:=b7R (l:=p.ak) (i:=0) (f:=6) (by omega) (by decide);rw [Nat.zero_mul,Nat.zero_add] at this;rw [this];rfl
  have kN:∀l:List Nat,(a0x l).flatten=l.map fun (n:Nat)=>D.int .i64 (n:Int):=by
   intro l;induction l with
   | nil=>rfl
   | cons a r ih=>simp only [a0x,List.map_cons,List.flatten_cons] at ih ⊢;rw [ih];rfl
  refine ⟨h.l.set hg (ne _ ?_),h.r.set hg ?_,.inr (.inl ⟨id,?_,?_⟩),h.n.set hg ?_,h.v.set hg (ne _ ?_)⟩
  ·rw [kN,List.getElem?_map];cases p.locals[6]?<;>simp
  ·intro e
   have h1:=congrArg List.head? e;revert h1;match uS:p.ak,hi with
   | a::r,_=>cases p.rest<;>simp [a0h,a0T,Ed.row]
  ·rw [hd];simp
  ·rw [a0d (u7 hg),b5s hi]
  ·intro e
   have h1:=congrArg List.head? e;revert h1;match uS:p.ak,hi with
   | a::r,_=>cases p.names<;>simp [a1G,a0T,Ed.row]
  ·rw [kN,List.getElem?_map];cases p.vars[6]?<;>simp
theorem SF.bO {s0:k4} {m:X6} {nr pr:List D} {s:k4} {id:Nat} {o:Option Y1} (h:SF s0 m nr pr s) (gX:s0.next+4<=id):SF s0 m nr pr (s.set id o):=by
 refine ⟨h.fr.aD _ (.inr (by omega)),by simp only [k4.aq];exact h.nx,?_,?_,?_,?_⟩
 ·rw [Z7 (by omega),h.m]
 ·rw [Z7 (by omega),h.p]
 ·rw [Z7 (by omega),h.r]
 ·rw [Z7 (by omega),h.n]
def a2t (A E:List Ed) (i:Nat):List Ed:=A.take i++E.drop i
theorem a8t {A E:List Ed} {i:Nat} (h:A.length=E.length):(a2t A E i).length=E.length:=by simp [a2t];omega
theorem b5S {A E:List Ed} {i:Nat} (h:A.length=E.length) (hi:i<E.length):(a2t A E i)[i]'(by rw [a8t h];exact hi)=E[i]:=by
 have hl:(A.take i).length=i:=by simp;omega
 unfold a2t;rw [List.getElem_append_right (by omega)];simp only [List.getElem_drop,hl];congr 1
 omega
theorem c5a {A E:List Ed} {i:Nat} (h:A.length=E.length) (hi:i<E.length):(a2t A E i).set i A[i]=a2t A E (i+1):=by
 have hl:(A.take i).length=i:=by simp;omega
 unfold a2t;rw [List.set_append_right _ _ (by omega),hl,Nat.sub_self,List.drop_eq_getElem_cons hi,List.set_cons_zero,List.take_succ_eq_append_getElem (by omega),List.append_assoc,List.singleton_append]
theorem b9s (n to:Nat) (l:List Ed):(a3U n to l).length=l.length:=by
 unfold a3U;rw [List.length_append,List.length_map,<- List.length_append,List.take_append_drop]
theorem c0U {n to:Nat} {l:List Ed} {i:Nat} (hi:i<l.length) (hn:n<=i):(a3U n to l)[i]'(by rw [b9s];exact hi)={ l[i] with aF:=l[i].to != to&&l[i].to != 1 }:=by
 unfold a3U;have hl:(l.take n).length=n:=by simp;omega
 rw [List.getElem_append_right (by omega)];simp only [List.getElem_map,List.getElem_drop,hl];have e:n+(i-n)=i:=by omega
 simp only [e]
theorem c5r {n to:Nat} {l:List Ed} (h:n<=l.length):a2t (a3U n to l) l n=l:=by
 unfold a2t a3U;rw [List.take_append_of_le_length (by simp;omega),List.take_take,Nat.min_self,List.take_append_drop]
theorem c3w {A E:List Ed} (h:A.length=E.length):a2t A E E.length=A:=by
 unfold a2t;rw [List.drop_length,List.append_nil,<- h,List.take_length]
structure S3 (s0:k4) (m:X6) (pr:List D) (s:k4):Prop where
 fr:Fr [] s0 s
 nx:s0.next+3<=s.next
 m:s.get s0.next=some (.cells (Y5 m))
 p:s.get (s0.next+1)=some (.cells pr)
 r:s.get (s0.next+2)=some (.cells [.str (bs []),.int .i64 0,.ag,.int .i64 0,.ag,.ag,.ag,.ag])
theorem S3.call {s0:k4} {m:X6} {pr:List D} {s s':k4} (h:S3 s0 m pr s) (hf:Fr [] s s'):S3 s0 m pr s':=by
 have:=h.nx;have:=hf.1;refine ⟨h.fr.trans hf (by simp),by omega,?_,?_,?_⟩
 ·rw [hf.2 _ (by omega) (by simp),h.m]
 ·rw [hf.2 _ (by omega) (by simp),h.p]
 ·rw [hf.2 _ (by omega) (by simp),h.r]
theorem S3.dj {s0:k4} {m:X6} {pr pr':List D} {s:k4} (h:S3 s0 m pr s):S3 s0 m pr' (s.set (s0.next+1) (some (.cells pr'))):=by
 have:=h.nx;refine ⟨h.fr.aD _ (.inr (by omega)),by simp only [k4.aq];omega,?_,?_,?_⟩
 ·rw [Z7 (by omega),h.m]
 ·rw [a0d (by omega)]
 ·rw [Z7 (by omega),h.r]
theorem S3.fin {s0 s:k4} {m:X6} {pr:List D} {p q:Pr} {x:X0} (h:S3 s0 m pr s) (hq:Y0 s q x) (hz:a2i s0 x.de):eE s0 p q (.agg (U6 q x)) (s.set (s0.next+2) (some (.cells (U6 q x)))) :=
 ⟨x,rfl,h.fr.aD _ (.inr (by omega)),hq.set h.r,hz⟩
theorem S3.res {s0 s:k4} {m:X6} {pr:List D} {q:Pr} {x:X0} {env:q8} {sl:Nat} (h:S3 s0 m pr s) (hE:env.get sl=.ptr (s0.next+2) 0):a04 env (s.set (s0.next+2) (some (.cells (U6 q x)))) [(sl,some (some 8))]=some (.agg (U6 q x)):=by
 have:=h.nx;simp only [a04,a1g,a1t,hE,a0d (s:=s) (i:=s0.next+2) (by omega)];rfl
def b0r (fs:FuncId->Option U3) (fn:Nat) (t:List Nd) (ch:List Ch) (names:List ByteArray) (vars:List Nat) (f k:Nat):Prop :=
 ∀g n,a0K t g k=(n,true)->∀ (s:k4) (m:X6) (p:Pr) (x:X0) (au to:Nat),a2M s m t ch->Y0 s p x->a1C t ch.length p->p.names=names->p.vars=vars->au<p.ah->to<p.ah->∀N,a0z p N->N+4*(n-k)<=900000 ->
  X9 fs fn [.agg (Y5 m),.agg (U6 p x),.int .i64 (k:Int),.int .i64 (au:Int),.int .i64 (to:Int)] s (eE s p (W7 t (ch.map Ch.name) f p k au to))
abbrev Hs:=List (Nat×List D)
def Y2 (s:k4) (R:Hs):Prop:=∀x∈R,s.get x.1=some (.cells x.2)
structure Hp (s:k4) (W R:Hs):Prop where
 nd:(W.map Prod.fst).Nodup
 ap:∀w∈W,∀r∈R,w.1≠r.1
 w:Y2 s W
 r:Y2 s R
theorem Y2.append {s:k4} {A B:Hs} (h:Y2 s A) (k:Y2 s B):Y2 s (A++B):=by
 intro x hx;rcases List.mem_append.1 hx with hx | hx
 ·exact h x hx
 ·exact k x hx
theorem Y2.left {s:k4} {A B:Hs} (h:Y2 s (A++B)):Y2 s A:=fun x hx=>h x (List.mem_append_left _ hx)
theorem Y2.right {s:k4} {A B:Hs} (h:Y2 s (A++B)):Y2 s B:=fun x hx=>h x (List.mem_append_right _ hx)
theorem Y2.fr {s s':k4} {A:Hs} (h:Y2 s A) (hf:Fr [] s s'):Y2 s' A:=fun x hx=>by
 rw [hf.2 _ (u7 (h x hx)) (by simp),h x hx]
theorem Hp.fr {s s':k4} {W R:Hs} (h:Hp s W R) (hf:Fr [] s s'):Hp s' W R:=⟨h.nd,h.ap,h.w.fr hf,h.r.fr hf⟩
theorem Hp.push {s:k4} {W R:Hs} (h:Hp s W R) (o:Y1):Hp (s.push o) W R:=h.fr (Fr.push o)
theorem Hp.eU {s:k4} {W R:Hs} (h:Hp s W R) (cs:List D):Hp (s.push (.cells cs)) ((s.next,cs)::W) R:=by
 refine ⟨?_,?_,?_,(h.push _).r⟩
 ·rw [List.map_cons,List.nodup_cons]
  refine ⟨fun hm=>?_,h.nd⟩;obtain ⟨x,hx,e⟩:=List.mem_map.1 hm;have:=u7 (h.w x hx);simp only at e;omega
 ·intro w hw r hr
  rcases List.mem_cons.1 hw with rfl | hw
  ·have:=u7 (h.r r hr)
   simp only;omega
  ·exact h.ap w hw r hr
 ·intro x hx
  rcases List.mem_cons.1 hx with rfl | hx
  ·exact W2 rfl
  ·exact (h.push _).w x hx
theorem Hp.get {s:k4} {A B R:Hs} {id:Nat} {cs:List D} (h:Hp s (A++(id,cs)::B) R):s.get id=some (.cells cs):=h.w (id,cs) (by simp)
theorem Hp.sub {s:k4} {W W' R R':Hs} (h:Hp s W R) (hw:W'.Sublist W) (hr:∀x∈R',x∈R):Hp s W' R' :=
 ⟨h.nd.sublist (hw.map _),fun w hm r hn=>h.ap w (hw.subset hm) r (hr r hn),fun x hx=>h.w x (hw.subset hx),fun x hx=>h.r x (hr x hx)⟩
theorem Hp.perm {s:k4} {W W' R:Hs} (h:Hp s W R) (hw:W'.Perm W):Hp s W' R :=
 ⟨(hw.map _).nodup_iff.2 h.nd,fun w hm r hn=>h.ap w (hw.subset hm) r hn,fun x hx=>h.w x (hw.subset hx),h.r⟩
theorem Hp.set {s:k4} {A B R:Hs} {id:Nat} {cs:List D} (h:Hp s (A++(id,cs)::B) R) (rK:List D):Hp (s.set id (some (.cells rK))) (A++(id,rK)::B) R:=by
 have hl:=u7 h.get;have hn:=h.nd;rw [List.map_append,List.map_cons,List.nodup_append] at hn;obtain ⟨n1,n2,n3⟩:=hn;rw [List.nodup_cons] at n2;refine ⟨?_,?_,?_,?_⟩
 ·rw [List.map_append,List.map_cons,List.nodup_append,List.nodup_cons]
  exact ⟨n1,n2,n3⟩
 ·intro w hw r hr
  rcases List.mem_append.1 hw with hw | hw
  ·exact h.ap w (by simp [hw]) r hr
  ·rcases List.mem_cons.1 hw with rfl | hw
   ·exact h.ap (id,cs) (by simp) r hr
   ·exact h.ap w (by simp [hw]) r hr
 ·intro x hx
  rcases List.mem_append.1 hx with hx | hx
  ·rw [Z7,h.w x (by simp [hx])]
   exact n3 _ (List.mem_map_of_mem hx) _ (by simp)
  ·rcases List.mem_cons.1 hx with rfl | hx
   ·exact a0d hl
   ·rw [Z7,h.w x (by simp [hx])]
    rintro e;exact n2.1 (e▸(List.mem_map.2 ⟨x,hx,rfl⟩))
 ·intro x hx
  rw [Z7,h.r x hx];exact fun e=>h.ap (id,cs) (by simp) x hx e.symm
theorem Hp.kill {s:k4} {A B R:Hs} {id:Nat} {cs:List D} (h:Hp s (A++(id,cs)::B) R):Hp (s.set id none) (A++B) R:=by
 have hn:=h.nd;rw [List.map_append,List.map_cons,List.nodup_append] at hn;obtain ⟨n1,n2,n3⟩:=hn;rw [List.nodup_cons] at n2;have h':Hp s (A++B) R:=h.sub (List.Sublist.append_left (List.sublist_cons_self _ _) _) fun _ hx=>hx
 refine ⟨h'.nd,h'.ap,?_,?_⟩
 ·intro x hx
  rw [Z7,h'.w x hx];rcases List.mem_append.1 hx with hx | hx
  ·exact n3 _ (List.mem_map_of_mem hx) _ (by simp)
  ·rintro e
   exact n2.1 (e▸(List.mem_map.2 ⟨x,hx,rfl⟩))
 ·intro x hx
  rw [Z7,h.r x hx];exact fun e=>h.ap (id,cs) (by simp) x hx e.symm
theorem Hp.ei {s:k4} {W R E:Hs} (h:Hp s W R) (he:Y2 s E) (hc:∀w∈W,∀x∈E,w.2≠x.2):Hp s W (E++R):=by
 refine ⟨h.nd,fun w hw r hr=>?_,h.w,he.append h.r⟩;rcases List.mem_append.1 hr with hr | hr
 ·intro e
  have h1:=h.w w hw;rw [e,he r hr] at h1;simp only [Option.some.injEq,Y1.cells.injEq] at h1;exact hc w hw r hr h1.symm
 ·exact h.ap w hw r hr
theorem a82 {fs:FuncId->Option U3} {vars:List Nat} {c:a1a} {env:q8} {s:k4} {id:Nat} {P:q8->k4->Prop} {Q:a1n->q8->k4->Prop} (h:WP fs vars c env s (a0j id fun e env s=>e=.normal/\P env s)) (k:∀env s,P env s->Q .normal env s):WP fs vars c env s (a0j id Q):=by
 refine h.mono fun e env s hp=>?_
 cases e with
 | normal=>exact k _ _ hp.2
 | ret=>cases hp.1
 | exit i =>
   simp only [a0j] at hp ⊢;split
   ·rename_i hi
    rw [if_pos hi] at hp;exact k _ _ hp.2
   ·rename_i hi
    rw [if_neg hi] at hp;cases hp.1
def Rp (d:D) (sz:Nat) (rows:List (List D)) (E:Hs):Prop:=(d=.ag/\rows=[]/\E=[])∨∃id,d=.arr id 0 rows.length sz/\E=[(id,rows.flatten)]/\rows≠[]
theorem Rp.sn {s:k4} {d:D} {sz:Nat} {rows:List (List D)} {E:Hs} (h:Rp d sz rows E) (he:Y2 s E):SN s sz d rows:=by
 rcases h with ⟨h1,h2,_⟩ | ⟨id,h1,rfl,_⟩
 ·exact .inl ⟨h1,h2⟩
 ·exact .inr (.inl ⟨id,h1,he (id,rows.flatten) (by simp)⟩)
theorem Rp.one {d:D} {sz:Nat} {rows:List (List D)} {E:Hs} (h:Rp d sz rows E):V1 d=true:=by
 rcases h with ⟨rfl,_⟩ | ⟨id,rfl,_⟩<;>rfl
theorem Rp.len {d:D} {sz:Nat} {rows:List (List D)} {E:Hs} (h:Rp d sz rows E):a0C false d=some (.int .i64 (rows.length:Int)):=by
 rcases h with ⟨rfl,rfl,_⟩ | ⟨id,rfl,_⟩<;>rfl
theorem Rp.app {s:k4} {d:D} {sz bytes idt:Nat} {rows:List (List D)} {row:List D} {A B E R:Hs} (h:Rp d sz rows E) (hp:Hp s (A++E++B) R) (ht:s.get idt=some (.cells row)) (hr:row.length=sz) (ly:∀r∈rows,r.length=sz) (hb:bytes<=1000) (hl:rows.length<=1000000000) :
 ∃d' s',Z6 sz bytes d (.arr idt 0 1 sz) s=some (d',s')/\∃E',Rp d' sz (rows++[row]) E'/\Hp s' (A++E'++B) R/\s.next<=s'.next:=by
 have b3:bytes<=2 ^ 20:=Nat.le_trans hb (by decide);have r1:a1h s.get (.arr idt 0 1 sz)=some row:=by
  simp only [a1h,ht,Nat.zero_add,Nat.one_mul,List.drop_zero];rw [if_pos (by omega),List.take_of_length_le (by omega)]
 have r2:a3i (.arr idt 0 1 sz)=some 1:=rfl;have r3:a1O sz (.arr idt 0 1 sz)=true:=by simp [a1O]
 rcases h with ⟨rfl,rfl,rfl⟩ | ⟨id,rfl,rfl,iw⟩
 ·refine ⟨.arr s.next 0 1 sz,s.push (.cells row),?_,[(s.next,row)],.inr ⟨s.next,rfl,by simp,by simp⟩,?_,by simp⟩
  ·unfold Z6
   simp only [r1,r2,r3,b3,decide_true,Bool.and_self,if_true];rw [if_neg (by omega),if_pos ⟨by omega,by omega⟩]
  ·refine (hp.eU row).perm ?_
   simp only [List.append_nil,List.append_assoc,List.singleton_append];exact List.perm_middle
 ·have hf:=a75 ly
  have hg:s.get id=some (.cells rows.flatten):=by
   refine hp.w (id,rows.flatten) ?_;simp
  have b1:(rows.length+1)*bytes<=2 ^ 45:=Nat.le_trans (Nat.mul_le_mul (show rows.length+1<=1000000001 by omega) hb) (by decide);have b2:rows.length+1<=2 ^ 45:=by omega
  refine ⟨.arr s.next 0 (rows.length+1) sz,(s.set id none).push (.cells (rows.flatten++row)),?_,[(s.next,rows.flatten++row)],.inr ⟨s.next,by simp,by simp,by simp⟩,?_,by simp⟩
  ·unfold Z6
   simp only [r1,r2,r3,b3,decide_true,Bool.and_self,if_true,hg,Nat.zero_add,hf,and_self,List.drop_zero];rw [if_neg (by omega),if_pos ⟨b1,b2⟩]
  ·have h1:Hp (s.set id none) (A++B) R:=by
    refine Hp.kill (cs:=rows.flatten) ?_;simpa only [List.append_assoc,List.singleton_append] using hp
   have h2:=h1.eU (rows.flatten++row);rw [k4.aq] at h2;refine h2.perm ?_;simp only [List.append_assoc,List.singleton_append];exact List.perm_middle
def InR (P:k4->Prop) (R:Hs):Prop:=∀s,Y2 s R->P s
theorem InR.mono {P:k4->Prop} {R R':Hs} (h:InR P R) (hr:∀x∈R,x∈R'):InR P R':=fun s hs=>h s fun x hx=>hs x (hr x hx)
theorem SN.parts {s:k4} {sz:Nat} {d:D} {rows:List (List D)} (h:SN s sz d rows):∃E:Hs,Y2 s E/\(∀e∈E,e.2=rows.flatten)/\InR (fun s=>SN s sz d rows) E:=by
 rcases h with h | ⟨id,h,hg⟩ | h
 ·exact ⟨[],by simp [Y2],by simp,fun s _=>.inl h⟩
 ·exact ⟨[(id,rows.flatten)],by simpa [Y2] using hg,by simp,fun s hs=>.inr (.inl ⟨id,h,hs (id,rows.flatten) (by simp)⟩)⟩
 ·exact ⟨[],by simp [Y2],by simp,fun s _=>.inr (.inr h)⟩
def a7q (cs:List D):Prop:=(∃l,cs=(a0x l).flatten)∨(∃l,cs=(a0h l).flatten)∨(∃l,cs=(a0T l).flatten)∨(∃l,cs=(a1G l).flatten)
theorem a7q.ne_box {cs rest:List D} {d:D} {t:List Nd} (h:a7q cs) (hd:X8 d t):d::rest≠cs:=by
 have hd:=hd.fl;rcases h with ⟨l,rfl⟩ | ⟨l,rfl⟩ | ⟨l,rfl⟩ | ⟨l,rfl⟩<;>cases l<;>rcases hd with ⟨rfl,_⟩ | rfl<;>simp [a0x,a0h,a0T,a1G,Ed.row]
theorem a7q.ne_si {cs rest:List D} {a:ByteArray} {k:IntKind} {n:Int} (h:a7q cs):D.str a::.int k n::rest≠cs:=by
 rcases h with ⟨l,rfl⟩ | ⟨l,rfl⟩ | ⟨l,rfl⟩ | ⟨l,rfl⟩
 ·cases l<;>simp [a0x]
 ·cases l<;>simp [a0h]
 ·cases l<;>simp [a0T,Ed.row]
 ·match l with
  | []=>simp [a1G]
  | [y]=>simp [a1G]
  | y::z::r=>simp [a1G]
theorem Y0.parts {s:k4} {p:Pr} {x:X0} (h:Y0 s p x):∃E:Hs,Y2 s E/\(∀e∈E,a7q e.2)/\InR (fun s=>Y0 s p x) E:=by
 obtain ⟨E1,a1,b1,c1⟩:=h.l.parts;obtain ⟨E2,a2,b2,c2⟩:=h.r.parts;obtain ⟨E3,a3,b3,c3⟩:=h.e.parts;obtain ⟨E4,a4,b4,c4⟩:=h.n.parts;obtain ⟨E5,a5,b5,c5⟩:=h.v.parts;refine ⟨E1++(E2++(E3++(E4++E5))),a1.append (a2.append (a3.append (a4.append a5))),?_,fun s hs=>⟨c1 s hs.left,c2 s hs.right.left,c3 s hs.right.right.left,c4 s hs.right.right.right.left,c5 s hs.right.right.right.right⟩⟩;intro e he;simp only [List.mem_append] at he;rcases he with he | he | he | he | he
 ·exact .inl ⟨_,b1 e he⟩
 ·exact .inr (.inl ⟨_,b2 e he⟩)
 ·exact .inr (.inr (.inl ⟨_,b3 e he⟩))
 ·exact .inr (.inr (.inr ⟨_,b4 e he⟩))
 ·exact .inl ⟨_,b5 e he⟩
def a1J (l:List Vr):List (List D):=l.map Vr.row
theorem b1i (l:List Vr):∀r∈a1J l,r.length=3:=by intro r h;obtain ⟨b,_,rfl⟩:=List.mem_map.1 h;rfl
@[simp] theorem b2k (l:List Vr):(a1J l).length=l.length:=by simp [a1J]
def a27 (l:List (Pr×X0)):List (List D):=l.map fun q=>U6 q.1 q.2
theorem b8c (l:List (Pr×X0)):∀r∈a27 l,r.length=8:=by intro r h;obtain ⟨b,_,rfl⟩:=List.mem_map.1 h;rfl
@[simp] theorem c3z (l:List (Pr×X0)):(a27 l).length=l.length:=by simp [a27]
theorem b6o (l:List Vr) (v:Vr):a1J l++[v.row]=a1J (l++[v]):=by simp [a1J]
theorem c3X (l:List Ch) (v:Ch):a2y l++[v.row]=a2y (l++[v]):=by simp [a2y]
theorem b00 (l:List Nat) (v:Nat):a0x l++[[.int .i64 (v:Int)]]=a0x (l++[v]):=by simp [a0x]
theorem b7d (l:List ByteArray) (v:ByteArray):a1G l++[[.str v]]=a1G (l++[v]):=by simp [a1G]
theorem c40 (l:List (Pr×X0)) (p:Pr) (x:X0):a27 l++[U6 p x]=a27 (l++[(p,x)]):=by simp [a27]
theorem Rp.si {d:D} {sz:Nat} {rows:List (List D)} {E:Hs} (h:Rp d sz rows E) (hr:∀r∈rows,∃a k n rest,r=D.str a::.int k n::rest):∀e∈E,∃a k n rest,e.2=D.str a::.int k n::rest:=by
 rcases h with ⟨_,_,rfl⟩ | ⟨id,_,rfl,iw⟩
 ·simp
 ·intro e he
  simp at he;subst he;cases rows with
  | nil=>exact (iw rfl).elim
  | cons r rs =>
    obtain ⟨a,k,n,rest,rfl⟩:=hr r (by simp);exact ⟨a,k,n,rest++rs.flatten,by simp⟩
theorem c4Z (l:List Vr):∀r∈a1J l,∃a k n rest,r=D.str a::.int k n::rest:=by
 intro r h;obtain ⟨b,_,rfl⟩:=List.mem_map.1 h;exact ⟨_,_,_,_,rfl⟩
theorem c4e (l:List (Pr×X0)):∀r∈a27 l,∃a k n rest,r=D.str a::.int k n::rest:=by
 intro r h;obtain ⟨b,_,rfl⟩:=List.mem_map.1 h;exact ⟨_,_,_,_,rfl⟩
def b2n (b:Bool):Nat:=if b then 1 else 0
@[simp] theorem a8h:b2n true=1:=rfl
@[simp] theorem b3q:b2n false=0:=rfl
theorem b39 (b:Bool):b2n b<=1:=by cases b<;>simp
def num (f:Nat->Bool):Nat->Nat
 | 0=>0
 | n+1=>num f n+b2n (f n)*2 ^ n
theorem a1K (f:Nat->Bool):∀n,num f n<2 ^ n
 | 0=>by simp [num]
 | n+1=>by
   have:=a1K f n;have h:=b39 (f n);simp only [num,Nat.pow_succ];have:b2n (f n)*2 ^ n<=1*2 ^ n:=Nat.mul_le_mul_right _ h;omega
theorem a3X {f g:Nat->Bool}:∀ {n:Nat},(∀i,i<n->f i=g i)->num f n=num g n
 | 0,_=>rfl
 | n+1,h=>by rw [num,num,a3X fun i hi=>h i (by omega),h n (by omega)]
theorem b0z {f g:Nat->Bool}:∀ {n:Nat},num f n=num g n->∀i,i<n->f i=g i
 | 0,_,i,hi=>by omega
 | n+1,h,i,hi=>by
   simp only [num] at h;have h1:=a1K f n;have h2:=a1K g n;have hp:0<2 ^ n:=Nat.pos_of_ne_zero (by simp);have e:f n=g n/\num f n=num g n:=by
    cases hf:f n<;>cases hg:g n<;>simp [hf,hg] at h ⊢<;>omega
   rcases Nat.lt_or_ge i n with iD | iD
   ·exact b0z e.2 i iD
   ·have:i=n:=by omega
    subst this;exact e.1
theorem a7g:∀n,num (fun _=>false) n=0
 | 0=>rfl
 | n+1=>by simp [num,a7g n]
theorem a56 (f:Nat->Bool) (k:Nat):∀n,num f (k+n)=num f k+num (fun i=>f (k+i)) n*2 ^ k
 | 0=>by simp [num]
 | n+1=>by
   rw [<- Nat.add_assoc,num,num,a56 f k n,Nat.add_mul,Nat.pow_add,Nat.add_assoc];congr 2
   rw [Nat.mul_assoc,Nat.mul_comm (2 ^ k)]
def a6G (A B:Nat->Bool) (c:Bool):Nat->Bool
 | 0=>c
 | i+1=>(A i&&B i)||((A i != B i)&&a6G A B c i)
def a2f (A B:Nat->Bool) (c:Bool) (i:Nat):Bool:=(A i != B i) != a6G A B c i
theorem b86 (A B:Nat->Bool) (c:Bool):∀n,num (a2f A B c) n+b2n (a6G A B c n)*2 ^ n=num A n+num B n+b2n c
 | 0=>by simp [num,a6G]
 | n+1=>by
   have ih:=b86 A B c n;simp only [num,a6G,a2f,Nat.pow_succ];cases A n<;>cases B n<;>cases hc:a6G A B c n<;>simp [hc] at ih ⊢<;>omega
theorem a8D (A B:Nat->Bool) (c:Bool) (n:Nat):num (a2f A B c) n=(num A n+num B n+b2n c) % 2 ^ n:=by
 rw [<- b86 A B c n,Nat.add_mul_mod_self_right,Nat.mod_eq_of_lt (a1K _ _)]
theorem b0N (A:Nat->Bool):∀n,num (fun i=>!A i) n+num A n+1=2 ^ n
 | 0=>by simp [num]
 | n+1=>by
   have ih:=b0N A n;simp only [num,Nat.pow_succ];cases A n<;>simp<;>omega
def a40 (A B:Nat->Bool):Nat->Bool
 | 0=>false
 | i+1=>if A i != B i then B i else a40 A B i
theorem b1k (A B:Nat->Bool):∀n,a40 A B n=decide (num A n<num B n)
 | 0=>by simp [a40,num]
 | n+1=>by
   have ih:=b1k A B n;have h1:=a1K A n;have h2:=a1K B n;simp only [a40,num];rw [Bool.eq_iff_iff];rcases Bool.eq_false_or_eq_true (A n) with hA | hA<;>rcases Bool.eq_false_or_eq_true (B n) with hB | hB<;>simp [hA,hB,ih]<;>omega
def W9 (n:Int) (w:Nat):Int:=(n+2 ^ (w-1)) % 2 ^ w-2 ^ (w-1)
def Y7 (f:Nat->Bool) (w:Nat):Int:=(num f w:Int)-(b2n (f (w-1)):Int)*2 ^ w
theorem a5u (w:Nat):(0:Int)<2 ^ w:=by
 have:(0:Int)<((2 ^ w:Nat):Int):=by exact_mod_cast Nat.pos_of_ne_zero (by simp)
 simpa using this
theorem a7G {w:Nat} (h:0<w):(2:Int) ^ w=2*2 ^ (w-1):=by
 obtain ⟨k,rfl⟩:∃k,w=k+1:=⟨w-1,by omega⟩
 rw [Int.pow_succ,Nat.add_sub_cancel];omega
theorem a9E {a b:Int} {w:Nat} (h:a % 2 ^ w=b % 2 ^ w):W9 a w=W9 b w:=by
 unfold W9;rw [Int.add_emod,h,<- Int.add_emod]
theorem a6i {n:Int} {w:Nat} (h:0<w) (h1:-2 ^ (w-1)<=n) (h2:n<2 ^ (w-1)):W9 n w=n:=by
 unfold W9;rw [Int.emod_eq_of_lt (by omega) (by have:=a7G h;omega)];omega
theorem a99 {n:Int} {w:Nat} (h:0<w):-2 ^ (w-1)<=W9 n w/\W9 n w<2 ^ (w-1):=by
 unfold W9;have hp:=a5u w;have h1:=Int.emod_nonneg (n+2 ^ (w-1)) (b:=2 ^ w) (by omega);have h2:=Int.emod_lt_of_pos (n+2 ^ (w-1)) hp;have:=a7G h;omega
theorem b7i {n:Int} {w:Nat}:W9 n w % 2 ^ w=n % 2 ^ w:=by
 unfold W9;rw [Int.sub_emod,Int.emod_emod_of_dvd _ (Int.dvd_refl _),<- Int.sub_emod];congr 1;omega
theorem b2Z {f:Nat->Bool} {w:Nat} (h:0<w):f (w-1)=decide (2 ^ (w-1)<=num f w):=by
 obtain ⟨k,rfl⟩:∃k,w=k+1:=⟨w-1,by omega⟩
 have h1:=a1K f k;simp only [Nat.add_sub_cancel,num];cases f k<;>simp<;>omega
theorem a9O {f:Nat->Bool} {w:Nat} (h:0<w):Y7 f w=W9 (num f w) w:=by
 have ht:=b2Z (f:=f) h;have hl:=a1K f w;have hp:=a7G h;have jd:(num f w:Int)<2 ^ w:=by exact_mod_cast hl
 unfold Y7;have hnn:(0:Int)<=num f w:=Int.natCast_nonneg _;by_cases hc:2 ^ (w-1)<=num f w
 ·rw [ht,decide_eq_true hc]
  have pQ:(2:Int) ^ (w-1)<=num f w:=by exact_mod_cast hc
  rw [<- a9E (a:=(num f w:Int)-2 ^ w) (b:=num f w) (by rw [Int.sub_emod,Int.emod_self];simp),a6i h (by omega) (by omega)];simp
 ·rw [ht,decide_eq_false hc]
  have pQ:(num f w:Int)<2 ^ (w-1):=by
   have:num f w<2 ^ (w-1):=by omega
   exact_mod_cast this
  rw [a6i h (by omega) (by omega)];simp
theorem b1G {f g:Nat->Bool} {w:Nat} (hw:0<w) (h:∀i,i<w->f i=g i):Y7 f w=Y7 g w:=by
 unfold Y7;rw [a3X h,h (w-1) (by omega)]
def partAt (A:Nat->Bool) (b:Bool) (i j:Nat):Bool:=decide (i<=j)&&(A (j-i)&&b)
theorem c5m (A:Nat->Bool) (b:Bool) {i w:Nat} (h:i<=w):num (partAt A b i) w=b2n b*(num A (w-i)*2 ^ i):=by
 obtain ⟨n,rfl⟩:∃n,w=i+n:=⟨w-i,by omega⟩
 rw [a56];have e1:num (partAt A b i) i=0:=by
  rw [<- a7g i];exact a3X fun j hj=>by simp [partAt];omega
 have e2:num (fun j=>partAt A b i (i+j)) n=b2n b*num A n:=by
  cases b with
  | false=>rw [b3q,Nat.zero_mul,<- a7g n];exact a3X fun j _=>by simp [partAt]
  | true=>rw [a8h,Nat.one_mul];exact a3X fun j _=>by simp [partAt]
 rw [e1,e2,Nat.add_sub_cancel_left,Nat.zero_add,Nat.mul_assoc]
def a58 (A B:Nat->Bool):Nat->(Nat->Bool)
 | 0=>fun _=>false
 | i+1=>a2f (a58 A B i) (partAt A (B i) i) false
theorem b56 (A B:Nat->Bool) {w:Nat}:∀ {i:Nat},i<=w->num (a58 A B i) w=(num A w*num B i) % 2 ^ w
 | 0,_=>by simp [a58,num,a7g]
 | i+1,h=>by
   have ih:=b56 A B (w:=w) (i:=i) (by omega);rw [a58,a8D,ih,c5m A (B i) (by omega),b3q,Nat.add_zero,num,Nat.mul_add];have hs:num A w*2 ^ i % 2 ^ w=num A (w-i)*2 ^ i % 2 ^ w:=by
    have:=a56 A (w-i) i;rw [show w-i+i=w by omega] at this;rw [this,Nat.add_mul,Nat.mul_assoc,<- Nat.pow_add,show w-i+i=w by omega,Nat.add_mul_mod_self_right]
   cases B i with
   | false=>simp
   | true =>
     rw [a8h,Nat.one_mul,Nat.one_mul,Nat.mod_add_mod,Nat.add_mod,<- hs,<- Nat.add_mod]
def a4e (r:Nat->Bool) (d:Bool) (j:Nat):Bool:=if j=0 then d else r (j-1)
theorem b7z (r:Nat->Bool) (d:Bool) {w:Nat} (h:0<w):num (a4e r d) w=b2n d+2*num r (w-1):=by
 obtain ⟨n,rfl⟩:∃n,w=1+n:=⟨w-1,by omega⟩
 rw [a56];have e2:num (fun j=>a4e r d (1+j)) n=num r n:=a3X fun j _=>by
  simp only [a4e];rw [if_neg (by omega)];congr 1;omega
 rw [e2,Nat.add_sub_cancel_left];simp [num,a4e];omega
def a4w (c:Bool) (A B:Nat->Bool) (j:Nat):Bool:=if c then A j else B j
theorem b5y (c:Bool) (A B:Nat->Bool) (w:Nat):num (a4w c A B) w=if c then num A w else num B w:=by
 cases c
 ·exact a3X fun _ _=>by simp [a4w]
 ·exact a3X fun _ _=>by simp [a4w]
mutual
def a1Z (X Y:Nat->Bool) (w:Nat):Nat->(Nat->Bool)
 | 0=>fun _=>false
 | k+1=>a4w (!a40 (a4e (a1Z X Y w k) (X (w-1-k))) Y w) (a2f (a4e (a1Z X Y w k) (X (w-1-k))) (fun j=>!Y j) true) (a4e (a1Z X Y w k) (X (w-1-k)))
end
def a7s (X Y:Nat->Bool) (w k:Nat):Bool:=!a40 (a4e (a1Z X Y w k) (X (w-1-k))) Y w
def a1b (X Y:Nat->Bool) (w i:Nat):Bool:=a7s X Y w (w-1-i)
theorem b9X {A B:Nat->Bool} {w:Nat} (h:num B w<=num A w):num (a2f A (fun j=>!B j) true) w=num A w-num B w:=by
 rw [a8D,a8h];have h1:=b0N B w;have h2:=a1K A w;rw [show num A w+num (fun j=>!B j) w+1=(num A w-num B w)+2 ^ w by omega,Nat.add_mod_right,Nat.mod_eq_of_lt (by omega)]
theorem b7l (X:Nat->Bool) {w k:Nat} (h:k<w):num X w / 2 ^ (w-(k+1))=2*(num X w / 2 ^ (w-k))+b2n (X (w-1-k)):=by
 have h1:=a56 X (w-(k+1)) (k+1);rw [show w-(k+1)+(k+1)=w by omega] at h1;have h2:=a56 X (w-k) k;rw [show w-k+k=w by omega] at h2;have p1:0<2 ^ (w-(k+1)):=Nat.pos_of_ne_zero (by simp);have p2:0<2 ^ (w-k):=Nat.pos_of_ne_zero (by simp);have e1:num X w / 2 ^ (w-(k+1))=num (fun i=>X (w-(k+1)+i)) (k+1):=by
  rw [h1,Nat.add_mul_div_right _ _ p1,Nat.div_eq_of_lt (a1K _ _),Nat.zero_add]
 have e2:num X w / 2 ^ (w-k)=num (fun i=>X (w-k+i)) k:=by
  rw [h2,Nat.add_mul_div_right _ _ p2,Nat.div_eq_of_lt (a1K _ _),Nat.zero_add]
 rw [e1,e2,show k+1=1+k by omega,a56];have e3:num (fun i=>(fun i=>X (w-(1+k)+i)) (1+i)) k=num (fun i=>X (w-k+i)) k:=a3X fun i _=>by
  show X _=X _
  congr 1;omega
 rw [e3];have e4:w-(1+k)+0=w-1-k:=by omega
 simp only [num,e4];omega
theorem b61 {x y d:Nat} (hy:0<y) (hd:d<=1):(2*x+d) / y=2*(x / y)+(if y<=2*(x % y)+d then 1 else 0)/\(2*x+d) % y=if y<=2*(x % y)+d then 2*(x % y)+d-y else 2*(x % y)+d:=by
 have hmod:=Nat.mod_add_div x y;have iC:=Nat.mod_lt x hy;have hx:2*x+d=2*(x % y)+d+y*(2*(x / y)):=by rw [Nat.mul_left_comm];omega
 rw [hx,Nat.add_mul_div_left _ _ hy,Nat.add_mul_mod_self_left];split
 ·rename_i hc
  have e:2*(x % y)+d=(2*(x % y)+d-y)+y*1:=by omega
  constructor
  ·rw [e,Nat.add_mul_div_left _ _ hy,Nat.div_eq_of_lt (by omega)];omega
  ·rw [e,Nat.add_mul_mod_self_left,Nat.mod_eq_of_lt (by omega)];omega
 ·rename_i hc
  constructor
  ·rw [Nat.div_eq_of_lt (by omega)];omega
  ·rw [Nat.mod_eq_of_lt (by omega)]
theorem b6u {r:Nat->Bool} {w:Nat} (hw:0<w) (h:num r w<2 ^ (w-1)):num r (w-1)=num r w:=by
 obtain ⟨v,rfl⟩:∃v,w=v+1:=⟨w-1,by omega⟩
 have ht:=b2Z (f:=r) hw;rw [decide_eq_false (by omega)] at ht;simp only [Nat.add_sub_cancel] at ht ⊢;simp [num,ht]
theorem b4s (X Y:Nat->Bool) {w:Nat} (hw:0<w) (hy:0<num Y w) (ky:num Y w<=2 ^ (w-1)):∀ {k:Nat},k<=w->num (a1Z X Y w k) w=num X w / 2 ^ (w-k) % num Y w
 | 0,_=>by
   have:=a1K X w;rw [Nat.sub_zero,Nat.div_eq_of_lt this,Nat.zero_mod];exact a7g w
 | k+1,h=>by
   have ih:=b4s X Y hw hy ky (k:=k) (by omega);have iC:=Nat.mod_lt (num X w / 2 ^ (w-k)) hy;have hs:=b7z (a1Z X Y w k) (X (w-1-k)) hw;rw [b6u hw (by omega),ih,Nat.add_comm] at hs;rw [a1Z,b5y,b1k,b7l X (w:=w) (k:=k) (by omega),(b61 hy (b39 _)).2,<- hs];by_cases hc:num (a4e (a1Z X Y w k) (X (w-1-k))) w<num Y w
   ·rw [decide_eq_true hc]
    simp only [Bool.not_true,Bool.false_eq_true,if_false];rw [if_neg (by omega)]
   ·rw [decide_eq_false hc]
    simp only [Bool.not_false,if_true];rw [if_pos (by omega)];exact b9X (by omega)
theorem c23 (X Y:Nat->Bool) {w k:Nat} (hw:0<w) (hy:0<num Y w) (ky:num Y w<=2 ^ (w-1)) (h:k<w):num X w / 2 ^ (w-(k+1)) / num Y w=2*(num X w / 2 ^ (w-k) / num Y w)+b2n (a7s X Y w k):=by
 have ih:=b4s X Y hw hy ky (k:=k) (by omega);have iC:=Nat.mod_lt (num X w / 2 ^ (w-k)) hy;have hs:=b7z (a1Z X Y w k) (X (w-1-k)) hw;rw [b6u hw (by omega),ih,Nat.add_comm] at hs;rw [a7s,b1k,b7l X h,(b61 hy (b39 _)).1,<- hs];congr 1
 by_cases hc:num (a4e (a1Z X Y w k) (X (w-1-k))) w<num Y w
 ·rw [decide_eq_true hc,if_neg (by omega)];rfl
 ·rw [decide_eq_false hc,if_pos (by omega)];rfl
theorem b9C (X Y:Nat->Bool) {w:Nat} (hw:0<w) (hy:0<num Y w) (ky:num Y w<=2 ^ (w-1)):∀ {k:Nat},k<=w->num (fun i=>a1b X Y w (w-k+i)) k=num X w / 2 ^ (w-k) / num Y w
 | 0,_=>by
   have:=a1K X w;rw [Nat.sub_zero,Nat.div_eq_of_lt this,Nat.zero_div];rfl
 | k+1,h=>by
   have ih:=b9C X Y hw hy ky (k:=k) (by omega);rw [c23 X Y hw hy ky (by omega),<- ih,show k+1=1+k by omega,a56];have e3:num (fun i=>(fun i=>a1b X Y w (w-(1+k)+i)) (1+i)) k=num (fun i=>a1b X Y w (w-k+i)) k:=a3X fun i _=>by
    show a1b X Y w _=a1b X Y w _
    congr 1;omega
   rw [e3];have e4:a1b X Y w (w-(1+k)+0)=a7s X Y w k:=by
    unfold a1b;congr 1;omega
   simp only [num,e4];omega
theorem c2v (X Y:Nat->Bool) {w:Nat} (hw:0<w) (hy:0<num Y w) (ky:num Y w<=2 ^ (w-1)):num (a1b X Y w) w=num X w / num Y w:=by
 have:=b9C X Y hw hy ky (k:=w) (Nat.le_refl _);rw [Nat.sub_self,Nat.pow_zero,Nat.div_one] at this;rw [<- this];exact a3X fun i _=>by congr 1;omega
theorem c2a (X Y:Nat->Bool) {w:Nat} (hw:0<w) (hy:0<num Y w) (ky:num Y w<=2 ^ (w-1)):num (a1Z X Y w w) w=num X w % num Y w:=by
 have:=b4s X Y hw hy ky (k:=w) (Nat.le_refl _);rwa [Nat.sub_self,Nat.pow_zero,Nat.div_one] at this
def W3 (c:Bool) (A:Nat->Bool):Nat->Bool:=a4w c (a2f (fun _=>false) (fun j=>!A j) true) A
theorem b71 (c:Bool) (A:Nat->Bool) (w:Nat):num (W3 c A) w=if c then (2 ^ w-num A w) % 2 ^ w else num A w:=by
 rw [W3,b5y];cases c
 ·rfl
 ·simp only [if_true]
  have:=b0N A w;have:=a1K A w;rw [a8D,a7g,a8h];congr 1;omega
theorem b8K (c:Bool) (A:Nat->Bool) (w:Nat):(num (W3 c A) w:Int) % 2 ^ w=(if c then -(num A w:Int) else (num A w:Int)) % 2 ^ w:=by
 have hl:=a1K A w;rw [b71];cases c
 ·rfl
 ·simp only [if_true]
  rw [Int.natCast_emod,Int.natCast_sub (by omega),Int.natCast_pow];rw [Int.emod_emod_of_dvd _ (by exact Int.dvd_refl _)];rw [show ((2:Nat):Int) ^ w-(num A w:Int)=-(num A w:Int)+2 ^ w by simp;omega,Int.add_emod_right]
def a5i (t:List Nd) (i:Nat):Int:=if (nd t (item t i)).kind=3 then (nd t (item t i)).num 0 else 1
def a3Z (t:List Nd) (kind:Int) (i:Nat):Int:=if kind=1 then 1 else min (a5i t i) 100
def a0u (t:List Nd) (kind:Int):Nat->Int
 | 0=>0
 | i+1=>if a0u t kind i<100/\(nd t i).kind=kind then a0u t kind i+a3Z t kind i else a0u t kind i
theorem b5d {t:List Nd} {kind:Int} {i:Nat} (h:100<=a0u t kind i):∀ {j:Nat},i<=j->a0u t kind j=a0u t kind i
 | 0,hj=>by
   obtain rfl:i=0:=by omega
   rfl
 | j+1,hj=>by
   by_cases e:i=j+1
   ·subst e;rfl
   ·have ih:=b5d h (j:=j) (by omega)
    rw [a0u,if_neg (by omega),ih]
structure a57 (t:List Nd) (i:Nat):Prop where
 chan:(nd t i).kind=1->1<=(nd t i).num 0/\(nd t i).num 0<=3/\1<=(nd t i).num 1/\(nd t i).num 1<=8/\a0u t 1 (i+1)<=3
 var:(nd t i).kind=2->1<=(nd t i).num 0/\(nd t i).num 0<=8/\W9 ((nd t i).num 1) ((nd t i).num 0).toNat=(nd t i).num 1/\a0u t 2 (i+1)<=8
 proc:(nd t i).kind=3->1<=(nd t i).num 0/\a0u t 3 (i+1)<=4
 lit:(nd t i).kind=17->(nd t i).num 0<=127
structure a3m (t:List Nd):Prop where
 gF:∀i,i<t.length->a57 t i
theorem b8N {t:List Nd} (h:Y9 t) {i:Nat} (hi:i<t.length):item t i<=i:=by
 by_cases h0:i=0
 ·subst h0
  have:item t 0=0:=b1e fun k hk=>by have:=h.cK.mem k hk;omega
  omega
 ·obtain ⟨b,_,_,h3,_⟩:=c1K h (by omega) hi
  exact h3
theorem b5q {t:List Nd} (h:Y9 t) {i:Nat} (hi:i<t.length):0<=a5i t i/\a5i t i<=999999:=by
 have:=b8N h hi;unfold a5i;split
 ·rename_i h3
  exact (h.ok.node _ (by omega)).copies h3
 ·omega
theorem b8v {t:List Nd} (h:Y9 t) {kind:Int} {i:Nat} (hi:i<t.length):0<=a3Z t kind i/\a3Z t kind i<=100:=by
 have:=b5q h hi;unfold a3Z;split<;>omega
theorem b4m {t:List Nd} (h:Y9 t) {kind:Int}:∀ {i:Nat},i<=t.length->0<=a0u t kind i/\a0u t kind i<200
 | 0,_=>by simp [a0u]
 | i+1,hi=>by
   have ih:=b4m h (kind:=kind) (i:=i) (by omega);have:=b8v h (kind:=kind) (i:=i) (by omega);rw [a0u];split<;>omega
def a76 (x:Nd):Ch:=⟨x.word 0,x.num 0,x.num 1,x.num 2==1,x.num 3==1⟩
def a4K (x:Nd):Vr:=⟨x.word 0,x.num 0,x.num 1⟩
structure Ga where
 ch:List Ch
 vs:List Vr
 sf:List Nat
 dead:Bool
def bb (t:List Nd) (a:Ga) (k:Nat):Ga :=
 if (nd t k).kind=1 then { a with ch:=a.ch++[a76 (nd t k)] }
 else if (nd t k).kind=2 then { a with vs:=a.vs++[a4K (nd t k)] }
 else if (nd t k).kind=4 then { a with sf:=a.sf++[(nd t k).aC 0] }
 else if (nd t k).kind=5 then { a with dead:=true } else a
def a05 (t:List Nd) (l:List Nat):Ga:=l.foldl (bb t) ⟨[],[],[],false⟩
theorem c5y (t:List Nd) (l:List Nat) (k:Nat):a05 t (l++[k])=bb t (a05 t l) k:=by simp [a05]
theorem b29 (t:List Nd) (l:List Nat):(a05 t l).ch.length<=l.length/\(a05 t l).vs.length<=l.length/\(a05 t l).sf.length<=l.length:=by
 have key:∀ (l:List Nat) (a:Ga) (n:Nat),a.ch.length<=n/\a.vs.length<=n/\a.sf.length<=n->(l.foldl (bb t) a).ch.length<=n+l.length/\(l.foldl (bb t) a).vs.length<=n+l.length/\(l.foldl (bb t) a).sf.length<=n+l.length:=by
  intro l;induction l with
  | nil=>intro a n h;simpa using h
  | cons k l ih =>
    intro a n h;have:=ih (bb t a k) (n+1) (by
     obtain ⟨h1,h2,h3⟩:=h;unfold bb;by_cases c1:(nd t k).kind=1
     ·rw [if_pos c1];simp only [List.length_append,List.length_singleton];omega
     rw [if_neg c1];by_cases c2:(nd t k).kind=2
     ·rw [if_pos c2];simp only [List.length_append,List.length_singleton];omega
     rw [if_neg c2];by_cases c4:(nd t k).kind=4
     ·rw [if_pos c4];simp only [List.length_append,List.length_singleton];omega
     rw [if_neg c4];by_cases c5:(nd t k).kind=5
     ·rw [if_pos c5];simp only;omega
     rw [if_neg c5];omega)
    simp only [List.foldl_cons,List.length_cons];omega
 have:=key l ⟨[],[],[],false⟩ 0 (by simp);simpa [a05] using this
def a0b (t:List Nd) (x:Nd):Nat:=(x.ks.takeWhile fun k=>(nd t k).kind==2).length
def a1i (t:List Nd) (x:Nd):List Nd:=(x.ks.take (a0b t x)).map (nd t)
theorem b1u (t:List Nd) (x:Nd):a0b t x<=x.ks.length:=(List.takeWhile_prefix _).length_le
@[simp] theorem a5S (t:List Nd) (x:Nd):(a1i t x).length=a0b t x:=by simp [a1i,b1u]
theorem b1b {t:List Nd} {x:Nd} {i:Nat} (h:i<a0b t x) (hi:i<x.ks.length):(nd t x.ks[i]).kind=2:=by
 have key:∀ (l:List Nat) (p:Nat->Bool) (i:Nat) (h:i<l.length),i<(l.takeWhile p).length->p l[i]=true:=by
  intro l p;induction l with
  | nil=>intro i h;simp at h
  | cons a l ih =>
    intro i h hi;cases hp:p a
    ·simp [List.takeWhile_cons,hp] at hi
    ·cases i with
     | zero=>exact hp
     | succ i=>exact ih i (by simpa using h) (by simpa [List.takeWhile_cons,hp] using hi)
 have:=key x.ks (fun k=>(nd t k).kind==2) i hi h;simpa using this
theorem b6T {t:List Nd} {x:Nd} (hi:a0b t x<x.ks.length):(nd t x.ks[a0b t x]).kind≠2:=by
 have key:∀ (l:List Nat) (p:Nat->Bool) (h:(l.takeWhile p).length<l.length),p l[(l.takeWhile p).length]=false:=by
  intro l p;induction l with
  | nil=>intro h;simp at h
  | cons a l ih =>
    intro h;cases hp:p a
    ·simp [List.takeWhile_cons,hp]
    ·have h':(l.takeWhile p).length<l.length:=by simpa [List.takeWhile_cons,hp] using h
     have:=ih h';simpa [List.takeWhile_cons,hp] using this
 have:=key x.ks (fun k=>(nd t k).kind==2) hi;intro e;rw [beq_eq_false_iff_ne] at this;exact this e
def en (x:Nd) (c seen:Nat) (vs:List Vr) (l:List Nd):Pr :=
 ⟨x.word 0,c,(List.range l.length).map (vs.length+·),2,[false,true],[],(vs.take seen).map Vr.name++l.map (fun y=>y.word 0),List.range seen++(List.range l.length).map (vs.length+·)⟩
def a69 (t:List Nd) (ch:List ByteArray) (k seen c:Nat) (vs:List Vr):Pr :=
 a5y (W7 t ch (t.length+1)) k (en (nd t k) c seen vs (a1i t (nd t k))) ((nd t k).ks.drop (a0b t (nd t k))) 0 1
def a06 (t:List Nd) (ch:List ByteArray) (k seen:Nat):Nat->List Vr×List Pr->List Vr×List Pr
 | 0,a=>a
 | c+1,a=>((a06 t ch k seen c a).1++(a1i t (nd t k)).map a4K,(a06 t ch k seen c a).2++[a69 t ch k seen c (a06 t ch k seen c a).1])
structure Gb where
 seen:Nat
 vs:List Vr
 ps:List Pr
def a3J (t:List Nd) (ch:List ByteArray) (a:Gb) (k:Nat):Gb :=
 if (nd t k).kind=3 then ⟨a.seen,(a06 t ch k a.seen ((nd t k).num 0).toNat (a.vs,a.ps)).1,(a06 t ch k a.seen ((nd t k).num 0).toNat (a.vs,a.ps)).2⟩
 else if (nd t k).kind=2 then ⟨a.seen+1,a.vs,a.ps⟩ else a
def a2h (t:List Nd) (ch:List ByteArray) (vs:List Vr) (l:List Nat):Gb:=l.foldl (a3J t ch) ⟨0,vs,[]⟩
theorem b6E (t:List Nd) (ch:List ByteArray) (vs:List Vr) (l:List Nat) (k:Nat):a2h t ch vs (l++[k])=a3J t ch (a2h t ch vs l) k:=by simp [a2h]
structure Mo where
 tree:List Nd
 globals:Nat
 af:List Ch
 vars:List Vr
 procs:List Pr
 safe:List Nat
 dead:Bool
def W4 (t:List Nd):Ga:=a05 t (nd t 0).ks
def bt (t:List Nd):List ByteArray:=(W4 t).ch.map Ch.name
def eL (t:List Nd):Gb:=a2h t (bt t) (W4 t).vs (nd t 0).ks
def a7X (t:List Nd):Mo:=⟨t,(W4 t).vs.length,(W4 t).ch,(eL t).vs,(eL t).ps,(W4 t).sf,(W4 t).dead⟩
theorem b3f (t:List Nd) (ch:List ByteArray) (k seen:Nat):∀ (c:Nat) (a:List Vr×List Pr),∃l,(a06 t ch k seen c a).1=a.1++l
 | 0,a=>⟨[],by simp [a06]⟩
 | c+1,a=>by
   obtain ⟨l,hl⟩:=b3f t ch k seen c a;exact ⟨l++(a1i t (nd t k)).map a4K,by simp [a06,hl]⟩
theorem c5x (t:List Nd) (ch:List ByteArray) (a:Gb) (k:Nat):∃l,(a3J t ch a k).vs=a.vs++l:=by
 unfold a3J;split
 ·exact b3f t ch k a.seen _ (a.vs,a.ps)
 ·split<;>exact ⟨[],by simp⟩
theorem b4z (t:List Nd) (ch:List ByteArray) (vs:List Vr):∀ (l:List Nat),∃m,(a2h t ch vs l).vs=vs++m:=by
 intro l;have key:∀ (l:List Nat) (a:Gb),(∃m,a.vs=vs++m)->∃m,(l.foldl (a3J t ch) a).vs=vs++m:=by
  intro l;induction l with
  | nil=>intro a h;exact h
  | cons k l ih =>
    intro a ⟨m,hm⟩;obtain ⟨m2,sr⟩:=c5x t ch a k;exact ih _ ⟨m++m2,by rw [sr,hm,List.append_assoc]⟩
 exact key l _ ⟨[],by simp⟩
theorem b5t (t:List Nd) (ch:List ByteArray) (vs:List Vr) (l:List Nat):(a2h t ch vs l).seen=(a05 t l).vs.length:=by
 have key:∀ (l:List Nat) (a:Ga) (b:Gb),b.seen=a.vs.length->(l.foldl (a3J t ch) b).seen=(l.foldl (bb t) a).vs.length:=by
  intro l;induction l with
  | nil=>intro a b h;exact h
  | cons k l ih =>
    intro a b h;simp only [List.foldl_cons];refine ih _ _ ?_;unfold a3J bb;by_cases c3:(nd t k).kind=3
    ·simp [c3,h]
    ·by_cases c2:(nd t k).kind=2
     ·simp [c2,h]
     ·rw [if_neg c3,if_neg c2]
      repeat' split
      all_goals simp_all
 exact key l _ _ rfl
theorem c2q (t:List Nd) (l m:List Nat):(a05 t l).vs.length<=(a05 t (l++m)).vs.length:=by
 have key:∀ (m:List Nat) (a:Ga),a.vs.length<=(m.foldl (bb t) a).vs.length:=by
  intro m;induction m with
  | nil=>intro a;exact Nat.le_refl _
  | cons k m ih =>
    intro a;refine Nat.le_trans ?_ (ih (bb t a k));unfold bb;repeat' split
    all_goals simp
 simp only [a05,List.foldl_append];exact key m _
theorem a1R.length {t:List Nd}:∀ {ks:List Int} {a n:Nat},a1R t ks a n->ks.length+a<=n
 | [],a,n,h=>by simp only [a1R] at h;simp;omega
 | k::ks,a,n,h=>by
   obtain ⟨_,b,h1,h2⟩:=h;have:=h1.lt;have:=h2.length;simp only [List.length_cons];omega
theorem KF.mem {t:List Nd} {g:Nat}:∀ {ks:List Int} {a n:Nat},KF t g ks a n->n<=t.length->∀k∈ks,∃b,a0K t g k.toNat=(b,true)/\k.toNat<b/\b<=n/\(k.toNat:Int)=k/\a<=k.toNat
 | [],a,n,h,_=>by simp
 | z::zs,a,n,h,hn=>by
   obtain ⟨rfl,h1,b,h2,h3,h4,h5⟩:=h.cons;have hle:=h5.le;intro k hk;rcases List.mem_cons.1 hk with rfl | hk
   ·exact ⟨b,by simpa using h2,by simpa using h3,hle,by simp,by simp⟩
   ·obtain ⟨c,c1,c2,c3,c4,c5⟩:=h5.mem hn k hk
    exact ⟨c,c1,c2,c3,c4,by omega⟩
theorem Y9.kf {t:List Nd} (h:Y9 t):KF t 19 (nd t 0).kids 1 t.length:=by
 obtain ⟨g',hg,hk⟩:=a5G h.walk;obtain rfl:g'=19:=by omega
 exact hk
theorem Y9.item {t:List Nd} (h:Y9 t) {k:Nat} (hk:k∈(nd t 0).ks):1<=k/\k<t.length/\∃b,a0K t 19 k=(b,true)/\k<b/\b<=t.length/\KF t 18 (nd t k).kids (k+1) b:=by
 obtain ⟨z,hz,rfl⟩:=List.mem_map.1 hk;obtain ⟨b,b1,b2,b3,b4,b5⟩:=h.kf.mem (Nat.le_refl _) z hz;obtain ⟨g',hg,iv⟩:=a5G b1;obtain rfl:g'=18:=by omega
 exact ⟨b5,by omega,b,b1,b2,b3,iv⟩
theorem KF.length {t:List Nd} {g:Nat}:∀ {ks:List Int} {a n:Nat},KF t g ks a n->ks.length+a<=n
 | [],a,n,h=>by have:=h.nil;simp;omega
 | z::zs,a,n,h=>by
   obtain ⟨_,_,b,_,h1,_,h2⟩:=h.cons;have:=h2.length;simp only [List.length_cons];omega
theorem KF.drop {t:List Nd} {g:Nat}:∀ (i:Nat) {ks:List Int} {a n:Nat},KF t g ks a n->∃b,a<=b/\KF t g (ks.drop i) b n
 | 0,ks,a,n,h=>⟨a,Nat.le_refl _,h⟩
 | i+1,[],a,n,h=>⟨a,Nat.le_refl _,h⟩
 | i+1,z::zs,a,n,h=>by
   obtain ⟨_,_,b,_,h1,_,h2⟩:=h.cons;obtain ⟨c,c1,c2⟩:=h2.drop i;exact ⟨c,by omega,c2⟩
theorem b6M {x:Nd} {i:Nat} (h:i<x.kids.length):x.ks.take (i+1)=x.ks.take i++[x.aC i]:=by
 have h':i<x.ks.length:=by rw [a20];exact h
 rw [List.take_succ_eq_append_getElem h'];congr 2
 simp [Nd.ks,Nd.aC,List.getD,h]
theorem a7c {x:Nd} {i:Nat} (h:i<x.ks.length):x.ks[i]=x.aC i:=by
 have h':i<x.kids.length:=by rw [<- a20];exact h
 simp [Nd.ks,Nd.aC,List.getD,h']
theorem a51 {t:List Nd} {d:D} (hT:X8 d t) {k:Nat} (hk:k<t.length) {i:Nat} (hi:i<(nd t k).aH.length):W1 1 (nd t k).dn (.int .i64 (i:Int))=some (.fp [.int .i64 ((nd t k).num i)] 0):=by
 rw [a7p hi];exact FI.idx (hT.nd hk).n hi
theorem Hp.newR {s:k4} {W R:Hs} (h:Hp s W R) (z:Y1) (cs:List D):Hp ((s.push z).set s.next (some (.cells cs))) W ((s.next,cs)::R):=by
 have hf:Fr [] s ((s.push z).set s.next (some (.cells cs))):=(Fr.push _).aD _ (.inr (Nat.le_refl _));have h':=h.fr hf;refine ⟨h'.nd,fun w hw r hr=>?_,h'.w,fun x hx=>?_⟩
 ·rcases List.mem_cons.1 hr with rfl | hr
  ·have:=u7 (h.w w hw)
   simp only;omega
  ·exact h.ap w hw r hr
 ·rcases List.mem_cons.1 hx with rfl | hx
  ·exact a0d (by simp)
  ·exact h'.r x hx
theorem Hp.dK {s:k4} {W R:Hs} (h:Hp s W R) (z:Y1) (cs:List D):Hp ((s.push z).set s.next (some (.cells cs))) ((s.next,cs)::W) R:=by
 have hf:Fr [] s ((s.push z).set s.next (some (.cells cs))):=(Fr.push _).aD _ (.inr (Nat.le_refl _));have h':=h.fr hf;refine ⟨?_,fun w hw r hr=>?_,fun x hx=>?_,h'.r⟩
 ·rw [List.map_cons,List.nodup_cons]
  refine ⟨fun hm=>?_,h.nd⟩;obtain ⟨x,hx,e⟩:=List.mem_map.1 hm;have:=u7 (h.w x hx);simp only at e;omega
 ·rcases List.mem_cons.1 hw with rfl | hw
  ·have:=u7 (h.r r hr)
   simp only;omega
  ·exact h.ap w hw r hr
 ·rcases List.mem_cons.1 hx with rfl | hx
  ·exact a0d (by simp)
  ·exact h'.w x hx
theorem Hp.pushR {s:k4} {W R:Hs} (h:Hp s W R) (cs:List D):Hp (s.push (.cells cs)) W ((s.next,cs)::R):=by
 have h':=h.push (.cells cs);refine ⟨h'.nd,fun w hw r hr=>?_,h'.w,fun x hx=>?_⟩
 ·rcases List.mem_cons.1 hr with rfl | hr
  ·have:=u7 (h.w w hw)
   simp only;omega
  ·exact h.ap w hw r hr
 ·rcases List.mem_cons.1 hx with rfl | hx
  ·exact W2 rfl
  ·exact h'.r x hx
theorem Y9.sub {t:List Nd} (h:Y9 t):Sub t 0 t.length:=(a5I 20 h.ok.pos h.walk).1
theorem a88 {x:Nd} {j:Nat} (h:(j:Int)∈x.kids):j∈x.ks:=List.mem_map.2 ⟨_,h,by simp⟩
theorem b21 {t:List Nd} (h:a11 t) {p:Nat} (hp:p<t.length) {k:Nat} (hk:k∈(nd t p).ks) :
 ((nd t p).kind=0/\1<=(nd t k).kind/\(nd t k).kind<=5)∨((nd t p).kind=3/\((nd t k).kind=2∨a5l (nd t k).kind))∨((nd t p).kind≠3/\(nd t p).kind≠0/\6<=(nd t k).kind):=by
 have hD:=h.node p hp;have hr:=hD.kr;have iw:(nd t p).kids≠[]:=by intro e;simp [Nd.ks,e] at hk
 have kidx:∃i,i<(nd t p).kids.length/\k=(nd t p).aC i:=by
  obtain ⟨i,hi,e⟩:=List.getElem_of_mem hk;exact ⟨i,by rw [<- a20];exact hi,by rw [<- e,a7c hi]⟩
 obtain ⟨i,hi,rfl⟩:=kidx;by_cases c0:(nd t p).kind=0
 ·exact .inl ⟨c0,hD.prog c0 _ hk⟩
 by_cases c3:(nd t p).kind=3
 ·obtain ⟨v,_,h1,h2⟩:=hD.proc c3
  rw [<- List.take_append_drop v (nd t p).ks] at hk;rcases List.mem_append.1 hk with hk | hk
  ·exact .inr (.inl ⟨c3,.inl (h1 _ hk)⟩)
  ·exact .inr (.inl ⟨c3,.inr (h2 _ hk)⟩)
 refine .inr (.inr ⟨c3,c0,?_⟩);by_cases a:(nd t p).kind=4∨(nd t p).kind=6∨(nd t p).kind=7∨(nd t p).kind=9∨(nd t p).kind=20∨(nd t p).kind=21
 ·have:=hD.one a
  obtain rfl:i=0:=by omega
  have:=this.2.1;omega
 by_cases b:(nd t p).kind=10
 ·have:=(hD.choose b).2 _ hk;omega
 by_cases c:(nd t p).kind=11
 ·obtain ⟨h1,h2,h3,h4⟩:=hD.cond c
  have h2:=h2.1;rcases (show i=0∨i=1∨i=2 by omega) with rfl | rfl | rfl
  ·omega
  ·omega
  ·have:=h4 (by omega);omega
 by_cases d:(nd t p).kind=12
 ·obtain ⟨h1,h2,h3⟩:=hD.loop d
  have h2:=h2.1;rcases (show i=0∨i=1 by omega) with rfl | rfl<;>omega
 by_cases e:(nd t p).kind=13
 ·obtain ⟨h1,h2⟩:=hD.atom e
  obtain rfl:i=0:=by omega
  omega
 by_cases f:(nd t p).kind=16
 ·have:=(hD.block f _ hk).1;omega
 by_cases g:(nd t p).kind=22
 ·obtain ⟨h1,h2,h3,_⟩:=hD.bin g
  have h2:=h2.1;have h3:=h3.1;rcases (show i=0∨i=1 by omega) with rfl | rfl<;>omega
 ·exact (iw (hD.none (by omega))).elim
theorem b17 {t:List Nd} (h:Y9 t) {j:Nat} (h0:0<j) (hj:j<t.length):∃p,p<t.length/\p<j/\j∈(nd t p).ks:=by
 obtain ⟨p,_,h2,h3⟩:=h.sub.up j h0 hj;have:=h.ok.kids p h2 _ h3;exact ⟨p,h2,by omega,a88 h3⟩
theorem b6I {t:List Nd} (h:Y9 t) {j:Nat} (hj:j<t.length) (hk:(nd t j).kind=0):j=0:=by
 by_cases h0:j=0
 ·exact h0
 obtain ⟨p,p1,_,p3⟩:=b17 h (by omega) hj;rcases b21 h.ok p1 p3 with ⟨_,k1,_⟩ | ⟨_,k1 | k1⟩ | ⟨_,_,k1⟩
 ·omega
 ·omega
 ·have:=k1.1;omega
 ·omega
theorem b4i {t:List Nd} (h:Y9 t) {j:Nat} (hj:j<t.length) (hk:(nd t j).kind=1∨(nd t j).kind=3∨(nd t j).kind=4∨(nd t j).kind=5):j∈(nd t 0).ks:=by
 have h0:j≠0:=by rintro rfl;have:=h.ok.root;omega
 obtain ⟨p,p1,_,p3⟩:=b17 h (by omega) hj;rcases b21 h.ok p1 p3 with ⟨k0,k1,_⟩ | ⟨_,k1 | k1⟩ | ⟨_,_,k1⟩
 ·obtain rfl:=b6I h p1 k0
  exact p3
 ·omega
 ·have:=k1.1;omega
 ·omega
theorem b0J {t:List Nd} {x:Nd} (h:∃v,v<=x.ks.length/\(∀k∈x.ks.take v,(nd t k).kind=2)/\∀k∈x.ks.drop v,a5l (nd t k).kind):(∀k∈x.ks.drop (a0b t x),a5l (nd t k).kind)/\∀k∈x.ks,(nd t k).kind=2->k∈x.ks.take (a0b t x):=by
 obtain ⟨v,hv,h1,h2⟩:=h;have hl:=b1u t x;have e:a0b t x=v:=by
  rcases Nat.lt_trichotomy (a0b t x) v with iC | heq | uW
  ·have hi:a0b t x<x.ks.length:=by omega
   have:=b6T hi;exact (this (h1 _ (List.mem_take_iff_getElem.2 ⟨a0b t x,by omega,rfl⟩))).elim
  ·exact heq
  ·have hi:v<x.ks.length:=by omega
   have a:=b1b uW hi;have b:=h2 x.ks[v] (by rw [List.mem_drop_iff_getElem];exact ⟨0,by omega,by simp⟩);have:=b.1;omega
 rw [e];refine ⟨h2,fun k hk h3=>?_⟩;rw [<- List.take_append_drop v x.ks] at hk;rcases List.mem_append.1 hk with hk | hk
 ·exact hk
 ·have:=(h2 k hk).1;omega
theorem b3W {t:List Nd} (h:Y9 t) {j:Nat} (hj:j<t.length) (hk:(nd t j).kind=2):j∈(nd t 0).ks∨∃p,p∈(nd t 0).ks/\(nd t p).kind=3/\j∈(nd t p).ks.take (a0b t (nd t p)):=by
 have h0:j≠0:=by rintro rfl;have:=h.ok.root;omega
 obtain ⟨p,p1,_,p3⟩:=b17 h (by omega) hj;rcases b21 h.ok p1 p3 with ⟨k0,k1,_⟩ | ⟨k3,k1⟩ | ⟨_,_,k1⟩
 ·obtain rfl:=b6I h p1 k0
  exact .inl p3
 ·exact .inr ⟨p,b4i h p1 (.inr (.inl k3)),k3,(b0J ((h.ok.node p p1).proc k3)).2 j p3 hk⟩
 ·omega
theorem a7b (t:List Nd) (l:List Nat):a05 t l=⟨(l.filter fun k=>(nd t k).kind==1).map fun k=>a76 (nd t k),(l.filter fun k=>(nd t k).kind==2).map fun k=>a4K (nd t k),(l.filter fun k=>(nd t k).kind==4).map fun k=>(nd t k).aC 0,l.any fun k=>(nd t k).kind==5⟩:=by
 have key:∀ (l:List Nat) (a:Ga),l.foldl (bb t) a=⟨a.ch++(l.filter fun k=>(nd t k).kind==1).map fun k=>a76 (nd t k),a.vs++(l.filter fun k=>(nd t k).kind==2).map fun k=>a4K (nd t k),a.sf++(l.filter fun k=>(nd t k).kind==4).map fun k=>(nd t k).aC 0,a.dead||l.any fun k=>(nd t k).kind==5⟩:=by
  intro l;induction l with
  | nil=>intro a;simp
  | cons k l ih =>
    intro a;rw [List.foldl_cons,ih];unfold bb;by_cases c1:(nd t k).kind=1
    ·simp [c1]
    by_cases c2:(nd t k).kind=2
    ·simp [c2]
    by_cases c4:(nd t k).kind=4
    ·simp [c4]
    by_cases c5:(nd t k).kind=5
    ·simp [c5]
    ·have oi:((nd t k).kind==5)=false:=by rw [beq_eq_false_iff_ne];exact c5
     simp [c1,c2,c4,c5,oi]
 rw [a05,key];simp
theorem b9u {t:List Nd}:∀ {ks:List Int} {a n:Nat},a1R t ks a n->(ks.map Int.toNat).Pairwise (·<·)/\∀k∈ks.map Int.toNat,a<=k
 | [],a,n,_=>by simp
 | k::ks,a,n,h=>by
   obtain ⟨rfl,b,h1,h2⟩:=h;have:=h1.lt;obtain ⟨s1,s2⟩:=b9u h2;refine ⟨?_,?_⟩
   ·rw [List.map_cons,List.pairwise_cons]
    exact ⟨fun x hx=>by have:=s2 x hx;simp;omega,s1⟩
   ·intro x hx
    rw [List.map_cons,List.mem_cons] at hx;rcases hx with rfl | hx
    ·simp
    ·have:=s2 x hx;omega
theorem Y9.sorted {t:List Nd} (h:Y9 t):(nd t 0).ks.Pairwise (·<·):=(b9u h.cK).1
theorem before {l:List Nat} (h:l.Pairwise (·<·)) {i:Nat} (hi:i<l.length) {j:Nat} (hj:j∈l) (hl:j<l[i]):j∈l.take i:=by
 obtain ⟨m,hm,rfl⟩:=List.getElem_of_mem hj;have tT:m<i:=by
  rcases Nat.lt_trichotomy m i with h1 | h1 | h1
  ·exact h1
  ·subst h1;omega
  ·have:=List.pairwise_iff_getElem.1 h i m hi hm h1
   omega
 exact List.mem_take_iff_getElem.2 ⟨m,by omega,rfl⟩
theorem c3t {t:List Nd} (h:Y9 t) {i:Nat} (hi:i<(nd t 0).ks.length) {b j:Nat} {w:ByteArray} (hk:(nd t (nd t 0).ks[i]).kind=3) (hs:Sub t (nd t 0).ks[i] b) (pk:∀q,(nd t 0).ks[i]<=q->q<b->item t q=(nd t 0).ks[i]) (h1:(nd t 0).ks[i]<=j) (h2:j<b) (hw:a3t t 2 j w) :
 w∈(a05 t ((nd t 0).ks.take i)).vs.map Vr.name∨w∈(a1i t (nd t (nd t 0).ks[i])).map (fun y=>y.word 0):=by
 obtain ⟨m,m1,m2,m3,m4⟩:=hw;have hbl:=hs.le;have qS:m<t.length:=by omega
 rw [a7b];simp only [List.map_map,List.mem_map,List.mem_filter,beq_iff_eq,Function.comp_apply];rw [pk j h1 h2] at m3;rcases b3W h qS m2 with v | ⟨p,p1,p2,p3⟩
 ·left
  refine ⟨m,⟨before h.sorted hi v ?_,m2⟩,m4⟩;rcases Nat.lt_or_ge m (nd t 0).ks[i] with iC | rj
  ·exact iC
  ·have e1:=pk m rj (by omega)
   have e2:=a7d h (x:=m) (by
    obtain ⟨z,hz,e⟩:=List.mem_map.1 v;have:=(h.cK.mem z hz).1;rw [show (m:Int)=z by omega];exact hz)
   rw [e2] at e1;rw [e1] at m2;omega
 ·right
  have xZ:m∈(nd t p).ks:=List.mem_of_mem_take p3;obtain ⟨oC,js,c,c1,c2,c3,c4⟩:=h.item p1;have qK:(p:Int)∈(nd t 0).kids:=by
   obtain ⟨z,hz,e⟩:=List.mem_map.1 p1;have:=(h.cK.mem z hz).1;rw [show (p:Int)=z by omega];exact hz
  have mE:=(a5I 19 js c1).1;obtain ⟨b',b1,b2,b3⟩:=b44 h (x:=p) (i:=m) qK;have nV:p<m/\m<b':=by
   obtain ⟨z,hz,e⟩:=List.mem_map.1 xZ;have:=b1.down p (Nat.le_refl _) b1.lt z hz;omega
  have qO:=b3 m (by omega) nV.2;rw [qO] at m3;have uS:p=(nd t 0).ks[i]:=by
   rcases m3 with e | e
   ·omega
   ·exact e
  subst uS;unfold a1i;exact ⟨nd t m,List.mem_map_of_mem p3,m4⟩
theorem c0J {t:List Nd} (h:Y9 t) {j:Nat} {w:ByteArray} (hj:j<t.length) (hw:a3t t 1 j w):w∈bt t:=by
 obtain ⟨m,m1,m2,m3,m4⟩:=hw;have hm:=b4i h (by omega) (.inl m2);unfold bt W4;rw [a7b];simp only [List.map_map,List.mem_map,List.mem_filter,beq_iff_eq,Function.comp_apply];exact ⟨m,⟨hm,m2⟩,m4⟩
theorem Hp.freeze {s:k4} {W W' F R:Hs} (h:Hp s W R) (hp:W.Perm (W'++F)):Hp s W' (F++R):=by
 have h':=h.perm hp.symm;have hn:=h'.nd;rw [List.map_append,List.nodup_append] at hn;refine ⟨hn.1,fun w hw r hr=>?_,h'.w.left,h'.w.right.append h'.r⟩;rcases List.mem_append.1 hr with hr | hr
 ·exact hn.2.2 _ (List.mem_map_of_mem hw) _ (List.mem_map_of_mem hr)
 ·exact h'.ap w (List.mem_append_left _ hw) r hr
theorem a7q.ne_nil {cs rest:List D} (h:a7q cs):D.ag::rest≠cs:=by
 rcases h with ⟨l,rfl⟩ | ⟨l,rfl⟩ | ⟨l,rfl⟩ | ⟨l,rfl⟩<;>cases l<;>simp [a0x,a0h,a0T,a1G,Ed.row]
structure b0f (s:k4) (m:X6) (mo:Mo) (ps:List (Pr×X0)):Prop where
 tr:X8 m.dt mo.tree
 c:SN s 5 m.dc (a2y mo.af)
 v:SN s 3 m.dv (a1J mo.vars)
 p:SN s 8 m.dp (a27 ps)
 eq:ps.map Prod.fst=mo.procs
 aI:∀q∈ps,Y0 s q.1 q.2
 sf:SN s 1 m.ds (a0x mo.safe)
 g:m.g=(mo.globals:Int)
 b:m.b=mo.dead
structure MkI (s:k4) (d dc ds:D) (g:Int) (b:Bool) (z:List D) (R0:Hs) (vs:List Vr) (oL:List Pr) (dv dp:D) (Ev Ep R:Hs) (ps:List (Pr×X0)):Prop where
 v:Rp dv 3 (a1J vs) Ev
 p:Rp dp 8 (a27 ps) Ep
 eq:ps.map Prod.fst=oL
 aI:∀q∈ps,InR (fun s=>Y0 s q.1 q.2) R
 sub:∀x∈R0,x∈R
 h:Hp s ((0,z)::(2,[d,.int .i64 g,dc,dv,dp,ds,.bool b])::(Ev++Ep)) R
theorem b35 {t:List Nd} (h:Y9 t) (ht:a3m t) {k:Nat} (hk:k∈(nd t 0).ks) (h3:(nd t k).kind=3):1<=(nd t k).num 0/\(nd t k).num 0<=4:=by
 obtain ⟨k1,k2,_⟩:=h.item hk;have hf:=(ht.gF k k2).proc h3;have hz:(k:Int)∈(nd t 0).kids:=by
  obtain ⟨z,hz,e⟩:=List.mem_map.1 hk;have:=(h.cK.mem z hz).1;rw [show (k:Int)=z by omega];exact hz
 have hi:=a7d h hz;have hs:=b4m h (kind:=3) (i:=k) (by omega);have h2:=hf.2;rw [a0u] at h2;have e:a3Z t 3 k=min ((nd t k).num 0) 100:=by
  unfold a3Z a5i;rw [if_neg (by decide),hi,if_pos h3]
 split at h2
 ·rw [e] at h2;omega
 ·rename_i hc
  have:¬ a0u t 3 k<100:=fun iC=>hc ⟨iC,h3⟩
  omega
theorem c2z {vs:List Vr} {v:Nat} (h:v<vs.length):(a1J vs).flatten[v*3]?=some (.str vs[v].name):=by
 have:=a9x (b1i vs) (i:=v) (f:=0) (by simpa using h) (by decide);rw [Nat.add_zero] at this;rw [this];simp [a1J,Vr.row]
theorem Rp.arr {d:D} {sz:Nat} {rows:List (List D)} {E:Hs} (h:Rp d sz rows E) (hn:0<rows.length):∃id,d=.arr id 0 rows.length sz/\E=[(id,rows.flatten)]:=by
 rcases h with ⟨_,rfl,_⟩ | ⟨id,h1,h2,_⟩
 ·simp at hn
 ·exact ⟨id,h1,h2⟩
theorem c3H {vs:List Vr} {v:Nat} (h:v<vs.length):(vs.take (v+1)).map Vr.name=(vs.take v).map Vr.name++[vs[v].name]:=by
 rw [List.take_succ_eq_append_getElem h,List.map_append,List.map_singleton]
theorem b7f (n k:Nat):(List.range (k+1)).map (n+·)=(List.range k).map (n+·)++[n+k]:=by
 rw [List.range_succ,List.map_append,List.map_singleton]
theorem b50 (t:List Nd) (l m:List Nat):∃r,(a05 t (l++m)).vs=(a05 t l).vs++r:=by
 rw [a7b,a7b];simp only [List.filter_append,List.map_append];exact ⟨_,rfl⟩
theorem b8z (t:List Nd) (ch:List ByteArray) (i:Nat):(a2h t ch (W4 t).vs ((nd t 0).ks.take i)).vs.take (a2h t ch (W4 t).vs ((nd t 0).ks.take i)).seen=(a05 t ((nd t 0).ks.take i)).vs/\(a2h t ch (W4 t).vs ((nd t 0).ks.take i)).seen<=(a2h t ch (W4 t).vs ((nd t 0).ks.take i)).vs.length/\(a2h t ch (W4 t).vs ((nd t 0).ks.take i)).seen<=(W4 t).vs.length:=by
 obtain ⟨m,hm⟩:=b4z t ch (W4 t).vs ((nd t 0).ks.take i);obtain ⟨r,hr⟩:=b50 t ((nd t 0).ks.take i) ((nd t 0).ks.drop i);rw [List.take_append_drop] at hr;have hg:(W4 t).vs=(a05 t ((nd t 0).ks.take i)).vs++r:=hr;rw [b5t,hm,hg];refine ⟨?_,?_,?_⟩
 ·rw [List.append_assoc,List.take_left]
 ·simp only [List.length_append];omega
 ·simp only [List.length_append];omega
theorem b8o {t:List Nd} {ch:List ByteArray} {k seen c:Nat} {a:List Vr×List Pr} (h:seen<=a.1.length):(a06 t ch k seen c a).1.take seen=a.1.take seen/\a.1.length<=(a06 t ch k seen c a).1.length:=by
 obtain ⟨l,hl⟩:=b3f t ch k seen c a;rw [hl,List.take_append_of_le_length h];exact ⟨rfl,by simp⟩
theorem c03 {t:List Nd} {x:Nd} {k:Nat} (h:k<a0b t x):(a1i t x).take (k+1)=(a1i t x).take k++[nd t (x.aC k)]:=by
 have h0:k<(a1i t x).length:=by simpa using h
 rw [List.take_succ_eq_append_getElem h0];congr 2
 simp only [a1i,List.getElem_map,List.getElem_take];rw [a7c]
theorem Sub.uniq {t:List Nd} {i b b':Nat} (h:Sub t i b) (h':Sub t i b'):b=b':=by
 have key:∀ {b b':Nat},Sub t i b->Sub t i b'->¬ b<b':=by
  intro b b' h h' iC;obtain ⟨p,p1,p2,p3⟩:=h'.up b h.lt iC;have h3:=h'.down p p1 p2 _ p3;have:=h.down p p1 (by omega) _ p3;omega
 have:=key h h';have:=key h' h;omega
theorem a9n {t:List Nd} (h:Y9 t) {k:Nat} (hk:k∈(nd t 0).ks):(k:Int)∈(nd t 0).kids:=by
 obtain ⟨z,hz,e⟩:=List.mem_map.1 hk;have:=(h.cK.mem z hz).1;rw [show (k:Int)=z by omega];exact hz
theorem a7S {t:List Nd} (h:Y9 t) {k b:Nat} (hk:k∈(nd t 0).ks) (hs:Sub t k b):∀q,k<=q->q<b->item t q=k:=by
 obtain ⟨b',b1,_,b3⟩:=b44 h (x:=k) (i:=k) (a9n h hk);rw [hs.uniq b1];exact b3
theorem b5D {t:List Nd} (h:Y9 t) (hS:a5h t) {i K b:Nat} (hi:i<(nd t 0).ks.length) (hK:(nd t 0).ks[i]=K) (h3:(nd t K).kind=3) (hs:Sub t K b) {seen c:Nat} {vs:List Vr} (hv:vs.take seen=(a05 t ((nd t 0).ks.take i)).vs) (hl:seen<=vs.length) :
 ∀j,K<=j/\j<b->b1f t (W4 t).ch.length ((W4 t).ch.map Ch.name) (en (nd t K) c seen vs (a1i t (nd t K))).names (en (nd t K) c seen vs (a1i t (nd t K))).vars j:=by
 intro j ⟨j1,j2⟩;have hle:=hs.le;have hm:K∈(nd t 0).ks:=hK▸List.getElem_mem hi;have pk:=a7S h hm hs;subst hK;have pY:∀w,a3t t 2 j w->0<(en (nd t (nd t 0).ks[i]) c seen vs (a1i t (nd t (nd t 0).ks[i]))).names.length:=fun w hw=>by
  have:=c3t h hi h3 hs pk j1 j2 hw;rw [<- hv,<- List.mem_append] at this;exact List.length_pos_of_mem this
 refine ⟨?_,by simp,fun hk=>?_,fun hk=>?_⟩
 ·simp only [en,List.length_append,List.length_map,List.length_take,List.length_range];omega
 ·rcases hk with hk | hk
  ·exact pY _ (hS.use j (by omega) (.inl hk))
  ·exact pY _ (hS.recv j (by omega) hk)
 ·exact List.length_pos_of_mem (c0J h (by omega) (hS.chan j (by omega) (by omega)))
structure Ft where
 reads:Nat
 writes:Nat
 sends:Nat
 recvs:Nat
 eB:Nat
 part:Bool
structure gJ (p:Pr) (x:X0):Prop where
 l:FL 1 x.dl (a0x p.locals)
 r:FL 1 x.dr (a0h p.rest)
 e:FL 8 x.de (a0T p.ak)
 n:FL 1 x.dn (a1G p.names)
 v:FL 1 x.dv (a0x p.vars)
structure Z0 (m:X6) (mo:Mo) (ps:List (Pr×X0)):Prop where
 tr:X8 m.dt mo.tree
 c:FL 5 m.dc (a2y mo.af)
 v:FL 3 m.dv (a1J mo.vars)
 p:FL 8 m.dp (a27 ps)
 eq:ps.map Prod.fst=mo.procs
 aI:∀q∈ps,gJ q.1 q.2
 sf:FL 1 m.ds (a0x mo.safe)
 g:m.g=(mo.globals:Int)
 b:m.b=mo.dead
def a33 (f:D->Option D):List (List D)->Option (List (List D))
 | []=>some []
 | r::rs=>match X2 f r,a33 f rs with
   | some a,some b=>some (a::b)
   | _,_=>none
theorem b7N {f:D->Option D}:∀ {a b a' b':List D},X2 f a=some a'->X2 f b=some b'->X2 f (a++b)=some (a'++b')
 | [],b,a',b',h1,h2=>by simp only [X2,Option.some.injEq] at h1;subst h1;simpa using h2
 | d::r,b,a',b',h1,h2=>by
   simp only [X2] at h1;split at h1
   ·rename_i x l e1 e2
    simp only [Option.some.injEq] at h1;subst h1;rw [List.cons_append,X2,e1,b7N e2 h2];rfl
   ·cases h1
theorem b6S {f:D->Option D}:∀ {a a':List D},X2 f a=some a'->a'.length=a.length
 | [],a',h=>by simp only [X2,Option.some.injEq] at h;subst h;rfl
 | d::r,a',h=>by
   simp only [X2] at h;split at h
   ·rename_i x l e1 e2
    simp only [Option.some.injEq] at h;subst h;simp [b6S e2]
   ·cases h
theorem b4O {f:D->Option D}:∀ {rows iQ:List (List D)},a33 f rows=some iQ->X2 f rows.flatten=some iQ.flatten/\iQ.length=rows.length
 | [],iQ,h=>by simp only [a33,Option.some.injEq] at h;subst h;exact ⟨rfl,rfl⟩
 | r::rs,iQ,h=>by
   simp only [a33] at h;split at h
   ·rename_i a b e1 e2
    simp only [Option.some.injEq] at h;subst h;obtain ⟨h1,h2⟩:=b4O e2;exact ⟨by simp only [List.flatten_cons];exact b7N e1 h1,by simp [h2]⟩
   ·cases h
theorem b4R {f:D->Option D} {sz:Nat}:∀ {rows iQ:List (List D)},a33 f rows=some iQ->(∀r∈rows,r.length=sz)->∀r∈iQ,r.length=sz
 | [],iQ,h,_=>by simp only [a33,Option.some.injEq] at h;subst h;simp
 | r::rs,iQ,h,hr=>by
   simp only [a33] at h;split at h
   ·rename_i a b e1 e2
    simp only [Option.some.injEq] at h;subst h;intro y hy;rcases List.mem_cons.1 hy with rfl | hy
    ·rw [b6S e1];exact hr r (by simp)
    ·exact b4R e2 (fun x hx=>hr x (by simp [hx])) y hy
   ·cases h
theorem b7j {sz:Nat}:∀ {rows:List (List D)},(∀r∈rows,r.length=sz)->a48 sz rows.length rows.flatten=rows
 | [],_=>rfl
 | r::rs,h=>by
   have hr:=h r (by simp);rw [List.length_cons,a48,List.flatten_cons];rw [List.take_append_of_le_length (by omega),List.take_of_length_le (by omega),List.drop_append_of_le_length (by omega),List.drop_of_length_le (by omega),List.nil_append,b7j fun x hx=>h x (by simp [hx])]
theorem SN.du {s:k4} {sz:Nat} {d:D} {rows iQ:List (List D)} {n:Nat} (h:SN s sz d rows) (hr:∀r∈rows,r.length=sz) (hm:a33 (aL s.get n) rows=some iQ) (hl:d=.bg sz rows->iQ=rows):∃d',aL s.get (n+1) d=some d'/\FL sz d' iQ:=by
 rcases h with ⟨rfl,rfl⟩ | ⟨id,rfl,hg⟩ | rfl
 ·simp only [a33,Option.some.injEq] at hm
  exact ⟨.ag,rfl,.inl ⟨rfl,hm.symm⟩⟩
 ·have gV:=(SN.row (s:=s) (.inr (.inl ⟨id,rfl,hg⟩)) hr).1
  obtain ⟨h1,h2⟩:=b4O hm;refine ⟨.bg sz iQ,?_,.inr rfl⟩;simp only [aL,gV,h1,Option.map_some];rw [<- h2,b7j (b4R hm hr)]
 ·exact ⟨.bg sz rows,rfl,.inr (by rw [hl rfl])⟩
theorem b9f {g:a0k} {n:Nat}:∀ {rows:List (List D)},(∀r∈rows,r.all a1Y=true)->a33 (aL g (n+1)) rows=some rows
 | [],_=>rfl
 | r::rs,h=>by
   rw [a33,b1x (h r (by simp)),b9f fun x hx=>h x (by simp [hx])]
theorem SN.cW {s:k4} {sz:Nat} {d:D} {rows:List (List D)} {n:Nat} (h:SN s sz d rows) (hr:∀r∈rows,r.length=sz) (hs:∀r∈rows,r.all a1Y=true):∃d',aL s.get (n+2) d=some d'/\FL sz d' rows:=h.du hr (b9f hs) fun _=>rfl
theorem b0i (l:List Nat):∀r∈a0x l,r.all a1Y=true:=by intro r h;obtain ⟨b,_,rfl⟩:=List.mem_map.1 h;rfl
theorem b4j (l:List Bool):∀r∈a0h l,r.all a1Y=true:=by intro r h;obtain ⟨b,_,rfl⟩:=List.mem_map.1 h;rfl
theorem c37 (l:List ByteArray):∀r∈a1G l,r.all a1Y=true:=by intro r h;obtain ⟨b,_,rfl⟩:=List.mem_map.1 h;rfl
theorem c0s (l:List Ed):∀r∈a0T l,r.all a1Y=true:=by intro r h;obtain ⟨b,_,rfl⟩:=List.mem_map.1 h;rfl
theorem c2M (l:List Ch):∀r∈a2y l,r.all a1Y=true:=by intro r h;obtain ⟨b,_,rfl⟩:=List.mem_map.1 h;rfl
theorem c4r (l:List Vr):∀r∈a1J l,r.all a1Y=true:=by intro r h;obtain ⟨b,_,rfl⟩:=List.mem_map.1 h;rfl
theorem Y0.du {s:k4} {p:Pr} {x:X0} (h:Y0 s p x) (n:Nat):∃x',X2 (aL s.get (n+2)) (U6 p x)=some (U6 p x')/\gJ p x':=by
 obtain ⟨dl,a1,b1⟩:=h.l.cW (n:=n) (a5L _) (b0i _);obtain ⟨dr,a2,b2⟩:=h.r.cW (n:=n) (a49 _) (b4j _);obtain ⟨de,a3,b3⟩:=h.e.cW (n:=n) (a7M _) (c0s _);obtain ⟨dn,a4,b4⟩:=h.n.cW (n:=n) (a95 _) (c37 _);obtain ⟨dv,a5,b5⟩:=h.v.cW (n:=n) (a5L _) (b0i _);refine ⟨⟨dl,dr,de,dn,dv⟩,?_,b1,b2,b3,b4,b5⟩;simp only [U6,X2,aL,a1,a2,a3,a4,a5]
theorem b7G {s:k4} (n:Nat):∀ {ps:List (Pr×X0)},(∀q∈ps,Y0 s q.1 q.2)->∃oL,a33 (aL s.get (n+2)) (a27 ps)=some (a27 oL)/\oL.map Prod.fst=ps.map Prod.fst/\∀q∈oL,gJ q.1 q.2
 | [],_=>⟨[],rfl,rfl,by simp⟩
 | q::qs,h=>by
   obtain ⟨x',h1,h2⟩:=(h q (by simp)).du n;obtain ⟨oL,h3,h4,h5⟩:=b7G n (ps:=qs) fun y hy=>h y (by simp [hy])
   refine ⟨(q.1,x')::oL,?_,by simp [h4],?_⟩
   ·simp only [a27,List.map_cons] at h3 ⊢
    simp only [a33,h1,h3]
   ·intro y hy
    rcases List.mem_cons.1 hy with rfl | hy
    ·exact h2
    ·exact h5 y hy
theorem b0f.du {s:k4} {m:X6} {mo:Mo} {ps:List (Pr×X0)} (h:b0f s m mo ps) (hn:m.dp≠.bg 8 (a27 ps)) (b:Bool):∃m' oL,aL s.get 20 (.aR [.agg (Y5 m),.bool b])=some (.aR [.agg (Y5 m'),.bool b])/\Z0 m' mo oL:=by
 obtain ⟨dc,a1,b1⟩:=h.c.cW (n:=16) (b4o _) (c2M _);obtain ⟨dv,a2,b2⟩:=h.v.cW (n:=16) (b1i _) (c4r _);obtain ⟨ds,a3,b3⟩:=h.sf.cW (n:=16) (a5L _) (b0i _);obtain ⟨oL,h1,h2,h3⟩:=b7G 15 h.aI;obtain ⟨dp,a4,b4⟩:=h.p.du (n:=17) (b8c _) h1 (fun e=>(hn e).elim);have a5:aL s.get 18 m.dt=some m.dt:=h.tr.fl.aL;refine ⟨⟨m.dt,dc,dv,dp,ds,m.g,m.b⟩,oL,?_,⟨h.tr,b1,b2,b4,h2.trans h.eq,h3,b3,h.g,h.b⟩⟩;have e1:aL s.get 18 (.int .i64 m.g)=some (.int .i64 m.g):=rfl;have e2:aL s.get 18 (.bool m.b)=some (.bool m.b):=rfl;have e3:X2 (aL s.get 18) (Y5 m)=some (Y5 ⟨m.dt,dc,dv,dp,ds,m.g,m.b⟩):=by
  simp only [Y5,X2,a5,e1,a1,a2,a4,a3,e2]
 have e4:aL s.get 19 (.agg (Y5 m))=some (.agg (Y5 ⟨m.dt,dc,dv,dp,ds,m.g,m.b⟩)):=by
  simp only [aL,e3,Option.map_some]
 have e5:aL s.get 19 (.bool b)=some (.bool b):=rfl;show (X2 (aL s.get 19) [.agg (Y5 m),.bool b]).map D.aR=_
 simp only [X2,e4,e5,Option.map_some]
theorem Z0.az {m:X6} {mo:Mo} {ps:List (Pr×X0)} (h:Z0 m mo ps):V1 m.dt=true/\V1 m.dc=true/\V1 m.dv=true/\V1 m.dp=true/\V1 m.ds=true:=⟨FL.one h.tr.fl,h.c.one,h.v.one,h.p.one,h.sf.one⟩
theorem gJ.az {p:Pr} {x:X0} (h:gJ p x):V1 x.dl=true/\V1 x.dr=true/\V1 x.de=true/\V1 x.dn=true/\V1 x.dv=true:=⟨h.l.one,h.r.one,h.e.one,h.n.one,h.v.one⟩
theorem Z0.plen {m:X6} {mo:Mo} {ps:List (Pr×X0)} (h:Z0 m mo ps):ps.length=mo.procs.length:=by rw [<- h.eq,List.length_map]
theorem Z0.proc {m:X6} {mo:Mo} {ps:List (Pr×X0)} (h:Z0 m mo ps) {i:Nat} (hi:i<mo.procs.length):∃x,gJ mo.procs[i] x/\∀k:IntKind,W1 8 m.dp (.int k (i:Int))=some (.fp (U6 mo.procs[i] x) 0):=by
 have iD:i<ps.length:=by rw [h.plen];exact hi
 have e:mo.procs[i]=ps[i].1:=by simp [<- h.eq]
 rw [e];refine ⟨ps[i].2,h.aI _ (List.getElem_mem iD),fun k=>?_⟩;rw [h.p.idx (by simpa using iD)];simp [a27]
theorem Z0.eo {m:X6} {mo:Mo} {ps:List (Pr×X0)} (h:Z0 m mo ps):a0C false m.dp=some (.int .i64 (mo.procs.length:Int)):=by rw [h.p.len,c3z,h.plen]
theorem Z0.lenC {m:X6} {mo:Mo} {ps:List (Pr×X0)} (h:Z0 m mo ps):a0C false m.dc=some (.int .i64 (mo.af.length:Int)):=by rw [h.c.len,a9L]
theorem Z0.lenS {m:X6} {mo:Mo} {ps:List (Pr×X0)} (h:Z0 m mo ps):a0C false m.ds=some (.int .i64 (mo.safe.length:Int)):=by rw [h.sf.len,b59]
theorem FLN.idx {d:D} {l:List Nat} (h:FL 1 d (a0x l)) {i:Nat} (hi:i<l.length) {k:IntKind}:W1 1 d (.int k (i:Int))=some (.fp [.int .i64 (l[i]:Int)] 0):=by
 rw [h.idx (by simpa using hi)];simp [a0x]
theorem FLS.idx {d:D} {l:List ByteArray} (h:FL 1 d (a1G l)) {i:Nat} (hi:i<l.length) {k:IntKind}:W1 1 d (.int k (i:Int))=some (.fp [.str l[i]] 0):=by
 rw [h.idx (by simpa using hi)];simp [a1G]
theorem FLB.idx {d:D} {l:List Bool} (h:FL 1 d (a0h l)) {i:Nat} (hi:i<l.length) {k:IntKind}:W1 1 d (.int k (i:Int))=some (.fp [.bool l[i]] 0):=by
 rw [h.idx (by simpa using hi)];simp [a0h]
theorem FLE.idx {d:D} {l:List Ed} (h:FL 8 d (a0T l)) {i:Nat} (hi:i<l.length) {k:IntKind}:W1 8 d (.int k (i:Int))=some (.fp l[i].row 0):=by
 rw [h.idx (by simpa using hi)];simp [a0T]
theorem FLC.idx {d:D} {l:List Ch} (h:FL 5 d (a2y l)) {i:Nat} (hi:i<l.length) {k:IntKind}:W1 5 d (.int k (i:Int))=some (.fp l[i].row 0):=by
 rw [h.idx (by simpa using hi)];simp [a2y]
theorem FLV.idx {d:D} {l:List Vr} (h:FL 3 d (a1J l)) {i:Nat} (hi:i<l.length) {k:IntKind}:W1 3 d (.int k (i:Int))=some (.fp l[i].row 0):=by
 rw [h.idx (by simpa using hi)];simp [a1J]
theorem gJ.lenE {p:Pr} {x:X0} (h:gJ p x):a0C false x.de=some (.int .i64 (p.ak.length:Int)):=by rw [h.e.len,a6s]
theorem gJ.lenN {p:Pr} {x:X0} (h:gJ p x):a0C false x.dn=some (.int .i64 (p.names.length:Int)):=by rw [h.n.len,b6a]
def a1L (t:List Nd) (kind:Int):Nat->Int
 | 0=>0
 | i+1=>a1L t kind i+if (nd t i).kind=kind then a3Z t kind i else 0
theorem b4G {t:List Nd} {kind:Int}:∀ {n:Nat},a0u t kind n<100->a0u t kind n=a1L t kind n
 | 0,_=>rfl
 | n+1,h=>by
   rw [a1L];rw [a0u] at h ⊢;by_cases c:(nd t n).kind=kind
   ·by_cases d:a0u t kind n<100
    ·rw [if_pos ⟨d,c⟩,if_pos c,b4G d]
    ·rw [if_neg (by omega)] at h
     omega
   ·rw [if_neg (by omega)] at h ⊢
    rw [if_neg c,b4G h];omega
theorem b6v {t:List Nd} {kind B:Int} (hB:0<=B) (h:∀i,i<t.length->(nd t i).kind=kind->a0u t kind (i+1)<=B):∀ {n:Nat},n<=t.length->a0u t kind n<=B
 | 0,_=>by simpa [a0u] using hB
 | n+1,hn=>by
   by_cases c:(nd t n).kind=kind
   ·exact h n (by omega) c
   ·rw [a0u,if_neg (by omega)]
    exact b6v hB h (by omega)
theorem b1Z {t:List Nd} {kind B:Int} (hB:0<=B) (hB2:B<100) (h:∀i,i<t.length->(nd t i).kind=kind->a0u t kind (i+1)<=B):a1L t kind t.length<=B:=by
 have:=b6v hB h (Nat.le_refl t.length);rw [b4G (by omega)] at this;exact this
def a8J (t:List Nd) (kind:Int) (w:Nat->Nat) (ks:List Int):Int:=(ks.map fun k=>((w k.toNat:Nat):Int)).sum
theorem b0x {t:List Nd} {kind:Int} {w:Nat->Nat}:∀ {ks:List Int} {a n:Nat},a1R t ks a n->(∀ (k b:Nat),(k:Int)∈ks->Sub t k b->a1L t kind b=a1L t kind k+((w k:Nat):Int))->a1L t kind n=a1L t kind a+a8J t kind w ks
 | [],a,n,h,_=>by simp only [a1R] at h;subst h;simp [a8J]
 | k::ks,a,n,h,hw=>by
   obtain ⟨rfl,b,h1,h2⟩:=h;rw [b0x h2 fun k b hk hs=>hw k b (by simp [hk]) hs,hw a b (by simp) h1];simp only [a8J,List.map_cons,List.sum_cons,Int.toNat_natCast];omega
theorem b04 {t:List Nd} {kind:Int} {a:Nat}:∀ {b:Nat},a<=b->(∀j,a<=j->j<b->(nd t j).kind≠kind)->a1L t kind b=a1L t kind a
 | 0,h,_=>by
   obtain rfl:a=0:=by omega
   rfl
 | b+1,h,hn=>by
   by_cases e:a=b+1
   ·subst e;rfl
   ·rw [a1L,if_neg (hn b (by omega) (by omega)),b04 (b:=b) (by omega) fun j h1 h2=>hn j h1 (by omega)]
    omega
theorem b8x {t:List Nd} (h:Y9 t) {g:Nat}:∀ {ks:List Int} {a n:Nat},KF t g ks a n->n<=t.length->∀l,l<((ks.map Int.toNat).takeWhile fun k=>(nd t k).kind==2).length->∃hl:l<ks.length,ks[l].toNat=a+l
 | [],a,n,_,_,l,hl=>by simp at hl
 | z::zs,a,n,hk,hn,l,hl=>by
   obtain ⟨rfl,h1,b,h2,h3,h4,h5⟩:=hk.cons;rw [List.map_cons,List.takeWhile_cons] at hl;split at hl
   ·rename_i h2k
    have lK:(nd t a).kind=2:=by simpa using h2k
    cases l with
    | zero=>exact ⟨by simp,by simp⟩
    | succ l =>
      obtain ⟨g',rfl,ju⟩:=a5G h2;rw [(h.ok.node a h1).none (by omega)] at ju;obtain rfl:=ju.nil;obtain ⟨i1,i2⟩:=b8x h h5 hn l (by simpa using hl);exact ⟨by simpa using i1,by simp only [List.getElem_cons_succ];omega⟩
   ·simp at hl
theorem b4T {t:List Nd} (h:Y9 t) {k:Nat} (hk:k∈(nd t 0).ks) {l:Nat} (hl:l<a0b t (nd t k)):(nd t k).aC l=k+1+l:=by
 obtain ⟨k1,k2,b,b1,b2,b3,b4⟩:=h.item hk;obtain ⟨i1,i2⟩:=b8x h b4 b3 l hl;rw [a61 i1,i2]
theorem c3q {t:List Nd} (h:Y9 t) (hT:a3m t) {k b:Nat} (hk:k∈(nd t 0).ks) (h3:(nd t k).kind=3) (hs:Sub t k b):a1L t 2 b=a1L t 2 k+((((nd t k).num 0).toNat*a0b t (nd t k):Nat):Int):=by
 have hc:=b35 h hT hk h3;have pk:=a7S h hk hs;have iZ:k<t.length:=by have:=hs.lt;have:=hs.le;omega
 have hp:=b0J ((h.ok.node k iZ).proc h3);have jm:∀j,k<=j->j<b->a3Z t 2 j=(nd t k).num 0:=fun j h1 h2=>by
  unfold a3Z a5i;rw [if_neg (by decide),pk j h1 h2,if_pos h3];omega
 have Bi:∀l,l<a0b t (nd t k)->k+1+l<b/\(nd t (k+1+l)).kind=2:=fun l hl=>by
  have kO:=b1u t (nd t k);have jd:l<(nd t k).ks.length:=by omega
  have e:=b1b hl jd;have e2:=b4T h hk hl;rw [a7c jd,e2] at e;have hm:k+1+l∈(nd t k).ks:=by rw [<- e2];exact a1U (by rw [<- a20];exact jd)
  obtain ⟨z,hz,ez⟩:=List.mem_map.1 hm;have:=hs.down k (Nat.le_refl _) hs.lt z hz;exact ⟨by omega,e⟩
 have pre:∀l,l<=a0b t (nd t k)->a1L t 2 (k+1+l)=a1L t 2 k+(nd t k).num 0*(l:Int):=by
  intro l;induction l with
  | zero =>
    intro _;show a1L t 2 (k+1)=_
    rw [a1L,if_neg (by omega)];simp
  | succ l ih =>
    intro hl;have hb:=Bi l (by omega);show a1L t 2 (k+1+l+1)=_
    rw [a1L,if_pos hb.2,jm (k+1+l) (by omega) hb.1,ih (by omega),Int.natCast_succ,Int.mul_add];omega
 have hle:k+1+a0b t (nd t k)<=b:=by
  have:=hs.lt;rcases Nat.eq_zero_or_pos (a0b t (nd t k)) with e | e
  ·omega
  ·have:=Bi (a0b t (nd t k)-1) (by omega)
   omega
 rw [b04 hle fun j j1 j2 e=>?_,pre _ (Nat.le_refl _)]
 ·rw [Int.natCast_mul,Int.toNat_of_nonneg (by omega)]
 ·have Aj:j<t.length:=by have:=hs.le;omega
  have hij:=pk j (by omega) j2;rcases b3W h Aj e with v | ⟨p,p1,p2,p3⟩
  ·have:=a7d h (a9n h v)
   omega
  ·obtain ⟨q1,q2,c,c1,c2,c3,c4⟩:=h.item p1
   have xZ:j∈(nd t p).ks:=List.mem_of_mem_take p3;have mE:=(a5I 19 q2 c1).1;obtain ⟨z,hz,ez⟩:=List.mem_map.1 xZ;have hd:=mE.down p (Nat.le_refl _) mE.lt z hz;have:=a7S h p1 mE j (by omega) (by omega);obtain rfl:p=k:=by omega
   obtain ⟨l,hl,e2⟩:=List.getElem_of_mem p3;have jd:l<a0b t (nd t p):=by simp at hl;omega
   rw [List.getElem_take,a7c (by simp at hl;omega),b4T h p1 jd] at e2;omega
def a79 (t:List Nd) (k:Nat):Nat:=if (nd t k).kind=2 then 1 else if (nd t k).kind=3 then ((nd t k).num 0).toNat*a0b t (nd t k) else 0
theorem c1H {t:List Nd} (h:Y9 t) (hT:a3m t) {k b:Nat} (hk:k∈(nd t 0).ks) (hs:Sub t k b):a1L t 2 b=a1L t 2 k+((a79 t k:Nat):Int):=by
 unfold a79;have iZ:k<t.length:=by have:=hs.lt;have:=hs.le;omega
 by_cases c2:(nd t k).kind=2
 ·rw [if_pos c2]
  have hb:b=k+1:=by
   have:=hs.lt;by_cases e:b=k+1
   ·exact e
   ·obtain ⟨p,p1,p2,p3⟩:=hs.up (k+1) (by omega) (by omega)
    have:=hs.down p p1 p2 _ p3;obtain rfl:p=k:=by omega
    rw [(h.ok.node p iZ).none (by omega)] at p3;simp at p3
  subst hb;rw [a1L,if_pos c2];unfold a3Z a5i;rw [a7d h (a9n h hk),if_neg (by decide),if_neg (by omega)];rfl
 rw [if_neg c2];by_cases c3:(nd t k).kind=3
 ·rw [if_pos c3]
  exact c3q h hT hk c3 hs
 rw [if_neg c3];rw [b04 (a:=k) (by have:=hs.lt;omega)]
 ·simp
 intro j j1 j2 e;have Aj:j<t.length:=by have:=hs.le;omega
 have hij:=a7S h hk hs j j1 j2;rcases b3W h Aj e with v | ⟨p,p1,p2,p3⟩
 ·have:=a7d h (a9n h v)
  obtain rfl:j=k:=by omega
  exact c2 e
 ·obtain ⟨q1,q2,c,e1,e2,e3,e4⟩:=h.item p1
  have xZ:j∈(nd t p).ks:=List.mem_of_mem_take p3;have mE:=(a5I 19 q2 e1).1;obtain ⟨z,hz,ez⟩:=List.mem_map.1 xZ;have hd:=mE.down p (Nat.le_refl _) mE.lt z hz;have:=a7S h p1 mE j (by omega) (by omega);obtain rfl:p=k:=by omega
  exact c3 p2
structure gK where
 k:Nat
 seen:Nat
 c:Nat
 nv:Nat
def dZ (t:List Nd) (o:gK):Pr :=
 ⟨(nd t o.k).word 0,o.c,(List.range (a0b t (nd t o.k))).map (o.nv+·),2,[false,true],[],((W4 t).vs.take o.seen).map Vr.name++(a1i t (nd t o.k)).map (fun y=>y.word 0),List.range o.seen++(List.range (a0b t (nd t o.k))).map (o.nv+·)⟩
def a6t (t:List Nd) (o:gK):Pr:=a5y (W7 t (bt t) (t.length+1)) o.k (dZ t o) ((nd t o.k).ks.drop (a0b t (nd t o.k))) 0 1
def a9s (t:List Nd) (k seen nv n:Nat):List gK:=(List.range n).map fun c=>⟨k,seen,c,nv+c*a0b t (nd t k)⟩
structure Gc where
 seen:Nat
 nv:Nat
 l:List gK
def a6z (t:List Nd) (a:Gc) (k:Nat):Gc :=
 if (nd t k).kind=3 then ⟨a.seen,a.nv+((nd t k).num 0).toNat*a0b t (nd t k),a.l++a9s t k a.seen a.nv ((nd t k).num 0).toNat⟩
 else if (nd t k).kind=2 then ⟨a.seen+1,a.nv,a.l⟩ else a
def a2W (t:List Nd) (l:List Nat):Gc:=l.foldl (a6z t) ⟨0,(W4 t).vs.length,[]⟩
def a6L (t:List Nd):List gK:=(a2W t (nd t 0).ks).l
theorem c0j {t:List Nd} {k seen c nv:Nat} {vs:List Vr} (h1:vs.length=nv) (h2:vs.take seen=(W4 t).vs.take seen):a69 t (bt t) k seen c vs=a6t t ⟨k,seen,c,nv⟩:=by
 unfold a69 a6t en dZ;rw [h2,h1,a5S]
theorem b6k {t:List Nd} {k seen nv:Nat} {a:List Vr×List Pr} (h1:a.1.length=nv) (h2:a.1.take seen=(W4 t).vs.take seen) (h3:seen<=a.1.length):∀c,(a06 t (bt t) k seen c a).1.length=nv+c*a0b t (nd t k)/\(a06 t (bt t) k seen c a).2=a.2++(a9s t k seen nv c).map (a6t t)
 | 0=>by simp [a06,h1,a9s]
 | c+1=>by
   obtain ⟨i1,i2⟩:=b6k (k:=k) h1 h2 h3 c;have h4:=(b8o (t:=t) (ch:=bt t) (k:=k) (c:=c) h3).1;refine ⟨?_,?_⟩
   ·simp only [a06,List.length_append,List.length_map,a5S,i1]
    rw [Nat.succ_mul];omega
   ·simp only [a06,i2]
    rw [c0j i1 (h4.trans h2)];simp [a9s,List.range_succ]
theorem b7v (t:List Nd) (l:List Nat) (k:Nat):a2W t (l++[k])=a6z t (a2W t l) k:=by simp [a2W]
structure GcR (t:List Nd) (b:Gb) (a:Gc):Prop where
 seen:b.seen=a.seen
 nv:b.vs.length=a.nv
 pre:∃m,b.vs=(W4 t).vs++m
 ps:b.ps=a.l.map (a6t t)
theorem b20 (t:List Nd):∀ (n:Nat),n<=(nd t 0).ks.length->GcR t (a2h t (bt t) (W4 t).vs ((nd t 0).ks.take n)) (a2W t ((nd t 0).ks.take n))
 | 0,_=>⟨rfl,rfl,⟨[],by simp [a2h]⟩,rfl⟩
 | n+1,hn=>by
   have ih:=b20 t n (by omega);have Cj:=b8z t (bt t) n;have e:(nd t 0).ks.take (n+1)=(nd t 0).ks.take n++[(nd t 0).ks[n]]:=List.take_succ_eq_append_getElem (by omega);obtain ⟨m2,sr⟩:=b4z t (bt t) (W4 t).vs ((nd t 0).ks.take (n+1));rw [e] at sr ⊢;rw [b6E] at sr ⊢;have e3:a2W t ((nd t 0).ks.take n++[(nd t 0).ks[n]])=a6z t (a2W t ((nd t 0).ks.take n)) (nd t 0).ks[n]:=b7v t _ _;rw [e3];generalize (nd t 0).ks[n]=k at *;generalize a2h t (bt t) (W4 t).vs ((nd t 0).ks.take n)=b at *;generalize a2W t ((nd t 0).ks.take n)=a at *;obtain ⟨m,hm⟩:=ih.pre;unfold a3J a6z at *;by_cases c3:(nd t k).kind=3
   ·rw [if_pos c3] at sr
    rw [if_pos c3,if_pos c3];have hs:b.vs.take b.seen=(W4 t).vs.take b.seen:=by rw [hm,List.take_append_of_le_length Cj.2.2]
    obtain ⟨i1,i2⟩:=b6k (t:=t) (k:=k) (seen:=b.seen) (nv:=a.nv) (a:=(b.vs,b.ps)) ih.nv hs Cj.2.1 ((nd t k).num 0).toNat;refine ⟨ih.seen,i1,⟨m2,sr⟩,?_⟩;show (a06 t (bt t) k b.seen ((nd t k).num 0).toNat (b.vs,b.ps)).2=_
    rw [i2,List.map_append,<- ih.ps,ih.seen]
   ·rw [if_neg c3,if_neg c3]
    by_cases c2:(nd t k).kind=2
    ·rw [if_pos c2,if_pos c2]
     exact ⟨by simp [ih.seen],ih.nv,ih.pre,ih.ps⟩
    ·rw [if_neg c2,if_neg c2]
     exact ih
theorem b1z (t:List Nd):(eL t).ps=(a6L t).map (a6t t)/\(eL t).vs.length=(a2W t (nd t 0).ks).nv:=by
 have h:=b20 t (nd t 0).ks.length (Nat.le_refl _);rw [List.take_length] at h;exact ⟨h.ps,h.nv⟩
structure b1P (t:List Nd) (nv:Nat) (o:gK):Prop where
 aI:∃i,∃hi:i<(nd t 0).ks.length,(nd t 0).ks[i]=o.k/\o.seen=(a05 t ((nd t 0).ks.take i)).vs.length
 kind:(nd t o.k).kind=3
 c:(o.c:Int)<(nd t o.k).num 0
 lo:(W4 t).vs.length<=o.nv
 hi:o.nv+a0b t (nd t o.k)<=nv
theorem b6Z (t:List Nd):∀n,n<=(nd t 0).ks.length->(W4 t).vs.length<=(a2W t ((nd t 0).ks.take n)).nv/\(a2W t ((nd t 0).ks.take n)).seen=(a05 t ((nd t 0).ks.take n)).vs.length/\∀o∈(a2W t ((nd t 0).ks.take n)).l,b1P t (a2W t ((nd t 0).ks.take n)).nv o
 | 0,_=>by simp [a2W,a05]
 | n+1,hn=>by
   obtain ⟨i1,i2,i3⟩:=b6Z t n (by omega);have hs:=b20 t (n+1) hn;have mD:=hs.seen;rw [b5t] at mD;refine ⟨?_,mD.symm,?_⟩
   ·obtain ⟨m,hm⟩:=hs.pre
    have:=hs.nv;rw [hm,List.length_append] at this;omega
   ·rw [List.take_succ_eq_append_getElem (by omega),b7v]
    intro o ho;unfold a6z at ho ⊢;by_cases c3:(nd t (nd t 0).ks[n]).kind=3
    ·rw [if_pos c3] at ho ⊢
     rcases List.mem_append.1 ho with ho | ho
     ·have:=i3 o ho
      exact ⟨this.aI,this.kind,this.c,this.lo,by have:=this.hi;simp only;omega⟩
     ·obtain ⟨c,hc,rfl⟩:=List.mem_map.1 ho
      rw [List.mem_range] at hc;refine ⟨⟨n,by omega,rfl,i2⟩,c3,by simp only;omega,by simp only;omega,?_⟩;simp only;have:(c+1)*a0b t (nd t (nd t 0).ks[n])<=((nd t (nd t 0).ks[n]).num 0).toNat*a0b t (nd t (nd t 0).ks[n]):=Nat.mul_le_mul_right _ (by omega);rw [Nat.succ_mul] at this;omega
    ·rw [if_neg c3] at ho ⊢
     have key:∀ (g:Gc),g.nv=(a2W t ((nd t 0).ks.take n)).nv->g.l=(a2W t ((nd t 0).ks.take n)).l->o∈g.l->b1P t g.nv o:=fun g e1 e2 h=>by
      rw [e1];rw [e2] at h;exact i3 o h
     split at ho
     ·rename_i h2;rw [if_pos h2];exact key _ rfl rfl ho
     ·rename_i h2;rw [if_neg h2];exact key _ rfl rfl ho
theorem b0n {t:List Nd} {o:gK} (ho:o∈a6L t):b1P t (eL t).vs.length o:=by
 have:=(b6Z t (nd t 0).ks.length (Nat.le_refl _)).2.2;rw [List.take_length] at this;rw [(b1z t).2];exact this o ho
def a9w (t:List Nd) (k:Nat):Nat:=if (nd t k).kind=3 then ((nd t k).num 0).toNat else 0
theorem b8t (t:List Nd) (l:List Nat):(a2W t l).nv=(W4 t).vs.length+(l.map fun k=>if (nd t k).kind=3 then ((nd t k).num 0).toNat*a0b t (nd t k) else 0).sum/\(a2W t l).l.length=(l.map (a9w t)).sum:=by
 have key:∀ (l:List Nat) (a:Gc),(l.foldl (a6z t) a).nv=a.nv+(l.map fun k=>if (nd t k).kind=3 then ((nd t k).num 0).toNat*a0b t (nd t k) else 0).sum/\(l.foldl (a6z t) a).l.length=a.l.length+(l.map (a9w t)).sum:=by
  intro l;induction l with
  | nil=>intro a;simp
  | cons k l ih =>
    intro a;rw [List.foldl_cons,(ih _).1,(ih _).2];unfold a6z;simp only [List.map_cons,List.sum_cons,a9w];by_cases c3:(nd t k).kind=3
    ·simp only [c3,if_true,List.length_append,a9s,List.length_map,List.length_range]
     omega
    ·rw [if_neg c3,if_neg c3,if_neg c3]
     split<;>simp
 have:=key l ⟨0,(W4 t).vs.length,[]⟩;simpa [a2W] using this
theorem b3v (t:List Nd) (kind:Int) (w:Nat->Nat) (ks:List Int):a8J t kind w ks=((((ks.map Int.toNat).map w).sum:Nat):Int):=by
 unfold a8J;induction ks with
 | nil=>rfl
 | cons k ks ih =>
   simp only [List.map_cons,List.sum_cons,ih];omega
theorem b1J {t:List Nd} (h:Y9 t) {kind:Int} (hk:kind≠0):a1L t kind 1=0:=by
 show a1L t kind 0+_=0
 rw [if_neg (by rw [h.ok.root];omega)];rfl
theorem b65 {t:List Nd} (h:Y9 t) {kind:Int} (tx:kind=1∨kind=3) {k b:Nat} (hk:k∈(nd t 0).ks) (hs:Sub t k b):a1L t kind b=a1L t kind k+if (nd t k).kind=kind then a3Z t kind k else 0:=by
 have hl:=hs.lt;have hle:=hs.le;rw [b04 (a:=k+1) (by omega)]
 ·rfl
 intro j j1 j2 e;have hj:=b4i h (j:=j) (by omega) (by omega);have h1:=a7d h (a9n h hj);have h2:=a7S h hk hs j (by omega) j2;omega
theorem greatV {t:List Nd} (h:Y9 t) (hT:a3m t):(eL t).vs.length<=8:=by
 have h1:=b1Z (t:=t) (kind:=2) (B:=8) (by decide) (by decide) fun i hi hk=>((hT.gF i hi).var hk).2.2.2
 rw [b0x (w:=a79 t) h.cK fun k b hk hs=>c1H h hT (a88 hk) hs,b1J h (by decide),b3v] at h1;rw [(b1z t).2,(b8t t _).1];have e:(W4 t).vs.length=((nd t 0).ks.map fun k=>if (nd t k).kind=2 then 1 else 0).sum:=by
  unfold W4;rw [a7b];simp only [List.length_map];generalize (nd t 0).ks=l;induction l with
  | nil=>rfl
  | cons k l ih =>
    by_cases c:(nd t k).kind=2
    ·rw [List.filter_cons_of_pos (by simpa using c)];simp only [List.length_cons,ih,List.map_cons,List.sum_cons,c,if_true];omega
    ·rw [List.filter_cons_of_neg (by simpa using c)];simp only [ih,List.map_cons,List.sum_cons,c,if_false];omega
 have e2:((nd t 0).ks.map (a79 t)).sum=((nd t 0).ks.map fun k=>if (nd t k).kind=2 then 1 else 0).sum+((nd t 0).ks.map fun k=>if (nd t k).kind=3 then ((nd t k).num 0).toNat*a0b t (nd t k) else 0).sum:=by
  generalize (nd t 0).ks=l;induction l with
  | nil=>rfl
  | cons k l ih =>
    simp only [List.map_cons,List.sum_cons,ih,a79];by_cases c:(nd t k).kind=2
    ·have c3:(nd t k).kind≠3:=by omega
     simp only [c,if_true];rw [if_neg (by decide)];omega
    ·simp only [c,if_false];omega
 have h1:((((nd t 0).ks.map (a79 t)).sum:Nat):Int)<=8:=by
  have e0:(nd t 0).ks=(nd t 0).kids.map Int.toNat:=rfl;rw [e0];omega
 rw [e];omega
theorem greatP {t:List Nd} (h:Y9 t) (hT:a3m t):(eL t).ps.length<=4:=by
 have h1:=b1Z (t:=t) (kind:=3) (B:=4) (by decide) (by decide) fun i hi hk=>((hT.gF i hi).proc hk).2
 rw [b0x (w:=a9w t) h.cK (fun k b hk hs=>by
  rw [b65 h (.inr rfl) (a88 hk) hs];unfold a9w;by_cases c:(nd t k).kind=3
  ·have hc:=b35 h hT (a88 hk) c
   rw [if_pos c,if_pos c];unfold a3Z a5i;rw [a7d h hk,if_neg (by decide),if_pos c];omega
  ·rw [if_neg c,if_neg c];rfl),b1J h (by decide),b3v] at h1
 rw [(b1z t).1,List.length_map];unfold a6L;rw [(b8t t _).2];have e0:(nd t 0).ks=(nd t 0).kids.map Int.toNat:=rfl;rw [e0];omega
theorem greatC {t:List Nd} (h:Y9 t) (hT:a3m t):(W4 t).ch.length<=3:=by
 have h1:=b1Z (t:=t) (kind:=1) (B:=3) (by decide) (by decide) fun i hi hk=>((hT.gF i hi).chan hk).2.2.2.2
 rw [b0x (w:=fun k=>if (nd t k).kind=1 then 1 else 0) h.cK (fun k b hk hs=>by
  rw [b65 h (.inl rfl) (a88 hk) hs];by_cases c:(nd t k).kind=1
  ·rw [if_pos c,if_pos c];rfl
  ·rw [if_neg c,if_neg c];rfl),b1J h (by decide),b3v] at h1
 have e0:(nd t 0).ks=(nd t 0).kids.map Int.toNat:=rfl;rw [<- e0] at h1;unfold W4;rw [a7b];simp only [List.length_map];have e:((nd t 0).ks.filter fun k=>(nd t k).kind==1).length=((nd t 0).ks.map fun k=>if (nd t k).kind=1 then 1 else 0).sum:=by
  generalize (nd t 0).ks=l;induction l with
  | nil=>rfl
  | cons k l ih =>
    by_cases c:(nd t k).kind=1
    ·rw [List.filter_cons_of_pos (by simpa using c)];simp only [List.length_cons,ih,List.map_cons,List.sum_cons,c,if_true];omega
    ·rw [List.filter_cons_of_neg (by simpa using c)];simp only [ih,List.map_cons,List.sum_cons,c,if_false];omega
 rw [e];omega
structure PrOk (mo:Mo) (p:Pr):Prop where
 inv:a1C mo.tree mo.af.length p
 same:p.names.length=p.vars.length
 var:∀v∈p.vars,v<mo.vars.length
 loc:∀v∈p.locals,v∈p.vars/\mo.globals<=v
 pl:p.ah<=4000
 el:p.ak.length<=4000
 nl:p.names.length<=mo.vars.length
structure Z8 (mo:Mo):Prop where
 tree:a11 mo.tree
 nv:mo.vars.length<=8
 np:mo.procs.length<=4
 nc:mo.af.length<=3
 gl:mo.globals<=mo.vars.length
 pr:∀p∈mo.procs,PrOk mo p
 sf:∀k∈mo.safe,k<mo.tree.length/\a2Y (nd mo.tree k).kind
 sl:mo.safe.length<=800
theorem b6V (t:List Nd):∃m,(eL t).vs=(W4 t).vs++m:=b4z t (bt t) (W4 t).vs (nd t 0).ks
theorem b9n {t:List Nd} {o:gK} (ho:o∈a6L t):∃vs:List Vr,vs.length=o.nv/\vs.take o.seen=(W4 t).vs.take o.seen/\o.seen<=(W4 t).vs.length/\dZ t o=en (nd t o.k) o.c o.seen vs (a1i t (nd t o.k)):=by
 have h:=b0n ho;obtain ⟨m,hm⟩:=b6V t;have uq:=h.lo;have hhi:=h.hi;have nW:o.seen<=(W4 t).vs.length:=by
  obtain ⟨i,hi,_,e⟩:=h.aI;have:=c2q t ((nd t 0).ks.take i) ((nd t 0).ks.drop i);rw [List.take_append_drop,<- e] at this;exact this
 have e1:((eL t).vs.take o.nv).length=o.nv:=by rw [List.length_take];omega
 have e2:((eL t).vs.take o.nv).take o.seen=(W4 t).vs.take o.seen:=by
  rw [List.take_take,Nat.min_eq_left (by omega),hm,List.take_append_of_le_length nW]
 refine ⟨_,e1,e2,nW,?_⟩;unfold en dZ;rw [e2,e1,a5S]
theorem b4P {t:List Nd} (h:Y9 t) (hS:a5h t) {o:gK} (ho:o∈a6L t):∃b,a0K t 19 o.k=(b,true)/\Sub t o.k b/\o.k<t.length/\KF t 18 (nd t o.k).kids (o.k+1) b/\∀j,o.k<=j/\j<b->b1f t (W4 t).ch.length (bt t) (dZ t o).names (dZ t o).vars j:=by
 have jL:=b0n ho;obtain ⟨i,hi,e,nW⟩:=jL.aI;have nV:o.k∈(nd t 0).ks:=e▸List.getElem_mem hi;obtain ⟨k1,k2,b,b1,b2,b3,b4⟩:=h.item nV;have iM:=(a5I 19 k2 b1).1;obtain ⟨vs,v1,v2,v3,v4⟩:=b9n ho;have hv:vs.take o.seen=(a05 t ((nd t 0).ks.take i)).vs:=by
  rw [v2];obtain ⟨r,hr⟩:=b50 t ((nd t 0).ks.take i) ((nd t 0).ks.drop i);rw [List.take_append_drop] at hr;have hg:(W4 t).vs=(a05 t ((nd t 0).ks.take i)).vs++r:=hr;rw [hg,nW,List.take_left]
 refine ⟨b,b1,iM,k2,b4,?_⟩;rw [v4];have:=jL.lo;exact b5D h hS hi e jL.kind iM hv (by omega)
theorem b5W {t:List Nd} (h:Y9 t) (hS:a5h t) {o:gK} (ho:o∈a6L t):∀k∈(nd t o.k).ks.drop (a0b t (nd t o.k)),a4o t (W4 t).ch.length (dZ t o).names (dZ t o).vars (W7 t (bt t) (t.length+1)) k/\fL t (W7 t (bt t) (t.length+1)) k:=by
 obtain ⟨b,b1,iM,k2,_,uD⟩:=b4P h hS ho;have jL:=b0n ho;have oQ:=b0J ((h.ok.node o.k k2).proc jL.kind);have oB:∀j,j<t.length->(o.k<=j/\j<b)->∀k∈(nd t j).ks,o.k<=k/\k<b:=fun j _ hj k hk=>by
  obtain ⟨z,hz,rfl⟩:=List.mem_map.1 hk;have:=iM.down j hj.1 hj.2 z hz;omega
 intro k hk;have jm:=oQ.1 k hk;have nV:=List.mem_of_mem_drop hk;have ju:=h.ok.ks k2 k nV;have yy:=oB o.k k2 ⟨Nat.le_refl _,iM.lt⟩ k nV;exact ⟨a92 h.ok oB uD (t.length+1) k ju.2 yy jm (by omega),b0Y h.ok _ (t.length+1) k ju.2 jm (by omega)⟩
theorem b9Q {t:List Nd} (h:Y9 t) (hS:a5h t) {o:gK} (ho:o∈a6L t):a1C t (W4 t).ch.length (a6t t o)/\a21 (dZ t o) (a6t t o):=by
 have:=b5W h hS ho;exact a7j (fun k hk=>(this k hk).1) ⟨by simp [dZ],by simp [dZ],by simp [dZ]⟩ rfl rfl (by simp [dZ]) (by simp [dZ])
theorem c28 {t:List Nd} (h:Y9 t) (hS:a5h t) {o:gK} (ho:o∈a6L t):Gw (dZ t o) (a6t t o) 3300:=by
 have hk:=b5W h hS ho;obtain ⟨b,b1,iM,k2,iv,_⟩:=b4P h hS ho;obtain ⟨b',lU,mF⟩:=iv.drop (a0b t (nd t o.k));have:=b1E (node:=o.k) (p:=dZ t o) (au:=0) (to:=1) mF (st:=W7 t (bt t) (t.length+1)) (fun k hm=>(hk k (by rw [List.map_drop] at hm;exact hm)).2);rw [List.map_drop] at this;have hle:=iM.le;have:=h.ok.le;exact Gw.le ‹_› (by omega)
theorem c1t {t:List Nd} (h:Y9 t) (hS:a5h t) (hT:a3m t):Z8 (a7X t):=by
 have hg:(W4 t).vs.length<=(eL t).vs.length:=by
  obtain ⟨m,hm⟩:=b6V t;rw [hm,List.length_append];omega
 refine ⟨h.ok,greatV h hT,greatP h hT,greatC h hT,hg,fun p hp=>?_,fun k hk=>?_,?_⟩
 ·have hp:p∈(eL t).ps:=hp
  rw [(b1z t).1] at hp;obtain ⟨o,ho,rfl⟩:=List.mem_map.1 hp;have jL:=b0n ho;obtain ⟨i1,g⟩:=b9Q h hS ho;have hw:=c28 h hS ho;obtain ⟨vs,v1,v2,v3,v4⟩:=b9n ho;have hhi:=jL.hi;have uq:=jL.lo;refine ⟨i1,?_,?_,?_,?_,?_,?_⟩
  ·rw [g.names,g.vars]
   simp only [dZ,List.length_append,List.length_map,List.length_take,a5S,List.length_range];omega
  ·rw [g.vars]
   intro v hv;show v<(eL t).vs.length
   simp only [dZ,List.mem_append,List.mem_range,List.mem_map] at hv;rcases hv with hv | ⟨l,hl,rfl⟩<;>omega
  ·rw [g.vars,g.locals]
   intro v hv;simp only [dZ,List.mem_append,List.mem_range,List.mem_map] at hv ⊢;obtain ⟨l,hl,rfl⟩:=hv;exact ⟨.inr ⟨l,hl,rfl⟩,by show (W4 t).vs.length<=_;omega⟩
  ·have:=hw.pl;simp only [dZ] at this;omega
  ·have:=hw.el;simp only [dZ,List.length_nil] at this;omega
  ·rw [g.names]
   show _<=(eL t).vs.length
   simp only [dZ,List.length_append,List.length_map,List.length_take,a5S];omega
 ·have hk:k∈(W4 t).sf:=hk
  unfold W4 at hk;rw [a7b] at hk;simp only [List.mem_map,List.mem_filter,beq_iff_eq] at hk;obtain ⟨j,⟨j1,j2⟩,rfl⟩:=hk;obtain ⟨q1,q2,_⟩:=h.item j1;have h1:=(h.ok.node j q2).one (.inl j2);exact ⟨(h.ok.ks q2 _ (a1U (by omega))).2,h1.2⟩
 ·have h1:=(b29 t (nd t 0).ks).2.2
  have h2:=h.cK.length;have h3:=h.ok.le;rw [a20] at h1;show (W4 t).sf.length<=800
  unfold W4;omega
def a6I (n:Int):Nat:=if n<0 then 0 else 2 ^ n.toNat
def a3v (l:List ByteArray) (w:ByteArray):Nat:=l.findIdx fun x=>decide (x=w)
def a8H (names:List ByteArray) (vars:List Nat) (w:ByteArray):Nat:=if a3v names w<names.length then 2 ^ (vars.getD (a3v names w) 0) else 0
def chB (ch:List ByteArray) (w:ByteArray):Nat:=if a3v ch w<ch.length then 2 ^ (a3v ch w) else 0
theorem a7Q {l:List ByteArray} {w:ByteArray} {i:Nat} (hi:i<l.length) (h1:l[i]=w) (h2:∀j (hj:j<l.length),j<i->l[j]≠w):a3v l w=i:=by
 unfold a3v;rw [List.findIdx_eq hi];refine ⟨by simpa using h1,fun j hj=>?_⟩;simpa using h2 j (by omega) hj
theorem a7N {l:List ByteArray} {w:ByteArray} (h:∀j (hj:j<l.length),l[j]≠w):¬ a3v l w<l.length:=by
 unfold a3v;intro hc;have:=List.findIdx_getElem (w:=hc);simp only [decide_eq_true_eq] at this;exact h _ _ this
def a7e (ch:List ByteArray) (vb:ByteArray->Nat) (x:Nd) (f:Ft):Ft :=
 if x.kind=18 then { f with reads:=f.reads ||| vb (x.word 0) }
 else if x.kind=19 then { f with eB:=f.eB ||| chB ch (x.word 0) }
 else if x.kind=22/\(x.num 0=7∨x.num 0=8) then { f with part:=true } else f
def a6m (t:List Nd) (ch:List ByteArray) (vb:ByteArray->Nat):Nat->Nat->Ft->Ft
 | 0,_,f=>f
 | n+1,k,f=>(nd t k).ks.foldl (fun f c=>a6m t ch vb n c f) (a7e ch vb (nd t k) f)
def a9m (mo:Mo) (p:Pr) (e:Ed):Ft :=
 let f:=if 0<=e.expr then a6m mo.tree (mo.af.map Ch.name) (a8H p.names p.vars) (mo.tree.length+1) e.expr.toNat ⟨0,0,0,0,0,false⟩ else ⟨0,0,0,0,0,false⟩
 if e.act=1 then { f with writes:=a6I e.var }
 else if e.act=2 then { f with sends:=a6I e.chan }
 else if e.act=3 then { f with writes:=a6I e.var,recvs:=a6I e.chan } else f
theorem b2U {t:List Nd} {x:Nd} (h:b0a t x) (hx:a2Y x.kind):x.kids.length<=2/\∀i,i<x.kids.length->a2Y (nd t (x.aC i)).kind:=by
 obtain ⟨h1,h2⟩:=hx;by_cases a:x.kind=20∨x.kind=21
 ·obtain ⟨e,hk⟩:=h.one (by omega)
  refine ⟨by omega,fun i hi=>?_⟩;obtain rfl:i=0:=by omega
  exact hk
 by_cases b:x.kind=22
 ·obtain ⟨e,k0,k1,_⟩:=h.bin b
  refine ⟨by omega,fun i hi=>?_⟩;rcases (show i=0∨i=1 by omega) with rfl | rfl
  ·exact k0
  ·exact k1
 ·rw [h.none (by omega)]
  simp
def bJ (l:List Nat):Nat:=l.foldl (fun a v=>a ||| 2 ^ v) 0
structure V0 where
 aI:List Nat
 vars:List Int
 af:List (List Int)
 hold:Int
 deriving DecidableEq
def eF (op:Nat) (a b:Int) (w:Nat):Int:=match op with
 | 0=>W9 (a+b) w
 | 1=>W9 (a-b) w
 | 2=>W9 (a*b) w
 | 3=>if b=0 then 0 else W9 (a.tdiv b) w
 | _=>if b=0 then 0 else W9 (a.tmod b) w
def Y8 (l:List Int) (i:Nat):Int:=l.getD i 0
def V8 (l:List (List Int)) (i:Nat):List Int:=l.getD i []
def bq (l:List Nat) (i:Nat):Nat:=l.getD i 0
def U7 (l:List Ch) (i:Nat):Ch:=l.getD i default
theorem a3D {l:List Int} {i:Nat} (h:i<l.length):Y8 l i=l[i]:=by simp [Y8,List.getD,h]
theorem a3K {l:List (List Int)} {i:Nat} (h:i<l.length):V8 l i=l[i]:=by simp [V8,List.getD,h]
theorem a4U {l:List Nat} {i:Nat} (h:i<l.length):bq l i=l[i]:=by simp [bq,List.getD,h]
theorem a2q {l:List Ch} {i:Nat} (h:i<l.length):U7 l i=l[i]:=by simp [U7,List.getD,h]
def V4 (b:Bool):Int:=if b then 1 else 0
def a0Z (p:Pr) (w:ByteArray):Option Nat:=if a3v p.names w<p.names.length then some (p.vars.getD (a3v p.names w) 0) else none
def a1j (mo:Mo) (w:ByteArray):Option Nat:=if a3v ((mo.vars.take mo.globals).map Vr.name) w<mo.globals then some (a3v ((mo.vars.take mo.globals).map Vr.name) w) else none
def a0V (op a b:Int):Int×Bool :=
 if 7<=op/\b=0 then (0,false)
 else if op=0 then (V4 (decide (a≠0)||decide (b≠0)),true)
 else if op=1 then (V4 (decide (a≠0)&&decide (b≠0)),true)
 else if op=2 then (V4 (decide (a=b)),true)
 else if op=3 then (V4 (decide (a<b)),true)
 else (eF (op-4).toNat a b 8,true)
def a0R (t:List Nd) (ch:List ByteArray) (look:ByteArray->Option Nat) (st:V0):Nat->Nat->Int×Bool
 | 0,_=>(0,false)
 | n+1,k =>
   let x:=nd t k
   if x.kind=17 then (W9 (x.num 0) 8,true)
   else if x.kind=18 then match look (x.word 0) with
    | none=>(0,false)
    | some v=>(Y8 st.vars v,true)
   else if x.kind=19 then (if a3v ch (x.word 0)<ch.length then (((V8 st.af (a3v ch (x.word 0))).length:Int),true) else (0,false))
   else if x.kind=20 then (W9 (-(a0R t ch look st n (x.aC 0)).1) 8,(a0R t ch look st n (x.aC 0)).2)
   else if x.kind=21 then (V4 ((a0R t ch look st n (x.aC 0)).2&&decide ((a0R t ch look st n (x.aC 0)).1=0)),(a0R t ch look st n (x.aC 0)).2)
   else if x.kind=22 then
    if (a0R t ch look st n (x.aC 0)).2&&(a0R t ch look st n (x.aC 1)).2 then a0V (x.num 0) (a0R t ch look st n (x.aC 0)).1 (a0R t ch look st n (x.aC 1)).1 else (0,false)
   else (0,false)
def Mo.ch (mo:Mo):List ByteArray:=mo.af.map Ch.name
def Mo.val (mo:Mo) (look:ByteArray->Option Nat) (st:V0) (k:Nat):Int×Bool:=a0R mo.tree mo.ch look st (mo.tree.length+1) k
def Mo.ex (mo:Mo) (p:Pr) (st:V0) (e:Ed) (z:Int):Int×Bool:=if 0<=e.expr then mo.val (a0Z p) st e.expr.toNat else (z,true)
def Mo.can (mo:Mo) (st:V0) (i:Nat) (p:Pr) (e:Ed):Bool :=
 decide (bq st.aI i=e.au)&&(mo.ex p st e 0).2 &&
 (if e.act=2 then decide (((V8 st.af e.chan.toNat).length:Int)<(U7 mo.af e.chan.toNat).room)
  else if e.act=3 then decide (0<(V8 st.af e.chan.toNat).length)
  else if e.act=4 then decide ((mo.ex p st e 0).1≠0)
  else if e.act=5 then decide ((mo.ex p st e 0).1=0) else true)
def Mo.cP (mo:Mo) (st:V0):Bool:=mo.safe.all fun k=>(mo.val (a1j mo) st k).2&&decide ((mo.val (a1j mo) st k).1≠0)
def Mo.dL (mo:Mo) (st:V0) (i:Nat) (p:Pr):Bool:=p.ak.any fun e=>mo.can st i p e
structure Mv where
 kind:Nat
 proc:Nat
 bn:Nat
 chan:Nat
 deriving DecidableEq,Inhabited
def Mv.row (v:Mv):List D:=[.int .i64 (v.kind:Int),.int .i64 (v.proc:Int),.int .i64 (v.bn:Int),.int .i64 (v.chan:Int)]
def a15 (l:List Mv):List (List D):=l.map Mv.row
def Mo.cu (mo:Mo) (st:V0) (i:Nat):List Mv:=if 0<=st.hold/\st.hold≠(i:Int) then [] else ((List.range (mo.procs.getD i default).ak.length).filter fun j=>mo.can st i (mo.procs.getD i default) ((mo.procs.getD i default).ak.getD j default)).map fun j=>⟨0,i,j,0⟩
def Mo.aY (mo:Mo) (st:V0) (c:Nat):List Mv :=
 (if (U7 mo.af c).bm&&decide (0<(V8 st.af c).length) then [⟨1,0,0,c⟩] else []) ++
 (if (U7 mo.af c).aT&&decide (0<(V8 st.af c).length)&&decide (((V8 st.af c).length:Int)<(U7 mo.af c).room) then [⟨2,0,0,c⟩] else [])
def Mo.aQ (mo:Mo) (st:V0):List Mv:=(List.range mo.procs.length).flatMap (mo.cu st)++if st.hold<0 then (List.range mo.af.length).flatMap (mo.aY st) else []
structure Fit (mo:Mo) (st:V0):Prop where
 aI:st.aI.length=mo.procs.length
 vars:st.vars.length=mo.vars.length
 af:st.af.length=mo.af.length
 pl:∀i (h:i<st.aI.length) (h':i<mo.procs.length),st.aI[i]<mo.procs[i].ah
 vr:∀i (h:i<st.vars.length) (h':i<mo.vars.length),W9 st.vars[i] mo.vars[i].width.toNat=st.vars[i]
 cl:∀i (h:i<st.af.length) (h':i<mo.af.length),(st.af[i].length:Int)<=mo.af[i].room
 cv:∀i (h:i<st.af.length) (h':i<mo.af.length),∀n∈st.af[i],W9 n mo.af[i].width.toNat=n
 hold:-1<=st.hold/\st.hold<(mo.procs.length:Int)
def a2K:Option Nat->Int
 | none=>-1
 | some v=>(v:Int)
structure cG where
 da:D
 dv:D
 dc:D
def a8s (x:cG) (st:V0):List D:=[x.da,x.dv,x.dc,.int .i64 st.hold]
structure eV (x:cG) (st:V0):Prop where
 a:FL 1 x.da (a0x st.aI)
 v:FI x.dv st.vars
 c:∃ds:List D,FL 1 x.dc (ds.map fun d=>[d])/\ds.length=st.af.length/\∀i (h:i<ds.length) (h':i<st.af.length),FI ds[i] st.af[i]
theorem eV.az {x:cG} {st:V0} (h:eV x st):V1 x.da=true/\V1 x.dv=true/\V1 x.dc=true:=by
 obtain ⟨ds,h1,_⟩:=h.c;exact ⟨h.a.one,FL.one h.v,h1.one⟩
theorem eV.chan {x:cG} {st:V0} (h:eV x st) {i:Nat} (hi:i<st.af.length):∃d,FI d st.af[i]/\∀k:IntKind,W1 1 x.dc (.int k (i:Int))=some (.fp [d] 0):=by
 obtain ⟨ds,h1,h2,h3⟩:=h.c;have iD:i<ds.length:=by omega
 refine ⟨ds[i],h3 i iD hi,fun k=>?_⟩;rw [h1.idx (by simpa using iD)];simp
theorem b7g {p:Pr} {w:ByteArray} {v:Nat} (hs:p.names.length=p.vars.length) (h:a0Z p w=some v):v∈p.vars:=by
 unfold a0Z at h;split at h
 ·rename_i hl
  rw [hs] at hl;simp only [List.getD,List.getElem?_eq_getElem hl,Option.getD_some,Option.some.injEq] at h;rw [<- h];exact List.getElem_mem hl
 ·cases h
theorem b9p {mo:Mo} {w:ByteArray} {v:Nat} (h:a1j mo w=some v):v<mo.globals:=by
 unfold a1j at h;split at h
 ·simp only [Option.some.injEq] at h;omega
 ·cases h
def I8 (n:Int):Prop:=-128<=n/\n<=127
theorem a6f (n:Int):I8 (W9 n 8):=by
 have:=a99 (n:=n) (w:=8) (by decide);simp only [I8] at *;have e:(2:Int) ^ (8-1)=128:=rfl;rw [e] at this;omega
theorem doZ8 (op:Nat) (a b:Int):I8 (eF op a b 8):=by
 unfold eF;split<;>try exact a6f _
 all_goals
  split
  ·simp [I8]
  ·exact a6f _
theorem a9I (b:Bool):I8 (V4 b):=by cases b<;>simp [V4,I8]
theorem binZ8 (op a b:Int):I8 (a0V op a b).1:=by
 unfold a0V;split
 ·simp [I8]
 split
 ·exact a9I _
 split
 ·exact a9I _
 split
 ·exact a9I _
 split
 ·exact a9I _
 ·exact doZ8 _ _ _
structure eM (st:V0):Prop where
 v:∀n∈st.vars,I8 n
 c:∀l∈st.af,l.length<=3/\∀n∈l,I8 n
theorem val8 {t:List Nd} {ch:List ByteArray} {look:ByteArray->Option Nat} {st:V0} (h8:eM st):∀n k,I8 (a0R t ch look st n k).1
 | 0,k=>by simp [a0R,I8]
 | n+1,k=>by
   unfold a0R;simp only;split
   ·exact a6f _
   split
   ·split
    ·simp [I8]
    ·rename_i v _
     simp only [Y8,List.getD];cases hv:st.vars[v]? with
     | none=>simp [I8]
     | some y=>exact h8.v y (List.mem_of_getElem? hv)
   split
   ·split
    ·simp only [V8,List.getD]
     cases hv:st.af[a3v ch ((nd t k).word 0)]? with
     | none=>simp [I8]
     | some y=>have:=(h8.c y (List.mem_of_getElem? hv)).1;simp only [Option.getD_some,I8];omega
    ·simp [I8]
   split
   ·exact a6f _
   split
   ·exact a9I _
   split
   ·split
    ·exact binZ8 _ _ _
    ·simp [I8]
   ·simp [I8]
section
variable {σ:Nat->Nat} {l:List Nat} {c:Nat}
end
def a93 (mo:Mo) (p:Pr) (e:Ed):Ft:=if 0<=e.expr then a6m mo.tree (mo.af.map Ch.name) (a8H p.names p.vars) (mo.tree.length+1) e.expr.toNat ⟨0,0,0,0,0,false⟩ else ⟨0,0,0,0,0,false⟩
def actF (e:Ed) (f:Ft):Ft :=
 if e.act=1 then { f with writes:=a6I e.var }
 else if e.act=2 then { f with sends:=a6I e.chan }
 else if e.act=3 then { f with writes:=a6I e.var,recvs:=a6I e.chan } else f
theorem c4A (mo:Mo) (p:Pr) (e:Ed):a9m mo p e=actF e (a93 mo p e):=rfl
def aP (vs:List Bool) (e:Nat):Bool:=vs.getD (e / 2) false != (e % 2==1)
def stepV (m:List Bool) (st:List Bool×Nat) (p:Nat×Nat):List Bool×Nat :=
 if p=(0,0) then (if st.1.length=0 then (st.1++[false],st.2) else (st.1++[m.getD st.2 false],st.2+1))
 else (st.1++[aP st.1 p.1&&aP st.1 p.2],st.2)
def valsS (m:List Bool) (nodes:List (Nat×Nat)):List Bool×Nat:=nodes.foldl (stepV m) ([],0)
def cX (m:List Bool) (nodes:List (Nat×Nat)):List Bool:=(valsS m nodes).1





theorem a5J {f:Nat->Bool} {w:Nat} (h:0<w):Y7 f w % 2 ^ w=(num f w:Int) % 2 ^ w:=by rw [a9O h,b7i]
theorem a9k {f:Nat->Bool} {w:Nat} (h:0<w):-2 ^ (w-1)<=Y7 f w/\Y7 f w<2 ^ (w-1):=by rw [a9O h];exact a99 h
theorem b0R {f:Nat->Bool} {w:Nat} (h:0<w):W9 (Y7 f w) w=Y7 f w:=a6i h (a9k h).1 (a9k h).2
theorem a7R {f:Nat->Bool} {w:Nat} {n:Int} (h:0<w) (e:(num f w:Int) % 2 ^ w=n % 2 ^ w):Y7 f w=W9 n w:=by rw [a9O h,a9E e]
theorem c3Z {f g:Nat->Bool} {w:Nat} (h:0<w) (e:Y7 f w=Y7 g w):num f w=num g w:=by
 have h1:=a5J (f:=f) h;rw [e,a5J h] at h1;have a:=a1K f w;have b:=a1K g w;have a':(num f w:Int)<2 ^ w:=by exact_mod_cast a
 have b':(num g w:Int)<2 ^ w:=by exact_mod_cast b
 rw [Int.emod_eq_of_lt (by omega) b',Int.emod_eq_of_lt (by omega) a'] at h1;omega
theorem b2i {f g:Nat->Bool} {w:Nat} (h:0<w):Y7 f w=Y7 g w↔∀i,i<w->f i=g i :=
 ⟨fun e=>b0z (c3Z h e),fun e=>b1G h e⟩
theorem b8r {f:Nat->Bool} {v:Nat} (hv:0<v):∀k,(num (fun i=>f (min i (v-1))) (v+k):Int)-(b2n (f (v-1)):Int)*2 ^ (v+k)=Y7 f v
 | 0=>by
   have:num (fun i=>f (min i (v-1))) v=num f v:=a3X fun i hi=>by rw [Nat.min_eq_left (by omega)]
   rw [Nat.add_zero,this];rfl
 | k+1=>by
   have ih:=b8r (f:=f) hv k;rw [<- ih,<- Nat.add_assoc,num,Nat.min_eq_right (by omega),Int.pow_succ];generalize num (fun i=>f (min i (v-1))) (v+k)=n;cases f (v-1)<;>simp<;>omega
theorem c2j {f:Nat->Bool} {v w:Nat} (h:w<=v):(num f v:Int) % 2 ^ w=(num f w:Int) % 2 ^ w:=by
 obtain ⟨k,rfl⟩:∃k,v=w+k:=⟨v-w,by omega⟩
 rw [a56];have:((num f w+num (fun i=>f (w+i)) k*2 ^ w:Nat):Int)=(num f w:Int)+(num (fun i=>f (w+i)) k:Int)*2 ^ w:=by simp
 rw [this,Int.add_mul_emod_self_right]
theorem b0k {v w:Nat} (h:w<=v):(2:Int) ^ w ∣ 2 ^ v:=by
 obtain ⟨k,rfl⟩:∃k,v=w+k:=⟨v-w,by omega⟩
 rw [Int.pow_add];exact Int.dvd_mul_right _ _
theorem b3y {v w:Nat} (h:w<=v):(2:Int) ^ w<=2 ^ v:=by
 have:(2:Nat) ^ w<=2 ^ v:=Nat.pow_le_pow_right (by omega) h;exact_mod_cast this
theorem c19 {f:Nat->Bool} {v w:Nat} (hv:0<v) (hw:0<w):Y7 (fun i=>f (min i (v-1))) w=W9 (Y7 f v) w:=by
 rcases Nat.lt_or_ge w v with h | h
 ·have e:Y7 (fun i=>f (min i (v-1))) w=Y7 f w:=b1G hw fun i hi=>by rw [Nat.min_eq_left (by omega)]
  rw [e,a9O hw];refine a9E ?_;rw [<- c2j (Nat.le_of_lt h)];have:=a5J (f:=f) hv;rw [<- Int.emod_emod_of_dvd (Y7 f v) (b0k (Nat.le_of_lt h)),this,Int.emod_emod_of_dvd _ (b0k (Nat.le_of_lt h))]
 ·obtain ⟨k,rfl⟩:∃k,w=v+k:=⟨w-v,by omega⟩
  have:=b8r (f:=f) hv k;have hr:=a9k (f:=f) hv;have p:=b3y (w:=v-1) (v:=v+k-1) (by omega);rw [a6i hw (by omega) (by omega),<- this];unfold Y7;show (_:Int)-(b2n (f (min (v+k-1) (v-1))):Int)*_=_
  rw [Nat.min_eq_right (by omega)]
theorem b5X {a b c d n:Int} (h1:a % n=c % n) (h2:b % n=d % n):(a+b) % n=(c+d) % n:=by rw [Int.add_emod,h1,h2,<- Int.add_emod]
theorem b7H {a b c d n:Int} (h1:a % n=c % n) (h2:b % n=d % n):(a*b) % n=(c*d) % n:=by rw [Int.mul_emod,h1,h2,<- Int.mul_emod]
theorem c47 {a c n:Int} (h1:a % n=c % n):(-a) % n=(-c) % n:=by
 have:=b7H (a:=-1) (b:=a) (c:=-1) (d:=c) (n:=n) rfl h1;simpa using this
theorem b3c {a w:Nat}:((a % 2 ^ w:Nat):Int)=(a:Int) % 2 ^ w:=by simp
theorem c4D {A B:Nat->Bool} {w:Nat} (h:0<w):Y7 (a2f A B false) w=W9 (Y7 A w+Y7 B w) w:=by
 refine a7R h ?_;rw [a8D,b3c,Int.emod_emod_of_dvd _ (Int.dvd_refl _)];simp only [b3q,Nat.add_zero,Int.natCast_add];exact b5X (a5J h).symm (a5J h).symm
theorem c3U {A B:Nat->Bool} {w:Nat} (h:0<w):Y7 (a2f A (fun j=>!B j) true) w=W9 (Y7 A w-Y7 B w) w:=by
 refine a7R h ?_;rw [a8D,b3c,Int.emod_emod_of_dvd _ (Int.dvd_refl _)];have hn:=b0N B w;have e:((num A w+num (fun j=>!B j) w+b2n true:Nat):Int)=(num A w:Int)+(-(num B w:Int))+2 ^ w:=by
  have:((num (fun j=>!B j) w+num B w+1:Nat):Int)=2 ^ w:=by rw [hn];simp
  simp only [a8h] at *;omega
 rw [e,Int.add_emod_right,Int.sub_eq_add_neg];exact b5X (a5J h).symm (c47 (a5J h).symm)
theorem c3K {A B:Nat->Bool} {w:Nat} (h:0<w):Y7 (a58 A B w) w=W9 (Y7 A w*Y7 B w) w:=by
 refine a7R h ?_;rw [b56 A B (Nat.le_refl w),b3c,Int.emod_emod_of_dvd _ (Int.dvd_refl _),Int.natCast_mul];exact b7H (a5J h).symm (a5J h).symm
theorem b0S {X:Nat->Bool} {w:Nat} (h:0<w):num (W3 (X (w-1)) X) w=(Y7 X w).natAbs:=by
 rw [b71];have ht:=b2Z (f:=X) h;have hl:=a1K X w;have jd:(num X w:Int)<2 ^ w:=by exact_mod_cast hl
 unfold Y7;cases hx:X (w-1)
 ·simp
 ·rw [hx] at ht
  have h2:2 ^ (w-1)<=num X w:=by simpa using ht.symm
  have h3:0<2 ^ (w-1):=Nat.pos_of_ne_zero (by simp);simp only [if_true,a8h];rw [Nat.mod_eq_of_lt (by omega)];have e:((2 ^ w:Nat):Int)=2 ^ w:=by simp
  omega
theorem c3T {X Y:Nat->Bool} {w:Nat} (h:0<w) (hy:Y7 Y w≠0) :
 Y7 (W3 (X (w-1) != Y (w-1)) (a1b (W3 (X (w-1)) X) (W3 (Y (w-1)) Y) w)) w=W9 ((Y7 X w).tdiv (Y7 Y w)) w:=by
 refine a7R h ?_;have ay:=b0S (X:=Y) h;have ax:=b0S (X:=X) h;have ry:=a9k (f:=Y) h;have e2:((2 ^ (w-1):Nat):Int)=2 ^ (w-1):=by simp
 rw [b8K,c2v _ _ h (by omega) (by omega),ax,ay];congr 1
 have sx:X (w-1)=decide (Y7 X w<0):=by
  have hl:=a1K X w;have jd:(num X w:Int)<2 ^ w:=by exact_mod_cast hl
  unfold Y7;cases X (w-1)<;>simp<;>omega
 have sy:Y (w-1)=decide (Y7 Y w<0):=by
  have hl:=a1K Y w;have jd:(num Y w:Int)<2 ^ w:=by exact_mod_cast hl
  unfold Y7;cases Y (w-1)<;>simp<;>omega
 rw [sx,sy];generalize Y7 X w=a;generalize Y7 Y w=b at *;have key:∀ (m n:Nat),((m / n:Nat):Int)=(m:Int).tdiv n:=fun m n=>rfl
 by_cases ha:a<0<;>by_cases hb:b<0<;>simp only [ha,hb,decide_true,decide_false,bne_self_eq_false,Bool.false_eq_true,if_false]
 ·rw [key,Int.ofNat_natAbs_of_nonpos (by omega),Int.ofNat_natAbs_of_nonpos (by omega),Int.neg_tdiv,Int.tdiv_neg];omega
 ·simp only [bne,Bool.true_eq_false,beq_eq_false_iff_ne,ne_eq,not_false_eq_true,if_true,show (true==false)=false from rfl,Bool.not_false]
  rw [key,Int.ofNat_natAbs_of_nonpos (by omega),Int.natAbs_of_nonneg (by omega),Int.neg_tdiv];omega
 ·simp only [bne,show (false==true)=false from rfl,Bool.not_false,if_true]
  rw [key,Int.natAbs_of_nonneg (by omega),Int.ofNat_natAbs_of_nonpos (by omega),Int.tdiv_neg];omega
 ·rw [key,Int.natAbs_of_nonneg (by omega),Int.natAbs_of_nonneg (by omega)]
theorem c33 {X Y:Nat->Bool} {w:Nat} (h:0<w) (hy:Y7 Y w≠0) :
 Y7 (W3 (X (w-1)) (a1Z (W3 (X (w-1)) X) (W3 (Y (w-1)) Y) w w)) w=W9 ((Y7 X w).tmod (Y7 Y w)) w:=by
 refine a7R h ?_;have ay:=b0S (X:=Y) h;have ax:=b0S (X:=X) h;have ry:=a9k (f:=Y) h;have e2:((2 ^ (w-1):Nat):Int)=2 ^ (w-1):=by simp
 rw [b8K,c2a _ _ h (by omega) (by omega),ax,ay];congr 1
 have sx:X (w-1)=decide (Y7 X w<0):=by
  have hl:=a1K X w;have jd:(num X w:Int)<2 ^ w:=by exact_mod_cast hl
  unfold Y7;cases X (w-1)<;>simp<;>omega
 rw [sx];generalize Y7 X w=a;generalize Y7 Y w=b at *;have key:∀ (m n:Nat),((m % n:Nat):Int)=(m:Int).tmod n:=fun m n=>rfl
 have kb:∀x:Int,x.tmod (b.natAbs:Int)=x.tmod b:=fun x=>by
  rcases Int.natAbs_eq b with hb | hb
  ·rw [<- hb]
  ·have:x.tmod b=x.tmod (-b):=by rw [Int.tmod_neg]
   rw [this];congr 1;omega
 rw [key,kb];by_cases ha:a<0
 ·simp only [ha,decide_true,if_true]
  rw [Int.ofNat_natAbs_of_nonpos (by omega),Int.neg_tmod];omega
 ·simp only [ha,decide_false,Bool.false_eq_true,if_false]
  rw [Int.natAbs_of_nonneg (by omega)]
theorem c1T {f:Nat->Bool} {w:Nat} (h:0<w):Y7 f w=0↔∀i,i<w->f i=false:=by
 have:=b2i (f:=f) (g:=fun _=>false) h;rw [show Y7 (fun _=>false) w=0 by simp [Y7,a7g]] at this;exact this
theorem b6R {A:Nat->Bool} {w:Nat} (h:0<w):(num (fun i=>if i=w-1 then !A i else A i) w:Int)=Y7 A w+2 ^ (w-1):=by
 obtain ⟨k,rfl⟩:∃k,w=k+1:=⟨w-1,by omega⟩
 have e:num (fun i=>if i=k then !A i else A i) k=num A k:=a3X fun i hi=>if_neg (by omega)
 simp only [Nat.add_sub_cancel,num,Y7,e,if_true,Int.pow_succ];cases A k<;>simp<;>omega
theorem b9Z {A B:Nat->Bool} {w:Nat} (h:0<w):a40 (fun i=>if i=w-1 then !A i else A i) (fun i=>if i=w-1 then !B i else B i) w=decide (Y7 A w<Y7 B w):=by
 rw [b1k];have h1:=b6R (A:=A) h;have h2:=b6R (A:=B) h;rw [Bool.eq_iff_iff];simp only [decide_eq_true_eq];omega
def a6X (A B:Nat->Bool):Nat->Bool
 | 0=>true
 | i+1=>a6X A B i&&!(A i != B i)
theorem b8F (A B:Nat->Bool):∀n,a6X A B n=true↔∀i,i<n->A i=B i
 | 0=>by simp [a6X]
 | n+1=>by
   rw [a6X,Bool.and_eq_true,b8F A B n];constructor
   ·rintro ⟨h1,h2⟩ i hi
    rcases Nat.lt_or_ge i n with h | h
    ·exact h1 i h
    ·have:i=n:=by omega
     subst this;simpa using h2
   ·intro h
    exact ⟨fun i hi=>h i (by omega),by simpa using h n (by omega)⟩
theorem c4w {A B:Nat->Bool} {w:Nat} (h:0<w):a6X A B w=decide (Y7 A w=Y7 B w):=by
 rw [Bool.eq_iff_iff,b8F,decide_eq_true_eq,b2i h]
def V7 (n:Int) (i:Nat):Bool:=decide (n / 2 ^ i % 2=1)
theorem a5C (n:Int):∀w,(num (V7 n) w:Int)=n % 2 ^ w
 | 0=>by simp [num]
 | w+1=>by
   have ih:=a5C n w;rw [num];have e:n % 2 ^ (w+1)=n % 2 ^ w+2 ^ w*(n / 2 ^ w % 2):=by
    rw [Int.pow_succ];have p:=a5u w;have h1:=Int.emod_add_mul_ediv n (2 ^ w);have h2:=Int.emod_add_mul_ediv (n / 2 ^ w) 2;have h3:=Int.emod_add_mul_ediv n (2 ^ w*2);rw [<- Int.ediv_ediv_of_nonneg (by omega)] at h3;generalize n / 2 ^ w / 2=q at *;generalize n / 2 ^ w=u at *;generalize u % 2=r at *;subst h2;rw [Int.mul_add,<- Int.mul_assoc] at h1;omega
   rw [e,<- ih];simp only [Int.natCast_add,Int.natCast_mul];congr 1
   rw [Int.mul_comm];have:((2 ^ w:Nat):Int)=2 ^ w:=by simp
   rw [this];congr 1
   unfold V7;rcases Int.emod_two_eq (n / 2 ^ w) with h | h<;>simp [h]
theorem b1g {n:Int} {w:Nat} (h:0<w):Y7 (V7 n) w=W9 n w:=by
 refine a7R h ?_;rw [a5C,Int.emod_emod_of_dvd _ (Int.dvd_refl _)]
theorem a6Z {x:Int}:IntKind.i64.wrap (andI .i64 x 1)=x % 2:=by
 show IntKind.i64.wrap ((BitVec.ofInt IntKind.i64.bits x &&& BitVec.ofInt IntKind.i64.bits 1).toNat:Int)=x % 2
 have e1:(BitVec.ofInt IntKind.i64.bits x &&& BitVec.ofInt IntKind.i64.bits 1).toNat=(x % 2 ^ 64).toNat % 2:=by
  rw [BitVec.toNat_and];have a2:(BitVec.ofInt IntKind.i64.bits (1:Int)).toNat=1:=rfl;rw [a2,Nat.and_one_is_mod,BitVec.toNat_ofInt];rfl
 rw [e1];have h0:0<=x % 2 ^ 64:=Int.emod_nonneg _ (by decide);rw [Z5 (by omega) (by omega)];omega

end Go.V
namespace Go.Proofs.YtigbmclkjknnjaaGreat
open Go.V
theorem a4T {i n:Nat} (h:i<n) (hn:n<=maxLen):IntKind.i64.wrap ((i:Int)+1)=((i+1:Nat):Int):=by
 have:maxLen=9223372036854775807:=rfl;rw [Z5 (by omega) (by omega)];omega
def eu (f:Nat) (l:List D) (r:D):Prop:=∃s1,Ev U8 f l k4.empty r s1
def a0s (f:Nat) (l:List D) (P:Bool->Prop):Prop:=∃b,eu f l (.bool b)/\P b
theorem a0B {f:Nat} {l:List D} {P:Bool->Prop} (h:X9 U8 f l k4.empty fun d _=>∃b,d=.bool b/\P b):a0s f l P:=by
 obtain ⟨d,s',h,b,rfl,hp⟩:=h;exact ⟨b,⟨s',h⟩,hp⟩
theorem a5A {f:Nat} {l:List D} {r:D} (h:X9 U8 f l k4.empty fun d _=>d=r):eu f l r:=by
 obtain ⟨d,s',h,rfl⟩:=h;exact ⟨s',h⟩
theorem U9 {ae i t f args rest s Q} {env:q8} {l:List D} {r:D} (hr:eu f l r) (hs:a1Y r=true) (hl:env.aP args=l) (ha:X2 (V.aL s.get 20) l=some l)
 (h:WQ U8 ae rest ((t,r)::env) s Q):WQ U8 ae ((i,⟨some t,.m (.call .fF (.aG (.fn f [])) args),none⟩)::rest) env s Q:=by
 obtain ⟨s1,hr⟩:=hr;exact a4Q hr hs hl ha h
theorem b8U {n:Int}:a0s 97 [.int .u8 n] fun _=>True:=by
 refine a0B ?_;by_cases c1:65<=n<;>by_cases c2:n<=90<;>by_cases c3:97<=n<;>by_cases c4:n<=122
 all_goals
  refine V9 (vf:=vf97) rfl ?_;unfold vf97;refine zE ?_;try refine zW (V3 c1 c2 c3 c4) ?_
  exact ⟨.inr trivial,_,rR,_,rfl,trivial⟩
theorem c4T {n:Int}:a0s 99 [.int .u8 n] fun _=>True:=by
 refine a0B ?_;by_cases c1:48<=n<;>by_cases c2:n<=57
 all_goals
  refine V9 (vf:=vf99) rfl ?_;unfold vf99;refine zE ?_;try refine zW (aN c1 c2) ?_
  exact ⟨.inr trivial,_,rR,_,rfl,trivial⟩
theorem c2C {n:Int}:a0s 98 [.int .u8 n] fun _=>True:=by
 refine a0B ?_;obtain ⟨b1,h1,_⟩:=b8U (n:=n);obtain ⟨b2,h2,_⟩:=c4T (n:=n);cases b1<;>cases b2<;>by_cases c1:(n==95)=true
 all_goals
  refine V9 (vf:=vf98) rfl ?_;unfold vf98;refine zE ?_;repeat first
  |(apply U9 h1 rfl rfl rfl)
  |(apply U9 h2 rfl rfl rfl)
  |refine zW c1 ?_
  exact ⟨.inr trivial,_,rR,_,rfl,trivial⟩
theorem c3V {s:k4} {id n:Nat} {cs:List D} (h:s.get id=some (.cells cs)) (hn:cs.length=n):Rd s (.arr id 0 n 1) cs:=by subst hn;exact Rd.arr h
theorem key_ok {x:ByteArray}:a0s 164 [.str x] fun _=>True:=by
 refine a0B ?_;refine V9 (vf:=b3G) rfl ?_;unfold b3G;refine zE ?_;try refine ct ?_
 refine a1c (Q:=a0j 0 _) (fun n env s=>∃ (i:Nat) (cs:List D),i<=21/\n=21-i/\s.get 0=some (.cells cs)/\cs.length=21/\(∀c∈cs,∃y,c=.str y)/\(env.get 0=.str x/\env.get 3=.arr 0 0 21 1/\env.get 4=.int .i64 (i:Int))) ?_ 21 _ _
  ⟨0,_,by omega,rfl,W2 rfl,rfl,by simp,by simp [q8.get,a0f.at];rfl⟩
 rintro n env s ⟨i,cs,hi,rfl,hg,hl,hc,hE⟩;have zw:((21:Nat):Int)=21:=rfl;by_cases h:i<21
 ·have c1:((i:Int)<21)=True:=eq_true (by omega)
  have hs:IntKind.i64.wrap ((i:Int)+1)=((i+1:Nat):Int):=by rw [Z5 (by omega) (by omega)];omega
  have ho:cs.all V1=true:=by
   rw [List.all_eq_true];intro c hm;obtain ⟨y,rfl⟩:=hc c hm;rfl
  obtain ⟨p,p1,p2⟩:=(c3V hg hl).idx ho (i:=i) (by omega) (k:=.i64) rfl;obtain ⟨y,hy⟩:=hc cs[i] (List.getElem_mem _);rw [hy] at p2;by_cases c2:y=x
  ·try refine zW (Y6 hE zw c1 p1 p2 c2) ?_
   exact ⟨.inr trivial,_,rR,_,rfl,trivial⟩
  ·try refine zW (Y3 hE zw c1 p1 p2 c2 hs) ?_
   exact ⟨21-(i+1),by omega,i+1,cs,by omega,rfl,hg,hl,hc,(rG hE)⟩
 ·have c1:((i:Int)<21)=False:=eq_false (by omega)
  try refine zW (V5 hE zw c1) ?_
  exact ⟨.inr trivial,_,rR,_,rfl,trivial⟩
theorem b60 {x:ByteArray} {i:Nat} (h:i<x.size):∃v,a9b (.str x) (.int .i64 (i:Int))=some (.int .u8 v):=by
 refine ⟨(x[i]).toNat,?_⟩;have:x[i]?=some x[i]:=by simp [h]
 simp [a9b,this]
theorem c27 {x:ByteArray}:a0s 147 [.str x] fun _=>True:=by
 refine a0B ?_;by_cases c1:x.size=0
 ·have gZ:((x.size:Int)==0)=true:=by rw [c1];rfl
  refine V9 (vf:=a5g) rfl ?_;unfold a5g;refine zE ?_;try refine zW gZ ?_
  exact ⟨.inr trivial,_,rR,_,rfl,trivial⟩
 have gZ:((x.size:Int)==0)=false:=by rw [beq_eq_false_iff_ne];omega
 by_cases c2:12<x.size
 ·have jn:((12:Int)<(x.size:Int))=True:=eq_true (by omega)
  refine V9 (vf:=a5g) rfl ?_;unfold a5g;refine zE ?_;try refine zW (aN gZ jn) ?_
  exact ⟨.inr trivial,_,rR,_,rfl,trivial⟩
 have jn:((12:Int)<(x.size:Int))=False:=eq_false (by omega);obtain ⟨v,hv⟩:=b60 (x:=x) (i:=0) (by omega);obtain ⟨b1,h1,_⟩:=b8U (n:=v);have z0:((0:Nat):Int)=0:=rfl;rw [z0] at hv;cases b1
 ·refine V9 (vf:=a5g) rfl ?_
  unfold a5g;refine zE ?_;repeat first
  |(apply U9 h1 rfl rfl rfl)
  |refine zW (V5 gZ jn hv) ?_
  exact ⟨.inr trivial,_,rR,_,rfl,trivial⟩
 obtain ⟨b2,h2,_⟩:=key_ok (x:=x);cases b2
 ·refine V9 (vf:=a5g) rfl ?_
  unfold a5g;refine zE ?_;repeat first
  |(apply U9 h1 rfl rfl rfl)
  |(apply U9 h2 rfl rfl rfl)
  |refine zW (V5 gZ jn hv) ?_
  refine a1c (Q:=a0j 0 _) (fun n env s=>∃i:Nat,i<=x.size/\n=x.size-i/\(env.get 0=.str x/\env.get 3=.int .i64 (i:Int))) ?_ x.size _ _ ⟨0,by omega,rfl,by simp [q8.get]⟩;rintro n env s ⟨i,hi,rfl,hE⟩;by_cases c3:i<x.size
  ·have iB:((i:Int)<(x.size:Int))=True:=eq_true (by omega)
   have hs:IntKind.i64.wrap ((i:Int)+1)=((i+1:Nat):Int):=by rw [Z5 (by omega) (by omega)];omega
   obtain ⟨v,hv⟩:=b60 (x:=x) (i:=i) (by omega);obtain ⟨b3,h3,_⟩:=c2C (n:=v);cases b3
   ·repeat first
    |(apply U9 h3 rfl rfl rfl)
    |refine zW (V5 hE iB hv) ?_
    exact ⟨.inr trivial,_,rR,_,rfl,trivial⟩
   ·repeat first
    |(apply U9 h3 rfl rfl rfl)
    |refine zW (V3 hE iB hv hs) ?_
    exact ⟨x.size-(i+1),by omega,i+1,by omega,rfl,(rG hE)⟩
  ·have iB:((i:Int)<(x.size:Int))=False:=eq_false (by omega)
   try refine zW (aN hE iB) ?_
   exact ⟨.inr trivial,_,rR,_,rfl,trivial⟩
 ·refine V9 (vf:=a5g) rfl ?_
  unfold a5g;refine zE ?_;repeat first
  |(apply U9 h1 rfl rfl rfl)
  |(apply U9 h2 rfl rfl rfl)
  |refine zW (V5 gZ jn hv) ?_
  exact ⟨.inr trivial,_,rR,_,rfl,trivial⟩
def inR (k a b:Int):Bool:=decide (a<=k)&&decide (k<=b)
theorem b27 {k a b:Int}:inR k a b=true↔a<=k/\k<=b:=by simp [inR]
theorem b0I {k a b:Int}:eu 112 [.int .i64 k,.int .i64 a,.int .i64 b] (.bool (inR k a b)):=by
 refine a5A ?_;unfold inR;by_cases c:a<=k
 ·refine V9 (vf:=a8I) rfl ?_
  unfold a8I;refine zE ?_;try refine zW c ?_
  exact ⟨.inr trivial,_,rR,by simp [c]⟩
 ·refine V9 (vf:=a8I) rfl ?_
  unfold a8I;refine zE ?_;try refine zW c ?_
  exact ⟨.inr trivial,_,rR,by simp [c]⟩
theorem b2T {d:D} {t:List Nd} {x:Nd} {i:Nat} (hT:X8 d t) (hx:x.Ok) (hi:i<x.kids.length) (h0:0<=x.kids[i]) (hl:x.kids[i]<(t.length:Int)):eu 113 [d,.agg x.row,.int .i64 (i:Int)] (.int .i64 (nd t (x.aC i)).kind):=by
 refine a5A ?_;have h1:=FI.idx hx.k hi (k:=.i64);have h2:=hT.at h0 hl (k:=.i64);have o1:=FL.one hx.w;have o2:=FL.one hx.n;have o3:=FL.one hx.k;rw [a61 hi];unfold Nd.row;refine V9 (vf:=b4t) rfl ?_;unfold b4t;refine zE ?_;try refine zW (W6 h1 h2 o1 o2 o3) ?_
 exact ⟨.inr trivial,_,rR,rfl⟩
theorem a19 {x:Nd} (hx:x.Ok) {c:Int}:a0s 109 [.agg x.row,.int .i64 c] fun b=>b=true->(x.words.length:Int)=c:=by
 refine a0B ?_;have o1:=FL.one hx.w;have o2:=FL.one hx.n;have o3:=FL.one hx.k;have hlen:=FS.len hx.w;unfold Nd.row;refine V9 (vf:=b1D) rfl ?_;unfold b1D;refine zE ?_;try refine zW (V5 o1 o2 o3) ?_
 refine a1c (Q:=a0j 0 _) (fun n env s=>∃i:Nat,i<=x.words.length/\n=x.words.length-i/\s.get 0=some (.cells [.int .i64 x.kind,x.dw,x.dn,x.dk,.int .i64 x.pos])/\(env.get 1=.int .i64 c/\env.get 2=.ptr 0 0/\env.get 5=.int .i64 (i:Int))) ?_ x.words.length _ _ ⟨0,by omega,rfl,W2 rfl,by simp [q8.get,a0f.at];rfl⟩;rintro n env s ⟨i,hi,rfl,hg,hE⟩;by_cases c3:i<x.words.length
 ·have iB:((i:Int)<(x.words.length:Int))=True:=eq_true (by omega)
  have hs:=a4T c3 hx.wl;have gP:=FS.idx hx.w c3 (k:=.i64);obtain ⟨b,hb,_⟩:=c27 (x:=x.words[i]);cases b
  ·repeat first
   |(apply U9 hb rfl rfl rfl)
   |refine zW (U5 hE hg o1 o2 o3 hlen iB gP) ?_
   exact ⟨.inr trivial,_,rR,_,rfl,by simp⟩
  ·repeat first
   |(apply U9 hb rfl rfl rfl)
   |refine zW (U5 hE hg o1 o2 o3 hlen iB (aN gP hs)) ?_
   exact ⟨x.words.length-(i+1),by omega,i+1,by omega,rfl,hg,(rG hE)⟩
 ·have iB:((i:Int)<(x.words.length:Int))=False:=eq_false (by omega)
  try refine zW (Y3 hE hg o1 o2 o3 hlen iB) ?_
  exact ⟨.inr trivial,_,rR,_,rfl,by simp⟩
theorem a2l {x:Nd} (hx:x.Ok) {c m:Int}:a0s 110 [.agg x.row,.int .i64 c,.int .i64 m] fun b=>b=true->(x.aH.length:Int)=c/\∀n∈x.aH,0<=n/\n<=m:=by
 refine a0B ?_;have o1:=FL.one hx.w;have o2:=FL.one hx.n;have o3:=FL.one hx.k;have hlen:=FI.len hx.n;unfold Nd.row;refine V9 (vf:=b38) rfl ?_;unfold b38;refine zE ?_;try refine zW (V5 o1 o2 o3) ?_
 refine a1c (Q:=a0j 0 _) (fun n env s=>∃i:Nat,i<=x.aH.length/\n=x.aH.length-i/\(∀j (hj:j<x.aH.length),j<i->0<=x.aH[j]/\x.aH[j]<=m)/\s.get 0=some (.cells [.int .i64 x.kind,x.dw,x.dn,x.dk,.int .i64 x.pos])/\(env.get 1=.int .i64 c/\env.get 2=.int .i64 m/\env.get 3=.ptr 0 0/\env.get 7=.int .i64 (i:Int))) ?_ x.aH.length _ _ ⟨0,by omega,rfl,fun j _ h=>by omega,W2 rfl,by simp [q8.get,a0f.at];rfl⟩;rintro n env s ⟨i,hi,rfl,gU,hg,hE⟩;by_cases c3:i<x.aH.length
 ·have iB:((i:Int)<(x.aH.length:Int))=True:=eq_true (by omega)
  have hs:=a4T c3 hx.nl;have gP:=FI.idx hx.n c3 (k:=.i64);by_cases d1:x.aH[i]<0
  ·try refine zW (U5 hE hg o1 o2 o3 hlen iB (aN gP d1)) ?_
   exact ⟨.inr trivial,_,rR,_,rfl,by simp⟩
  ·by_cases d2:m<x.aH[i]
   ·try refine zW (U5 hE hg o1 o2 o3 hlen iB (V5 gP d1 d2)) ?_
    exact ⟨.inr trivial,_,rR,_,rfl,by simp⟩
   ·try refine zW (U5 hE hg o1 o2 o3 hlen iB (V3 gP d1 d2 hs)) ?_
    refine ⟨x.aH.length-(i+1),by omega,i+1,by omega,rfl,fun j hj hji=>?_,hg,(rG hE)⟩;by_cases e:j=i
    ·subst e;omega
    ·exact gU j hj (by omega)
 ·have iB:((i:Int)<(x.aH.length:Int))=False:=eq_false (by omega)
  try refine zW (Y3 hE hg o1 o2 o3 hlen iB) ?_
  refine ⟨.inr trivial,_,rR,_,rfl,fun h=>⟨by simpa using h,fun n hn=>?_⟩⟩;obtain ⟨j,hj,rfl⟩:=List.getElem_of_mem hn;exact gU j hj (by omega)
def a1P (t:List Nd) (x:Nd):Prop:=∀k∈x.kids,0<=k/\k<(t.length:Int)
theorem b30 {d:D} {t:List Nd} {x:Nd} (hT:X8 d t) (hx:x.Ok) (hk:a1P t x) {f:Nat} {a b:Int}:a0s 111 [d,.agg x.row,.int .i64 (f:Int),.int .i64 a,.int .i64 b] fun r=>r=true->∀i,f<=i->i<x.kids.length->a<=(nd t (x.aC i)).kind/\(nd t (x.aC i)).kind<=b:=by
 refine a0B ?_;have o1:=FL.one hx.w;have o2:=FL.one hx.n;have o3:=FL.one hx.k;have hlen:=FI.len hx.k;have hz:=hx.fz;unfold Nd.row;refine V9 (vf:=b2V) rfl ?_;unfold b2V;refine zE ?_;try refine zW (V5 o1 o2 o3) ?_
 refine a1c (Q:=a0j 0 _) (fun n env s=>∃i:Nat,f<=i/\n=x.kids.length-i/\(∀j,f<=j->j<i->j<x.kids.length->a<=(nd t (x.aC j)).kind/\(nd t (x.aC j)).kind<=b)/\s.get 0=some (.cells [.int .i64 x.kind,x.dw,x.dn,x.dk,.int .i64 x.pos])/\(env.get 0=d/\env.get 3=.int .i64 a/\env.get 4=.int .i64 b/\env.get 6=.ptr 0 0/\env.get 11=.int .i64 (i:Int))) ?_ (x.kids.length-f) _ _ ⟨f,by omega,rfl,fun j _ h=>by omega,W2 rfl,by simp [q8.get,a0f.at];rfl⟩;rintro n env s ⟨i,hi,rfl,gU,hg,hE⟩;by_cases c3:i<x.kids.length
 ·have iB:((i:Int)<(x.kids.length:Int))=True:=eq_true (by omega)
  have hs:=a4T c3 hx.kl;have jJ:=hk _ (List.getElem_mem c3);have h1:=b2T hT hx c3 jJ.1 jJ.2;unfold Nd.row at h1;have h2:=b0I (k:=(nd t (x.aC i)).kind) (a:=a) (b:=b);cases hr:inR (nd t (x.aC i)).kind a b
  ·rw [hr] at h2
   repeat first
   |(apply U9 h1 rfl;(focus (simp only [q8.aP,q8.ev,q8.get,Nat.reduceEqDiff,↓reduceIte,hE]));(focus exact X1 hT.fz hz U2))
   |(apply U9 h2 rfl;(focus (simp only [q8.aP,q8.ev,q8.get,Nat.reduceEqDiff,↓reduceIte,hE]));(focus rfl))
   |refine zW (Y3 hE hg o1 o2 o3 hlen iB) ?_
   exact ⟨.inr trivial,_,rR,_,rfl,by simp⟩
  ·rw [hr] at h2
   repeat first
   |(apply U9 h1 rfl;(focus (simp only [q8.aP,q8.ev,q8.get,Nat.reduceEqDiff,↓reduceIte,hE]));(focus exact X1 hT.fz hz U2))
   |(apply U9 h2 rfl;(focus (simp only [q8.aP,q8.ev,q8.get,Nat.reduceEqDiff,↓reduceIte,hE]));(focus rfl))
   |refine zW (U5 hE hg o1 o2 o3 hlen iB hs) ?_
   refine ⟨x.kids.length-(i+1),by omega,i+1,by omega,rfl,fun j h1 h2 h3=>?_,hg,(rG hE)⟩;by_cases e:j=i
   ·subst e;exact b27.1 hr
   ·exact gU j h1 (by omega) h3
 ·have iB:((i:Int)<(x.kids.length:Int))=False:=eq_false (by omega)
  try refine zW (Y3 hE hg o1 o2 o3 hlen iB) ?_
  exact ⟨.inr trivial,_,rR,_,rfl,fun _ j h1 h2=>gU j h1 (by omega) h2⟩
theorem a46 {d:D} {t:List Nd} {x:Nd} (hT:X8 d t) (hx:x.Ok) (hk:a1P t x) {f l m:Nat} (hf:f<=2) (hl:l<=1) (hm:m<=800):a0s 114 [d,.agg x.row,.int .i64 (f:Int),.int .i64 (l:Int),.int .i64 (m:Int)] fun r=>r=true->f+l<=x.kids.length/\x.kids.length<=f+m/\∀i,i<x.kids.length->(i<f->17<=(nd t (x.aC i)).kind/\(nd t (x.aC i)).kind<=22)/\(f<=i->(nd t (x.aC i)).kind=16):=by
 refine a0B ?_;have o1:=FL.one hx.w;have o2:=FL.one hx.n;have o3:=FL.one hx.k;have hlen:=FI.len hx.k;have hz:=hx.fz;have e1:IntKind.i64.wrap ((f:Int)+(l:Int))=((f+l:Nat):Int):=by rw [Z5 (by omega) (by omega)];omega
 have e2:IntKind.i64.wrap ((f:Int)+(m:Int))=((f+m:Nat):Int):=by rw [Z5 (by omega) (by omega)];omega
 unfold Nd.row;refine V9 (vf:=b4p) rfl ?_;unfold b4p;refine zE ?_;try refine zW (V3 o1 o2 o3 hlen) ?_
 refine a1c (Q:=a0j 0 _) (fun n env s=>∃i:Nat,i<=x.kids.length/\n=x.kids.length-i/\(∀j,j<i->(j<f->17<=(nd t (x.aC j)).kind/\(nd t (x.aC j)).kind<=22)/\(f<=j->(nd t (x.aC j)).kind=16))/\s.get 0=some (.cells [.int .i64 x.kind,x.dw,x.dn,x.dk,.int .i64 x.pos])/\(env.get 0=d/\env.get 2=.int .i64 (f:Int)/\env.get 3=.int .i64 (l:Int)/\env.get 4=.int .i64 (m:Int)/\env.get 6=.ptr 0 0/\env.get 11=.int .i64 (x.kids.length:Int)/\env.get 12=.int .i64 (i:Int))) ?_ x.kids.length _ _ ⟨0,by omega,rfl,fun j h=>by omega,W2 rfl,by simp [q8.get,a0f.at];rfl⟩;rintro n env s ⟨i,hi,rfl,gU,hg,hE⟩;by_cases c3:i<x.kids.length
 ·have iB:((i:Int)<(x.kids.length:Int))=True:=eq_true (by omega)
  have hs:=a4T c3 hx.kl;have jJ:=hk _ (List.getElem_mem c3);have h1:=b2T hT hx c3 jJ.1 jJ.2;unfold Nd.row at h1;have h2:=b0I (k:=(nd t (x.aC i)).kind) (a:=17) (b:=22);by_cases c4:i<f
  ·have jf:((i:Int)<(f:Int))=True:=eq_true (by omega)
   have oi:((f:Int)<=(i:Int))=False:=eq_false (by omega);cases hr:inR (nd t (x.aC i)).kind 17 22
   ·rw [hr] at h2
    repeat first
    |(apply U9 h1 rfl;(focus (simp only [q8.aP,q8.ev,q8.get,Nat.reduceEqDiff,↓reduceIte,hE]));(focus exact X1 hT.fz hz U2))
    |(apply U9 h2 rfl;(focus (simp only [q8.aP,q8.ev,q8.get,Nat.reduceEqDiff,↓reduceIte,hE]));(focus rfl))
    |refine zW (U5 hE hg o1 o2 o3 hlen iB (aN jf oi)) ?_
    exact ⟨.inr trivial,_,rR,_,rfl,by simp⟩
   ·rw [hr] at h2
    repeat first
    |(apply U9 h1 rfl;(focus (simp only [q8.aP,q8.ev,q8.get,Nat.reduceEqDiff,↓reduceIte,hE]));(focus exact X1 hT.fz hz U2))
    |(apply U9 h2 rfl;(focus (simp only [q8.aP,q8.ev,q8.get,Nat.reduceEqDiff,↓reduceIte,hE]));(focus rfl))
    |refine zW (U5 hE hg o1 o2 o3 hlen iB (V5 jf oi hs)) ?_
    refine ⟨x.kids.length-(i+1),by omega,i+1,by omega,rfl,fun j h=>?_,hg,(rG hE)⟩;by_cases e:j=i
    ·subst e;exact ⟨fun _=>b27.1 hr,fun h=>by omega⟩
    ·exact gU j (by omega)
  ·have jf:((i:Int)<(f:Int))=False:=eq_false (by omega)
   have oi:((f:Int)<=(i:Int))=True:=eq_true (by omega);by_cases c6:(nd t (x.aC i)).kind=16
   ·have yX:((nd t (x.aC i)).kind != 16)=false:=by rw [c6];rfl
    repeat first
    |(apply U9 h1 rfl;(focus (simp only [q8.aP,q8.ev,q8.get,Nat.reduceEqDiff,↓reduceIte,hE]));(focus exact X1 hT.fz hz U2))
    |(apply U9 h2 rfl;(focus (simp only [q8.aP,q8.ev,q8.get,Nat.reduceEqDiff,↓reduceIte,hE]));(focus rfl))
    |refine zW (U5 hE hg o1 o2 o3 hlen iB (V3 jf oi yX hs)) ?_
    refine ⟨x.kids.length-(i+1),by omega,i+1,by omega,rfl,fun j h=>?_,hg,(rG hE)⟩;by_cases e:j=i
    ·subst e;exact ⟨fun h=>by omega,fun _=>c6⟩
    ·exact gU j (by omega)
   ·have yX:((nd t (x.aC i)).kind != 16)=true:=by rw [bne_iff_ne];exact c6
    repeat first
    |(apply U9 h1 rfl;(focus (simp only [q8.aP,q8.ev,q8.get,Nat.reduceEqDiff,↓reduceIte,hE]));(focus exact X1 hT.fz hz U2))
    |(apply U9 h2 rfl;(focus (simp only [q8.aP,q8.ev,q8.get,Nat.reduceEqDiff,↓reduceIte,hE]));(focus rfl))
    |refine zW (U5 hE hg o1 o2 o3 hlen iB (V5 jf oi yX)) ?_
    exact ⟨.inr trivial,_,rR,_,rfl,by simp⟩
 ·have iB:((i:Int)<(x.kids.length:Int))=False:=eq_false (by omega)
  by_cases c7:f+l<=x.kids.length
  ·have yz:(((f+l:Nat):Int)<=(x.kids.length:Int))=True:=eq_true (by omega)
   by_cases c8:x.kids.length<=f+m
   ·have Al:((x.kids.length:Int)<=((f+m:Nat):Int))=True:=eq_true (by omega)
    try refine zW (U5 hE hg o1 o2 o3 hlen iB (V3 e1 e2 yz Al)) ?_
    exact ⟨.inr trivial,_,rR,_,rfl,fun _=>⟨c7,c8,fun j h=>gU j (by omega)⟩⟩
   ·have Al:((x.kids.length:Int)<=((f+m:Nat):Int))=False:=eq_false (by omega)
    try refine zW (U5 hE hg o1 o2 o3 hlen iB (V3 e1 e2 yz Al)) ?_
    exact ⟨.inr trivial,_,rR,_,rfl,by simp⟩
  ·have yz:(((f+l:Nat):Int)<=(x.kids.length:Int))=False:=eq_false (by omega)
   try refine zW (U5 hE hg o1 o2 o3 hlen iB (V5 e1 e2 yz)) ?_
   exact ⟨.inr trivial,_,rR,_,rfl,by simp⟩
theorem node_0 {d:D} {t:List Nd} {x:Nd} (hT:X8 d t) (hx:x.Ok) (hk:a1P t x) (hK:x.kind=0):a0s 68 [d,.agg x.row] fun b=>b=true->(x.words.length:Int)=0/\((x.aH.length:Int)=0/\∀n∈x.aH,0<=n/\n<=0)/\∀i,0<=i->i<x.kids.length->1<=(nd t (x.aC i)).kind/\(nd t (x.aC i)).kind<=5:=by
 refine a0B ?_;have o1:=FL.one hx.w;have o2:=FL.one hx.n;have o3:=FL.one hx.k;have hlen:=FI.len hx.k;have hz:=hx.fz;have gV:x.row=[.int .i64 0,x.dw,x.dn,x.dk,.int .i64 x.pos]:=by unfold Nd.row;rw [hK]
 obtain ⟨b1,h1,p1⟩:=a19 hx (c:=0);obtain ⟨b2,h2,p2⟩:=a2l hx (c:=0) (m:=0);obtain ⟨b3,h3,p3⟩:=b30 hT hx hk (f:=0) (a:=1) (b:=5);rw [gV] at h1 h2 hz h3 ⊢;cases b1<;>cases b2
 all_goals
  refine V9 (vf:=Z4) rfl ?_;unfold Z4;refine zE ?_;repeat first
  |(apply U9 h1 rfl rfl (X3 hz U2))
  |(apply U9 h2 rfl rfl (X1 hz U2 U2))
  |(apply U9 h3 rfl rfl (fK hT.fz hz U2 U2 U2))
  |refine zW (V3 o1 o2 o3 hlen) ?_
  first
   | exact ⟨.inr trivial,_,rR,_,rfl,fun h=>⟨p1 rfl,p2 rfl,p3 h⟩⟩
   | exact ⟨.inr trivial,_,rR,_,rfl,by simp⟩
theorem node_4 {d:D} {t:List Nd} {x:Nd} (hT:X8 d t) (hx:x.Ok) (hk:a1P t x) (hK:x.kind=4):a0s 68 [d,.agg x.row] fun b=>b=true->(x.words.length:Int)=0/\((x.aH.length:Int)=0/\∀n∈x.aH,0<=n/\n<=0)/\1<=x.kids.length/\x.kids.length<=1/\∀i,i<x.kids.length->(i<1->17<=(nd t (x.aC i)).kind/\(nd t (x.aC i)).kind<=22)/\(1<=i->(nd t (x.aC i)).kind=16):=by
 refine a0B ?_;have o1:=FL.one hx.w;have o2:=FL.one hx.n;have o3:=FL.one hx.k;have hlen:=FI.len hx.k;have hz:=hx.fz;have gV:x.row=[.int .i64 4,x.dw,x.dn,x.dk,.int .i64 x.pos]:=by unfold Nd.row;rw [hK]
 obtain ⟨b1,h1,p1⟩:=a19 hx (c:=0);obtain ⟨b2,h2,p2⟩:=a2l hx (c:=0) (m:=0);obtain ⟨b3,h3,p3⟩:=a46 hT hx hk (f:=1) (l:=0) (m:=0) (by omega) (by omega) (by omega);rw [gV] at h1 h2 hz h3 ⊢;cases b1<;>cases b2
 all_goals
  refine V9 (vf:=Z4) rfl ?_;unfold Z4;refine zE ?_;repeat first
  |(apply U9 h1 rfl rfl (X3 hz U2))
  |(apply U9 h2 rfl rfl (X1 hz U2 U2))
  |(apply U9 h3 rfl rfl (fK hT.fz hz U2 U2 U2))
  |refine zW (V3 o1 o2 o3 hlen) ?_
  first
   | exact ⟨.inr trivial,_,rR,_,rfl,fun h=>⟨p1 rfl,p2 rfl,p3 h⟩⟩
   | exact ⟨.inr trivial,_,rR,_,rfl,by simp⟩
theorem node_5 {d:D} {t:List Nd} {x:Nd} (hT:X8 d t) (hx:x.Ok) (hk:a1P t x) (hK:x.kind=5):a0s 68 [d,.agg x.row] fun b=>b=true->(x.words.length:Int)=0/\((x.aH.length:Int)=0/\∀n∈x.aH,0<=n/\n<=0)/\x.kids=[]:=by
 refine a0B ?_;have o1:=FL.one hx.w;have o2:=FL.one hx.n;have o3:=FL.one hx.k;have hlen:=FI.len hx.k;have hz:=hx.fz;have gV:x.row=[.int .i64 5,x.dw,x.dn,x.dk,.int .i64 x.pos]:=by unfold Nd.row;rw [hK]
 obtain ⟨b1,h1,p1⟩:=a19 hx (c:=0);obtain ⟨b2,h2,p2⟩:=a2l hx (c:=0) (m:=0);rw [gV] at h1 h2 hz ⊢;have kg:((x.kids.length:Int)==0)=decide (x.kids=[]):=by
  rw [Bool.eq_iff_iff,beq_iff_eq,decide_eq_true_eq,<- List.length_eq_zero_iff];omega
 cases b1<;>cases b2
 all_goals
  refine V9 (vf:=Z4) rfl ?_;unfold Z4;refine zE ?_;repeat first
  |(apply U9 h1 rfl rfl (X3 hz U2))
  |(apply U9 h2 rfl rfl (X1 hz U2 U2))
  |refine zW (W6 o1 o2 o3 hlen kg) ?_
  first
   | exact ⟨.inr trivial,_,rR,_,rfl,fun h=>⟨p1 rfl,p2 rfl,of_decide_eq_true h⟩⟩
   | exact ⟨.inr trivial,_,rR,_,rfl,by simp⟩
theorem node_6 {d:D} {t:List Nd} {x:Nd} (hT:X8 d t) (hx:x.Ok) (hk:a1P t x) (hK:x.kind=6):a0s 68 [d,.agg x.row] fun b=>b=true->(x.words.length:Int)=1/\((x.aH.length:Int)=0/\∀n∈x.aH,0<=n/\n<=0)/\1<=x.kids.length/\x.kids.length<=1/\∀i,i<x.kids.length->(i<1->17<=(nd t (x.aC i)).kind/\(nd t (x.aC i)).kind<=22)/\(1<=i->(nd t (x.aC i)).kind=16):=by
 refine a0B ?_;have o1:=FL.one hx.w;have o2:=FL.one hx.n;have o3:=FL.one hx.k;have hlen:=FI.len hx.k;have hz:=hx.fz;have gV:x.row=[.int .i64 6,x.dw,x.dn,x.dk,.int .i64 x.pos]:=by unfold Nd.row;rw [hK]
 obtain ⟨b1,h1,p1⟩:=a19 hx (c:=1);obtain ⟨b2,h2,p2⟩:=a2l hx (c:=0) (m:=0);obtain ⟨b3,h3,p3⟩:=a46 hT hx hk (f:=1) (l:=0) (m:=0) (by omega) (by omega) (by omega);rw [gV] at h1 h2 hz h3 ⊢;cases b1<;>cases b2
 all_goals
  refine V9 (vf:=Z4) rfl ?_;unfold Z4;refine zE ?_;repeat first
  |(apply U9 h1 rfl rfl (X3 hz U2))
  |(apply U9 h2 rfl rfl (X1 hz U2 U2))
  |(apply U9 h3 rfl rfl (fK hT.fz hz U2 U2 U2))
  |refine zW (V3 o1 o2 o3 hlen) ?_
  first
   | exact ⟨.inr trivial,_,rR,_,rfl,fun h=>⟨p1 rfl,p2 rfl,p3 h⟩⟩
   | exact ⟨.inr trivial,_,rR,_,rfl,by simp⟩
theorem node_7 {d:D} {t:List Nd} {x:Nd} (hT:X8 d t) (hx:x.Ok) (hk:a1P t x) (hK:x.kind=7):a0s 68 [d,.agg x.row] fun b=>b=true->(x.words.length:Int)=1/\((x.aH.length:Int)=0/\∀n∈x.aH,0<=n/\n<=0)/\1<=x.kids.length/\x.kids.length<=1/\∀i,i<x.kids.length->(i<1->17<=(nd t (x.aC i)).kind/\(nd t (x.aC i)).kind<=22)/\(1<=i->(nd t (x.aC i)).kind=16):=by
 refine a0B ?_;have o1:=FL.one hx.w;have o2:=FL.one hx.n;have o3:=FL.one hx.k;have hlen:=FI.len hx.k;have hz:=hx.fz;have gV:x.row=[.int .i64 7,x.dw,x.dn,x.dk,.int .i64 x.pos]:=by unfold Nd.row;rw [hK]
 obtain ⟨b1,h1,p1⟩:=a19 hx (c:=1);obtain ⟨b2,h2,p2⟩:=a2l hx (c:=0) (m:=0);obtain ⟨b3,h3,p3⟩:=a46 hT hx hk (f:=1) (l:=0) (m:=0) (by omega) (by omega) (by omega);rw [gV] at h1 h2 hz h3 ⊢;cases b1<;>cases b2
 all_goals
  refine V9 (vf:=Z4) rfl ?_;unfold Z4;refine zE ?_;repeat first
  |(apply U9 h1 rfl rfl (X3 hz U2))
  |(apply U9 h2 rfl rfl (X1 hz U2 U2))
  |(apply U9 h3 rfl rfl (fK hT.fz hz U2 U2 U2))
  |refine zW (V3 o1 o2 o3 hlen) ?_
  first
   | exact ⟨.inr trivial,_,rR,_,rfl,fun h=>⟨p1 rfl,p2 rfl,p3 h⟩⟩
   | exact ⟨.inr trivial,_,rR,_,rfl,by simp⟩
theorem node_8 {d:D} {t:List Nd} {x:Nd} (hT:X8 d t) (hx:x.Ok) (hk:a1P t x) (hK:x.kind=8):a0s 68 [d,.agg x.row] fun b=>b=true->(x.words.length:Int)=2/\((x.aH.length:Int)=1/\∀n∈x.aH,0<=n/\n<=1)/\x.kids=[]:=by
 refine a0B ?_;have o1:=FL.one hx.w;have o2:=FL.one hx.n;have o3:=FL.one hx.k;have hlen:=FI.len hx.k;have hz:=hx.fz;have gV:x.row=[.int .i64 8,x.dw,x.dn,x.dk,.int .i64 x.pos]:=by unfold Nd.row;rw [hK]
 obtain ⟨b1,h1,p1⟩:=a19 hx (c:=2);obtain ⟨b2,h2,p2⟩:=a2l hx (c:=1) (m:=1);rw [gV] at h1 h2 hz ⊢;have kg:((x.kids.length:Int)==0)=decide (x.kids=[]):=by
  rw [Bool.eq_iff_iff,beq_iff_eq,decide_eq_true_eq,<- List.length_eq_zero_iff];omega
 cases b1<;>cases b2
 all_goals
  refine V9 (vf:=Z4) rfl ?_;unfold Z4;refine zE ?_;repeat first
  |(apply U9 h1 rfl rfl (X3 hz U2))
  |(apply U9 h2 rfl rfl (X1 hz U2 U2))
  |refine zW (W6 o1 o2 o3 hlen kg) ?_
  first
   | exact ⟨.inr trivial,_,rR,_,rfl,fun h=>⟨p1 rfl,p2 rfl,of_decide_eq_true h⟩⟩
   | exact ⟨.inr trivial,_,rR,_,rfl,by simp⟩
theorem node_9 {d:D} {t:List Nd} {x:Nd} (hT:X8 d t) (hx:x.Ok) (hk:a1P t x) (hK:x.kind=9):a0s 68 [d,.agg x.row] fun b=>b=true->(x.words.length:Int)=0/\((x.aH.length:Int)=1/\∀n∈x.aH,0<=n/\n<=1)/\1<=x.kids.length/\x.kids.length<=1/\∀i,i<x.kids.length->(i<1->17<=(nd t (x.aC i)).kind/\(nd t (x.aC i)).kind<=22)/\(1<=i->(nd t (x.aC i)).kind=16):=by
 refine a0B ?_;have o1:=FL.one hx.w;have o2:=FL.one hx.n;have o3:=FL.one hx.k;have hlen:=FI.len hx.k;have hz:=hx.fz;have gV:x.row=[.int .i64 9,x.dw,x.dn,x.dk,.int .i64 x.pos]:=by unfold Nd.row;rw [hK]
 obtain ⟨b1,h1,p1⟩:=a19 hx (c:=0);obtain ⟨b2,h2,p2⟩:=a2l hx (c:=1) (m:=1);obtain ⟨b3,h3,p3⟩:=a46 hT hx hk (f:=1) (l:=0) (m:=0) (by omega) (by omega) (by omega);rw [gV] at h1 h2 hz h3 ⊢;cases b1<;>cases b2
 all_goals
  refine V9 (vf:=Z4) rfl ?_;unfold Z4;refine zE ?_;repeat first
  |(apply U9 h1 rfl rfl (X3 hz U2))
  |(apply U9 h2 rfl rfl (X1 hz U2 U2))
  |(apply U9 h3 rfl rfl (fK hT.fz hz U2 U2 U2))
  |refine zW (V3 o1 o2 o3 hlen) ?_
  first
   | exact ⟨.inr trivial,_,rR,_,rfl,fun h=>⟨p1 rfl,p2 rfl,p3 h⟩⟩
   | exact ⟨.inr trivial,_,rR,_,rfl,by simp⟩
theorem c2e {d:D} {t:List Nd} {x:Nd} (hT:X8 d t) (hx:x.Ok) (hk:a1P t x) (hK:x.kind=10):a0s 68 [d,.agg x.row] fun b=>b=true->(x.words.length:Int)=0/\((x.aH.length:Int)=1/\∀n∈x.aH,0<=n/\n<=1)/\1<=x.kids.length/\x.kids.length<=800/\∀i,i<x.kids.length->(i<0->17<=(nd t (x.aC i)).kind/\(nd t (x.aC i)).kind<=22)/\(0<=i->(nd t (x.aC i)).kind=16):=by
 refine a0B ?_;have o1:=FL.one hx.w;have o2:=FL.one hx.n;have o3:=FL.one hx.k;have hlen:=FI.len hx.k;have hz:=hx.fz;have gV:x.row=[.int .i64 10,x.dw,x.dn,x.dk,.int .i64 x.pos]:=by unfold Nd.row;rw [hK]
 obtain ⟨b1,h1,p1⟩:=a19 hx (c:=0);obtain ⟨b2,h2,p2⟩:=a2l hx (c:=1) (m:=1);obtain ⟨b3,h3,p3⟩:=a46 hT hx hk (f:=0) (l:=1) (m:=800) (by omega) (by omega) (by omega);rw [gV] at h1 h2 hz h3 ⊢;cases b1<;>cases b2
 all_goals
  refine V9 (vf:=Z4) rfl ?_;unfold Z4;refine zE ?_;repeat first
  |(apply U9 h1 rfl rfl (X3 hz U2))
  |(apply U9 h2 rfl rfl (X1 hz U2 U2))
  |(apply U9 h3 rfl rfl (fK hT.fz hz U2 U2 U2))
  |refine zW (V3 o1 o2 o3 hlen) ?_
  first
   | exact ⟨.inr trivial,_,rR,_,rfl,fun h=>⟨p1 rfl,p2 rfl,p3 h⟩⟩
   | exact ⟨.inr trivial,_,rR,_,rfl,by simp⟩
theorem c1R {d:D} {t:List Nd} {x:Nd} (hT:X8 d t) (hx:x.Ok) (hk:a1P t x) (hK:x.kind=11):a0s 68 [d,.agg x.row] fun b=>b=true->(x.words.length:Int)=0/\((x.aH.length:Int)=0/\∀n∈x.aH,0<=n/\n<=0)/\2<=x.kids.length/\x.kids.length<=3/\∀i,i<x.kids.length->(i<1->17<=(nd t (x.aC i)).kind/\(nd t (x.aC i)).kind<=22)/\(1<=i->(nd t (x.aC i)).kind=16):=by
 refine a0B ?_;have o1:=FL.one hx.w;have o2:=FL.one hx.n;have o3:=FL.one hx.k;have hlen:=FI.len hx.k;have hz:=hx.fz;have gV:x.row=[.int .i64 11,x.dw,x.dn,x.dk,.int .i64 x.pos]:=by unfold Nd.row;rw [hK]
 obtain ⟨b1,h1,p1⟩:=a19 hx (c:=0);obtain ⟨b2,h2,p2⟩:=a2l hx (c:=0) (m:=0);obtain ⟨b3,h3,p3⟩:=a46 hT hx hk (f:=1) (l:=1) (m:=2) (by omega) (by omega) (by omega);rw [gV] at h1 h2 hz h3 ⊢;cases b1<;>cases b2
 all_goals
  refine V9 (vf:=Z4) rfl ?_;unfold Z4;refine zE ?_;repeat first
  |(apply U9 h1 rfl rfl (X3 hz U2))
  |(apply U9 h2 rfl rfl (X1 hz U2 U2))
  |(apply U9 h3 rfl rfl (fK hT.fz hz U2 U2 U2))
  |refine zW (V3 o1 o2 o3 hlen) ?_
  first
   | exact ⟨.inr trivial,_,rR,_,rfl,fun h=>⟨p1 rfl,p2 rfl,p3 h⟩⟩
   | exact ⟨.inr trivial,_,rR,_,rfl,by simp⟩
theorem c1y {d:D} {t:List Nd} {x:Nd} (hT:X8 d t) (hx:x.Ok) (hk:a1P t x) (hK:x.kind=12):a0s 68 [d,.agg x.row] fun b=>b=true->(x.words.length:Int)=0/\((x.aH.length:Int)=0/\∀n∈x.aH,0<=n/\n<=0)/\2<=x.kids.length/\x.kids.length<=2/\∀i,i<x.kids.length->(i<1->17<=(nd t (x.aC i)).kind/\(nd t (x.aC i)).kind<=22)/\(1<=i->(nd t (x.aC i)).kind=16):=by
 refine a0B ?_;have o1:=FL.one hx.w;have o2:=FL.one hx.n;have o3:=FL.one hx.k;have hlen:=FI.len hx.k;have hz:=hx.fz;have gV:x.row=[.int .i64 12,x.dw,x.dn,x.dk,.int .i64 x.pos]:=by unfold Nd.row;rw [hK]
 obtain ⟨b1,h1,p1⟩:=a19 hx (c:=0);obtain ⟨b2,h2,p2⟩:=a2l hx (c:=0) (m:=0);obtain ⟨b3,h3,p3⟩:=a46 hT hx hk (f:=1) (l:=1) (m:=1) (by omega) (by omega) (by omega);rw [gV] at h1 h2 hz h3 ⊢;cases b1<;>cases b2
 all_goals
  refine V9 (vf:=Z4) rfl ?_;unfold Z4;refine zE ?_;repeat first
  |(apply U9 h1 rfl rfl (X3 hz U2))
  |(apply U9 h2 rfl rfl (X1 hz U2 U2))
  |(apply U9 h3 rfl rfl (fK hT.fz hz U2 U2 U2))
  |refine zW (V3 o1 o2 o3 hlen) ?_
  first
   | exact ⟨.inr trivial,_,rR,_,rfl,fun h=>⟨p1 rfl,p2 rfl,p3 h⟩⟩
   | exact ⟨.inr trivial,_,rR,_,rfl,by simp⟩
theorem c5t {d:D} {t:List Nd} {x:Nd} (hT:X8 d t) (hx:x.Ok) (hk:a1P t x) (hK:x.kind=13):a0s 68 [d,.agg x.row] fun b=>b=true->(x.words.length:Int)=0/\((x.aH.length:Int)=0/\∀n∈x.aH,0<=n/\n<=0)/\1<=x.kids.length/\x.kids.length<=1/\∀i,i<x.kids.length->(i<0->17<=(nd t (x.aC i)).kind/\(nd t (x.aC i)).kind<=22)/\(0<=i->(nd t (x.aC i)).kind=16):=by
 refine a0B ?_;have o1:=FL.one hx.w;have o2:=FL.one hx.n;have o3:=FL.one hx.k;have hlen:=FI.len hx.k;have hz:=hx.fz;have gV:x.row=[.int .i64 13,x.dw,x.dn,x.dk,.int .i64 x.pos]:=by unfold Nd.row;rw [hK]
 obtain ⟨b1,h1,p1⟩:=a19 hx (c:=0);obtain ⟨b2,h2,p2⟩:=a2l hx (c:=0) (m:=0);obtain ⟨b3,h3,p3⟩:=a46 hT hx hk (f:=0) (l:=1) (m:=1) (by omega) (by omega) (by omega);rw [gV] at h1 h2 hz h3 ⊢;cases b1<;>cases b2
 all_goals
  refine V9 (vf:=Z4) rfl ?_;unfold Z4;refine zE ?_;repeat first
  |(apply U9 h1 rfl rfl (X3 hz U2))
  |(apply U9 h2 rfl rfl (X1 hz U2 U2))
  |(apply U9 h3 rfl rfl (fK hT.fz hz U2 U2 U2))
  |refine zW (V3 o1 o2 o3 hlen) ?_
  first
   | exact ⟨.inr trivial,_,rR,_,rfl,fun h=>⟨p1 rfl,p2 rfl,p3 h⟩⟩
   | exact ⟨.inr trivial,_,rR,_,rfl,by simp⟩
theorem c5p {d:D} {t:List Nd} {x:Nd} (hT:X8 d t) (hx:x.Ok) (hk:a1P t x) (hK:x.kind=14):a0s 68 [d,.agg x.row] fun b=>b=true->(x.words.length:Int)=0/\((x.aH.length:Int)=0/\∀n∈x.aH,0<=n/\n<=0)/\x.kids=[]:=by
 refine a0B ?_;have o1:=FL.one hx.w;have o2:=FL.one hx.n;have o3:=FL.one hx.k;have hlen:=FI.len hx.k;have hz:=hx.fz;have gV:x.row=[.int .i64 14,x.dw,x.dn,x.dk,.int .i64 x.pos]:=by unfold Nd.row;rw [hK]
 obtain ⟨b1,h1,p1⟩:=a19 hx (c:=0);obtain ⟨b2,h2,p2⟩:=a2l hx (c:=0) (m:=0);rw [gV] at h1 h2 hz ⊢;have kg:((x.kids.length:Int)==0)=decide (x.kids=[]):=by
  rw [Bool.eq_iff_iff,beq_iff_eq,decide_eq_true_eq,<- List.length_eq_zero_iff];omega
 cases b1<;>cases b2
 all_goals
  refine V9 (vf:=Z4) rfl ?_;unfold Z4;refine zE ?_;repeat first
  |(apply U9 h1 rfl rfl (X3 hz U2))
  |(apply U9 h2 rfl rfl (X1 hz U2 U2))
  |refine zW (W6 o1 o2 o3 hlen kg) ?_
  first
   | exact ⟨.inr trivial,_,rR,_,rfl,fun h=>⟨p1 rfl,p2 rfl,of_decide_eq_true h⟩⟩
   | exact ⟨.inr trivial,_,rR,_,rfl,by simp⟩
theorem c2X {d:D} {t:List Nd} {x:Nd} (hT:X8 d t) (hx:x.Ok) (hk:a1P t x) (hK:x.kind=15):a0s 68 [d,.agg x.row] fun b=>b=true->(x.words.length:Int)=0/\((x.aH.length:Int)=0/\∀n∈x.aH,0<=n/\n<=0)/\x.kids=[]:=by
 refine a0B ?_;have o1:=FL.one hx.w;have o2:=FL.one hx.n;have o3:=FL.one hx.k;have hlen:=FI.len hx.k;have hz:=hx.fz;have gV:x.row=[.int .i64 15,x.dw,x.dn,x.dk,.int .i64 x.pos]:=by unfold Nd.row;rw [hK]
 obtain ⟨b1,h1,p1⟩:=a19 hx (c:=0);obtain ⟨b2,h2,p2⟩:=a2l hx (c:=0) (m:=0);rw [gV] at h1 h2 hz ⊢;have kg:((x.kids.length:Int)==0)=decide (x.kids=[]):=by
  rw [Bool.eq_iff_iff,beq_iff_eq,decide_eq_true_eq,<- List.length_eq_zero_iff];omega
 cases b1<;>cases b2
 all_goals
  refine V9 (vf:=Z4) rfl ?_;unfold Z4;refine zE ?_;repeat first
  |(apply U9 h1 rfl rfl (X3 hz U2))
  |(apply U9 h2 rfl rfl (X1 hz U2 U2))
  |refine zW (W6 o1 o2 o3 hlen kg) ?_
  first
   | exact ⟨.inr trivial,_,rR,_,rfl,fun h=>⟨p1 rfl,p2 rfl,of_decide_eq_true h⟩⟩
   | exact ⟨.inr trivial,_,rR,_,rfl,by simp⟩
theorem c0K {d:D} {t:List Nd} {x:Nd} (hT:X8 d t) (hx:x.Ok) (hk:a1P t x) (hK:x.kind=16):a0s 68 [d,.agg x.row] fun b=>b=true->(x.words.length:Int)=0/\((x.aH.length:Int)=0/\∀n∈x.aH,0<=n/\n<=0)/\∀i,0<=i->i<x.kids.length->6<=(nd t (x.aC i)).kind/\(nd t (x.aC i)).kind<=15:=by
 refine a0B ?_;have o1:=FL.one hx.w;have o2:=FL.one hx.n;have o3:=FL.one hx.k;have hlen:=FI.len hx.k;have hz:=hx.fz;have gV:x.row=[.int .i64 16,x.dw,x.dn,x.dk,.int .i64 x.pos]:=by unfold Nd.row;rw [hK]
 obtain ⟨b1,h1,p1⟩:=a19 hx (c:=0);obtain ⟨b2,h2,p2⟩:=a2l hx (c:=0) (m:=0);obtain ⟨b3,h3,p3⟩:=b30 hT hx hk (f:=0) (a:=6) (b:=15);rw [gV] at h1 h2 hz h3 ⊢;cases b1<;>cases b2
 all_goals
  refine V9 (vf:=Z4) rfl ?_;unfold Z4;refine zE ?_;repeat first
  |(apply U9 h1 rfl rfl (X3 hz U2))
  |(apply U9 h2 rfl rfl (X1 hz U2 U2))
  |(apply U9 h3 rfl rfl (fK hT.fz hz U2 U2 U2))
  |refine zW (V3 o1 o2 o3 hlen) ?_
  first
   | exact ⟨.inr trivial,_,rR,_,rfl,fun h=>⟨p1 rfl,p2 rfl,p3 h⟩⟩
   | exact ⟨.inr trivial,_,rR,_,rfl,by simp⟩
theorem c0O {d:D} {t:List Nd} {x:Nd} (hT:X8 d t) (hx:x.Ok) (hk:a1P t x) (hK:x.kind=17):a0s 68 [d,.agg x.row] fun b=>b=true->(x.words.length:Int)=0/\((x.aH.length:Int)=1/\∀n∈x.aH,0<=n/\n<=999999)/\x.kids=[]:=by
 refine a0B ?_;have o1:=FL.one hx.w;have o2:=FL.one hx.n;have o3:=FL.one hx.k;have hlen:=FI.len hx.k;have hz:=hx.fz;have gV:x.row=[.int .i64 17,x.dw,x.dn,x.dk,.int .i64 x.pos]:=by unfold Nd.row;rw [hK]
 obtain ⟨b1,h1,p1⟩:=a19 hx (c:=0);obtain ⟨b2,h2,p2⟩:=a2l hx (c:=1) (m:=999999);rw [gV] at h1 h2 hz ⊢;have kg:((x.kids.length:Int)==0)=decide (x.kids=[]):=by
  rw [Bool.eq_iff_iff,beq_iff_eq,decide_eq_true_eq,<- List.length_eq_zero_iff];omega
 cases b1<;>cases b2
 all_goals
  refine V9 (vf:=Z4) rfl ?_;unfold Z4;refine zE ?_;repeat first
  |(apply U9 h1 rfl rfl (X3 hz U2))
  |(apply U9 h2 rfl rfl (X1 hz U2 U2))
  |refine zW (W6 o1 o2 o3 hlen kg) ?_
  first
   | exact ⟨.inr trivial,_,rR,_,rfl,fun h=>⟨p1 rfl,p2 rfl,of_decide_eq_true h⟩⟩
   | exact ⟨.inr trivial,_,rR,_,rfl,by simp⟩
theorem c07 {d:D} {t:List Nd} {x:Nd} (hT:X8 d t) (hx:x.Ok) (hk:a1P t x) (hK:x.kind=18):a0s 68 [d,.agg x.row] fun b=>b=true->(x.words.length:Int)=1/\((x.aH.length:Int)=0/\∀n∈x.aH,0<=n/\n<=0)/\x.kids=[]:=by
 refine a0B ?_;have o1:=FL.one hx.w;have o2:=FL.one hx.n;have o3:=FL.one hx.k;have hlen:=FI.len hx.k;have hz:=hx.fz;have gV:x.row=[.int .i64 18,x.dw,x.dn,x.dk,.int .i64 x.pos]:=by unfold Nd.row;rw [hK]
 obtain ⟨b1,h1,p1⟩:=a19 hx (c:=1);obtain ⟨b2,h2,p2⟩:=a2l hx (c:=0) (m:=0);rw [gV] at h1 h2 hz ⊢;have kg:((x.kids.length:Int)==0)=decide (x.kids=[]):=by
  rw [Bool.eq_iff_iff,beq_iff_eq,decide_eq_true_eq,<- List.length_eq_zero_iff];omega
 cases b1<;>cases b2
 all_goals
  refine V9 (vf:=Z4) rfl ?_;unfold Z4;refine zE ?_;repeat first
  |(apply U9 h1 rfl rfl (X3 hz U2))
  |(apply U9 h2 rfl rfl (X1 hz U2 U2))
  |refine zW (W6 o1 o2 o3 hlen kg) ?_
  first
   | exact ⟨.inr trivial,_,rR,_,rfl,fun h=>⟨p1 rfl,p2 rfl,of_decide_eq_true h⟩⟩
   | exact ⟨.inr trivial,_,rR,_,rfl,by simp⟩
theorem c4G {d:D} {t:List Nd} {x:Nd} (hT:X8 d t) (hx:x.Ok) (hk:a1P t x) (hK:x.kind=19):a0s 68 [d,.agg x.row] fun b=>b=true->(x.words.length:Int)=1/\((x.aH.length:Int)=0/\∀n∈x.aH,0<=n/\n<=0)/\x.kids=[]:=by
 refine a0B ?_;have o1:=FL.one hx.w;have o2:=FL.one hx.n;have o3:=FL.one hx.k;have hlen:=FI.len hx.k;have hz:=hx.fz;have gV:x.row=[.int .i64 19,x.dw,x.dn,x.dk,.int .i64 x.pos]:=by unfold Nd.row;rw [hK]
 obtain ⟨b1,h1,p1⟩:=a19 hx (c:=1);obtain ⟨b2,h2,p2⟩:=a2l hx (c:=0) (m:=0);rw [gV] at h1 h2 hz ⊢;have kg:((x.kids.length:Int)==0)=decide (x.kids=[]):=by
  rw [Bool.eq_iff_iff,beq_iff_eq,decide_eq_true_eq,<- List.length_eq_zero_iff];omega
 cases b1<;>cases b2
 all_goals
  refine V9 (vf:=Z4) rfl ?_;unfold Z4;refine zE ?_;repeat first
  |(apply U9 h1 rfl rfl (X3 hz U2))
  |(apply U9 h2 rfl rfl (X1 hz U2 U2))
  |refine zW (W6 o1 o2 o3 hlen kg) ?_
  first
   | exact ⟨.inr trivial,_,rR,_,rfl,fun h=>⟨p1 rfl,p2 rfl,of_decide_eq_true h⟩⟩
   | exact ⟨.inr trivial,_,rR,_,rfl,by simp⟩
theorem c3h {d:D} {t:List Nd} {x:Nd} (hT:X8 d t) (hx:x.Ok) (hk:a1P t x) (hK:x.kind=20):a0s 68 [d,.agg x.row] fun b=>b=true->(x.words.length:Int)=0/\((x.aH.length:Int)=0/\∀n∈x.aH,0<=n/\n<=0)/\1<=x.kids.length/\x.kids.length<=1/\∀i,i<x.kids.length->(i<1->17<=(nd t (x.aC i)).kind/\(nd t (x.aC i)).kind<=22)/\(1<=i->(nd t (x.aC i)).kind=16):=by
 refine a0B ?_;have o1:=FL.one hx.w;have o2:=FL.one hx.n;have o3:=FL.one hx.k;have hlen:=FI.len hx.k;have hz:=hx.fz;have gV:x.row=[.int .i64 20,x.dw,x.dn,x.dk,.int .i64 x.pos]:=by unfold Nd.row;rw [hK]
 obtain ⟨b1,h1,p1⟩:=a19 hx (c:=0);obtain ⟨b2,h2,p2⟩:=a2l hx (c:=0) (m:=0);obtain ⟨b3,h3,p3⟩:=a46 hT hx hk (f:=1) (l:=0) (m:=0) (by omega) (by omega) (by omega);rw [gV] at h1 h2 hz h3 ⊢;cases b1<;>cases b2
 all_goals
  refine V9 (vf:=Z4) rfl ?_;unfold Z4;refine zE ?_;repeat first
  |(apply U9 h1 rfl rfl (X3 hz U2))
  |(apply U9 h2 rfl rfl (X1 hz U2 U2))
  |(apply U9 h3 rfl rfl (fK hT.fz hz U2 U2 U2))
  |refine zW (V3 o1 o2 o3 hlen) ?_
  first
   | exact ⟨.inr trivial,_,rR,_,rfl,fun h=>⟨p1 rfl,p2 rfl,p3 h⟩⟩
   | exact ⟨.inr trivial,_,rR,_,rfl,by simp⟩
theorem c0M {d:D} {t:List Nd} {x:Nd} (hT:X8 d t) (hx:x.Ok) (hk:a1P t x) (hK:x.kind=21):a0s 68 [d,.agg x.row] fun b=>b=true->(x.words.length:Int)=0/\((x.aH.length:Int)=0/\∀n∈x.aH,0<=n/\n<=0)/\1<=x.kids.length/\x.kids.length<=1/\∀i,i<x.kids.length->(i<1->17<=(nd t (x.aC i)).kind/\(nd t (x.aC i)).kind<=22)/\(1<=i->(nd t (x.aC i)).kind=16):=by
 refine a0B ?_;have o1:=FL.one hx.w;have o2:=FL.one hx.n;have o3:=FL.one hx.k;have hlen:=FI.len hx.k;have hz:=hx.fz;have gV:x.row=[.int .i64 21,x.dw,x.dn,x.dk,.int .i64 x.pos]:=by unfold Nd.row;rw [hK]
 obtain ⟨b1,h1,p1⟩:=a19 hx (c:=0);obtain ⟨b2,h2,p2⟩:=a2l hx (c:=0) (m:=0);obtain ⟨b3,h3,p3⟩:=a46 hT hx hk (f:=1) (l:=0) (m:=0) (by omega) (by omega) (by omega);rw [gV] at h1 h2 hz h3 ⊢;cases b1<;>cases b2
 all_goals
  refine V9 (vf:=Z4) rfl ?_;unfold Z4;refine zE ?_;repeat first
  |(apply U9 h1 rfl rfl (X3 hz U2))
  |(apply U9 h2 rfl rfl (X1 hz U2 U2))
  |(apply U9 h3 rfl rfl (fK hT.fz hz U2 U2 U2))
  |refine zW (V3 o1 o2 o3 hlen) ?_
  first
   | exact ⟨.inr trivial,_,rR,_,rfl,fun h=>⟨p1 rfl,p2 rfl,p3 h⟩⟩
   | exact ⟨.inr trivial,_,rR,_,rfl,by simp⟩
theorem c3s {d:D} {t:List Nd} {x:Nd} (hT:X8 d t) (hx:x.Ok) (hk:a1P t x) (hK:x.kind=22):a0s 68 [d,.agg x.row] fun b=>b=true->(x.words.length:Int)=0/\((x.aH.length:Int)=1/\∀n∈x.aH,0<=n/\n<=8)/\2<=x.kids.length/\x.kids.length<=2/\∀i,i<x.kids.length->(i<2->17<=(nd t (x.aC i)).kind/\(nd t (x.aC i)).kind<=22)/\(2<=i->(nd t (x.aC i)).kind=16):=by
 refine a0B ?_;have o1:=FL.one hx.w;have o2:=FL.one hx.n;have o3:=FL.one hx.k;have hlen:=FI.len hx.k;have hz:=hx.fz;have gV:x.row=[.int .i64 22,x.dw,x.dn,x.dk,.int .i64 x.pos]:=by unfold Nd.row;rw [hK]
 obtain ⟨b1,h1,p1⟩:=a19 hx (c:=0);obtain ⟨b2,h2,p2⟩:=a2l hx (c:=1) (m:=8);obtain ⟨b3,h3,p3⟩:=a46 hT hx hk (f:=2) (l:=0) (m:=0) (by omega) (by omega) (by omega);rw [gV] at h1 h2 hz h3 ⊢;cases b1<;>cases b2
 all_goals
  refine V9 (vf:=Z4) rfl ?_;unfold Z4;refine zE ?_;repeat first
  |(apply U9 h1 rfl rfl (X3 hz U2))
  |(apply U9 h2 rfl rfl (X1 hz U2 U2))
  |(apply U9 h3 rfl rfl (fK hT.fz hz U2 U2 U2))
  |refine zW (V3 o1 o2 o3 hlen) ?_
  first
   | exact ⟨.inr trivial,_,rR,_,rfl,fun h=>⟨p1 rfl,p2 rfl,p3 h⟩⟩
   | exact ⟨.inr trivial,_,rR,_,rfl,by simp⟩
end Go.Proofs.YtigbmclkjknnjaaGreat
