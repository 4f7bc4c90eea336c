/- Texts one behind the other. -/
import Derived.Test.YtnjlhebkhjcagaaGreatZ1
import Derived.Laws.Strings
import Derived.Test.YtnjlhebkhjcagaaGreatVt
set_option linter.unusedSimpArgs false
set_option linter.unusedVariables false
namespace Go.V
theorem O7 {n:Int} (h1:-9223372036854775808<=n) (h2:n<9223372036854775808):IntKind.i64.wrap n=n:=IntWalk.i64_in n ⟨by omega,by omega⟩
def Fr (ids:List Nat) (s s':f6):Prop:=s.next<=s'.next/\∀i,i<s.next->i∉ids->s'.get i=s.get i
theorem Fr.refl (ids:List Nat) (s:f6):Fr ids s s:=⟨Nat.le_refl _,fun _ _ _=>rfl⟩
theorem Fr.trans {ids:List Nat} {ids':List Nat} {a b c:f6} (h:Fr ids a b) (k:Fr ids' b c) (hi:∀i∈ids',i∈ids∨a.next<=i):Fr ids a c:=by
 refine ⟨Nat.le_trans h.1 k.1,fun i hl hn=>?_⟩
 rw [k.2 i (Nat.lt_of_lt_of_le hl h.1) ?_,h.2 i hl hn]
 intro hc
 rcases hi i hc with h1 | h1
 ·exact hn h1
 ·omega
theorem Fr.push {ids:List Nat} {s:f6} (o:O3):Fr ids s (s.push o):=⟨by rw [f6.next_push];omega,fun i hl _=>by rw [f6.get_push,if_neg (by omega)]⟩
theorem Fr.set {ids:List Nat} {s:f6} {id:Nat} (o:Option O3) (h:id∈ids):Fr ids s (s.set id o):=⟨by rw [f6.next_set];omega,fun i hl hn=>by
 rw [f6.get_set,if_neg];rintro ⟨rfl,_⟩;exact hn h⟩
theorem Fr.thenPush {ids:List Nat} {a b:f6} (h:Fr ids a b) (o:O3):Fr ids a (b.push o):=h.trans (Fr.push (ids:=[]) o) (by simp)
theorem Fr.thenSet {ids:List Nat} {a b:f6} {id:Nat} (h:Fr ids a b) (o:Option O3) (hi:id∈ids∨a.next<=id):Fr ids a (b.set id o) :=
 h.trans (Fr.set (ids:=[id]) o (by simp)) (by simpa using hi)
theorem Fr.weaken {ids ids':List Nat} {a b:f6} (h:Fr ids a b) (hi:∀i∈ids,i∈ids'):Fr ids' a b:=⟨h.1,fun i hl hn=>h.2 i hl fun hc=>hn (hi i hc)⟩
theorem M5 {s:f6} {i:Nat} {o:O3} (h:s.get i=some o):i<s.next:=by
 unfold f6.get at h
 split at h
 ·assumption
 ·cases h
theorem U5 {s:f6} {o:O3} {i:Nat} (h:i<s.next):(s.push o).get i=s.get i:=by rw [f6.get_push,if_neg (by omega)]
theorem P0 {s:f6} {o:O3} {i:Nat} (h:i=s.next):(s.push o).get i=some o:=by rw [f6.get_push,if_pos h]
theorem O5 {s:f6} {o:Option O3} {i id:Nat} (h:i≠id):(s.set id o).get i=s.get i:=by rw [f6.get_set,if_neg (by rintro ⟨rfl,_⟩;exact h rfl)]
theorem S0 {s:f6} {o:Option O3} {i:Nat} (h:i<s.next):(s.set i o).get i=o:=by rw [f6.get_set,if_pos ⟨rfl,h⟩]
def W1 (l:List Nat):List D:=l.map fun (n:Nat)=>.int .i64 (n:Int)
def a3Y (l:List Bool):List D:=l.map fun b=>.bool b
def b5y:List (Nat×Nat)->List D
 | []=>[]
 | p::r=>.int .i64 (p.1:Int)::.int .i64 (p.2:Int)::b5y r
def kvs (l:List ((Nat×Nat)×Nat)):List (D×D):=l.map fun x=>(.agg [.int .i64 (x.1.1:Int),.int .i64 (x.1.2:Int)],.int .i64 (x.2:Int))
@[simp] theorem b4g (l:List Nat):(W1 l).length=l.length:=by simp [W1]
@[simp] theorem b97 (l:List Bool):(a3Y l).length=l.length:=by simp [a3Y]
def Rd (s:f6) (d:D) (l:List D):Prop :=
 (d=.nils/\l=[])∨d=.lst 1 (l.map fun x=>[x])∨∃id off cs,d=.arr id off l.length 1/\s.get id=some (.cells cs)/\off+l.length<=cs.length/\(cs.drop off).take l.length=l
theorem Rd.len {s:f6} {d:D} {l:List D} (h:Rd s d l):V2 false d=some (.int .i64 (l.length:Int)):=by
 rcases h with ⟨rfl,rfl⟩ | rfl | ⟨id,off,cs,rfl,_⟩<;>simp [V2]
theorem Rd.one {s:f6} {d:D} {l:List D} (h:Rd s d l):M8 d=true:=by
 rcases h with ⟨rfl,rfl⟩ | rfl | ⟨id,off,cs,rfl,_⟩<;>rfl
theorem Rd.idx {s:f6} {d:D} {l:List D} (h:Rd s d l) (ho:l.all M8=true) {i:Nat} (hi:i<l.length) {k:IntKind} {z:Int} (hz:z=(i:Int)):∃p,N2 1 d (.int k z)=some p/\ldV s.get none p=some l[i]:=by
 subst hz
 have ho':M8 l[i]=true:=by rw [List.all_eq_true] at ho;exact ho _ (List.getElem_mem hi)
 rcases h with ⟨rfl,rfl⟩ | rfl | ⟨id,off,cs,rfl,h1,h2,h3⟩
 ·simp at hi
 ·refine ⟨.fp [l[i]] 0,?_,?_⟩
  ·simp [N2,hi]
  ·simp [ldV,a0z,ho']
 ·refine ⟨.ptr id (off+i),?_,?_⟩
  ·simp only [N2]
   rw [if_pos (by refine ⟨trivial,?_,?_⟩<;>omega)]
   simp
  ·simp only [ldV,h1,a0z]
   have:cs[off+i]?=some l[i]:=by
    have e:l[i]?=some l[i]:=List.getElem?_eq_getElem hi
    rw [<- e]
    conv=>rhs;rw [<- h3]
    rw [List.getElem?_take_of_lt hi,List.getElem?_drop]
   rw [this]
   simp [ho']
theorem Rd.row {s:f6} {d:D} {l:List D} (h:Rd s d l):Z8 s.get d=some l/\a1U d=some l.length/\a0J 1 d=true:=by
 rcases h with ⟨rfl,rfl⟩ | rfl | ⟨id,off,cs,rfl,h1,h2,h3⟩
 ·simp [Z8,a1U,a0J]
 ·refine ⟨?_,by simp [a1U],by simp [a0J]⟩
  simp only [Z8]
  congr 1
  induction l with
  | nil=>rfl
  | cons a l ih=>simp [ih]
 ·refine ⟨?_,by simp [a1U],by simp [a0J]⟩
  simp only [Z8,h1,Nat.mul_one]
  rw [if_pos h2,h3]
theorem Rd.arr {s:f6} {id:Nat} {l:List D} (h:s.get id=some (.cells l)):Rd s (.arr id 0 l.length 1) l:=.inr (.inr ⟨id,0,l,rfl,h,by simp,by simp⟩)
theorem Rd.stay {s s':f6} {d:D} {l:List D} (h:Rd s d l) (hs:∀id off len,d=.arr id off len 1->s'.get id=s.get id):Rd s' d l:=by
 rcases h with h | h | ⟨id,off,cs,rfl,h1,h2,h3⟩
 ·exact .inl h
 ·exact .inr (.inl h)
 ·exact .inr (.inr ⟨id,off,cs,rfl,by rw [hs id off _ rfl,h1],h2,h3⟩)
theorem c2G (l:List Bool):(a3Y l).all M8=true:=by simp [a3Y,M8]
theorem Rd.idxB {s:f6} {d:D} {l:List Bool} (h:Rd s d (a3Y l)) {i:Nat} (hi:i<l.length):∃p,N2 1 d (.int .i64 (i:Int))=some p/\ldV s.get none p=some (.bool l[i]):=by
 obtain ⟨p,h1,h2⟩:=h.idx (c2G l) (i:=i) (by simpa using hi) (k:=.i64) rfl
 exact ⟨p,h1,by rw [h2];simp [a3Y]⟩
def a0m:D->Bool
 | .int _ _=>true
 | .bool _=>true
 | .str _=>true
 | _=>false
theorem a8I {g:P8} {d:D} (h:a0m d=true):∀n,ice g (n+1) d=some d:=by
 intro n
 cases d<;>first | rfl | (simp [a0m] at h)
theorem b8m {d:D} (h:a0m d=true):a0q d=true:=by cases d<;>first | rfl | (simp [a0m] at h)
theorem a7U {g:P8} {n:Nat}:∀ {l:List D},l.all a0m=true->N1 (ice g (n+1)) l=some l
 | [],_=>rfl
 | d::r,h=>by
   simp only [List.all_cons,Bool.and_eq_true] at h
   simp only [N1,a8I h.1,a7U h.2]
theorem a8s:∀ (l:List D),a2t 1 l.length l=l.map fun x=>[x]
 | []=>rfl
 | d::r=>by simp [a2t,a8s r]
theorem Rd.ice {s:f6} {d:D} {l:List D} (h:Rd s d l) (hl:l.all a0m=true):∃d',ice s.get 20 d=some d'/\Rd f6.empty d' l:=by
 have hrow:=h.row.1
 rcases h with ⟨rfl,rfl⟩ | rfl | ⟨id,off,cs,rfl,h1,h2,h3⟩
 ·exact ⟨.nils,rfl,.inl ⟨rfl,rfl⟩⟩
 ·exact ⟨_,rfl,.inr (.inl rfl)⟩
 ·refine ⟨.lst 1 (l.map fun x=>[x]),?_,.inr (.inl rfl)⟩
  simp only [V.ice,hrow]
  rw [a7U hl]
  simp only [Option.map_some,a8s]
theorem a2b {fs:FuncId->Option M3} {pairs i t f args rest s Q} {env:Env} {l l':List D} {r:D} {s1:f6} (hr:Ev fs f l' f6.empty r s1) (hs:a0m r=true) (hl:env.evL args=l) (ha:N1 (V.ice s.get 20) l=some l')
 (h:WQ fs pairs rest ((t,r)::env) s Q):WQ fs pairs ((i,⟨some t,.m (.call .iso (.cst (.fn f [])) args),none⟩)::rest) env s Q :=
 a2N hl ha hr (a8I hs 19) (by rw [b8m hs];rfl) h
theorem b3y {fs:FuncId->Option M3} {n:Nat} {f:FuncId} {args:List D} {s:f6} {d:D} (h:(a4Q fs n f args s).map Prod.fst=some d):∃s',Ev fs f args s d s':=by
 cases hv:a4Q fs n f args s with
 | none=>rw [hv] at h;cases h
 | some r =>
   rw [hv] at h
   obtain ⟨d',s'⟩:=r
   simp at h
   subst h
   exact ⟨s',n,hv⟩
def Sl (s:f6) (d:D) (l:List D) (ids:List Nat):Prop :=
 (d=.nils/\l=[]/\ids=[])∨∃id,d=.arr id 0 l.length 1/\s.get id=some (.cells l)/\ids=[id]
theorem Sl.rd {s:f6} {d:D} {l:List D} {ids:List Nat} (h:Sl s d l ids):Rd s d l:=by
 rcases h with ⟨rfl,rfl,_⟩ | ⟨id,rfl,h,_⟩
 ·exact .inl ⟨rfl,rfl⟩
 ·exact Rd.arr h
theorem Sl.one {s:f6} {d:D} {l:List D} {ids:List Nat} (h:Sl s d l ids):M8 d=true:=h.rd.one
theorem Sl.lt {s:f6} {d:D} {l:List D} {ids:List Nat} (h:Sl s d l ids):∀i∈ids,i<s.next:=by
 rcases h with ⟨_,_,rfl⟩ | ⟨id,_,h,rfl⟩
 ·simp
 ·simpa using M5 h
theorem Sl.push {s:f6} {d:D} {l:List D} {ids:List Nat} {new:List D} {id2 bytes:Nat} (h:Sl s d l ids) (h3:s.get id2=some (.cells new)) (hne:new≠[]) (hb:bytes<=16) (hl:l.length+new.length<=2 ^ 40) :
 ∃s' d',V3 1 bytes d (.arr id2 0 new.length 1) s=some (d',s')/\Sl s' d' (l++new) [s.next]/\s'.next=s.next+1/\∀i,i∉ids->i<s.next->s'.get i=s.get i:=by
 have hn:new.length≠0:=by simpa using hne
 have b1:(l.length+new.length)*bytes<=2 ^ 45:=Nat.le_trans (Nat.mul_le_mul hl hb) (by decide)
 have b2:l.length+new.length<=2 ^ 45:=Nat.le_trans hl (by decide)
 have b3:bytes<=2 ^ 20:=Nat.le_trans hb (by decide)
 rcases h with ⟨rfl,rfl,rfl⟩ | ⟨id,rfl,h1,rfl⟩
 ·refine ⟨s.push (.cells new),.arr s.next 0 new.length 1,?_,.inr ⟨s.next,by simp,by simp [f6.get_push],rfl⟩,rfl,fun i _ hi=>by rw [f6.get_push,if_neg (by omega)]⟩
  unfold V3
  simp only [List.length_nil,Nat.zero_add] at b1 b2
  simp only [Z8,h3,a1U,a0J,Nat.zero_add,Nat.mul_one,Nat.le_refl,if_true,List.drop_zero,beq_self_eq_true,b3,decide_true,Bool.and_self,and_self,hn,if_false,b1,b2,List.take_length]
 ·refine ⟨(s.set id none).push (.cells (l++new)),.arr s.next 0 (l.length+new.length) 1,?_,.inr ⟨s.next,by simp,by rw [f6.get_push,if_pos (by simp only [f6.next_set])],rfl⟩,rfl,fun i hi hl=>?_⟩
  ·unfold V3
   simp only [Z8,h3,a1U,a0J,Nat.zero_add,Nat.mul_one,Nat.le_refl,if_true,List.drop_zero,beq_self_eq_true,b3,decide_true,Bool.and_self,h1,and_self,hn,if_false,b1,b2,List.take_length]
  ·simp only [List.mem_singleton] at hi
   rw [f6.get_push,if_neg (by simp only [f6.next_set];omega),f6.get_set,if_neg (by rintro ⟨rfl,_⟩;exact hi rfl)]
structure Gr where
 nodes:List (Nat×Nat)
 ins:List Nat
 known:List ((Nat×Nat)×Nat)
structure c5P (s:f6) (g:Nat) (G:Gr) (nid mid:Nat) (dins:D) (iids:List Nat):Prop where
 obj:s.get g=some (.cells [.arr nid 0 G.nodes.length 2,dins,.map mid])
 nodes:s.get nid=some (.cells (b5y G.nodes))
 ins:Sl s dins (W1 G.ins) iids
 known:s.get mid=some (.map (kvs G.known))
 nd:(g::nid::mid::iids).Nodup
def GA (s:f6) (g:Nat) (G:Gr) (ids:List Nat):Prop:=∃nid mid dins iids,c5P s g G nid mid dins iids/\ids=g::nid::mid::iids
def a1u (s:f6) (g:Nat) (ids:List Nat) (s':f6) (G':Gr) (ids':List Nat):Prop:=GA s' g G' ids'/\Fr ids s s'/\∀i∈ids',i∈ids∨s.next<=i
theorem a1u.trans {s s' s'':f6} {g:Nat} {ids ids' ids'':List Nat} {G' G'':Gr} (h:a1u s g ids s' G' ids') (k:a1u s' g ids' s'' G'' ids''):a1u s g ids s'' G'' ids'':=by
 refine ⟨k.1,h.2.1.trans k.2.1 h.2.2,fun i hi=>?_⟩
 rcases k.2.2 i hi with h1 | h1
 ·exact h.2.2 i h1
 ·exact .inr (Nat.le_trans h.2.1.1 h1)
theorem a1u.refl {s:f6} {g:Nat} {G:Gr} {ids:List Nat} (h:GA s g G ids):a1u s g ids s G ids:=⟨h,Fr.refl _ _,fun _ hi=>.inl hi⟩
theorem GA.stay' {s s':f6} {g:Nat} {G:Gr} {ids:List Nat} (h:GA s g G ids) (hs:∀i∈ids,i<s.next->s'.get i=s.get i):GA s' g G ids:=by
 obtain ⟨nid,mid,dins,iids,hg,rfl⟩:=h
 have k:∀i o,i∈g::nid::mid::iids->s.get i=some o->s'.get i=some o:=fun i o hi ho=>by rw [hs i hi (M5 ho),ho]
 refine ⟨nid,mid,dins,iids,⟨k _ _ (by simp) hg.obj,k _ _ (by simp) hg.nodes,?_,k _ _ (by simp) hg.known,hg.nd⟩,rfl⟩
 rcases hg.ins with h1 | ⟨id,h1,h2,rfl⟩
 ·exact .inl h1
 ·exact .inr ⟨id,h1,k _ _ (by simp) h2,rfl⟩
theorem GA.stay {s s':f6} {g:Nat} {G:Gr} {ids ids2:List Nat} (h:GA s g G ids) (hf:Fr ids2 s s') (hd:∀i∈ids,i∉ids2):GA s' g G ids:=h.stay' fun i hi hl=>hf.2 i hl (hd i hi)
theorem Sl.stay {s s':f6} {d:D} {l:List D} {ids ids2:List Nat} (h:Sl s d l ids) (hf:Fr ids2 s s') (hd:∀i∈ids,i∉ids2):Sl s' d l ids:=by
 rcases h with h1 | ⟨id,h1,h2,rfl⟩
 ·exact .inl h1
 ·exact .inr ⟨id,h1,by rw [hf.2 id (M5 h2) (hd id (by simp)),h2],rfl⟩
theorem GA.lt {s:f6} {g:Nat} {G:Gr} {ids:List Nat} (h:GA s g G ids):∀i∈ids,i<s.next:=by
 obtain ⟨nid,mid,dins,iids,hg,rfl⟩:=h
 intro i hi
 simp only [List.mem_cons] at hi
 rcases hi with rfl | rfl | rfl | hi
 ·exact M5 hg.obj
 ·exact M5 hg.nodes
 ·exact M5 hg.known
 ·exact hg.ins.lt i hi
theorem GA.pos {s:f6} {g:Nat} {G:Gr} {ids:List Nat} (h:GA s g G ids):∃nid dins mid,s.get g=some (.cells [.arr nid 0 G.nodes.length 2,dins,.map mid]):=by
 obtain ⟨nid,mid,dins,iids,hg,rfl⟩:=h
 exact ⟨nid,dins,mid,hg.obj⟩
theorem GA.push {s:f6} {g:Nat} {G:Gr} {ids:List Nat} (hG:GA s g G ids) (o:O3):GA (s.push o) g G ids:=hG.stay (ids2:=[]) (Fr.push _) (by simp)
theorem GA.newer {s s':f6} {g:Nat} {G:Gr} {ids:List Nat} (hG:GA s g G ids) (h:Fr [] s s'):a1u s g ids s' G ids:=⟨hG.stay h (by simp),h.weaken (by simp),fun _ h=>.inl h⟩
def b5S (e:Nat):Nat:=if e % 2=0 then e+1 else e-1
def Gr.own (G:Gr) (e:Int):Nat:=if e<0∨(G.nodes.length:Int)<=e.tdiv 2 then 0 else e.toNat
def Gr.add (G:Gr) (p:Nat×Nat):Gr:={ G with nodes:=G.nodes++[p] }
def find (k:Nat×Nat):List ((Nat×Nat)×Nat)->Option Nat
 | []=>none
 | (p,n)::r=>if k=p then some n else find k r
def Gr.and (G:Gr) (a b:Nat):Nat×Gr :=
 if min a b=0∨min a b=b5S (max a b) then (0,G)
 else if min a b=1∨min a b=max a b then (max a b,G)
 else match find (min a b,max a b) G.known with
  | some n=>(2*n,G)
  | none=>(2*G.nodes.length,{ nodes:=G.nodes++[(min a b,max a b)],ins:=G.ins,known:=G.known++[((min a b,max a b),G.nodes.length)] })
attribute [go_sem] U5 P0 O5 S0 O7
end Go.V
namespace Go.V
def FL (sz:Nat) (d:D) (rows:List (List D)):Prop:=(d=.nils/\rows=[])∨d=.lst sz rows
theorem FL.len {sz:Nat} {d:D} {rows:List (List D)} (h:FL sz d rows):V2 false d=some (.int .i64 (rows.length:Int)):=by
 rcases h with ⟨rfl,rfl⟩ | rfl<;>rfl
theorem FL.one {sz:Nat} {d:D} {rows:List (List D)} (h:FL sz d rows):M8 d=true:=by
 rcases h with ⟨rfl,rfl⟩ | rfl<;>rfl
theorem FL.pure {sz:Nat} {d:D} {rows:List (List D)} (h:FL sz d rows):W3 d=true:=by
 rcases h with ⟨rfl,rfl⟩ | rfl<;>rfl
theorem FL.ice {sz:Nat} {d:D} {rows:List (List D)} (h:FL sz d rows) {g:P8} {n:Nat}:ice g (n+1) d=some d:=by
 rcases h with ⟨rfl,rfl⟩ | rfl<;>rfl
theorem FL.idx {sz:Nat} {d:D} {rows:List (List D)} (h:FL sz d rows) {i:Nat} (hi:i<rows.length) {k:IntKind}:N2 sz d (.int k (i:Int))=some (.fp rows[i] 0):=by
 rcases h with ⟨rfl,rfl⟩ | rfl
 ·simp at hi
 ·simp [N2,hi]
theorem FL.cells {sz:Nat} {d:D} {rows:List (List D)} (h:FL sz d rows):cellsOf d=[d]:=by
 rcases h with ⟨rfl,rfl⟩ | rfl<;>rfl
def FS (d:D) (l:List ByteArray):Prop:=FL 1 d (l.map fun x=>[.str x])
def FI (d:D) (l:List Int):Prop:=FL 1 d (l.map fun n=>[.int .i64 n])
def FB (d:D) (l:List Bool):Prop:=FL 1 d (l.map fun b=>[.bool b])
theorem FS.len {d:D} {l:List ByteArray} (h:FS d l):V2 false d=some (.int .i64 (l.length:Int)):=by rw [FL.len h,List.length_map]
theorem FI.len {d:D} {l:List Int} (h:FI d l):V2 false d=some (.int .i64 (l.length:Int)):=by rw [FL.len h,List.length_map]
theorem FB.len {d:D} {l:List Bool} (h:FB d l):V2 false d=some (.int .i64 (l.length:Int)):=by rw [FL.len h,List.length_map]
theorem FS.idx {d:D} {l:List ByteArray} (h:FS d l) {i:Nat} (hi:i<l.length) {k:IntKind}:N2 1 d (.int k (i:Int))=some (.fp [.str l[i]] 0):=by
 rw [FL.idx h (by simpa using hi)];simp
theorem FI.idx {d:D} {l:List Int} (h:FI d l) {i:Nat} (hi:i<l.length) {k:IntKind}:N2 1 d (.int k (i:Int))=some (.fp [.int .i64 l[i]] 0):=by
 rw [FL.idx h (by simpa using hi)];simp
theorem FB.idx {d:D} {l:List Bool} (h:FB d l) {i:Nat} (hi:i<l.length) {k:IntKind}:N2 1 d (.int k (i:Int))=some (.fp [.bool l[i]] 0):=by
 rw [FL.idx h (by simpa using hi)];simp
theorem FL.drop {sz:Nat} {d:D} {rows:List (List D)} (h:FL sz d rows) {n:Nat} (hn:n<=rows.length) {k:IntKind}:∃d',a2f (some sz) d (some (.int k (n:Int))) none=some d'/\FL sz d' (rows.drop n):=by
 rcases h with ⟨rfl,rfl⟩ | rfl
 ·obtain rfl:n=0:=by simpa using hn
  exact ⟨.nils,by simp [a2f,a02],.inl ⟨rfl,rfl⟩⟩
 ·exact ⟨_,by simp [a2f,a02,hn],.inr rfl⟩
theorem FL.take {sz:Nat} {d:D} {rows:List (List D)} (h:FL sz d rows) {n:Nat} (hn:n<=rows.length) {k:IntKind}:∃d',a2f (some sz) d none (some (.int k (n:Int)))=some d'/\FL sz d' (rows.take n):=by
 rcases h with ⟨rfl,rfl⟩ | rfl
 ·obtain rfl:n=0:=by simpa using hn
  exact ⟨.nils,by simp [a2f,a02],.inl ⟨rfl,rfl⟩⟩
 ·exact ⟨_,by simp [a2f,a02,hn],.inr rfl⟩
theorem c4k {a b:ByteArray}:(a.toList==b.toList)=decide (a=b):=by
 rw [Bool.eq_iff_iff,beq_iff_eq,decide_eq_true_eq]
 constructor
 ·intro h
  rw [ByteArray.toList_eq,ByteArray.toList_eq] at h
  cases a;cases b
  simp at h
  rw [h]
 ·rintro rfl;rfl
theorem c2t {a b:ByteArray}:a7Q .eql a b=some (.bool (decide (a=b))):=by rw [<- c4k];rfl
attribute [go_sem] c2t
end Go.V
namespace Go.V
theorem a71 {α β:Type} {f:α->β} {P:α->Prop}:∀ {xs:List β},(∀x∈xs,∃a,x=f a/\P a)->∃aa:List α,xs=aa.map f/\∀a∈aa,P a
 | [],_=>⟨[],rfl,by simp⟩
 | x::r,h=>by
   obtain ⟨a,rfl,ha⟩:=h x (by simp)
   obtain ⟨aa,rfl,has⟩:=a71 (xs:=r) fun x hx=>h x (by simp [hx])
   exact ⟨a::aa,rfl,by simpa using ⟨ha,has⟩⟩
def a0w (n:Int):Prop:=-9223372036854775808<=n/\n<9223372036854775808
theorem b4A {n:Int} (h:(Lit.int .i64 n).wf=true):a0w n:=by
 simp only [Lit.wf,Bool.and_eq_true,decide_eq_true_eq] at h
 have h1:IntKind.i64.min=-9223372036854775808:=rfl
 have h2:IntKind.i64.max=9223372036854775807:=rfl
 rw [h1,h2] at h
 exact ⟨h.1,by omega⟩
def Ty.act:Ty:=.slice 4 (.struct [.int .i64,.int .i64,.int .i64,.int .i64])
theorem Sl.push1 {s:f6} {d:D} {l:List D} {ids:List Nat} (h:Sl s d l ids) (x:D) {bytes:Nat} (hb:bytes<=16) (hl:l.length<2 ^ 40) :
 ∃s' d',V3 1 bytes d (.arr s.next 0 1 1) (s.push (.cells [x]))=some (d',s')/\Sl s' d' (l++[x]) [s.next+1]/\s'.next=s.next+2/\Fr ids s s':=by
 have h':Sl (s.push (.cells [x])) d l ids:=h.stay (ids2:=[]) (Fr.push _) (by simp)
 obtain ⟨s',d',e1,e2,e3,e4⟩:=h'.push (new:=[x]) (id2:=s.next) (bytes:=bytes) (P0 rfl) (by simp) hb (by simp;omega)
 refine ⟨s',d',e1,e2,e3,by rw [e3,f6.next_push];omega,fun i hi hn=>?_⟩
 rw [e4 i hn (by simp only [f6.next_push];omega),U5 hi]
section
variable {fs:FuncId->Option M3}
theorem b4a {l:List D} {n:Nat} {x:D} (h:n<l.length):a20 l n [x]=l.set n x:=by
 simp only [a20,List.length_singleton]
 rw [List.set_eq_take_append_cons_drop,if_pos h]
 simp
theorem a7B {i a v rest s Q} {env:Env} {id n:Nat} {l:List D} {x:D} (hg:s.get id=some (.cells l)) (hn:n<l.length) (ho:M8 x=true) (ha:env.ev a=.ptr id n) (hv:env.ev v=x)
 (h:WQ fs [] rest env (s.set id (some (.cells (l.set n x)))) Q):WQ fs [] ((i,⟨none,.w 1 a v,none⟩)::rest) env s Q:=by
 refine a7O (id:=id) (ob:=.cells (l.set n x)) ?_ h
 simp only [evW,ha,hg,hv,b2E ho,List.length_singleton,List.all_cons,List.all_nil,ho]
 rw [if_pos ⟨trivial,by omega,rfl,by omega⟩,b4a hn]
theorem b1r (l:List Nat) (n k:Nat):(W1 l).set n (.int .i64 (k:Int))=W1 (l.set n k):=by simp [W1,List.map_set]
end
theorem c0b {s:f6} {id:Nat} {l:List Nat} (h:s.get id=some (.cells (W1 l))):Rd s (.arr id 0 l.length 1) (W1 l):=by
 have:=Rd.arr h
 rwa [b4g] at this
end Go.V
namespace Go.V
structure Nd where
 kind:Int
 dw:D
 dn:D
 dk:D
 pos:Int
 words:List ByteArray
 nums:List Int
 kids:List Int
 deriving Inhabited
def Nd.row (x:Nd):List D:=[.int .i64 x.kind,x.dw,x.dn,x.dk,.int .i64 x.pos]
structure Nd.Ok (x:Nd):Prop where
 w:FS x.dw x.words
 n:FI x.dn x.nums
 k:FI x.dk x.kids
 ki:a0w x.kind
 wl:x.words.length<=maxLen
 nl:x.nums.length<=maxLen
 kl:x.kids.length<=maxLen
 ni:∀n∈x.nums,a0w n
 ii:∀n∈x.kids,a0w n
structure N7 (d:D) (t:List Nd):Prop where
 fl:FL 5 d (t.map Nd.row)
 ok:∀x∈t,x.Ok
 le:t.length<=maxLen
theorem N7.len {d:D} {t:List Nd} (h:N7 d t):V2 false d=some (.int .i64 (t.length:Int)):=by rw [h.fl.len,List.length_map]
theorem N7.idx {d:D} {t:List Nd} (h:N7 d t) {i:Nat} (hi:i<t.length) {k:IntKind}:N2 5 d (.int k (i:Int))=some (.fp [.int .i64 t[i].kind,t[i].dw,t[i].dn,t[i].dk,.int .i64 t[i].pos] 0):=by
 rw [h.fl.idx (by simpa using hi)];simp [Nd.row]
theorem N7.get {d:D} {t:List Nd} (h:N7 d t) {i:Nat} (hi:i<t.length):t[i].Ok:=h.ok _ (List.getElem_mem hi)
def Ty.node:Ty:=.struct [.int .i64,.slice 1 .str,.slice 1 (.int .i64),.slice 1 (.int .i64),.int .i64]
def Ty.tree:Ty:=.slice 5 Ty.node
theorem c0j {a:List D} (h:X1 (.slice 1 .str) a):∃d l,a=[d]/\FS d l/\l.length<=maxLen:=by
 simp only [X1] at h
 rcases h with rfl | ⟨xs,rfl,hl,hx⟩
 ·exact ⟨.nils,[],rfl,.inl ⟨rfl,rfl⟩,by simp⟩
 ·obtain ⟨l,rfl,_⟩:=a71 (f:=fun (b:ByteArray)=>[D.str b]) (P:=fun _=>True) (xs:=xs) (fun x hm=>by
   obtain ⟨b,hb,_⟩:=hx x hm
   exact ⟨b,hb,trivial⟩)
  exact ⟨_,l,rfl,.inr rfl,by simpa using hl⟩
theorem a8i {a:List D} (h:X1 (.slice 1 (.int .i64)) a):∃d l,a=[d]/\FI d l/\l.length<=maxLen/\∀n∈l,a0w n:=by
 simp only [X1] at h
 rcases h with rfl | ⟨xs,rfl,hl,hx⟩
 ·exact ⟨.nils,[],rfl,.inl ⟨rfl,rfl⟩,by simp,by simp⟩
 ·obtain ⟨l,rfl,hi⟩:=a71 (f:=fun (n:Int)=>[D.int .i64 n]) (P:=fun n=>a0w n) (xs:=xs) (fun x hm=>by
   obtain ⟨n,hn,w⟩:=hx x hm
   exact ⟨n,hn,b4A w⟩)
  exact ⟨_,l,rfl,.inr rfl,by simpa using hl,hi⟩
theorem b7M {a:List D} (h:X1 Ty.node a):∃x:Nd,a=x.row/\x.Ok:=by
 simp only [Ty.node,X1,HasTs] at h
 obtain ⟨a1,b1,rfl,⟨n1,rfl,w1⟩,a2,b2,rfl,h2,a3,b3,rfl,h3,a4,b4,rfl,h4,a5,b5,rfl,⟨n5,rfl,w5⟩,rfl⟩:=h
 obtain ⟨dw,lw,rfl,fw,lwl⟩:=c0j (by simpa only [X1] using h2)
 obtain ⟨dn,ln,rfl,fn,lnl,lni⟩:=a8i (by simpa only [X1] using h3)
 obtain ⟨dk,lk,rfl,fk,lkl,lki⟩:=a8i (by simpa only [X1] using h4)
 exact ⟨⟨n1,dw,dn,dk,n5,lw,ln,lk⟩,rfl,fw,fn,fk,b4A w1,lwl,lnl,lkl,lni,lki⟩
theorem b2y {d:D} (h:a3A Ty.tree d):∃t,N7 d t:=by
 have h:X1 Ty.tree [d]:=h
 rw [Ty.tree,X1] at h
 rcases h with h | ⟨xs,h,hl,hx⟩
 ·simp at h
  subst h
  exact ⟨[],.inl ⟨rfl,rfl⟩,by simp,by simp⟩
 ·simp at h
  subst h
  obtain ⟨t,rfl,hi⟩:=a71 (f:=Nd.row) (P:=Nd.Ok) (xs:=xs) fun x hm=>b7M (hx x hm)
  exact ⟨t,.inr rfl,hi,by simpa using hl⟩
theorem b1v {d:D} (h:a3A (.slice 1 (.int .i64)) d):∃l,FI d l/\l.length<=maxLen/\∀n∈l,a0w n:=by
 obtain ⟨d',l,e,h⟩:=a8i (a:=[d]) h
 simp at e
 subst e
 exact ⟨l,h⟩
end Go.V
namespace Go.V
structure Ch where
 name:ByteArray
 room:Int
 width:Int
 lossy:Bool
 copying:Bool
 deriving Inhabited
structure Vr where
 name:ByteArray
 width:Int
 value:Int
 deriving Inhabited
structure Ed where
 frm:Nat
 to:Nat
 act:Nat
 expr:Int
 var:Int
 chan:Int
 keep:Bool
 node:Nat
 deriving Inhabited
structure Pr where
 name:ByteArray
 copy:Nat
 locals:List Nat
 places:Nat
 rest:List Bool
 edges:List Ed
 names:List ByteArray
 vars:List Nat
 deriving Inhabited
def Ch.row (c:Ch):List D:=[.str c.name,.int .i64 c.room,.int .i64 c.width,.bool c.lossy,.bool c.copying]
def Vr.row (v:Vr):List D:=[.str v.name,.int .i64 v.width,.int .i64 v.value]
def Ed.row (e:Ed):List D:=[.int .i64 (e.frm:Int),.int .i64 (e.to:Int),.int .i64 (e.act:Int),.int .i64 e.expr,.int .i64 e.var,.int .i64 e.chan,.bool e.keep,.int .i64 (e.node:Int)]
def Pr.put (p:Pr) (frm to act:Nat) (node:Nat) (expr v c:Int):Pr:={ p with edges:=p.edges++[⟨frm,to,act,expr,v,c,false,node⟩] }
def Pr.place (p:Pr):Pr:={ p with places:=p.places+1,rest:=p.rest++[false] }
def Pr.idle (p:Pr) (n:Nat) (is:Int):Pr:=if is=1 then { p with rest:=p.rest.set n true } else p
def a0i (l:List ByteArray) (s:ByteArray):Nat:=if l.findIdx (fun x=>decide (x=s))<l.length then l.findIdx (fun x=>decide (x=s)) else 0
def inB (l:List ByteArray) (s:ByteArray):Bool:=l.any fun x=>decide (x=s)
theorem b0n {l:List ByteArray} {s:ByteArray}:inB l s=true↔s∈l:=by
 unfold inB
 rw [List.any_eq_true]
 constructor
 ·rintro ⟨x,hx,h⟩
  rw [decide_eq_true_eq] at h
  exact h▸hx
 ·intro h
  exact ⟨s,h,by simp⟩
def nd (t:List Nd) (i:Nat):Nd:=t.getD i default
def Nd.kid (x:Nd) (i:Nat):Nat:=(x.kids.getD i 0).toNat
def Nd.ks (x:Nd):List Nat:=x.kids.map Int.toNat
def Nd.word (x:Nd) (i:Nat):ByteArray:=x.words.getD i default
def Nd.num (x:Nd) (i:Nat):Int:=x.nums.getD i 0
def a0Q (st:Pr->Nat->Nat->Nat->Pr) (node:Nat):Pr->List Nat->Nat->Nat->Pr
 | p,[],frm,to=>p.put frm to 0 node (-1) (-1) (-1)
 | p,[k],frm,to=>st p k frm to
 | p,k::k'::ks,frm,to=>a0Q st node (st p.place k frm p.places) (k'::ks) p.places to
def V7 (t:List Nd) (st:Pr->Nat->Nat->Nat->Pr) (p:Pr) (b frm to:Nat):Pr:=a0Q st b p (nd t b).ks frm to
def a6j (t:List Nd) (b:Nat):Bool:=match (nd t b).ks with
 | []=>false
 | k::_=>(nd t k).kind==12
def Y0 (t:List Nd) (st:Pr->Nat->Nat->Nat->Pr) (frm to:Nat):Pr->List Nat->Pr
 | p,[]=>p
 | p,k::ks=>Y0 t st frm to (if a6j t k then V7 t st (p.place.put frm p.places 0 k (-1) (-1) (-1)) k p.places to else V7 t st p k frm to) ks
def a0o (n to:Nat) (l:List Ed):List Ed:=l.take n++(l.drop n).map fun e=>{ e with keep:=e.to != to&&e.to != 1 }
def M9 (t:List Nd) (ch:List ByteArray):Nat->Pr->Nat->Nat->Nat->Pr
 | 0,p,_,_,_=>p
 | f+1,p,at',frm,to =>
   let n:=nd t at'
   let st:=M9 t ch f
   if n.kind=6 then p.put frm to 1 at' (n.kid 0) (p.vars.getD (a0i p.names (n.word 0)) 0:Nat) (-1)
   else if n.kind=7 then p.put frm to 2 at' (n.kid 0) (-1) (a0i ch (n.word 0):Nat)
   else if n.kind=8 then (p.idle frm (n.num 0)).put frm to 3 at' (-1) (p.vars.getD (a0i p.names (n.word 1)) 0:Nat) (a0i ch (n.word 0):Nat)
   else if n.kind=9 then (p.idle frm (n.num 0)).put frm to 4 at' (n.kid 0) (-1) (-1)
   else if n.kind=10 then Y0 t st frm to (p.idle frm (n.num 0)) n.ks
   else if n.kind=11 then
    let p1:=V7 t st (p.place.put frm p.places 4 at' (n.kid 0) (-1) (-1)) (n.kid 1) p.places to
    if n.kids.length=2 then p1.put frm to 5 at' (n.kid 0) (-1) (-1)
    else V7 t st (p1.place.put frm p1.places 5 at' (n.kid 0) (-1) (-1)) (n.kid 2) p1.places to
   else if n.kind=12 then V7 t st ((p.place.put frm p.places 4 at' (n.kid 0) (-1) (-1)).put frm to 5 at' (n.kid 0) (-1) (-1)) (n.kid 1) p.places frm
   else if n.kind=13 then
    let p1:=V7 t st p (n.kid 0) frm to
    { p1 with edges:=a0o p.edges.length to p1.edges }
   else if n.kind=15 then p.put frm 1 0 at' (-1) (-1) (-1)
   else p.put frm to 0 at' (-1) (-1) (-1)
end Go.V
namespace Go.V
def a0M (k:Int):Prop:=17<=k/\k<=22
def a14 (k:Int):Prop:=6<=k/\k<=15
def a0k (k:Int):Nat:=if k=8 then 2 else if k=1∨k=2∨k=3∨k=6∨k=7∨k=18∨k=19 then 1 else 0
def a0h (k:Int):Nat:=if k=1 then 4 else if k=2 then 2 else if k=3∨k=8∨k=9∨k=10∨k=17∨k=22 then 1 else 0
structure a7J (t:List Nd) (x:Nd):Prop where
 kr:0<=x.kind/\x.kind<=22
 wl:x.words.length=a0k x.kind
 nl:x.nums.length=a0h x.kind
 prog:x.kind=0->∀k∈x.ks,1<=(nd t k).kind/\(nd t k).kind<=5
 chan:x.kind=1->0<=x.num 0/\0<=x.num 1/\0<=x.num 2/\x.num 2<=1/\0<=x.num 3/\x.num 3<=1
 var:x.kind=2->-999999<=x.num 1/\x.num 1<=999999
 proc:x.kind=3->∃v,v<=x.ks.length/\(∀k∈x.ks.take v,(nd t k).kind=2)/\∀k∈x.ks.drop v,a14 (nd t k).kind
 copies:x.kind=3->0<=x.num 0/\x.num 0<=999999
 one:x.kind=4∨x.kind=6∨x.kind=7∨x.kind=9∨x.kind=20∨x.kind=21->x.kids.length=1/\a0M (nd t (x.kid 0)).kind
 none:x.kind=1∨x.kind=2∨x.kind=5∨x.kind=8∨x.kind=14∨x.kind=15∨x.kind=17∨x.kind=18∨x.kind=19->x.kids=[]
 choose:x.kind=10->1<=x.kids.length/\∀k∈x.ks,(nd t k).kind=16
 cond:x.kind=11->(x.kids.length=2∨x.kids.length=3)/\a0M (nd t (x.kid 0)).kind/\(nd t (x.kid 1)).kind=16/\(x.kids.length=3->(nd t (x.kid 2)).kind=16)
 loop:x.kind=12->x.kids.length=2/\a0M (nd t (x.kid 0)).kind/\(nd t (x.kid 1)).kind=16
 atom:x.kind=13->x.kids.length=1/\(nd t (x.kid 0)).kind=16
 block:x.kind=16->∀k∈x.ks,a14 (nd t k).kind
 bin:x.kind=22->x.kids.length=2/\a0M (nd t (x.kid 0)).kind/\a0M (nd t (x.kid 1)).kind/\0<=x.num 0/\x.num 0<=8
 flag:x.kind=8∨x.kind=9∨x.kind=10->0<=x.num 0/\x.num 0<=1
 lit:x.kind=17->0<=x.num 0/\x.num 0<=999999
structure Z0 (t:List Nd):Prop where
 pos:0<t.length
 le:t.length<=800
 root:(nd t 0).kind=0
 kids:∀i,i<t.length->∀k∈(nd t i).kids,(i:Int)<k/\k<(t.length:Int)
 node:∀i,i<t.length->a7J t (nd t i)
theorem b1a {t:List Nd} {i:Nat} (h:i<t.length):nd t i=t[i]:=by simp [nd,List.getD,h]
theorem Z0.ks {t:List Nd} (h:Z0 t) {i:Nat} (hi:i<t.length):∀k∈(nd t i).ks,i<k/\k<t.length:=by
 intro k hk
 obtain ⟨z,hz,rfl⟩:=List.mem_map.1 hk
 have:=h.kids i hi z hz
 omega
theorem V6 {x:Nd} {i:Nat} (h:i<x.kids.length):x.kid i∈x.ks:=by
 unfold Nd.kid Nd.ks
 simp only [List.getD,List.getElem?_eq_getElem h,Option.getD_some]
 exact List.mem_map_of_mem (List.getElem_mem h)
theorem a0K (x:Nd):x.ks.length=x.kids.length:=by simp [Nd.ks]
structure a22 (t:List Nd) (nch pl:Nat) (vars:List Nat) (e:Ed):Prop where
 f:e.frm<pl
 to:e.to<pl
 act:e.act<=5
 ex0:e.act=0∨e.act=3->e.expr=-1
 ex1:e.act=1∨e.act=2∨e.act=4∨e.act=5->∃n:Nat,e.expr=(n:Int)/\n<t.length/\a0M (nd t n).kind
 v1:e.act=1∨e.act=3->∃n∈vars,e.var=((n:Nat):Int)
 v0:e.act=0∨e.act=2∨e.act=4∨e.act=5->e.var=-1
 c1:e.act=2∨e.act=3->∃n:Nat,e.chan=(n:Int)/\n<nch
 c0:e.act=0∨e.act=1∨e.act=4∨e.act=5->e.chan=-1
theorem a22.mono {t:List Nd} {nch pl pl':Nat} {vars:List Nat} {e:Ed} (h:a22 t nch pl vars e) (hp:pl<=pl'):a22 t nch pl' vars e :=
 ⟨by have:=h.f;omega,by have:=h.to;omega,h.act,h.ex0,h.ex1,h.v1,h.v0,h.c1,h.c0⟩
structure Y3 (t:List Nd) (nch:Nat) (p:Pr):Prop where
 two:2<=p.places
 rest:p.rest.length=p.places
 ed:∀e∈p.edges,a22 t nch p.places p.vars e
structure a0S (p q:Pr):Prop where
 name:q.name=p.name
 copy:q.copy=p.copy
 locals:q.locals=p.locals
 names:q.names=p.names
 vars:q.vars=p.vars
 places:p.places<=q.places
 edges:∃l,q.edges=p.edges++l
theorem a0S.refl (p:Pr):a0S p p:=⟨rfl,rfl,rfl,rfl,rfl,Nat.le_refl _,[],by simp⟩
theorem a0S.trans {p q r:Pr} (h:a0S p q) (k:a0S q r):a0S p r:=by
 obtain ⟨l,hl⟩:=h.edges
 obtain ⟨m,hm⟩:=k.edges
 exact ⟨k.name.trans h.name,k.copy.trans h.copy,k.locals.trans h.locals,k.names.trans h.names,k.vars.trans h.vars,Nat.le_trans h.places k.places,l++m,by rw [hm,hl,List.append_assoc]⟩
theorem a05 (p:Pr) (frm to act node:Nat) (expr v c:Int):a0S p (p.put frm to act node expr v c):=⟨rfl,rfl,rfl,rfl,rfl,Nat.le_refl _,_,rfl⟩
theorem a27 (p:Pr):a0S p p.place:=⟨rfl,rfl,rfl,rfl,rfl,Nat.le_succ _,[],by simp [Pr.place]⟩
theorem b1V (p:Pr) (n:Nat) (is:Int):a0S p (p.idle n is):=by
 unfold Pr.idle
 split
 ·exact ⟨rfl,rfl,rfl,rfl,rfl,Nat.le_refl _,[],by simp⟩
 ·exact a0S.refl p
theorem a51 (p:Pr) (n:Nat) (is:Int):(p.idle n is).places=p.places/\(p.idle n is).edges=p.edges/\(p.idle n is).vars=p.vars/\(p.idle n is).names=p.names:=by
 unfold Pr.idle;split<;>exact ⟨rfl,rfl,rfl,rfl⟩
theorem a01 {t:List Nd} {nch:Nat} {p:Pr} {frm to act node:Nat} {expr v c:Int} (h:Y3 t nch p) (he:a22 t nch p.places p.vars ⟨frm,to,act,expr,v,c,false,node⟩):Y3 t nch (p.put frm to act node expr v c):=by
 refine ⟨h.two,h.rest,fun e hm=>?_⟩
 rcases List.mem_append.1 hm with hm | hm
 ·exact h.ed e hm
 ·simp at hm;subst hm;exact he
theorem a2x {t:List Nd} {nch:Nat} {p:Pr} (h:Y3 t nch p):Y3 t nch p.place :=
 ⟨by have:=h.two;simp [Pr.place];omega,by simp [Pr.place,h.rest],fun e hm=>(h.ed e hm).mono (Nat.le_succ _)⟩
theorem b48 {t:List Nd} {nch:Nat} {p:Pr} {n:Nat} {is:Int} (h:Y3 t nch p):Y3 t nch (p.idle n is):=by
 unfold Pr.idle
 split
 ·exact ⟨h.two,by simp [h.rest],h.ed⟩
 ·exact h
theorem a6u {t:List Nd} {nch pl:Nat} {vars:List Nat} {frm to node:Nat} (hf:frm<pl) (ht:to<pl):a22 t nch pl vars ⟨frm,to,0,-1,-1,-1,false,node⟩ :=
 ⟨hf,ht,by simp,by simp,by simp,by simp,by simp,by simp,by simp⟩
theorem a29 {t:List Nd} {nch pl:Nat} {vars:List Nat} {frm to node n:Nat} {a:Nat} (ha:a=4∨a=5) (hf:frm<pl) (ht:to<pl) (hn:n<t.length) (hk:a0M (nd t n).kind):a22 t nch pl vars ⟨frm,to,a,(n:Int),-1,-1,false,node⟩:=by
 refine ⟨hf,ht,?_,?_,fun _=>⟨n,rfl,hn,hk⟩,?_,fun _=>rfl,?_,fun _=>rfl⟩<;>simp<;>omega
def a1C (t:List Nd) (nch:Nat) (names:List ByteArray) (vars:List Nat) (st:Pr->Nat->Nat->Nat->Pr) (k:Nat):Prop :=
 ∀p frm to,Y3 t nch p->p.names=names->p.vars=vars->frm<p.places->to<p.places->Y3 t nch (st p k frm to)/\a0S p (st p k frm to)
theorem a4A {t:List Nd} {nch:Nat} {names:List ByteArray} {vars:List Nat} {st:Pr->Nat->Nat->Nat->Pr} {node:Nat}:∀ {ks:List Nat} {p:Pr} {frm to:Nat},(∀k∈ks,a1C t nch names vars st k) ->
 Y3 t nch p->p.names=names->p.vars=vars->frm<p.places->to<p.places->Y3 t nch (a0Q st node p ks frm to)/\a0S p (a0Q st node p ks frm to)
 | [],p,frm,to,_,h,hn,hv,hf,ht=>⟨a01 h (a6u hf ht),a05 _ _ _ _ _ _ _ _⟩
 | [k],p,frm,to,hs,h,hn,hv,hf,ht=>hs k (by simp) p frm to h hn hv hf ht
 | k::k'::ks,p,frm,to,hs,h,hn,hv,hf,ht=>by
   have h1:=hs k (by simp) p.place frm p.places (a2x h) hn hv (Nat.lt_succ_of_lt hf) (Nat.lt_succ_self _)
   have g1:=(a27 p).trans h1.2
   have:=h1.2.places
   have:p.place.places=p.places+1:=rfl
   have h2:=a4A (node:=node) (ks:=k'::ks) (p:=st p.place k frm p.places) (frm:=p.places) (to:=to) (fun x hx=>hs x (by simp only [List.mem_cons] at hx ⊢;right;exact hx)) h1.1 (g1.names.trans hn) (g1.vars.trans hv) (by omega) (by omega)
   exact ⟨h2.1,g1.trans h2.2⟩
theorem b1q {t:List Nd} {nch:Nat} {names:List ByteArray} {vars:List Nat} {st:Pr->Nat->Nat->Nat->Pr} {frm to:Nat}:∀ {ks:List Nat} {p:Pr},(∀b∈ks,∀k∈(nd t b).ks,a1C t nch names vars st k) ->
 Y3 t nch p->p.names=names->p.vars=vars->frm<p.places->to<p.places->Y3 t nch (Y0 t st frm to p ks)/\a0S p (Y0 t st frm to p ks)
 | [],p,_,h,_,_,_,_=>⟨h,a0S.refl p⟩
 | k::ks,p,hs,h,hn,hv,hf,ht=>by
   have key:∀q,Y3 t nch q->a0S p q->Y3 t nch (Y0 t st frm to q ks)/\a0S p (Y0 t st frm to q ks):=fun q hq gq=>by
    have:=gq.places
    have:=b1q (ks:=ks) (p:=q) (frm:=frm) (to:=to) (fun b hb=>hs b (by simp [hb])) hq (gq.names.trans hn) (gq.vars.trans hv) (by omega) (by omega)
    exact ⟨this.1,gq.trans this.2⟩
   have hk:=hs k (by simp)
   unfold Y0
   split
   ·have h1:=a01 (node:=k) (a2x h) (a6u (frm:=frm) (to:=p.places) (Nat.lt_succ_of_lt hf) (Nat.lt_succ_self _))
    have g1:=(a27 p).trans (a05 p.place frm p.places 0 k (-1) (-1) (-1))
    have:=a4A (node:=k) (frm:=p.places) (to:=to) hk h1 hn hv (Nat.lt_succ_self _) (Nat.lt_succ_of_lt ht)
    exact key _ this.1 (g1.trans this.2)
   ·have:=a4A (node:=k) (frm:=frm) (to:=to) hk h hn hv hf ht
    exact key _ this.1 this.2
theorem a4e {t:List Nd} {nch:Nat} {names:List ByteArray} {vars:List Nat} {st:Pr->Nat->Nat->Nat->Pr} {b:Nat} {p:Pr} {frm to:Nat} (hs:∀k∈(nd t b).ks,a1C t nch names vars st k)
 (h:Y3 t nch p) (hn:p.names=names) (hv:p.vars=vars) (hf:frm<p.places) (ht:to<p.places):Y3 t nch (V7 t st p b frm to)/\a0S p (V7 t st p b frm to):=a4A hs h hn hv hf ht
structure a6l (t:List Nd) (nch:Nat) (ch names:List ByteArray) (vars:List Nat) (k:Nat):Prop where
 same:names.length=vars.length
 chs:ch.length=nch
 v:(nd t k).kind=6∨(nd t k).kind=8->0<names.length
 c:(nd t k).kind=7∨(nd t k).kind=8->0<ch.length
theorem a6B {l:List ByteArray} {s:ByteArray} (h:0<l.length):a0i l s<l.length:=by
 unfold a0i;split<;>assumption
theorem b8G {l:List Nat} {i:Nat} (h:i<l.length):l.getD i 0∈l:=by simp [List.getD,h]
theorem c0f {n to:Nat} {l:List Ed} {e:Ed} (h:e∈a0o n to l):∃e'∈l,∃b,e={ e' with keep:=b }:=by
 rcases List.mem_append.1 h with h | h
 ·exact ⟨e,List.mem_of_mem_take h,e.keep,rfl⟩
 ·obtain ⟨e',h',rfl⟩:=List.mem_map.1 h
  exact ⟨e',List.mem_of_mem_drop h',_,rfl⟩
theorem a7t {t:List Nd} (ht:Z0 t) {nch:Nat} {ch names:List ByteArray} {vars:List Nat} {P:Nat->Prop} (hc:∀j,j<t.length->P j->∀k∈(nd t j).ks,P k) (hs:∀k,P k->a6l t nch ch names vars k):∀ (f k:Nat),k<t.length->P k->a14 (nd t k).kind->t.length-k<f->a1C t nch names vars (M9 t ch f) k
 | 0,k,_,_,_,hf=>by omega
 | f+1,k,hk,hP,hst,hf=>by
   intro p frm to h hn hv hfr hto
   have hno:=ht.node k hk
   have hks:=ht.ks hk
   have hS:=hs k hP
   have bl:∀b∈(nd t k).ks,(nd t b).kind=16->∀x∈(nd t b).ks,a1C t nch names vars (M9 t ch f) x:=fun b hb hb16 x hx=>by
    have h1:=hks b hb
    have h2:=ht.ks h1.2 x hx
    exact a7t ht hc hs f x h2.2 (hc b h1.2 (hc k hk hP b hb) x hx) ((ht.node b h1.2).block hb16 x hx) (by omega)
   have hvar:0<names.length->∀s,∃n∈p.vars,((p.vars.getD (a0i p.names s) 0:Nat):Int)=((n:Nat):Int):=fun hp s=>by
    refine ⟨_,b8G ?_,rfl⟩
    rw [hv,hn,<- hS.same]
    exact a6B hp
   have hch:0<ch.length->∀s,∃n:Nat,((a0i ch s:Nat):Int)=(n:Int)/\n<nch:=fun hp s=>⟨_,rfl,by rw [<- hS.chs];exact a6B hp⟩
   have hex:1<=(nd t k).kids.length->a0M (nd t ((nd t k).kid 0)).kind->∃n:Nat,(((nd t k).kid 0:Nat):Int)=(n:Int)/\n<t.length/\a0M (nd t n).kind:=fun h1 h2=>⟨_,rfl,(hks _ (V6 h1)).2,h2⟩
   have ip:=a51 p frm ((nd t k).num 0)
   have gi:=b1V p frm ((nd t k).num 0)
   have ii:=b48 (n:=frm) (is:=(nd t k).num 0) h
   unfold M9
   simp only
   have hp2:=h.two
   by_cases c6:(nd t k).kind=6
   ·rw [if_pos c6]
    have h1:=hno.one (by omega)
    refine ⟨a01 h ⟨hfr,hto,by simp,by simp,fun _=>hex (by omega) h1.2,fun _=>hvar (hS.v (by omega)) _,by simp,by simp,fun _=>rfl⟩,a05 _ _ _ _ _ _ _ _⟩
   rw [if_neg c6]
   by_cases c7:(nd t k).kind=7
   ·rw [if_pos c7]
    have h1:=hno.one (by omega)
    refine ⟨a01 h ⟨hfr,hto,by simp,by simp,fun _=>hex (by omega) h1.2,by simp,fun _=>rfl,fun _=>hch (hS.c (by omega)) _,by simp⟩,a05 _ _ _ _ _ _ _ _⟩
   rw [if_neg c7]
   by_cases c8:(nd t k).kind=8
   ·rw [if_pos c8]
    refine ⟨a01 ii ⟨by rw [ip.1];exact hfr,by rw [ip.1];exact hto,by simp,fun _=>rfl,by simp,fun _=>by rw [ip.2.2.1];exact hvar (hS.v (by omega)) _,by simp,fun _=>hch (hS.c (by omega)) _,by simp⟩,gi.trans (a05 _ _ _ _ _ _ _ _)⟩
   rw [if_neg c8]
   by_cases c9:(nd t k).kind=9
   ·rw [if_pos c9]
    have h1:=hno.one (by omega)
    exact ⟨a01 ii (a29 (.inl rfl) (by rw [ip.1];exact hfr) (by rw [ip.1];exact hto) (hks _ (V6 (by omega))).2 h1.2),gi.trans (a05 _ _ _ _ _ _ _ _)⟩
   rw [if_neg c9]
   by_cases c10:(nd t k).kind=10
   ·rw [if_pos c10]
    have h1:=hno.choose c10
    have:=b1q (frm:=frm) (to:=to) (fun b hb=>bl b hb (h1.2 b hb)) ii (ip.2.2.2.trans hn) (ip.2.2.1.trans hv) (by rw [ip.1];exact hfr) (by rw [ip.1];exact hto)
    exact ⟨this.1,gi.trans this.2⟩
   rw [if_neg c10]
   by_cases c11:(nd t k).kind=11
   ·rw [if_pos c11]
    obtain ⟨l1,l2,l3,l4⟩:=hno.cond c11
    have k0:=(hks _ (V6 (i:=0) (by omega))).2
    have m1:=V6 (x:=nd t k) (i:=1) (by omega)
    have i1:=a01 (node:=k) (a2x h) (a29 (.inl rfl) (frm:=frm) (to:=p.places) (Nat.lt_succ_of_lt hfr) (Nat.lt_succ_self _) k0 l2)
    have g1:=(a27 p).trans (a05 p.place frm p.places 4 k ((nd t k).kid 0:Nat) (-1) (-1))
    have s1:=a4e (b:=(nd t k).kid 1) (frm:=p.places) (to:=to) (bl _ m1 l3) i1 hn hv (Nat.lt_succ_self _) (Nat.lt_succ_of_lt hto)
    generalize V7 t (M9 t ch f) (p.place.put frm p.places 4 k ((nd t k).kid 0:Nat) (-1) (-1)) ((nd t k).kid 1) p.places to=q at *
    have g2:=g1.trans s1.2
    have:=g2.places
    split
    ·exact ⟨a01 s1.1 (a29 (.inr rfl) (by omega) (by omega) k0 l2),g2.trans (a05 _ _ _ _ _ _ _ _)⟩
    ·have l3':(nd t k).kids.length=3:=by omega
     have m2:=V6 (x:=nd t k) (i:=2) (by omega)
     have hpl:q.place.places=q.places+1:=rfl
     have i2:=a01 (node:=k) (a2x s1.1) (a29 (.inr rfl) (frm:=frm) (to:=q.places) (by omega) (Nat.lt_succ_self _) k0 l2)
     have g3:=(g2.trans (a27 _)).trans (a05 _ frm q.places 5 k ((nd t k).kid 0:Nat) (-1) (-1))
     have s2:=a4e (b:=(nd t k).kid 2) (frm:=q.places) (to:=to) (bl _ m2 (l4 l3')) i2 (g3.names.trans hn) (g3.vars.trans hv) (Nat.lt_succ_self _) (by show to<q.places+1;omega)
     exact ⟨s2.1,g3.trans s2.2⟩
   rw [if_neg c11]
   by_cases c12:(nd t k).kind=12
   ·rw [if_pos c12]
    obtain ⟨l1,l2,l3⟩:=hno.loop c12
    have k0:=(hks _ (V6 (i:=0) (by omega))).2
    have m1:=V6 (x:=nd t k) (i:=1) (by omega)
    have i1:=a01 (node:=k) (a2x h) (a29 (.inl rfl) (frm:=frm) (to:=p.places) (Nat.lt_succ_of_lt hfr) (Nat.lt_succ_self _) k0 l2)
    have i2:=a01 (node:=k) i1 (a29 (.inr rfl) (frm:=frm) (to:=to) (Nat.lt_succ_of_lt hfr) (Nat.lt_succ_of_lt hto) k0 l2)
    have g1:=((a27 p).trans (a05 p.place frm p.places 4 k ((nd t k).kid 0:Nat) (-1) (-1))).trans (a05 _ frm to 5 k ((nd t k).kid 0:Nat) (-1) (-1))
    have s1:=a4A (node:=(nd t k).kid 1) (frm:=p.places) (to:=frm) (bl _ m1 l3) i2 hn hv (Nat.lt_succ_self _) (Nat.lt_succ_of_lt hfr)
    exact ⟨s1.1,g1.trans s1.2⟩
   rw [if_neg c12]
   by_cases c13:(nd t k).kind=13
   ·rw [if_pos c13]
    obtain ⟨l1,l2⟩:=hno.atom c13
    have m0:=V6 (x:=nd t k) (i:=0) (by omega)
    have s1:=a4A (node:=(nd t k).kid 0) (frm:=frm) (to:=to) (bl _ m0 l2) h hn hv hfr hto
    obtain ⟨l,hl⟩:=s1.2.edges
    refine ⟨⟨s1.1.two,s1.1.rest,fun e he=>?_⟩,⟨s1.2.name,s1.2.copy,s1.2.locals,s1.2.names,s1.2.vars,s1.2.places,l.map fun e=>{ e with keep:=e.to != to&&e.to != 1 },?_⟩⟩
    ·obtain ⟨e',h',b,rfl⟩:=c0f he
     have:=s1.1.ed e' h'
     exact ⟨this.f,this.to,this.act,this.ex0,this.ex1,this.v1,this.v0,this.c1,this.c0⟩
    ·show a0o _ _ (V7 t (M9 t ch f) p ((nd t k).kid 0) frm to).edges=p.edges++l.map fun e=>{ e with keep:=e.to != to&&e.to != 1 }
     unfold a0o V7
     rw [hl,List.take_left,List.drop_left]
   rw [if_neg c13]
   by_cases c15:(nd t k).kind=15
   ·rw [if_pos c15]
    exact ⟨a01 h (a6u hfr (by omega)),a05 _ _ _ _ _ _ _ _⟩
   rw [if_neg c15]
   exact ⟨a01 h (a6u hfr hto),a05 _ _ _ _ _ _ _ _⟩
end Go.V
namespace Go.V
def a2m (w:Nat->Nat×Bool) (len:Nat):List Int->Nat->Nat×Bool
 | [],next=>(next,true)
 | k::ks,next=>if k≠(next:Int)∨len<=next then (next,false) else if (w next).2 then a2m w len ks (w next).1 else ((w next).1,false)
def R7 (t:List Nd):Nat->Nat->Nat×Bool
 | 0,i=>(i,false)
 | f+1,i=>a2m (R7 t f) t.length (nd t i).kids (i+1)
structure Sub (t:List Nd) (i n:Nat):Prop where
 lt:i<n
 le:n<=t.length
 down:∀j,i<=j->j<n->∀k∈(nd t j).kids,(j:Int)<k/\k<(n:Int)
 up:∀j,i<j->j<n->∃p,i<=p/\p<n/\(j:Int)∈(nd t p).kids
def Y4 (t:List Nd):List Int->Nat->Nat->Prop
 | [],a,n=>a=n
 | k::ks,a,n=>k=(a:Int)/\∃b,Sub t a b/\Y4 t ks b n
theorem Y4.le {t:List Nd}:∀ {ks:List Int} {a n:Nat},Y4 t ks a n->a<=n
 | [],a,n,h=>Nat.le_of_eq h
 | k::ks,a,n,h=>by
   obtain ⟨_,b,h1,h2⟩:=h
   have:=h1.lt
   have:=h2.le
   omega
theorem Y4.down {t:List Nd}:∀ {ks:List Int} {a n:Nat},Y4 t ks a n->∀j,a<=j->j<n->∀k∈(nd t j).kids,(j:Int)<k/\k<(n:Int)
 | [],a,n,h,j,h1,h2=>by simp only [Y4] at h;omega
 | k::ks,a,n,h,j,h1,h2=>by
   obtain ⟨_,b,h3,h4⟩:=h
   have:=h4.le
   by_cases hj:j<b
   ·intro x hx
    have:=h3.down j h1 hj x hx
    omega
   ·exact h4.down j (by omega) h2
theorem Y4.up {t:List Nd}:∀ {ks:List Int} {a n:Nat},Y4 t ks a n->∀j,a<=j->j<n->(j:Int)∈ks∨∃p,a<=p/\p<n/\(j:Int)∈(nd t p).kids
 | [],a,n,h,j,h1,h2=>by simp only [Y4] at h;omega
 | k::ks,a,n,h,j,h1,h2=>by
   obtain ⟨rfl,b,h3,h4⟩:=h
   have:=h4.le
   have:=h3.lt
   by_cases hj:j<b
   ·by_cases ha:j=a
    ·subst ha;exact .inl (by simp)
    ·obtain ⟨p,p1,p2,p3⟩:=h3.up j (by omega) hj
     exact .inr ⟨p,p1,by omega,p3⟩
   ·rcases h4.up j (by omega) h2 with h | ⟨p,p1,p2,p3⟩
    ·exact .inl (by simp [h])
    ·exact .inr ⟨p,by omega,p2,p3⟩
theorem Y4.mem {t:List Nd}:∀ {ks:List Int} {a n:Nat},Y4 t ks a n->∀k∈ks,(a:Int)<=k/\k<(n:Int)
 | [],a,n,h=>by simp
 | k::ks,a,n,h=>by
   obtain ⟨rfl,b,h3,h4⟩:=h
   have:=h4.le
   have:=h3.lt
   intro x hx
   rcases List.mem_cons.1 hx with rfl | hx
   ·omega
   ·have:=h4.mem x hx
    omega
theorem c57 {t:List Nd} {i n:Nat} (h:Y4 t (nd t i).kids (i+1) n) (hn:n<=t.length):Sub t i n:=by
 have hl:=h.le
 refine ⟨by omega,hn,fun j h1 h2=>?_,fun j h1 h2=>?_⟩
 ·by_cases hj:j=i
  ·subst hj
   intro k hk
   have:=h.mem k hk
   omega
  ·exact h.down j (by omega) h2
 ·rcases h.up j (by omega) h2 with h | ⟨p,p1,p2,p3⟩
  ·exact ⟨i,by omega,by omega,h⟩
  ·exact ⟨p,by omega,p2,p3⟩
theorem b20 {t:List Nd} {w:Nat->Nat×Bool} (hw:∀i n,i<t.length->w i=(n,true)->Sub t i n):∀ {ks:List Int} {next n:Nat},next<=t.length->a2m w t.length ks next=(n,true)->Y4 t ks next n/\n<=t.length
 | [],next,n,hl,h=>by
   simp only [a2m,Prod.mk.injEq,and_true] at h
   subst h
   exact ⟨rfl,hl⟩
 | k::ks,next,n,hl,h=>by
   unfold a2m at h
   split at h
   ·simp at h
   ·rename_i hc
    split at h
    ·rename_i ht
     have hk:k=(next:Int)/\next<t.length:=by omega
     have a:=hw next (w next).1 hk.2 (by rw [<- ht])
     obtain ⟨b1,b2⟩:=b20 hw a.le h
     exact ⟨⟨hk.1,_,a,b1⟩,b2⟩
    ·simp at h
theorem a2W {t:List Nd}:∀ (f:Nat) {i n:Nat},i<t.length->R7 t f i=(n,true)->Sub t i n/\Y4 t (nd t i).kids (i+1) n
 | 0,i,n,_,h=>by simp [R7] at h
 | f+1,i,n,hi,h=>by
   obtain ⟨a1,a2⟩:=b20 (fun i n hi h=>(a2W f hi h).1) (by omega) h
   exact ⟨c57 a1 a2,a1⟩
theorem b1C {t:List Nd} {w:Nat->Nat×Bool} (hw:∀i,i<t.length->(w i).1<=t.length):∀ {ks:List Int} {next:Nat},next<=t.length->(a2m w t.length ks next).1<=t.length
 | [],next,h=>h
 | k::ks,next,h=>by
   unfold a2m
   split
   ·exact h
   ·rename_i hc
    split
    ·exact b1C hw (hw next (by omega))
    ·exact hw next (by omega)
theorem b2u {t:List Nd}:∀ (f:Nat) {i:Nat},i<t.length->(R7 t f i).1<=t.length
 | 0,i,h=>Nat.le_of_lt h
 | f+1,i,h=>b1C (fun i hi=>b2u f hi) (by omega)
end Go.V
namespace Go.V
structure N6 (t:List Nd):Prop where
 ok:Z0 t
 subs:Y4 t (nd t 0).kids 1 t.length
 walk:R7 t 20 0=(t.length,true)
def a1H:List Int->Nat->Nat->Nat
 | [],_,out=>out
 | k::ks,i,out=>a1H ks i (if k<=(i:Int) then k.toNat else out)
def item (t:List Nd) (i:Nat):Nat:=a1H (nd t 0).kids i 0
theorem a60 {ks:List Int} {i out:Nat} (h:∀k∈ks,(i:Int)<k):a1H ks i out=out:=by
 induction ks generalizing out with
 | nil=>rfl
 | cons k ks ih =>
   have:=h k (by simp)
   unfold a1H
   rw [if_neg (by omega)]
   exact ih fun x hx=>h x (by simp [hx])
theorem b5D {t:List Nd}:∀ {ks:List Int} {a n i out:Nat},Y4 t ks a n->a<=i->i<n->∃b,(a1H ks i out:Int)∈ks/\Sub t (a1H ks i out) b/\a1H ks i out<=i/\i<b
 | [],a,n,i,out,h,h1,h2=>by simp only [Y4] at h;omega
 | k::ks,a,n,i,out,h,h1,h2=>by
   obtain ⟨rfl,b,h3,h4⟩:=h
   unfold a1H
   rw [if_pos (by omega)]
   by_cases hb:i<b
   ·rw [a60 fun x hx=>by have:=h4.mem x hx;omega]
    exact ⟨b,by simp,by simpa using h3,by simpa using h1,hb⟩
   ·obtain ⟨c,c1,c2,c3,c4⟩:=b5D (out:=(a:Int).toNat) h4 (by omega) h2
    exact ⟨c,List.mem_cons_of_mem _ c1,c2,c3,c4⟩
theorem b93 {t:List Nd} (h:N6 t) {i:Nat} (h1:1<=i) (h2:i<t.length):∃b,(item t i:Int)∈(nd t 0).kids/\Sub t (item t i) b/\item t i<=i/\i<b:=b5D h.subs h1 h2
theorem a3M {t:List Nd} (h:N6 t) {x:Nat} (hx:(x:Int)∈(nd t 0).kids):item t x=x:=by
 have hm:=h.subs.mem _ hx
 have key:∀ {ks:List Int} {a n out:Nat},Y4 t ks a n->(x:Int)∈ks->a1H ks x out=x:=by
  intro ks
  induction ks with
  | nil=>intro a n out _ hx;simp at hx
  | cons k ks ih =>
    intro a n out hs hx
    obtain ⟨rfl,b,h3,h4⟩:=hs
    unfold a1H
    rcases List.mem_cons.1 hx with hx | hx
    ·rw [if_pos (by omega),a60 fun y hy=>by have:=h4.mem y hy;have:=h3.lt;omega]
     omega
    ·exact ih h4 hx
 exact key h.subs hx
theorem b3c {t:List Nd} (h:N6 t) {x i:Nat} (hx:(x:Int)∈(nd t 0).kids):∃b,Sub t x b/\b<=t.length/\∀i,x<=i->i<b->item t i=x:=by
 have key:∀ {ks:List Int} {a n:Nat},Y4 t ks a n->(x:Int)∈ks->∃b,Sub t x b/\b<=n/\∀i out,x<=i->i<b->a1H ks i out=x:=by
  intro ks
  induction ks with
  | nil=>intro a n _ hx;simp at hx
  | cons k ks ih =>
    intro a n hs hx
    obtain ⟨rfl,b,h3,h4⟩:=hs
    have hl:=h4.le
    rcases List.mem_cons.1 hx with hx | hx
    ·obtain rfl:x=a:=by omega
     refine ⟨b,h3,hl,fun i out h1 h2=>?_⟩
     unfold a1H
     rw [if_pos (by omega),a60 fun y hy=>by have:=h4.mem y hy;omega]
     omega
    ·obtain ⟨c,c1,c2,c3⟩:=ih h4 hx
     exact ⟨c,c1,c2,fun i out h1 h2=>c3 i _ h1 h2⟩
 obtain ⟨b,b1,b2,b3⟩:=key h.subs hx
 exact ⟨b,b1,b2,fun i h1 h2=>b3 i 0 h1 h2⟩
def a03 (t:List Nd) (kind:Int) (at':Nat) (s:ByteArray):Prop:=∃i,i<at'/\(nd t i).kind=kind/\(item t i=i∨item t i=item t at')/\(nd t i).word 0=s
def W8 (t:List Nd) (at':Nat) (kind:Int):Nat->List ByteArray
 | 0=>[]
 | i+1=>if (nd t i).kind=kind/\(item t i=i∨item t i=item t at')/\inB (W8 t at' kind i) ((nd t i).word 0)=false then W8 t at' kind i++[(nd t i).word 0] else W8 t at' kind i
theorem b40 {t:List Nd} {at':Nat} {kind:Int} {s:ByteArray}:∀ {n:Nat},s∈W8 t at' kind n↔∃i,i<n/\(nd t i).kind=kind/\(item t i=i∨item t i=item t at')/\(nd t i).word 0=s
 | 0=>by simp [W8]
 | n+1=>by
   have ih:=b40 (t:=t) (at':=at') (kind:=kind) (s:=s) (n:=n)
   rw [W8]
   split
   ·rename_i hc
    rw [List.mem_append,ih]
    constructor
    ·rintro (⟨i,h1,h2⟩ | h)
     ·exact ⟨i,by omega,h2⟩
     ·simp at h
      exact ⟨n,by omega,hc.1,hc.2.1,h.symm⟩
    ·rintro ⟨i,h1,h2,h3,h4⟩
     by_cases hi:i=n
     ·subst hi;right;simp [h4]
     ·exact .inl ⟨i,by omega,h2,h3,h4⟩
   ·rename_i hc
    rw [ih]
    constructor
    ·rintro ⟨i,h1,h2⟩
     exact ⟨i,by omega,h2⟩
    ·rintro ⟨i,h1,h2,h3,h4⟩
     by_cases hi:i=n
     ·subst hi
      have:(nd t i).word 0∈W8 t at' kind i:=by
       rw [<- b0n]
       cases h:inB (W8 t at' kind i) ((nd t i).word 0)
       ·exact (hc ⟨h2,h3,h⟩).elim
       ·rfl
      rw [h4] at this
      obtain ⟨j,j1,j2⟩:=ih.1 this
      exact ⟨j,j1,j2⟩
     ·exact ⟨i,by omega,h2,h3,h4⟩
structure a0s (t:List Nd):Prop where
 use:∀i,i<t.length->(nd t i).kind=6∨(nd t i).kind=18->a03 t 2 i ((nd t i).word 0)
 chan:∀i,i<t.length->(nd t i).kind=7∨(nd t i).kind=19∨(nd t i).kind=8->a03 t 1 i ((nd t i).word 0)
 recv:∀i,i<t.length->(nd t i).kind=8->a03 t 2 i ((nd t i).word 1)
 once:∀i,i<t.length->(nd t i).kind=1∨(nd t i).kind=2∨(nd t i).kind=3->¬ a03 t 1 i ((nd t i).word 0)/\¬ a03 t 2 i ((nd t i).word 0)/\¬ a03 t 3 i ((nd t i).word 0)
end Go.V
namespace Go.Proofs.YtnjlhebkhjcagaaGreat
open Go.V
set_option maxRecDepth 100000
set_option maxHeartbeats 4000000
theorem a2g {i n:Nat} (h:i<n) (hn:n<=maxLen):IntKind.i64.wrap ((i:Int)+1)=((i+1:Nat):Int):=by
 have:maxLen=9223372036854775807:=rfl
 rw [O7 (by omega) (by omega)];omega
def Iso (f:Nat) (l:List D) (r:D):Prop:=∃s1,Ev vfs f l f6.empty r s1
def S6 (f:Nat) (l:List D) (P:Bool->Prop):Prop:=∃b,Iso f l (.bool b)/\P b
theorem U0 {f:Nat} {l:List D} {P:Bool->Prop} (h:EvP vfs f l f6.empty fun d _=>∃b,d=.bool b/\P b):S6 f l P:=by
 obtain ⟨d,s',h,b,rfl,hp⟩:=h
 exact ⟨b,⟨s',h⟩,hp⟩
theorem a2r {f:Nat} {l:List D} {r:D} (h:EvP vfs f l f6.empty fun d _=>d=r):Iso f l r:=by
 obtain ⟨d,s',h,rfl⟩:=h
 exact ⟨s',h⟩
theorem M4 {pairs i t f args rest s Q} {env:Env} {l:List D} {r:D} (hr:Iso f l r) (hs:a0m r=true) (hl:env.evL args=l) (ha:N1 (V.ice s.get 20) l=some l)
 (h:WQ vfs pairs rest ((t,r)::env) s Q):WQ vfs pairs ((i,⟨some t,.m (.call .iso (.cst (.fn f [])) args),none⟩)::rest) env s Q:=by
 obtain ⟨s1,hr⟩:=hr
 exact a2b hr hs hl ha h
theorem b49 {n:Int}:S6 78 [.int .u8 n] fun _=>True:=by
 refine U0 ?_
 by_cases c1:65<=n<;>by_cases c2:n<=90<;>by_cases c3:97<=n<;>by_cases c4:n<=122
 all_goals
  refine M6 (vf:=a8W) rfl ?_
  unfold a8W;refine zE ?_
  try refine zW (aN c1 (aN c2 (aN c3 c4))) ?_
  exact ⟨.inr trivial,_,rR,_,rfl,trivial⟩
theorem c6p {n:Int}:S6 80 [.int .u8 n] fun _=>True:=by
 refine U0 ?_
 by_cases c1:48<=n<;>by_cases c2:n<=57
 all_goals
  refine M6 (vf:=a8y) rfl ?_
  unfold a8y;refine zE ?_
  try refine zW (aN c1 c2) ?_
  exact ⟨.inr trivial,_,rR,_,rfl,trivial⟩
theorem b9e {n:Int}:S6 79 [.int .u8 n] fun _=>True:=by
 refine U0 ?_
 obtain ⟨b1,h1,_⟩:=b49 (n:=n)
 obtain ⟨b2,h2,_⟩:=c6p (n:=n)
 cases b1<;>cases b2<;>by_cases c1:(n==95)=true
 all_goals
  refine M6 (vf:=a99) rfl ?_
  unfold a99;refine zE ?_
  repeat first
  |(apply M4 h1 rfl rfl rfl)
  |(apply M4 h2 rfl rfl rfl)
  |refine zW c1 ?_
  exact ⟨.inr trivial,_,rR,_,rfl,trivial⟩
theorem c0m {s:f6} {id n:Nat} {cs:List D} (h:s.get id=some (.cells cs)) (hn:cs.length=n):Rd s (.arr id 0 n 1) cs:=by subst hn;exact Rd.arr h
theorem b7d {x:ByteArray}:S6 120 [.str x] fun _=>True:=by
 refine U0 ?_
 refine M6 (vf:=a9f) rfl ?_
 unfold a9f;refine zE ?_
 try refine zW0 ?_
 refine W2 (Q:=N5 0 _) (fun n env s=>∃ (i:Nat) (cs:List D),i<=21/\n=21-i/\s.get 0=some (.cells cs)/\cs.length=21/\(∀c∈cs,∃y,c=.str y)/\(env.get 0=.str x/\env.get 3=.arr 0 0 21 1/\env.get 4=.int .i64 (i:Int))) ?_ 21 _ _
  ⟨0,_,by omega,rfl,P0 rfl,rfl,by simp,by simp [Env.get,P3.at];rfl⟩
 rintro n env s ⟨i,cs,hi,rfl,hg,hl,hc,hE⟩
 have l21:((21:Nat):Int)=21:=rfl
 by_cases h:i<21
 ·have c1:((i:Int)<21)=True:=eq_true (by omega)
  have hs:IntKind.i64.wrap ((i:Int)+1)=((i+1:Nat):Int):=by rw [O7 (by omega) (by omega)];omega
  have ho:cs.all M8=true:=by
   rw [List.all_eq_true]
   intro c hm
   obtain ⟨y,rfl⟩:=hc c hm
   rfl
  obtain ⟨p,p1,p2⟩:=(c0m hg hl).idx ho (i:=i) (by omega) (k:=.i64) rfl
  obtain ⟨y,hy⟩:=hc cs[i] (List.getElem_mem _)
  rw [hy] at p2
  by_cases c2:y=x
  ·try refine zW (aN hE (aN l21 (aN c1 (aN p1 (aN p2 c2))))) ?_
   exact ⟨.inr trivial,_,rR,_,rfl,trivial⟩
  ·try refine zW (aN hE (aN l21 (aN c1 (aN p1 (aN p2 (aN c2 hs)))))) ?_
   exact ⟨21-(i+1),by omega,i+1,cs,by omega,rfl,hg,hl,hc,(rG hE)⟩
 ·have c1:((i:Int)<21)=False:=eq_false (by omega)
  try refine zW (aN hE (aN l21 c1)) ?_
  exact ⟨.inr trivial,_,rR,_,rfl,trivial⟩
theorem b4H {x:ByteArray} {i:Nat} (h:i<x.size):∃v,a5D (.str x) (.int .i64 (i:Int))=some (.int .u8 v):=by
 refine ⟨(x[i]).toNat,?_⟩
 have:x[i]?=some x[i]:=by simp [h]
 simp [a5D,this]
theorem c00 {x:ByteArray}:S6 116 [.str x] fun _=>True:=by
 refine U0 ?_
 by_cases c1:x.size=0
 ·have c1':((x.size:Int)==0)=true:=by rw [c1];rfl
  refine M6 (vf:=a2O) rfl ?_
  unfold a2O;refine zE ?_
  try refine zW c1' ?_
  exact ⟨.inr trivial,_,rR,_,rfl,trivial⟩
 have c1':((x.size:Int)==0)=false:=by rw [beq_eq_false_iff_ne];omega
 by_cases c2:12<x.size
 ·have c2':((12:Int)<(x.size:Int))=True:=eq_true (by omega)
  refine M6 (vf:=a2O) rfl ?_
  unfold a2O;refine zE ?_
  try refine zW (aN c1' c2') ?_
  exact ⟨.inr trivial,_,rR,_,rfl,trivial⟩
 have c2':((12:Int)<(x.size:Int))=False:=eq_false (by omega)
 obtain ⟨v,hv⟩:=b4H (x:=x) (i:=0) (by omega)
 obtain ⟨b1,h1,_⟩:=b49 (n:=v)
 have z0:((0:Nat):Int)=0:=rfl
 rw [z0] at hv
 cases b1
 ·refine M6 (vf:=a2O) rfl ?_
  unfold a2O;refine zE ?_
  repeat first
  |(apply M4 h1 rfl rfl rfl)
  |refine zW (aN c1' (aN c2' hv)) ?_
  exact ⟨.inr trivial,_,rR,_,rfl,trivial⟩
 obtain ⟨b2,h2,_⟩:=b7d (x:=x)
 cases b2
 ·refine M6 (vf:=a2O) rfl ?_
  unfold a2O;refine zE ?_
  repeat first
  |(apply M4 h1 rfl rfl rfl)
  |(apply M4 h2 rfl rfl rfl)
  |refine zW (aN c1' (aN c2' hv)) ?_
  refine W2 (Q:=N5 0 _) (fun n env s=>∃i:Nat,i<=x.size/\n=x.size-i/\(env.get 0=.str x/\env.get 3=.int .i64 (i:Int))) ?_ x.size _ _ ⟨0,by omega,rfl,by simp [Env.get]⟩
  rintro n env s ⟨i,hi,rfl,hE⟩
  by_cases c3:i<x.size
  ·have c3':((i:Int)<(x.size:Int))=True:=eq_true (by omega)
   have hs:IntKind.i64.wrap ((i:Int)+1)=((i+1:Nat):Int):=by rw [O7 (by omega) (by omega)];omega
   obtain ⟨v,hv⟩:=b4H (x:=x) (i:=i) (by omega)
   obtain ⟨b3,h3,_⟩:=b9e (n:=v)
   cases b3
   ·repeat first
    |(apply M4 h3 rfl rfl rfl)
    |refine zW (aN hE (aN c3' hv)) ?_
    exact ⟨.inr trivial,_,rR,_,rfl,trivial⟩
   ·repeat first
    |(apply M4 h3 rfl rfl rfl)
    |refine zW (aN hE (aN c3' (aN hv hs))) ?_
    exact ⟨x.size-(i+1),by omega,i+1,by omega,rfl,(rG hE)⟩
  ·have c3':((i:Int)<(x.size:Int))=False:=eq_false (by omega)
   try refine zW (aN hE c3') ?_
   exact ⟨.inr trivial,_,rR,_,rfl,trivial⟩
 ·refine M6 (vf:=a2O) rfl ?_
  unfold a2O;refine zE ?_
  repeat first
  |(apply M4 h1 rfl rfl rfl)
  |(apply M4 h2 rfl rfl rfl)
  |refine zW (aN c1' (aN c2' hv)) ?_
  exact ⟨.inr trivial,_,rR,_,rfl,trivial⟩
end Go.Proofs.YtnjlhebkhjcagaaGreat
namespace Go.V
def Fz (d:D):Prop:=∀g n,ice g (n+3) d=some d
theorem k4 {k:IntKind} {n:Int}:Fz (.int k n):=fun _ _=>rfl
theorem V8 {x:ByteArray}:Fz (.str x):=fun _ _=>rfl
theorem FL.fz {sz:Nat} {d:D} {rows:List (List D)} (h:FL sz d rows):Fz d:=fun _ _=>h.ice
theorem N7.fz {d:D} {t:List Nd} (h:N7 d t):Fz d:=h.fl.fz
theorem b4k {f:D->Option D}:∀ {l:List D},(∀d∈l,f d=some d)->N1 f l=some l
 | [],_=>rfl
 | d::r,h=>by
   rw [N1,h d (by simp),b4k fun x hx=>h x (by simp [hx])]
theorem fz1 {g:P8} {a:D} (ha:Fz a):N1 (V.ice g 20) [a]=some [a]:=by simp only [N1,ha g 17]
theorem fz2 {g:P8} {a b:D} (ha:Fz a) (hb:Fz b):N1 (V.ice g 20) [a,b]=some [a,b]:=by simp only [N1,ha g 17,hb g 17]
theorem fz3 {g:P8} {a b c:D} (ha:Fz a) (hb:Fz b) (hc:Fz c):N1 (V.ice g 20) [a,b,c]=some [a,b,c]:=by simp only [N1,ha g 17,hb g 17,hc g 17]
theorem fz5 {g:P8} {a b c d e:D} (ha:Fz a) (hb:Fz b) (hc:Fz c) (hd:Fz d) (he:Fz e):N1 (V.ice g 20) [a,b,c,d,e]=some [a,b,c,d,e]:=by simp only [N1,ha g 17,hb g 17,hc g 17,hd g 17,he g 17]
theorem a5x {l:List D} (h:∀d∈l,∀g n,ice g (n+2) d=some d):Fz (.agg l):=fun g n=>by
 show (N1 (V.ice g (n+2)) l).map D.agg=some (D.agg l)
 rw [b4k fun d hd=>h d hd g n]
 rfl
theorem FL.ic {sz:Nat} {d:D} {rows:List (List D)} (h:FL sz d rows):∀g n,V.ice g (n+2) d=some d:=fun _ _=>h.ice
theorem Nd.Ok.fz {x:Nd} (h:x.Ok):Fz (.agg x.row):=a5x fun d hd=>by
 simp only [Nd.row,List.mem_cons,List.not_mem_nil,or_false] at hd
 rcases hd with rfl | rfl | rfl | rfl | rfl
 ·exact fun _ _=>rfl
 ·exact FL.ic h.w
 ·exact FL.ic h.n
 ·exact FL.ic h.k
 ·exact fun _ _=>rfl
theorem a4t {x:Nd} {i:Nat} (h:i<x.kids.length):x.kid i=x.kids[i].toNat:=by simp [Nd.kid,List.getD,h]
theorem a4w {x:Nd} {i:Nat} (h:i<x.nums.length):x.num i=x.nums[i]:=by simp [Nd.num,List.getD,h]
theorem a2T {x:Nd} {i:Nat} (h:i<x.words.length):x.word i=x.words[i]:=by simp [Nd.word,List.getD,h]
theorem N7.at {d:D} {t:List Nd} (h:N7 d t) {z:Int} (h0:0<=z) (hl:z<(t.length:Int)) {k:IntKind}:N2 5 d (.int k z)=some (.fp [.int .i64 (nd t z.toNat).kind,(nd t z.toNat).dw,(nd t z.toNat).dn,(nd t z.toNat).dk,.int .i64 (nd t z.toNat).pos] 0):=by
 have hz:((z.toNat:Nat):Int)=z:=Int.toNat_of_nonneg h0
 have:=h.idx (i:=z.toNat) (by omega) (k:=k)
 rw [hz,<- b1a (by omega)] at this
 exact this
theorem N7.nd {d:D} {t:List Nd} (h:N7 d t) {i:Nat} (hi:i<t.length):(V.nd t i).Ok:=by rw [b1a hi];exact h.get hi
end Go.V
namespace Go.Proofs.YtnjlhebkhjcagaaGreat
open Go.V
set_option maxRecDepth 100000
set_option maxHeartbeats 4000000
def inR (k a b:Int):Bool:=decide (a<=k)&&decide (k<=b)
theorem a83 {k a b:Int}:inR k a b=true↔a<=k/\k<=b:=by simp [inR]
theorem a6U {k a b:Int}:Iso 93 [.int .i64 k,.int .i64 a,.int .i64 b] (.bool (inR k a b)):=by
 refine a2r ?_
 unfold inR
 by_cases c:a<=k
 ·refine M6 (vf:=a52) rfl ?_
  unfold a52;refine zE ?_
  try refine zW c ?_
  exact ⟨.inr trivial,_,rR,by simp [c]⟩
 ·refine M6 (vf:=a52) rfl ?_
  unfold a52;refine zE ?_
  try refine zW c ?_
  exact ⟨.inr trivial,_,rR,by simp [c]⟩
theorem a8Z {d:D} {t:List Nd} {x:Nd} {i:Nat} (hT:N7 d t) (hx:x.Ok) (hi:i<x.kids.length) (h0:0<=x.kids[i]) (hl:x.kids[i]<(t.length:Int)):Iso 94 [d,.agg x.row,.int .i64 (i:Int)] (.int .i64 (nd t (x.kid i)).kind):=by
 refine a2r ?_
 have h1:=FI.idx hx.k hi (k:=.i64)
 have h2:=hT.at h0 hl (k:=.i64)
 have o1:=FL.one hx.w
 have o2:=FL.one hx.n
 have o3:=FL.one hx.k
 rw [a4t hi]
 unfold Nd.row
 refine M6 (vf:=a8F) rfl ?_
 unfold a8F;refine zE ?_
 try refine zW (aN h1 (aN h2 (aN o1 (aN o2 o3)))) ?_
 exact ⟨.inr trivial,_,rR,rfl⟩
theorem a0r {x:Nd} (hx:x.Ok) {c:Int}:S6 90 [.agg x.row,.int .i64 c] fun b=>b=true->(x.words.length:Int)=c:=by
 refine U0 ?_
 have o1:=FL.one hx.w
 have o2:=FL.one hx.n
 have o3:=FL.one hx.k
 have hlen:=FS.len hx.w
 unfold Nd.row
 refine M6 (vf:=a9W) rfl ?_
 unfold a9W;refine zE ?_
 try refine zW (aN o1 (aN o2 o3)) ?_
 refine W2 (Q:=N5 0 _) (fun n env s=>∃i:Nat,i<=x.words.length/\n=x.words.length-i/\s.get 0=some (.cells [.int .i64 x.kind,x.dw,x.dn,x.dk,.int .i64 x.pos])/\(env.get 1=.int .i64 c/\env.get 2=.ptr 0 0/\env.get 5=.int .i64 (i:Int))) ?_ x.words.length _ _ ⟨0,by omega,rfl,P0 rfl,by simp [Env.get,P3.at];rfl⟩
 rintro n env s ⟨i,hi,rfl,hg,hE⟩
 by_cases c3:i<x.words.length
 ·have c3':((i:Int)<(x.words.length:Int))=True:=eq_true (by omega)
  have hs:=a2g c3 hx.wl
  have hidx:=FS.idx hx.w c3 (k:=.i64)
  obtain ⟨b,hb,_⟩:=c00 (x:=x.words[i])
  cases b
  ·repeat first
   |(apply M4 hb rfl rfl rfl)
   |refine zW (aN hE (aN hg (aN o1 (aN o2 (aN o3 (aN hlen (aN c3' hidx))))))) ?_
   exact ⟨.inr trivial,_,rR,_,rfl,by simp⟩
  ·repeat first
   |(apply M4 hb rfl rfl rfl)
   |refine zW (aN hE (aN hg (aN o1 (aN o2 (aN o3 (aN hlen (aN c3' (aN hidx hs)))))))) ?_
   exact ⟨x.words.length-(i+1),by omega,i+1,by omega,rfl,hg,(rG hE)⟩
 ·have c3':((i:Int)<(x.words.length:Int))=False:=eq_false (by omega)
  try refine zW (aN hE (aN hg (aN o1 (aN o2 (aN o3 (aN hlen c3')))))) ?_
  exact ⟨.inr trivial,_,rR,_,rfl,by simp⟩
theorem a0A {x:Nd} (hx:x.Ok) {c m:Int}:S6 91 [.agg x.row,.int .i64 c,.int .i64 m] fun b=>b=true->(x.nums.length:Int)=c/\∀n∈x.nums,0<=n/\n<=m:=by
 refine U0 ?_
 have o1:=FL.one hx.w
 have o2:=FL.one hx.n
 have o3:=FL.one hx.k
 have hlen:=FI.len hx.n
 unfold Nd.row
 refine M6 (vf:=b0g) rfl ?_
 unfold b0g;refine zE ?_
 try refine zW (aN o1 (aN o2 o3)) ?_
 refine W2 (Q:=N5 0 _) (fun n env s=>∃i:Nat,i<=x.nums.length/\n=x.nums.length-i/\(∀j (hj:j<x.nums.length),j<i->0<=x.nums[j]/\x.nums[j]<=m)/\s.get 0=some (.cells [.int .i64 x.kind,x.dw,x.dn,x.dk,.int .i64 x.pos])/\(env.get 1=.int .i64 c/\env.get 2=.int .i64 m/\env.get 3=.ptr 0 0/\env.get 7=.int .i64 (i:Int))) ?_ x.nums.length _ _ ⟨0,by omega,rfl,fun j _ h=>by omega,P0 rfl,by simp [Env.get,P3.at];rfl⟩
 rintro n env s ⟨i,hi,rfl,hall,hg,hE⟩
 by_cases c3:i<x.nums.length
 ·have c3':((i:Int)<(x.nums.length:Int))=True:=eq_true (by omega)
  have hs:=a2g c3 hx.nl
  have hidx:=FI.idx hx.n c3 (k:=.i64)
  by_cases d1:x.nums[i]<0
  ·try refine zW (aN hE (aN hg (aN o1 (aN o2 (aN o3 (aN hlen (aN c3' (aN hidx d1)))))))) ?_
   exact ⟨.inr trivial,_,rR,_,rfl,by simp⟩
  ·by_cases d2:m<x.nums[i]
   ·try refine zW (aN hE (aN hg (aN o1 (aN o2 (aN o3 (aN hlen (aN c3' (aN hidx (aN d1 d2))))))))) ?_
    exact ⟨.inr trivial,_,rR,_,rfl,by simp⟩
   ·try refine zW (aN hE (aN hg (aN o1 (aN o2 (aN o3 (aN hlen (aN c3' (aN hidx (aN d1 (aN d2 hs)))))))))) ?_
    refine ⟨x.nums.length-(i+1),by omega,i+1,by omega,rfl,fun j hj hji=>?_,hg,(rG hE)⟩
    by_cases e:j=i
    ·subst e;omega
    ·exact hall j hj (by omega)
 ·have c3':((i:Int)<(x.nums.length:Int))=False:=eq_false (by omega)
  try refine zW (aN hE (aN hg (aN o1 (aN o2 (aN o3 (aN hlen c3')))))) ?_
  refine ⟨.inr trivial,_,rR,_,rfl,fun h=>⟨by simpa using h,fun n hn=>?_⟩⟩
  obtain ⟨j,hj,rfl⟩:=List.getElem_of_mem hn
  exact hall j hj (by omega)
def a0c (t:List Nd) (x:Nd):Prop:=∀k∈x.kids,0<=k/\k<(t.length:Int)
theorem a8a {d:D} {t:List Nd} {x:Nd} (hT:N7 d t) (hx:x.Ok) (hk:a0c t x) {f:Nat} {a b:Int}:S6 92 [d,.agg x.row,.int .i64 (f:Int),.int .i64 a,.int .i64 b] fun r=>r=true->∀i,f<=i->i<x.kids.length->a<=(nd t (x.kid i)).kind/\(nd t (x.kid i)).kind<=b:=by
 refine U0 ?_
 have o1:=FL.one hx.w
 have o2:=FL.one hx.n
 have o3:=FL.one hx.k
 have hlen:=FI.len hx.k
 have hz:=hx.fz
 unfold Nd.row
 refine M6 (vf:=a9h) rfl ?_
 unfold a9h;refine zE ?_
 try refine zW (aN o1 (aN o2 o3)) ?_
 refine W2 (Q:=N5 0 _) (fun n env s=>∃i:Nat,f<=i/\n=x.kids.length-i/\(∀j,f<=j->j<i->j<x.kids.length->a<=(nd t (x.kid j)).kind/\(nd t (x.kid j)).kind<=b)/\s.get 0=some (.cells [.int .i64 x.kind,x.dw,x.dn,x.dk,.int .i64 x.pos])/\(env.get 0=d/\env.get 3=.int .i64 a/\env.get 4=.int .i64 b/\env.get 6=.ptr 0 0/\env.get 11=.int .i64 (i:Int))) ?_ (x.kids.length-f) _ _ ⟨f,by omega,rfl,fun j _ h=>by omega,P0 rfl,by simp [Env.get,P3.at];rfl⟩
 rintro n env s ⟨i,hi,rfl,hall,hg,hE⟩
 by_cases c3:i<x.kids.length
 ·have c3':((i:Int)<(x.kids.length:Int))=True:=eq_true (by omega)
  have hs:=a2g c3 hx.kl
  have hki:=hk _ (List.getElem_mem c3)
  have h1:=a8Z hT hx c3 hki.1 hki.2
  unfold Nd.row at h1
  have h2:=a6U (k:=(nd t (x.kid i)).kind) (a:=a) (b:=b)
  cases hr:inR (nd t (x.kid i)).kind a b
  ·rw [hr] at h2
   repeat first
   |(apply M4 h1 rfl;(focus (simp only [Env.evL,Env.ev,Env.get,Nat.reduceEqDiff,↓reduceIte,hE]));(focus exact fz3 hT.fz hz k4))
   |(apply M4 h2 rfl;(focus (simp only [Env.evL,Env.ev,Env.get,Nat.reduceEqDiff,↓reduceIte,hE]));(focus rfl))
   |refine zW (aN hE (aN hg (aN o1 (aN o2 (aN o3 (aN hlen c3')))))) ?_
   exact ⟨.inr trivial,_,rR,_,rfl,by simp⟩
  ·rw [hr] at h2
   repeat first
   |(apply M4 h1 rfl;(focus (simp only [Env.evL,Env.ev,Env.get,Nat.reduceEqDiff,↓reduceIte,hE]));(focus exact fz3 hT.fz hz k4))
   |(apply M4 h2 rfl;(focus (simp only [Env.evL,Env.ev,Env.get,Nat.reduceEqDiff,↓reduceIte,hE]));(focus rfl))
   |refine zW (aN hE (aN hg (aN o1 (aN o2 (aN o3 (aN hlen (aN c3' hs))))))) ?_
   refine ⟨x.kids.length-(i+1),by omega,i+1,by omega,rfl,fun j h1 h2 h3=>?_,hg,(rG hE)⟩
   by_cases e:j=i
   ·subst e;exact a83.1 hr
   ·exact hall j h1 (by omega) h3
 ·have c3':((i:Int)<(x.kids.length:Int))=False:=eq_false (by omega)
  try refine zW (aN hE (aN hg (aN o1 (aN o2 (aN o3 (aN hlen c3')))))) ?_
  exact ⟨.inr trivial,_,rR,_,rfl,fun _ j h1 h2=>hall j h1 (by omega) h2⟩
end Go.Proofs.YtnjlhebkhjcagaaGreat
namespace Go.Proofs.YtnjlhebkhjcagaaGreat
open Go.V
set_option maxRecDepth 100000
set_option maxHeartbeats 4000000
theorem a2I {d:D} {t:List Nd} {x:Nd} (hT:N7 d t) (hx:x.Ok) (hk:a0c t x) {f l m:Nat} (hf:f<=2) (hl:l<=1) (hm:m<=800):S6 95 [d,.agg x.row,.int .i64 (f:Int),.int .i64 (l:Int),.int .i64 (m:Int)] fun r=>r=true->f+l<=x.kids.length/\x.kids.length<=f+m/\∀i,i<x.kids.length->(i<f->17<=(nd t (x.kid i)).kind/\(nd t (x.kid i)).kind<=22)/\(f<=i->(nd t (x.kid i)).kind=16):=by
 refine U0 ?_
 have o1:=FL.one hx.w
 have o2:=FL.one hx.n
 have o3:=FL.one hx.k
 have hlen:=FI.len hx.k
 have hz:=hx.fz
 have e1:IntKind.i64.wrap ((f:Int)+(l:Int))=((f+l:Nat):Int):=by rw [O7 (by omega) (by omega)];omega
 have e2:IntKind.i64.wrap ((f:Int)+(m:Int))=((f+m:Nat):Int):=by rw [O7 (by omega) (by omega)];omega
 unfold Nd.row
 refine M6 (vf:=a9Y) rfl ?_
 unfold a9Y;refine zE ?_
 try refine zW (aN o1 (aN o2 (aN o3 hlen))) ?_
 refine W2 (Q:=N5 0 _) (fun n env s=>∃i:Nat,i<=x.kids.length/\n=x.kids.length-i/\(∀j,j<i->(j<f->17<=(nd t (x.kid j)).kind/\(nd t (x.kid j)).kind<=22)/\(f<=j->(nd t (x.kid j)).kind=16))/\s.get 0=some (.cells [.int .i64 x.kind,x.dw,x.dn,x.dk,.int .i64 x.pos])/\(env.get 0=d/\env.get 2=.int .i64 (f:Int)/\env.get 3=.int .i64 (l:Int)/\env.get 4=.int .i64 (m:Int)/\env.get 6=.ptr 0 0/\env.get 11=.int .i64 (x.kids.length:Int)/\env.get 12=.int .i64 (i:Int))) ?_ x.kids.length _ _ ⟨0,by omega,rfl,fun j h=>by omega,P0 rfl,by simp [Env.get,P3.at];rfl⟩
 rintro n env s ⟨i,hi,rfl,hall,hg,hE⟩
 by_cases c3:i<x.kids.length
 ·have c3':((i:Int)<(x.kids.length:Int))=True:=eq_true (by omega)
  have hs:=a2g c3 hx.kl
  have hki:=hk _ (List.getElem_mem c3)
  have h1:=a8Z hT hx c3 hki.1 hki.2
  unfold Nd.row at h1
  have h2:=a6U (k:=(nd t (x.kid i)).kind) (a:=17) (b:=22)
  by_cases c4:i<f
  ·have c4':((i:Int)<(f:Int))=True:=eq_true (by omega)
   have c5':((f:Int)<=(i:Int))=False:=eq_false (by omega)
   cases hr:inR (nd t (x.kid i)).kind 17 22
   ·rw [hr] at h2
    repeat first
    |(apply M4 h1 rfl;(focus (simp only [Env.evL,Env.ev,Env.get,Nat.reduceEqDiff,↓reduceIte,hE]));(focus exact fz3 hT.fz hz k4))
    |(apply M4 h2 rfl;(focus (simp only [Env.evL,Env.ev,Env.get,Nat.reduceEqDiff,↓reduceIte,hE]));(focus rfl))
    |refine zW (aN hE (aN hg (aN o1 (aN o2 (aN o3 (aN hlen (aN c3' (aN c4' c5')))))))) ?_
    exact ⟨.inr trivial,_,rR,_,rfl,by simp⟩
   ·rw [hr] at h2
    repeat first
    |(apply M4 h1 rfl;(focus (simp only [Env.evL,Env.ev,Env.get,Nat.reduceEqDiff,↓reduceIte,hE]));(focus exact fz3 hT.fz hz k4))
    |(apply M4 h2 rfl;(focus (simp only [Env.evL,Env.ev,Env.get,Nat.reduceEqDiff,↓reduceIte,hE]));(focus rfl))
    |refine zW (aN hE (aN hg (aN o1 (aN o2 (aN o3 (aN hlen (aN c3' (aN c4' (aN c5' hs))))))))) ?_
    refine ⟨x.kids.length-(i+1),by omega,i+1,by omega,rfl,fun j h=>?_,hg,(rG hE)⟩
    by_cases e:j=i
    ·subst e;exact ⟨fun _=>a83.1 hr,fun h=>by omega⟩
    ·exact hall j (by omega)
  ·have c4':((i:Int)<(f:Int))=False:=eq_false (by omega)
   have c5':((f:Int)<=(i:Int))=True:=eq_true (by omega)
   by_cases c6:(nd t (x.kid i)).kind=16
   ·have c6':((nd t (x.kid i)).kind != 16)=false:=by rw [c6];rfl
    repeat first
    |(apply M4 h1 rfl;(focus (simp only [Env.evL,Env.ev,Env.get,Nat.reduceEqDiff,↓reduceIte,hE]));(focus exact fz3 hT.fz hz k4))
    |(apply M4 h2 rfl;(focus (simp only [Env.evL,Env.ev,Env.get,Nat.reduceEqDiff,↓reduceIte,hE]));(focus rfl))
    |refine zW (aN hE (aN hg (aN o1 (aN o2 (aN o3 (aN hlen (aN c3' (aN c4' (aN c5' (aN c6' hs)))))))))) ?_
    refine ⟨x.kids.length-(i+1),by omega,i+1,by omega,rfl,fun j h=>?_,hg,(rG hE)⟩
    by_cases e:j=i
    ·subst e;exact ⟨fun h=>by omega,fun _=>c6⟩
    ·exact hall j (by omega)
   ·have c6':((nd t (x.kid i)).kind != 16)=true:=by rw [bne_iff_ne];exact c6
    repeat first
    |(apply M4 h1 rfl;(focus (simp only [Env.evL,Env.ev,Env.get,Nat.reduceEqDiff,↓reduceIte,hE]));(focus exact fz3 hT.fz hz k4))
    |(apply M4 h2 rfl;(focus (simp only [Env.evL,Env.ev,Env.get,Nat.reduceEqDiff,↓reduceIte,hE]));(focus rfl))
    |refine zW (aN hE (aN hg (aN o1 (aN o2 (aN o3 (aN hlen (aN c3' (aN c4' (aN c5' c6'))))))))) ?_
    exact ⟨.inr trivial,_,rR,_,rfl,by simp⟩
 ·have c3':((i:Int)<(x.kids.length:Int))=False:=eq_false (by omega)
  by_cases c7:f+l<=x.kids.length
  ·have c7':(((f+l:Nat):Int)<=(x.kids.length:Int))=True:=eq_true (by omega)
   by_cases c8:x.kids.length<=f+m
   ·have c8':((x.kids.length:Int)<=((f+m:Nat):Int))=True:=eq_true (by omega)
    try refine zW (aN hE (aN hg (aN o1 (aN o2 (aN o3 (aN hlen (aN c3' (aN e1 (aN e2 (aN c7' c8')))))))))) ?_
    exact ⟨.inr trivial,_,rR,_,rfl,fun _=>⟨c7,c8,fun j h=>hall j (by omega)⟩⟩
   ·have c8':((x.kids.length:Int)<=((f+m:Nat):Int))=False:=eq_false (by omega)
    try refine zW (aN hE (aN hg (aN o1 (aN o2 (aN o3 (aN hlen (aN c3' (aN e1 (aN e2 (aN c7' c8')))))))))) ?_
    exact ⟨.inr trivial,_,rR,_,rfl,by simp⟩
  ·have c7':(((f+l:Nat):Int)<=(x.kids.length:Int))=False:=eq_false (by omega)
   try refine zW (aN hE (aN hg (aN o1 (aN o2 (aN o3 (aN hlen (aN c3' (aN e1 (aN e2 c7'))))))))) ?_
   exact ⟨.inr trivial,_,rR,_,rfl,by simp⟩
theorem c2J {d:D} {t:List Nd} {x:Nd} (hT:N7 d t) (hx:x.Ok) (hk:a0c t x) (hK:x.kind=0):S6 61 [d,.agg x.row] fun b=>b=true->(x.words.length:Int)=0/\((x.nums.length:Int)=0/\∀n∈x.nums,0<=n/\n<=0)/\∀i,0<=i->i<x.kids.length->1<=(nd t (x.kid i)).kind/\(nd t (x.kid i)).kind<=5:=by
 refine U0 ?_
 have o1:=FL.one hx.w
 have o2:=FL.one hx.n
 have o3:=FL.one hx.k
 have hlen:=FI.len hx.k
 have hz:=hx.fz
 have hrow:x.row=[.int .i64 0,x.dw,x.dn,x.dk,.int .i64 x.pos]:=by unfold Nd.row;rw [hK]
 obtain ⟨b1,h1,p1⟩:=a0r hx (c:=0)
 obtain ⟨b2,h2,p2⟩:=a0A hx (c:=0) (m:=0)
 obtain ⟨b3,h3,p3⟩:=a8a hT hx hk (f:=0) (a:=1) (b:=5)
 rw [hrow] at h1 h2 hz h3 ⊢
 cases b1<;>cases b2
 all_goals
  refine M6 (vf:=O8) rfl ?_
  unfold O8;refine zE ?_
  repeat first
  |(apply M4 h1 rfl rfl (fz2 hz k4))
  |(apply M4 h2 rfl rfl (fz3 hz k4 k4))
  |(apply M4 h3 rfl rfl (fz5 hT.fz hz k4 k4 k4))
  |refine zW (aN o1 (aN o2 (aN o3 hlen))) ?_
  first
   | exact ⟨.inr trivial,_,rR,_,rfl,fun h=>⟨p1 rfl,p2 rfl,p3 h⟩⟩
   | exact ⟨.inr trivial,_,rR,_,rfl,by simp⟩
theorem b9K {d:D} {t:List Nd} {x:Nd} (hT:N7 d t) (hx:x.Ok) (hk:a0c t x) (hK:x.kind=4):S6 61 [d,.agg x.row] fun b=>b=true->(x.words.length:Int)=0/\((x.nums.length:Int)=0/\∀n∈x.nums,0<=n/\n<=0)/\1<=x.kids.length/\x.kids.length<=1/\∀i,i<x.kids.length->(i<1->17<=(nd t (x.kid i)).kind/\(nd t (x.kid i)).kind<=22)/\(1<=i->(nd t (x.kid i)).kind=16):=by
 refine U0 ?_
 have o1:=FL.one hx.w
 have o2:=FL.one hx.n
 have o3:=FL.one hx.k
 have hlen:=FI.len hx.k
 have hz:=hx.fz
 have hrow:x.row=[.int .i64 4,x.dw,x.dn,x.dk,.int .i64 x.pos]:=by unfold Nd.row;rw [hK]
 obtain ⟨b1,h1,p1⟩:=a0r hx (c:=0)
 obtain ⟨b2,h2,p2⟩:=a0A hx (c:=0) (m:=0)
 obtain ⟨b3,h3,p3⟩:=a2I hT hx hk (f:=1) (l:=0) (m:=0) (by omega) (by omega) (by omega)
 rw [hrow] at h1 h2 hz h3 ⊢
 cases b1<;>cases b2
 all_goals
  refine M6 (vf:=O8) rfl ?_
  unfold O8;refine zE ?_
  repeat first
  |(apply M4 h1 rfl rfl (fz2 hz k4))
  |(apply M4 h2 rfl rfl (fz3 hz k4 k4))
  |(apply M4 h3 rfl rfl (fz5 hT.fz hz k4 k4 k4))
  |refine zW (aN o1 (aN o2 (aN o3 hlen))) ?_
  first
   | exact ⟨.inr trivial,_,rR,_,rfl,fun h=>⟨p1 rfl,p2 rfl,p3 h⟩⟩
   | exact ⟨.inr trivial,_,rR,_,rfl,by simp⟩
theorem c5l {d:D} {t:List Nd} {x:Nd} (hT:N7 d t) (hx:x.Ok) (hk:a0c t x) (hK:x.kind=5):S6 61 [d,.agg x.row] fun b=>b=true->(x.words.length:Int)=0/\((x.nums.length:Int)=0/\∀n∈x.nums,0<=n/\n<=0)/\x.kids=[]:=by
 refine U0 ?_
 have o1:=FL.one hx.w
 have o2:=FL.one hx.n
 have o3:=FL.one hx.k
 have hlen:=FI.len hx.k
 have hz:=hx.fz
 have hrow:x.row=[.int .i64 5,x.dw,x.dn,x.dk,.int .i64 x.pos]:=by unfold Nd.row;rw [hK]
 obtain ⟨b1,h1,p1⟩:=a0r hx (c:=0)
 obtain ⟨b2,h2,p2⟩:=a0A hx (c:=0) (m:=0)
 rw [hrow] at h1 h2 hz ⊢
 have hz0:((x.kids.length:Int)==0)=decide (x.kids=[]):=by
  rw [Bool.eq_iff_iff,beq_iff_eq,decide_eq_true_eq,<- List.length_eq_zero_iff];omega
 cases b1<;>cases b2
 all_goals
  refine M6 (vf:=O8) rfl ?_
  unfold O8;refine zE ?_
  repeat first
  |(apply M4 h1 rfl rfl (fz2 hz k4))
  |(apply M4 h2 rfl rfl (fz3 hz k4 k4))
  |refine zW (aN o1 (aN o2 (aN o3 (aN hlen hz0)))) ?_
  first
   | exact ⟨.inr trivial,_,rR,_,rfl,fun h=>⟨p1 rfl,p2 rfl,of_decide_eq_true h⟩⟩
   | exact ⟨.inr trivial,_,rR,_,rfl,by simp⟩
theorem c3J {d:D} {t:List Nd} {x:Nd} (hT:N7 d t) (hx:x.Ok) (hk:a0c t x) (hK:x.kind=6):S6 61 [d,.agg x.row] fun b=>b=true->(x.words.length:Int)=1/\((x.nums.length:Int)=0/\∀n∈x.nums,0<=n/\n<=0)/\1<=x.kids.length/\x.kids.length<=1/\∀i,i<x.kids.length->(i<1->17<=(nd t (x.kid i)).kind/\(nd t (x.kid i)).kind<=22)/\(1<=i->(nd t (x.kid i)).kind=16):=by
 refine U0 ?_
 have o1:=FL.one hx.w
 have o2:=FL.one hx.n
 have o3:=FL.one hx.k
 have hlen:=FI.len hx.k
 have hz:=hx.fz
 have hrow:x.row=[.int .i64 6,x.dw,x.dn,x.dk,.int .i64 x.pos]:=by unfold Nd.row;rw [hK]
 obtain ⟨b1,h1,p1⟩:=a0r hx (c:=1)
 obtain ⟨b2,h2,p2⟩:=a0A hx (c:=0) (m:=0)
 obtain ⟨b3,h3,p3⟩:=a2I hT hx hk (f:=1) (l:=0) (m:=0) (by omega) (by omega) (by omega)
 rw [hrow] at h1 h2 hz h3 ⊢
 cases b1<;>cases b2
 all_goals
  refine M6 (vf:=O8) rfl ?_
  unfold O8;refine zE ?_
  repeat first
  |(apply M4 h1 rfl rfl (fz2 hz k4))
  |(apply M4 h2 rfl rfl (fz3 hz k4 k4))
  |(apply M4 h3 rfl rfl (fz5 hT.fz hz k4 k4 k4))
  |refine zW (aN o1 (aN o2 (aN o3 hlen))) ?_
  first
   | exact ⟨.inr trivial,_,rR,_,rfl,fun h=>⟨p1 rfl,p2 rfl,p3 h⟩⟩
   | exact ⟨.inr trivial,_,rR,_,rfl,by simp⟩
theorem c1E {d:D} {t:List Nd} {x:Nd} (hT:N7 d t) (hx:x.Ok) (hk:a0c t x) (hK:x.kind=7):S6 61 [d,.agg x.row] fun b=>b=true->(x.words.length:Int)=1/\((x.nums.length:Int)=0/\∀n∈x.nums,0<=n/\n<=0)/\1<=x.kids.length/\x.kids.length<=1/\∀i,i<x.kids.length->(i<1->17<=(nd t (x.kid i)).kind/\(nd t (x.kid i)).kind<=22)/\(1<=i->(nd t (x.kid i)).kind=16):=by
 refine U0 ?_
 have o1:=FL.one hx.w
 have o2:=FL.one hx.n
 have o3:=FL.one hx.k
 have hlen:=FI.len hx.k
 have hz:=hx.fz
 have hrow:x.row=[.int .i64 7,x.dw,x.dn,x.dk,.int .i64 x.pos]:=by unfold Nd.row;rw [hK]
 obtain ⟨b1,h1,p1⟩:=a0r hx (c:=1)
 obtain ⟨b2,h2,p2⟩:=a0A hx (c:=0) (m:=0)
 obtain ⟨b3,h3,p3⟩:=a2I hT hx hk (f:=1) (l:=0) (m:=0) (by omega) (by omega) (by omega)
 rw [hrow] at h1 h2 hz h3 ⊢
 cases b1<;>cases b2
 all_goals
  refine M6 (vf:=O8) rfl ?_
  unfold O8;refine zE ?_
  repeat first
  |(apply M4 h1 rfl rfl (fz2 hz k4))
  |(apply M4 h2 rfl rfl (fz3 hz k4 k4))
  |(apply M4 h3 rfl rfl (fz5 hT.fz hz k4 k4 k4))
  |refine zW (aN o1 (aN o2 (aN o3 hlen))) ?_
  first
   | exact ⟨.inr trivial,_,rR,_,rfl,fun h=>⟨p1 rfl,p2 rfl,p3 h⟩⟩
   | exact ⟨.inr trivial,_,rR,_,rfl,by simp⟩
theorem b9Q {d:D} {t:List Nd} {x:Nd} (hT:N7 d t) (hx:x.Ok) (hk:a0c t x) (hK:x.kind=8):S6 61 [d,.agg x.row] fun b=>b=true->(x.words.length:Int)=2/\((x.nums.length:Int)=1/\∀n∈x.nums,0<=n/\n<=1)/\x.kids=[]:=by
 refine U0 ?_
 have o1:=FL.one hx.w
 have o2:=FL.one hx.n
 have o3:=FL.one hx.k
 have hlen:=FI.len hx.k
 have hz:=hx.fz
 have hrow:x.row=[.int .i64 8,x.dw,x.dn,x.dk,.int .i64 x.pos]:=by unfold Nd.row;rw [hK]
 obtain ⟨b1,h1,p1⟩:=a0r hx (c:=2)
 obtain ⟨b2,h2,p2⟩:=a0A hx (c:=1) (m:=1)
 rw [hrow] at h1 h2 hz ⊢
 have hz0:((x.kids.length:Int)==0)=decide (x.kids=[]):=by
  rw [Bool.eq_iff_iff,beq_iff_eq,decide_eq_true_eq,<- List.length_eq_zero_iff];omega
 cases b1<;>cases b2
 all_goals
  refine M6 (vf:=O8) rfl ?_
  unfold O8;refine zE ?_
  repeat first
  |(apply M4 h1 rfl rfl (fz2 hz k4))
  |(apply M4 h2 rfl rfl (fz3 hz k4 k4))
  |refine zW (aN o1 (aN o2 (aN o3 (aN hlen hz0)))) ?_
  first
   | exact ⟨.inr trivial,_,rR,_,rfl,fun h=>⟨p1 rfl,p2 rfl,of_decide_eq_true h⟩⟩
   | exact ⟨.inr trivial,_,rR,_,rfl,by simp⟩
theorem c59 {d:D} {t:List Nd} {x:Nd} (hT:N7 d t) (hx:x.Ok) (hk:a0c t x) (hK:x.kind=9):S6 61 [d,.agg x.row] fun b=>b=true->(x.words.length:Int)=0/\((x.nums.length:Int)=1/\∀n∈x.nums,0<=n/\n<=1)/\1<=x.kids.length/\x.kids.length<=1/\∀i,i<x.kids.length->(i<1->17<=(nd t (x.kid i)).kind/\(nd t (x.kid i)).kind<=22)/\(1<=i->(nd t (x.kid i)).kind=16):=by
 refine U0 ?_
 have o1:=FL.one hx.w
 have o2:=FL.one hx.n
 have o3:=FL.one hx.k
 have hlen:=FI.len hx.k
 have hz:=hx.fz
 have hrow:x.row=[.int .i64 9,x.dw,x.dn,x.dk,.int .i64 x.pos]:=by unfold Nd.row;rw [hK]
 obtain ⟨b1,h1,p1⟩:=a0r hx (c:=0)
 obtain ⟨b2,h2,p2⟩:=a0A hx (c:=1) (m:=1)
 obtain ⟨b3,h3,p3⟩:=a2I hT hx hk (f:=1) (l:=0) (m:=0) (by omega) (by omega) (by omega)
 rw [hrow] at h1 h2 hz h3 ⊢
 cases b1<;>cases b2
 all_goals
  refine M6 (vf:=O8) rfl ?_
  unfold O8;refine zE ?_
  repeat first
  |(apply M4 h1 rfl rfl (fz2 hz k4))
  |(apply M4 h2 rfl rfl (fz3 hz k4 k4))
  |(apply M4 h3 rfl rfl (fz5 hT.fz hz k4 k4 k4))
  |refine zW (aN o1 (aN o2 (aN o3 hlen))) ?_
  first
   | exact ⟨.inr trivial,_,rR,_,rfl,fun h=>⟨p1 rfl,p2 rfl,p3 h⟩⟩
   | exact ⟨.inr trivial,_,rR,_,rfl,by simp⟩
theorem c1C {d:D} {t:List Nd} {x:Nd} (hT:N7 d t) (hx:x.Ok) (hk:a0c t x) (hK:x.kind=10):S6 61 [d,.agg x.row] fun b=>b=true->(x.words.length:Int)=0/\((x.nums.length:Int)=1/\∀n∈x.nums,0<=n/\n<=1)/\1<=x.kids.length/\x.kids.length<=800/\∀i,i<x.kids.length->(i<0->17<=(nd t (x.kid i)).kind/\(nd t (x.kid i)).kind<=22)/\(0<=i->(nd t (x.kid i)).kind=16):=by
 refine U0 ?_
 have o1:=FL.one hx.w
 have o2:=FL.one hx.n
 have o3:=FL.one hx.k
 have hlen:=FI.len hx.k
 have hz:=hx.fz
 have hrow:x.row=[.int .i64 10,x.dw,x.dn,x.dk,.int .i64 x.pos]:=by unfold Nd.row;rw [hK]
 obtain ⟨b1,h1,p1⟩:=a0r hx (c:=0)
 obtain ⟨b2,h2,p2⟩:=a0A hx (c:=1) (m:=1)
 obtain ⟨b3,h3,p3⟩:=a2I hT hx hk (f:=0) (l:=1) (m:=800) (by omega) (by omega) (by omega)
 rw [hrow] at h1 h2 hz h3 ⊢
 cases b1<;>cases b2
 all_goals
  refine M6 (vf:=O8) rfl ?_
  unfold O8;refine zE ?_
  repeat first
  |(apply M4 h1 rfl rfl (fz2 hz k4))
  |(apply M4 h2 rfl rfl (fz3 hz k4 k4))
  |(apply M4 h3 rfl rfl (fz5 hT.fz hz k4 k4 k4))
  |refine zW (aN o1 (aN o2 (aN o3 hlen))) ?_
  first
   | exact ⟨.inr trivial,_,rR,_,rfl,fun h=>⟨p1 rfl,p2 rfl,p3 h⟩⟩
   | exact ⟨.inr trivial,_,rR,_,rfl,by simp⟩
theorem b61 {d:D} {t:List Nd} {x:Nd} (hT:N7 d t) (hx:x.Ok) (hk:a0c t x) (hK:x.kind=11):S6 61 [d,.agg x.row] fun b=>b=true->(x.words.length:Int)=0/\((x.nums.length:Int)=0/\∀n∈x.nums,0<=n/\n<=0)/\2<=x.kids.length/\x.kids.length<=3/\∀i,i<x.kids.length->(i<1->17<=(nd t (x.kid i)).kind/\(nd t (x.kid i)).kind<=22)/\(1<=i->(nd t (x.kid i)).kind=16):=by
 refine U0 ?_
 have o1:=FL.one hx.w
 have o2:=FL.one hx.n
 have o3:=FL.one hx.k
 have hlen:=FI.len hx.k
 have hz:=hx.fz
 have hrow:x.row=[.int .i64 11,x.dw,x.dn,x.dk,.int .i64 x.pos]:=by unfold Nd.row;rw [hK]
 obtain ⟨b1,h1,p1⟩:=a0r hx (c:=0)
 obtain ⟨b2,h2,p2⟩:=a0A hx (c:=0) (m:=0)
 obtain ⟨b3,h3,p3⟩:=a2I hT hx hk (f:=1) (l:=1) (m:=2) (by omega) (by omega) (by omega)
 rw [hrow] at h1 h2 hz h3 ⊢
 cases b1<;>cases b2
 all_goals
  refine M6 (vf:=O8) rfl ?_
  unfold O8;refine zE ?_
  repeat first
  |(apply M4 h1 rfl rfl (fz2 hz k4))
  |(apply M4 h2 rfl rfl (fz3 hz k4 k4))
  |(apply M4 h3 rfl rfl (fz5 hT.fz hz k4 k4 k4))
  |refine zW (aN o1 (aN o2 (aN o3 hlen))) ?_
  first
   | exact ⟨.inr trivial,_,rR,_,rfl,fun h=>⟨p1 rfl,p2 rfl,p3 h⟩⟩
   | exact ⟨.inr trivial,_,rR,_,rfl,by simp⟩
theorem b89 {d:D} {t:List Nd} {x:Nd} (hT:N7 d t) (hx:x.Ok) (hk:a0c t x) (hK:x.kind=12):S6 61 [d,.agg x.row] fun b=>b=true->(x.words.length:Int)=0/\((x.nums.length:Int)=0/\∀n∈x.nums,0<=n/\n<=0)/\2<=x.kids.length/\x.kids.length<=2/\∀i,i<x.kids.length->(i<1->17<=(nd t (x.kid i)).kind/\(nd t (x.kid i)).kind<=22)/\(1<=i->(nd t (x.kid i)).kind=16):=by
 refine U0 ?_
 have o1:=FL.one hx.w
 have o2:=FL.one hx.n
 have o3:=FL.one hx.k
 have hlen:=FI.len hx.k
 have hz:=hx.fz
 have hrow:x.row=[.int .i64 12,x.dw,x.dn,x.dk,.int .i64 x.pos]:=by unfold Nd.row;rw [hK]
 obtain ⟨b1,h1,p1⟩:=a0r hx (c:=0)
 obtain ⟨b2,h2,p2⟩:=a0A hx (c:=0) (m:=0)
 obtain ⟨b3,h3,p3⟩:=a2I hT hx hk (f:=1) (l:=1) (m:=1) (by omega) (by omega) (by omega)
 rw [hrow] at h1 h2 hz h3 ⊢
 cases b1<;>cases b2
 all_goals
  refine M6 (vf:=O8) rfl ?_
  unfold O8;refine zE ?_
  repeat first
  |(apply M4 h1 rfl rfl (fz2 hz k4))
  |(apply M4 h2 rfl rfl (fz3 hz k4 k4))
  |(apply M4 h3 rfl rfl (fz5 hT.fz hz k4 k4 k4))
  |refine zW (aN o1 (aN o2 (aN o3 hlen))) ?_
  first
   | exact ⟨.inr trivial,_,rR,_,rfl,fun h=>⟨p1 rfl,p2 rfl,p3 h⟩⟩
   | exact ⟨.inr trivial,_,rR,_,rfl,by simp⟩
theorem c4i {d:D} {t:List Nd} {x:Nd} (hT:N7 d t) (hx:x.Ok) (hk:a0c t x) (hK:x.kind=13):S6 61 [d,.agg x.row] fun b=>b=true->(x.words.length:Int)=0/\((x.nums.length:Int)=0/\∀n∈x.nums,0<=n/\n<=0)/\1<=x.kids.length/\x.kids.length<=1/\∀i,i<x.kids.length->(i<0->17<=(nd t (x.kid i)).kind/\(nd t (x.kid i)).kind<=22)/\(0<=i->(nd t (x.kid i)).kind=16):=by
 refine U0 ?_
 have o1:=FL.one hx.w
 have o2:=FL.one hx.n
 have o3:=FL.one hx.k
 have hlen:=FI.len hx.k
 have hz:=hx.fz
 have hrow:x.row=[.int .i64 13,x.dw,x.dn,x.dk,.int .i64 x.pos]:=by unfold Nd.row;rw [hK]
 obtain ⟨b1,h1,p1⟩:=a0r hx (c:=0)
 obtain ⟨b2,h2,p2⟩:=a0A hx (c:=0) (m:=0)
 obtain ⟨b3,h3,p3⟩:=a2I hT hx hk (f:=0) (l:=1) (m:=1) (by omega) (by omega) (by omega)
 rw [hrow] at h1 h2 hz h3 ⊢
 cases b1<;>cases b2
 all_goals
  refine M6 (vf:=O8) rfl ?_
  unfold O8;refine zE ?_
  repeat first
  |(apply M4 h1 rfl rfl (fz2 hz k4))
  |(apply M4 h2 rfl rfl (fz3 hz k4 k4))
  |(apply M4 h3 rfl rfl (fz5 hT.fz hz k4 k4 k4))
  |refine zW (aN o1 (aN o2 (aN o3 hlen))) ?_
  first
   | exact ⟨.inr trivial,_,rR,_,rfl,fun h=>⟨p1 rfl,p2 rfl,p3 h⟩⟩
   | exact ⟨.inr trivial,_,rR,_,rfl,by simp⟩
theorem c2n {d:D} {t:List Nd} {x:Nd} (hT:N7 d t) (hx:x.Ok) (hk:a0c t x) (hK:x.kind=14):S6 61 [d,.agg x.row] fun b=>b=true->(x.words.length:Int)=0/\((x.nums.length:Int)=0/\∀n∈x.nums,0<=n/\n<=0)/\x.kids=[]:=by
 refine U0 ?_
 have o1:=FL.one hx.w
 have o2:=FL.one hx.n
 have o3:=FL.one hx.k
 have hlen:=FI.len hx.k
 have hz:=hx.fz
 have hrow:x.row=[.int .i64 14,x.dw,x.dn,x.dk,.int .i64 x.pos]:=by unfold Nd.row;rw [hK]
 obtain ⟨b1,h1,p1⟩:=a0r hx (c:=0)
 obtain ⟨b2,h2,p2⟩:=a0A hx (c:=0) (m:=0)
 rw [hrow] at h1 h2 hz ⊢
 have hz0:((x.kids.length:Int)==0)=decide (x.kids=[]):=by
  rw [Bool.eq_iff_iff,beq_iff_eq,decide_eq_true_eq,<- List.length_eq_zero_iff];omega
 cases b1<;>cases b2
 all_goals
  refine M6 (vf:=O8) rfl ?_
  unfold O8;refine zE ?_
  repeat first
  |(apply M4 h1 rfl rfl (fz2 hz k4))
  |(apply M4 h2 rfl rfl (fz3 hz k4 k4))
  |refine zW (aN o1 (aN o2 (aN o3 (aN hlen hz0)))) ?_
  first
   | exact ⟨.inr trivial,_,rR,_,rfl,fun h=>⟨p1 rfl,p2 rfl,of_decide_eq_true h⟩⟩
   | exact ⟨.inr trivial,_,rR,_,rfl,by simp⟩
theorem c5S {d:D} {t:List Nd} {x:Nd} (hT:N7 d t) (hx:x.Ok) (hk:a0c t x) (hK:x.kind=15):S6 61 [d,.agg x.row] fun b=>b=true->(x.words.length:Int)=0/\((x.nums.length:Int)=0/\∀n∈x.nums,0<=n/\n<=0)/\x.kids=[]:=by
 refine U0 ?_
 have o1:=FL.one hx.w
 have o2:=FL.one hx.n
 have o3:=FL.one hx.k
 have hlen:=FI.len hx.k
 have hz:=hx.fz
 have hrow:x.row=[.int .i64 15,x.dw,x.dn,x.dk,.int .i64 x.pos]:=by unfold Nd.row;rw [hK]
 obtain ⟨b1,h1,p1⟩:=a0r hx (c:=0)
 obtain ⟨b2,h2,p2⟩:=a0A hx (c:=0) (m:=0)
 rw [hrow] at h1 h2 hz ⊢
 have hz0:((x.kids.length:Int)==0)=decide (x.kids=[]):=by
  rw [Bool.eq_iff_iff,beq_iff_eq,decide_eq_true_eq,<- List.length_eq_zero_iff];omega
 cases b1<;>cases b2
 all_goals
  refine M6 (vf:=O8) rfl ?_
  unfold O8;refine zE ?_
  repeat first
  |(apply M4 h1 rfl rfl (fz2 hz k4))
  |(apply M4 h2 rfl rfl (fz3 hz k4 k4))
  |refine zW (aN o1 (aN o2 (aN o3 (aN hlen hz0)))) ?_
  first
   | exact ⟨.inr trivial,_,rR,_,rfl,fun h=>⟨p1 rfl,p2 rfl,of_decide_eq_true h⟩⟩
   | exact ⟨.inr trivial,_,rR,_,rfl,by simp⟩
theorem c4R {d:D} {t:List Nd} {x:Nd} (hT:N7 d t) (hx:x.Ok) (hk:a0c t x) (hK:x.kind=16):S6 61 [d,.agg x.row] fun b=>b=true->(x.words.length:Int)=0/\((x.nums.length:Int)=0/\∀n∈x.nums,0<=n/\n<=0)/\∀i,0<=i->i<x.kids.length->6<=(nd t (x.kid i)).kind/\(nd t (x.kid i)).kind<=15:=by
 refine U0 ?_
 have o1:=FL.one hx.w
 have o2:=FL.one hx.n
 have o3:=FL.one hx.k
 have hlen:=FI.len hx.k
 have hz:=hx.fz
 have hrow:x.row=[.int .i64 16,x.dw,x.dn,x.dk,.int .i64 x.pos]:=by unfold Nd.row;rw [hK]
 obtain ⟨b1,h1,p1⟩:=a0r hx (c:=0)
 obtain ⟨b2,h2,p2⟩:=a0A hx (c:=0) (m:=0)
 obtain ⟨b3,h3,p3⟩:=a8a hT hx hk (f:=0) (a:=6) (b:=15)
 rw [hrow] at h1 h2 hz h3 ⊢
 cases b1<;>cases b2
 all_goals
  refine M6 (vf:=O8) rfl ?_
  unfold O8;refine zE ?_
  repeat first
  |(apply M4 h1 rfl rfl (fz2 hz k4))
  |(apply M4 h2 rfl rfl (fz3 hz k4 k4))
  |(apply M4 h3 rfl rfl (fz5 hT.fz hz k4 k4 k4))
  |refine zW (aN o1 (aN o2 (aN o3 hlen))) ?_
  first
   | exact ⟨.inr trivial,_,rR,_,rfl,fun h=>⟨p1 rfl,p2 rfl,p3 h⟩⟩
   | exact ⟨.inr trivial,_,rR,_,rfl,by simp⟩
theorem c0B {d:D} {t:List Nd} {x:Nd} (hT:N7 d t) (hx:x.Ok) (hk:a0c t x) (hK:x.kind=17):S6 61 [d,.agg x.row] fun b=>b=true->(x.words.length:Int)=0/\((x.nums.length:Int)=1/\∀n∈x.nums,0<=n/\n<=999999)/\x.kids=[]:=by
 refine U0 ?_
 have o1:=FL.one hx.w
 have o2:=FL.one hx.n
 have o3:=FL.one hx.k
 have hlen:=FI.len hx.k
 have hz:=hx.fz
 have hrow:x.row=[.int .i64 17,x.dw,x.dn,x.dk,.int .i64 x.pos]:=by unfold Nd.row;rw [hK]
 obtain ⟨b1,h1,p1⟩:=a0r hx (c:=0)
 obtain ⟨b2,h2,p2⟩:=a0A hx (c:=1) (m:=999999)
 rw [hrow] at h1 h2 hz ⊢
 have hz0:((x.kids.length:Int)==0)=decide (x.kids=[]):=by
  rw [Bool.eq_iff_iff,beq_iff_eq,decide_eq_true_eq,<- List.length_eq_zero_iff];omega
 cases b1<;>cases b2
 all_goals
  refine M6 (vf:=O8) rfl ?_
  unfold O8;refine zE ?_
  repeat first
  |(apply M4 h1 rfl rfl (fz2 hz k4))
  |(apply M4 h2 rfl rfl (fz3 hz k4 k4))
  |refine zW (aN o1 (aN o2 (aN o3 (aN hlen hz0)))) ?_
  first
   | exact ⟨.inr trivial,_,rR,_,rfl,fun h=>⟨p1 rfl,p2 rfl,of_decide_eq_true h⟩⟩
   | exact ⟨.inr trivial,_,rR,_,rfl,by simp⟩
theorem c4d {d:D} {t:List Nd} {x:Nd} (hT:N7 d t) (hx:x.Ok) (hk:a0c t x) (hK:x.kind=18):S6 61 [d,.agg x.row] fun b=>b=true->(x.words.length:Int)=1/\((x.nums.length:Int)=0/\∀n∈x.nums,0<=n/\n<=0)/\x.kids=[]:=by
 refine U0 ?_
 have o1:=FL.one hx.w
 have o2:=FL.one hx.n
 have o3:=FL.one hx.k
 have hlen:=FI.len hx.k
 have hz:=hx.fz
 have hrow:x.row=[.int .i64 18,x.dw,x.dn,x.dk,.int .i64 x.pos]:=by unfold Nd.row;rw [hK]
 obtain ⟨b1,h1,p1⟩:=a0r hx (c:=1)
 obtain ⟨b2,h2,p2⟩:=a0A hx (c:=0) (m:=0)
 rw [hrow] at h1 h2 hz ⊢
 have hz0:((x.kids.length:Int)==0)=decide (x.kids=[]):=by
  rw [Bool.eq_iff_iff,beq_iff_eq,decide_eq_true_eq,<- List.length_eq_zero_iff];omega
 cases b1<;>cases b2
 all_goals
  refine M6 (vf:=O8) rfl ?_
  unfold O8;refine zE ?_
  repeat first
  |(apply M4 h1 rfl rfl (fz2 hz k4))
  |(apply M4 h2 rfl rfl (fz3 hz k4 k4))
  |refine zW (aN o1 (aN o2 (aN o3 (aN hlen hz0)))) ?_
  first
   | exact ⟨.inr trivial,_,rR,_,rfl,fun h=>⟨p1 rfl,p2 rfl,of_decide_eq_true h⟩⟩
   | exact ⟨.inr trivial,_,rR,_,rfl,by simp⟩
theorem c0C {d:D} {t:List Nd} {x:Nd} (hT:N7 d t) (hx:x.Ok) (hk:a0c t x) (hK:x.kind=19):S6 61 [d,.agg x.row] fun b=>b=true->(x.words.length:Int)=1/\((x.nums.length:Int)=0/\∀n∈x.nums,0<=n/\n<=0)/\x.kids=[]:=by
 refine U0 ?_
 have o1:=FL.one hx.w
 have o2:=FL.one hx.n
 have o3:=FL.one hx.k
 have hlen:=FI.len hx.k
 have hz:=hx.fz
 have hrow:x.row=[.int .i64 19,x.dw,x.dn,x.dk,.int .i64 x.pos]:=by unfold Nd.row;rw [hK]
 obtain ⟨b1,h1,p1⟩:=a0r hx (c:=1)
 obtain ⟨b2,h2,p2⟩:=a0A hx (c:=0) (m:=0)
 rw [hrow] at h1 h2 hz ⊢
 have hz0:((x.kids.length:Int)==0)=decide (x.kids=[]):=by
  rw [Bool.eq_iff_iff,beq_iff_eq,decide_eq_true_eq,<- List.length_eq_zero_iff];omega
 cases b1<;>cases b2
 all_goals
  refine M6 (vf:=O8) rfl ?_
  unfold O8;refine zE ?_
  repeat first
  |(apply M4 h1 rfl rfl (fz2 hz k4))
  |(apply M4 h2 rfl rfl (fz3 hz k4 k4))
  |refine zW (aN o1 (aN o2 (aN o3 (aN hlen hz0)))) ?_
  first
   | exact ⟨.inr trivial,_,rR,_,rfl,fun h=>⟨p1 rfl,p2 rfl,of_decide_eq_true h⟩⟩
   | exact ⟨.inr trivial,_,rR,_,rfl,by simp⟩
theorem b6G {d:D} {t:List Nd} {x:Nd} (hT:N7 d t) (hx:x.Ok) (hk:a0c t x) (hK:x.kind=20):S6 61 [d,.agg x.row] fun b=>b=true->(x.words.length:Int)=0/\((x.nums.length:Int)=0/\∀n∈x.nums,0<=n/\n<=0)/\1<=x.kids.length/\x.kids.length<=1/\∀i,i<x.kids.length->(i<1->17<=(nd t (x.kid i)).kind/\(nd t (x.kid i)).kind<=22)/\(1<=i->(nd t (x.kid i)).kind=16):=by
 refine U0 ?_
 have o1:=FL.one hx.w
 have o2:=FL.one hx.n
 have o3:=FL.one hx.k
 have hlen:=FI.len hx.k
 have hz:=hx.fz
 have hrow:x.row=[.int .i64 20,x.dw,x.dn,x.dk,.int .i64 x.pos]:=by unfold Nd.row;rw [hK]
 obtain ⟨b1,h1,p1⟩:=a0r hx (c:=0)
 obtain ⟨b2,h2,p2⟩:=a0A hx (c:=0) (m:=0)
 obtain ⟨b3,h3,p3⟩:=a2I hT hx hk (f:=1) (l:=0) (m:=0) (by omega) (by omega) (by omega)
 rw [hrow] at h1 h2 hz h3 ⊢
 cases b1<;>cases b2
 all_goals
  refine M6 (vf:=O8) rfl ?_
  unfold O8;refine zE ?_
  repeat first
  |(apply M4 h1 rfl rfl (fz2 hz k4))
  |(apply M4 h2 rfl rfl (fz3 hz k4 k4))
  |(apply M4 h3 rfl rfl (fz5 hT.fz hz k4 k4 k4))
  |refine zW (aN o1 (aN o2 (aN o3 hlen))) ?_
  first
   | exact ⟨.inr trivial,_,rR,_,rfl,fun h=>⟨p1 rfl,p2 rfl,p3 h⟩⟩
   | exact ⟨.inr trivial,_,rR,_,rfl,by simp⟩
theorem c4n {d:D} {t:List Nd} {x:Nd} (hT:N7 d t) (hx:x.Ok) (hk:a0c t x) (hK:x.kind=21):S6 61 [d,.agg x.row] fun b=>b=true->(x.words.length:Int)=0/\((x.nums.length:Int)=0/\∀n∈x.nums,0<=n/\n<=0)/\1<=x.kids.length/\x.kids.length<=1/\∀i,i<x.kids.length->(i<1->17<=(nd t (x.kid i)).kind/\(nd t (x.kid i)).kind<=22)/\(1<=i->(nd t (x.kid i)).kind=16):=by
 refine U0 ?_
 have o1:=FL.one hx.w
 have o2:=FL.one hx.n
 have o3:=FL.one hx.k
 have hlen:=FI.len hx.k
 have hz:=hx.fz
 have hrow:x.row=[.int .i64 21,x.dw,x.dn,x.dk,.int .i64 x.pos]:=by unfold Nd.row;rw [hK]
 obtain ⟨b1,h1,p1⟩:=a0r hx (c:=0)
 obtain ⟨b2,h2,p2⟩:=a0A hx (c:=0) (m:=0)
 obtain ⟨b3,h3,p3⟩:=a2I hT hx hk (f:=1) (l:=0) (m:=0) (by omega) (by omega) (by omega)
 rw [hrow] at h1 h2 hz h3 ⊢
 cases b1<;>cases b2
 all_goals
  refine M6 (vf:=O8) rfl ?_
  unfold O8;refine zE ?_
  repeat first
  |(apply M4 h1 rfl rfl (fz2 hz k4))
  |(apply M4 h2 rfl rfl (fz3 hz k4 k4))
  |(apply M4 h3 rfl rfl (fz5 hT.fz hz k4 k4 k4))
  |refine zW (aN o1 (aN o2 (aN o3 hlen))) ?_
  first
   | exact ⟨.inr trivial,_,rR,_,rfl,fun h=>⟨p1 rfl,p2 rfl,p3 h⟩⟩
   | exact ⟨.inr trivial,_,rR,_,rfl,by simp⟩
theorem c2q {d:D} {t:List Nd} {x:Nd} (hT:N7 d t) (hx:x.Ok) (hk:a0c t x) (hK:x.kind=22):S6 61 [d,.agg x.row] fun b=>b=true->(x.words.length:Int)=0/\((x.nums.length:Int)=1/\∀n∈x.nums,0<=n/\n<=8)/\2<=x.kids.length/\x.kids.length<=2/\∀i,i<x.kids.length->(i<2->17<=(nd t (x.kid i)).kind/\(nd t (x.kid i)).kind<=22)/\(2<=i->(nd t (x.kid i)).kind=16):=by
 refine U0 ?_
 have o1:=FL.one hx.w
 have o2:=FL.one hx.n
 have o3:=FL.one hx.k
 have hlen:=FI.len hx.k
 have hz:=hx.fz
 have hrow:x.row=[.int .i64 22,x.dw,x.dn,x.dk,.int .i64 x.pos]:=by unfold Nd.row;rw [hK]
 obtain ⟨b1,h1,p1⟩:=a0r hx (c:=0)
 obtain ⟨b2,h2,p2⟩:=a0A hx (c:=1) (m:=8)
 obtain ⟨b3,h3,p3⟩:=a2I hT hx hk (f:=2) (l:=0) (m:=0) (by omega) (by omega) (by omega)
 rw [hrow] at h1 h2 hz h3 ⊢
 cases b1<;>cases b2
 all_goals
  refine M6 (vf:=O8) rfl ?_
  unfold O8;refine zE ?_
  repeat first
  |(apply M4 h1 rfl rfl (fz2 hz k4))
  |(apply M4 h2 rfl rfl (fz3 hz k4 k4))
  |(apply M4 h3 rfl rfl (fz5 hT.fz hz k4 k4 k4))
  |refine zW (aN o1 (aN o2 (aN o3 hlen))) ?_
  first
   | exact ⟨.inr trivial,_,rR,_,rfl,fun h=>⟨p1 rfl,p2 rfl,p3 h⟩⟩
   | exact ⟨.inr trivial,_,rR,_,rfl,by simp⟩
end Go.Proofs.YtnjlhebkhjcagaaGreat
namespace Go.Proofs.YtnjlhebkhjcagaaGreat
open Go.V
set_option maxRecDepth 100000
set_option maxHeartbeats 4000000
theorem b1W {x:Nd}:((x.kids.length:Int)==0)=decide (x.kids=[]):=by
 rw [Bool.eq_iff_iff,beq_iff_eq,decide_eq_true_eq,<- List.length_eq_zero_iff];omega
theorem c44 {d:D} {t:List Nd} {x:Nd} (hT:N7 d t) (hx:x.Ok) (hk:a0c t x) (hK:x.kind=1):S6 61 [d,.agg x.row] fun b=>b=true->(x.words.length:Int)=1/\((x.nums.length:Int)=4/\∀n∈x.nums,0<=n/\n<=999999)/\x.num 2<=1/\x.num 3<=1/\x.kids=[]:=by
 refine U0 ?_
 have o1:=FL.one hx.w
 have o2:=FL.one hx.n
 have o3:=FL.one hx.k
 have hlen:=FI.len hx.k
 have hz:=hx.fz
 have hrow:x.row=[.int .i64 1,x.dw,x.dn,x.dk,.int .i64 x.pos]:=by unfold Nd.row;rw [hK]
 have hz0:=b1W (x:=x)
 obtain ⟨b1,h1,p1⟩:=a0r hx (c:=1)
 obtain ⟨b2,h2,p2⟩:=a0A hx (c:=4) (m:=999999)
 rw [hrow] at h1 h2 hz ⊢
 cases b1
 ·refine M6 (vf:=O8) rfl ?_
  unfold O8;refine zE ?_
  repeat first
  |(apply M4 h1 rfl rfl (fz2 hz k4))
  |(apply M4 h2 rfl rfl (fz3 hz k4 k4))
  |refine zW (aN o1 (aN o2 (aN o3 hlen))) ?_
  exact ⟨.inr trivial,_,rR,_,rfl,by simp⟩
 cases b2
 ·refine M6 (vf:=O8) rfl ?_
  unfold O8;refine zE ?_
  repeat first
  |(apply M4 h1 rfl rfl (fz2 hz k4))
  |(apply M4 h2 rfl rfl (fz3 hz k4 k4))
  |refine zW (aN o1 (aN o2 (aN o3 hlen))) ?_
  exact ⟨.inr trivial,_,rR,_,rfl,by simp⟩
 have q2:=p2 rfl
 have l4:x.nums.length=4:=by omega
 have i2:N2 1 x.dn (.int .i64 2)=some (.fp [.int .i64 (x.num 2)] 0):=by rw [a4w (by omega)];exact FI.idx hx.n (i:=2) (by omega)
 have i3:N2 1 x.dn (.int .i64 3)=some (.fp [.int .i64 (x.num 3)] 0):=by rw [a4w (by omega)];exact FI.idx hx.n (i:=3) (by omega)
 by_cases c2:x.num 2<=1
 ·by_cases c3:x.num 3<=1
  ·refine M6 (vf:=O8) rfl ?_
   unfold O8;refine zE ?_
   repeat first
   |(apply M4 h1 rfl rfl (fz2 hz k4))
   |(apply M4 h2 rfl rfl (fz3 hz k4 k4))
   |refine zW (aN o1 (aN o2 (aN o3 (aN hlen (aN i2 (aN i3 (aN c2 (aN c3 hz0)))))))) ?_
   exact ⟨.inr trivial,_,rR,_,rfl,fun h=>⟨p1 rfl,q2,c2,c3,by simpa using h⟩⟩
  ·refine M6 (vf:=O8) rfl ?_
   unfold O8;refine zE ?_
   repeat first
   |(apply M4 h1 rfl rfl (fz2 hz k4))
   |(apply M4 h2 rfl rfl (fz3 hz k4 k4))
   |refine zW (aN o1 (aN o2 (aN o3 (aN hlen (aN i2 (aN i3 (aN c2 (aN c3 hz0)))))))) ?_
   exact ⟨.inr trivial,_,rR,_,rfl,by simp⟩
 ·refine M6 (vf:=O8) rfl ?_
  unfold O8;refine zE ?_
  repeat first
  |(apply M4 h1 rfl rfl (fz2 hz k4))
  |(apply M4 h2 rfl rfl (fz3 hz k4 k4))
  |refine zW (aN o1 (aN o2 (aN o3 (aN hlen (aN i2 (aN i3 (aN c2 hz0))))))) ?_
  exact ⟨.inr trivial,_,rR,_,rfl,by simp⟩
theorem c46 {d:D} {t:List Nd} {x:Nd} (hT:N7 d t) (hx:x.Ok) (hk:a0c t x) (hK:x.kind=2):S6 61 [d,.agg x.row] fun b=>b=true->(x.words.length:Int)=1/\x.nums.length=2/\-999999<=x.num 1/\x.num 1<=999999/\x.kids=[]:=by
 refine U0 ?_
 have o1:=FL.one hx.w
 have o2:=FL.one hx.n
 have o3:=FL.one hx.k
 have hlen:=FI.len hx.k
 have hlen2:=FI.len hx.n
 have hz:=hx.fz
 have hrow:x.row=[.int .i64 2,x.dw,x.dn,x.dk,.int .i64 x.pos]:=by unfold Nd.row;rw [hK]
 have hz0:=b1W (x:=x)
 obtain ⟨b1,h1,p1⟩:=a0r hx (c:=1)
 rw [hrow] at h1 hz ⊢
 cases b1
 ·refine M6 (vf:=O8) rfl ?_
  unfold O8;refine zE ?_
  repeat first
  |(apply M4 h1 rfl rfl (fz2 hz k4))
  |refine zW (aN o1 (aN o2 (aN o3 hlen))) ?_
  exact ⟨.inr trivial,_,rR,_,rfl,by simp⟩
 by_cases l2:x.nums.length=2
 ·have l2':((x.nums.length:Int)==2)=true:=by rw [l2];rfl
  have i0:N2 1 x.dn (.int .i64 0)=some (.fp [.int .i64 (x.num 0)] 0):=by rw [a4w (by omega)];exact FI.idx hx.n (i:=0) (by omega)
  have i1:N2 1 x.dn (.int .i64 1)=some (.fp [.int .i64 (x.num 1)] 0):=by rw [a4w (by omega)];exact FI.idx hx.n (i:=1) (by omega)
  have g0:=a6U (k:=x.num 0) (a:=0) (b:=999999)
  have g1:=a6U (k:=x.num 1) (a:=-999999) (b:=999999)
  cases r0:inR (x.num 0) 0 999999
  ·rw [r0] at g0
   refine M6 (vf:=O8) rfl ?_
   unfold O8;refine zE ?_
   repeat first
   |(apply M4 h1 rfl rfl (fz2 hz k4))
   |(apply M4 g0 rfl rfl rfl)
   |(apply M4 g1 rfl rfl rfl)
   |refine zW (aN o1 (aN o2 (aN o3 (aN hlen (aN hlen2 (aN l2' (aN i0 (aN i1 hz0)))))))) ?_
   exact ⟨.inr trivial,_,rR,_,rfl,by simp⟩
  ·rw [r0] at g0
   cases r1:inR (x.num 1) (-999999) 999999
   ·rw [r1] at g1
    refine M6 (vf:=O8) rfl ?_
    unfold O8;refine zE ?_
    repeat first
    |(apply M4 h1 rfl rfl (fz2 hz k4))
    |(apply M4 g0 rfl rfl rfl)
    |(apply M4 g1 rfl rfl rfl)
    |refine zW (aN o1 (aN o2 (aN o3 (aN hlen (aN hlen2 (aN l2' (aN i0 (aN i1 hz0)))))))) ?_
    exact ⟨.inr trivial,_,rR,_,rfl,by simp⟩
   ·rw [r1] at g1
    have r1:=a83.1 r1
    refine M6 (vf:=O8) rfl ?_
    unfold O8;refine zE ?_
    repeat first
    |(apply M4 h1 rfl rfl (fz2 hz k4))
    |(apply M4 g0 rfl rfl rfl)
    |(apply M4 g1 rfl rfl rfl)
    |refine zW (aN o1 (aN o2 (aN o3 (aN hlen (aN hlen2 (aN l2' (aN i0 (aN i1 hz0)))))))) ?_
    exact ⟨.inr trivial,_,rR,_,rfl,fun h=>⟨p1 rfl,l2,r1.1,r1.2,by simpa using h⟩⟩
 ·have l2':((x.nums.length:Int)==2)=false:=by rw [beq_eq_false_iff_ne];omega
  refine M6 (vf:=O8) rfl ?_
  unfold O8;refine zE ?_
  repeat first
  |(apply M4 h1 rfl rfl (fz2 hz k4))
  |refine zW (aN o1 (aN o2 (aN o3 (aN hlen (aN hlen2 (aN l2' hz0)))))) ?_
  exact ⟨.inr trivial,_,rR,_,rfl,by simp⟩
theorem c1I {d:D} {t:List Nd} {x:Nd} (hT:N7 d t) (hx:x.Ok) (hk:a0c t x) (hK:x.kind=3):S6 61 [d,.agg x.row] fun b=>b=true->(x.words.length:Int)=1/\((x.nums.length:Int)=1/\∀n∈x.nums,0<=n/\n<=999999)/\∃v,v<=x.kids.length/\(∀i,i<v->(nd t (x.kid i)).kind=2)/\∀i,v<=i->i<x.kids.length->6<=(nd t (x.kid i)).kind/\(nd t (x.kid i)).kind<=15:=by
 refine U0 ?_
 have o1:=FL.one hx.w
 have o2:=FL.one hx.n
 have o3:=FL.one hx.k
 have hlen:=FI.len hx.k
 have hz:=hx.fz
 have hrow:x.row=[.int .i64 3,x.dw,x.dn,x.dk,.int .i64 x.pos]:=by unfold Nd.row;rw [hK]
 obtain ⟨b1,h1,p1⟩:=a0r hx (c:=1)
 obtain ⟨b2,h2,p2⟩:=a0A hx (c:=1) (m:=999999)
 rw [hrow] at h1 h2 hz ⊢
 refine M6 (vf:=O8) rfl ?_
 unfold O8;refine zE ?_
 try refine zW (aN o1 (aN o2 (aN o3 hlen))) ?_
 refine W2 (Q:=N5 1 _) (fun n env s=>∃i:Nat,i<=x.kids.length/\n=x.kids.length-i/\(∀j,j<i->(nd t (x.kid j)).kind=2)/\s.get 0=some (.cells [.int .i64 3,x.dw,x.dn,x.dk,.int .i64 x.pos])/\(env.get 0=d/\env.get 3=.ptr 0 0/\env.get 5=.int .i64 (x.kids.length:Int)/\env.get 6=.int .i64 (i:Int))) ?_ x.kids.length _ _ ⟨0,by omega,rfl,fun j h=>by omega,P0 rfl,by simp [Env.get,P3.at];rfl⟩
 rintro n env s ⟨i,hi,rfl,hall,hg,hE⟩
 have fin:∀ (env:Env) (s:f6),s.get 0=some (.cells [.int .i64 3,x.dw,x.dn,x.dk,.int .i64 x.pos])->(env.get 0=d/\env.get 3=.ptr 0 0/\env.get 6=.int .i64 (i:Int))->True:=fun _ _ _ _=>trivial
 obtain ⟨b3,h3,p3⟩:=a8a hT hx hk (f:=i) (a:=6) (b:=15)
 rw [hrow] at h3
 by_cases c3:i<x.kids.length
 ·have c3':((i:Int)<(x.kids.length:Int))=True:=eq_true (by omega)
  have hs:=a2g c3 hx.kl
  have hki:=hk _ (List.getElem_mem c3)
  have h4:=a8Z hT hx c3 hki.1 hki.2
  rw [hrow] at h4
  by_cases c4:(nd t (x.kid i)).kind=2
  ·have c4':((nd t (x.kid i)).kind==2)=true:=by rw [c4];rfl
   repeat first
   |(apply M4 h4 rfl;(focus (simp only [Env.evL,Env.ev,Env.get,Nat.reduceEqDiff,↓reduceIte,hE]));(focus exact fz3 hT.fz hz k4))
   |refine zW (aN hE (aN hg (aN o1 (aN o2 (aN o3 (aN hlen (aN c3' (aN c4' hs)))))))) ?_
   refine ⟨x.kids.length-(i+1),by omega,i+1,by omega,rfl,fun j h=>?_,hg,(rG hE)⟩
   by_cases e:j=i
   ·subst e;exact c4
   ·exact hall j (by omega)
  ·have c4':((nd t (x.kid i)).kind==2)=false:=by rw [beq_eq_false_iff_ne];exact c4
   cases b1
   ·repeat first
    |(apply M4 h4 rfl;(focus (simp only [Env.evL,Env.ev,Env.get,Nat.reduceEqDiff,↓reduceIte,hE]));(focus exact fz3 hT.fz hz k4))
    |(apply M4 h1 rfl rfl (fz2 hz k4))
    |refine zW (aN hE (aN hg (aN o1 (aN o2 (aN o3 (aN hlen (aN c3' c4'))))))) ?_
    exact ⟨.inr trivial,_,rR,_,rfl,by simp⟩
   cases b2
   ·repeat first
    |(apply M4 h4 rfl;(focus (simp only [Env.evL,Env.ev,Env.get,Nat.reduceEqDiff,↓reduceIte,hE]));(focus exact fz3 hT.fz hz k4))
    |(apply M4 h1 rfl rfl (fz2 hz k4))
    |(apply M4 h2 rfl rfl (fz3 hz k4 k4))
    |refine zW (aN hE (aN hg (aN o1 (aN o2 (aN o3 (aN hlen (aN c3' c4'))))))) ?_
    exact ⟨.inr trivial,_,rR,_,rfl,by simp⟩
   repeat first
   |(apply M4 h4 rfl;(focus (simp only [Env.evL,Env.ev,Env.get,Nat.reduceEqDiff,↓reduceIte,hE]));(focus exact fz3 hT.fz hz k4))
   |(apply M4 h1 rfl rfl (fz2 hz k4))
   |(apply M4 h2 rfl rfl (fz3 hz k4 k4))
   |(apply M4 h3 rfl;(focus (simp only [Env.evL,Env.ev,Env.get,Nat.reduceEqDiff,↓reduceIte,hE]));(focus exact fz5 hT.fz hz k4 k4 k4))
   |refine zW (aN hE (aN hg (aN o1 (aN o2 (aN o3 (aN hlen (aN c3' c4'))))))) ?_
   exact ⟨.inr trivial,_,rR,_,rfl,fun h=>⟨p1 rfl,p2 rfl,i,hi,hall,p3 h⟩⟩
 ·have c3':((i:Int)<(x.kids.length:Int))=False:=eq_false (by omega)
  cases b1
  ·repeat first
   |(apply M4 h1 rfl rfl (fz2 hz k4))
   |refine zW (aN hE (aN hg (aN o1 (aN o2 (aN o3 (aN hlen c3')))))) ?_
   exact ⟨.inr trivial,_,rR,_,rfl,by simp⟩
  cases b2
  ·repeat first
   |(apply M4 h1 rfl rfl (fz2 hz k4))
   |(apply M4 h2 rfl rfl (fz3 hz k4 k4))
   |refine zW (aN hE (aN hg (aN o1 (aN o2 (aN o3 (aN hlen c3')))))) ?_
   exact ⟨.inr trivial,_,rR,_,rfl,by simp⟩
  repeat first
  |(apply M4 h1 rfl rfl (fz2 hz k4))
  |(apply M4 h2 rfl rfl (fz3 hz k4 k4))
  |(apply M4 h3 rfl;(focus (simp only [Env.evL,Env.ev,Env.get,Nat.reduceEqDiff,↓reduceIte,hE]));(focus exact fz5 hT.fz hz k4 k4 k4))
  |refine zW (aN hE (aN hg (aN o1 (aN o2 (aN o3 (aN hlen c3')))))) ?_
  exact ⟨.inr trivial,_,rR,_,rfl,fun h=>⟨p1 rfl,p2 rfl,i,hi,hall,p3 h⟩⟩
theorem c0Y {d:D} {t:List Nd} {x:Nd} (hT:N7 d t) (hx:x.Ok) (hK:x.kind<0∨22<x.kind):S6 61 [d,.agg x.row] fun b=>b=false:=by
 refine U0 ?_
 have o1:=FL.one hx.w
 have o2:=FL.one hx.n
 have o3:=FL.one hx.k
 have hlen:=FI.len hx.k
 have ne:∀c:Int,0<=c->c<=22->(x.kind==c)=false:=fun c h1 h2=>by rw [beq_eq_false_iff_ne];omega
 have n0:=ne 0 (by omega) (by omega)
 have n1:=ne 1 (by omega) (by omega)
 have n2:=ne 2 (by omega) (by omega)
 have n3:=ne 3 (by omega) (by omega)
 have n4:=ne 4 (by omega) (by omega)
 have n5:=ne 5 (by omega) (by omega)
 have n6:=ne 6 (by omega) (by omega)
 have n7:=ne 7 (by omega) (by omega)
 have n8:=ne 8 (by omega) (by omega)
 have n9:=ne 9 (by omega) (by omega)
 have n10:=ne 10 (by omega) (by omega)
 have n11:=ne 11 (by omega) (by omega)
 have n12:=ne 12 (by omega) (by omega)
 have n13:=ne 13 (by omega) (by omega)
 have n14:=ne 14 (by omega) (by omega)
 have n15:=ne 15 (by omega) (by omega)
 have n16:=ne 16 (by omega) (by omega)
 have n17:=ne 17 (by omega) (by omega)
 have n18:=ne 18 (by omega) (by omega)
 have n19:=ne 19 (by omega) (by omega)
 have n20:=ne 20 (by omega) (by omega)
 have n21:=ne 21 (by omega) (by omega)
 have n22:=ne 22 (by omega) (by omega)
 unfold Nd.row
 refine M6 (vf:=O8) rfl ?_
 unfold O8;refine zE ?_
 try refine zW (aN o1 (aN o2 (aN o3 (aN hlen (aN n0 (aN n1 (aN n2 (aN n3 (aN n4 (aN n5 (aN n6 (aN n7 (aN n8 (aN n9 (aN n10 (aN n11 (aN n12 (aN n13 (aN n14 (aN n15 (aN n16 (aN n17 (aN n18 (aN n19 (aN n20 (aN n21 n22)))))))))))))))))))))))))) ?_
 exact ⟨.inr trivial,_,rR,_,rfl,rfl⟩
end Go.Proofs.YtnjlhebkhjcagaaGreat
namespace Go.Proofs.YtnjlhebkhjcagaaGreat
open Go.V
set_option maxRecDepth 100000
set_option maxHeartbeats 4000000
theorem a2z {x:Nd} {i:Nat} {m:Int} (h:i<x.nums.length) (ha:∀n∈x.nums,0<=n/\n<=m):0<=x.num i/\x.num i<=m:=by
 rw [a4w h];exact ha _ (List.getElem_mem h)
theorem b3q {t:List Nd} {x:Nd} {a b:Int} (h:∀i,0<=i->i<x.kids.length->a<=(nd t (x.kid i)).kind/\(nd t (x.kid i)).kind<=b):∀k∈x.ks,a<=(nd t k).kind/\(nd t k).kind<=b:=by
 intro k hk
 obtain ⟨i,hi,rfl⟩:=List.getElem_of_mem hk
 rw [a0K] at hi
 have:=h i (Nat.zero_le _) hi
 rw [a4t hi] at this
 simpa [Nd.ks] using this
theorem c1M {t:List Nd} {x:Nd} (h:∀i,i<x.kids.length->(nd t (x.kid i)).kind=16):∀k∈x.ks,(nd t k).kind=16:=by
 intro k hk
 obtain ⟨i,hi,rfl⟩:=List.getElem_of_mem hk
 rw [a0K] at hi
 have:=h i hi
 rw [a4t hi] at this
 simpa [Nd.ks] using this
theorem c3C {t:List Nd} {x:Nd} {v:Nat} (h:∀i,i<v->(nd t (x.kid i)).kind=2):∀k∈x.ks.take v,(nd t k).kind=2:=by
 intro k hk
 obtain ⟨i,hi,rfl⟩:=List.getElem_of_mem hk
 have h1:i<v/\i<x.kids.length:=by
  rw [List.length_take,a0K] at hi
  omega
 have:=h i h1.1
 rw [a4t h1.2] at this
 simpa [Nd.ks] using this
theorem c2e {t:List Nd} {x:Nd} {v:Nat} (h:∀i,v<=i->i<x.kids.length->6<=(nd t (x.kid i)).kind/\(nd t (x.kid i)).kind<=15):∀k∈x.ks.drop v,a14 (nd t k).kind:=by
 intro k hk
 obtain ⟨i,hi,rfl⟩:=List.getElem_of_mem hk
 rw [List.length_drop,a0K] at hi
 have:=h (v+i) (by omega) (by omega)
 rw [a4t (by omega)] at this
 simpa [Nd.ks,a14] using this
theorem c2m {d:D} {t:List Nd} {x:Nd} (hT:N7 d t) (hx:x.Ok) (hk:a0c t x):S6 61 [d,.agg x.row] fun b=>b=true->a7J t x:=by
 by_cases hr:x.kind<0∨22<x.kind
 ·obtain ⟨b,h,rfl⟩:=c0Y hT hx hr
  exact ⟨false,h,by simp⟩
 have cs:x.kind=0∨x.kind=1∨x.kind=2∨x.kind=3∨x.kind=4∨x.kind=5∨x.kind=6∨x.kind=7∨x.kind=8∨x.kind=9∨x.kind=10∨x.kind=11∨x.kind=12∨x.kind=13∨x.kind=14∨x.kind=15∨x.kind=16∨x.kind=17∨x.kind=18∨x.kind=19∨x.kind=20∨x.kind=21∨x.kind=22:=by omega
 rcases cs with hK | hK | hK | hK | hK | hK | hK | hK | hK | hK | hK | hK | hK | hK | hK | hK | hK | hK | hK | hK | hK | hK | hK
 ·obtain ⟨b,h,p⟩:=c2J hT hx hk hK
  refine ⟨b,h,fun hb=>?_⟩
  obtain ⟨w,n,r⟩:=p hb
  exact ⟨by omega,by rw [hK,show a0k 0=0 from rfl];omega,by rw [hK,show a0h 0=0 from rfl];omega,fun _=>b3q r,fun e=>by omega,fun e=>by omega,fun e=>by omega,fun e=>by omega,fun e=>by omega,fun e=>by omega,fun e=>by omega,fun e=>by omega,fun e=>by omega,fun e=>by omega,fun e=>by omega,fun e=>by omega,fun e=>by omega,fun e=>by omega⟩
 ·obtain ⟨b,h,p⟩:=c44 hT hx hk hK
  refine ⟨b,h,fun hb=>?_⟩
  obtain ⟨w,n,r⟩:=p hb
  exact ⟨by omega,by rw [hK,show a0k 1=1 from rfl];omega,by rw [hK,show a0h 1=4 from rfl];omega,fun e=>by omega,fun _=>⟨(a2z (by omega) n.2).1,(a2z (by omega) n.2).1,(a2z (by omega) n.2).1,r.1,(a2z (by omega) n.2).1,r.2.1⟩,fun e=>by omega,fun e=>by omega,fun e=>by omega,fun e=>by omega,fun _=>r.2.2,fun e=>by omega,fun e=>by omega,fun e=>by omega,fun e=>by omega,fun e=>by omega,fun e=>by omega,fun e=>by omega,fun e=>by omega⟩
 ·obtain ⟨b,h,p⟩:=c46 hT hx hk hK
  refine ⟨b,h,fun hb=>?_⟩
  obtain ⟨w,n,r⟩:=p hb
  exact ⟨by omega,by rw [hK,show a0k 2=1 from rfl];omega,by rw [hK,show a0h 2=2 from rfl];omega,fun e=>by omega,fun e=>by omega,fun _=>⟨r.1,r.2.1⟩,fun e=>by omega,fun e=>by omega,fun e=>by omega,fun _=>r.2.2,fun e=>by omega,fun e=>by omega,fun e=>by omega,fun e=>by omega,fun e=>by omega,fun e=>by omega,fun e=>by omega,fun e=>by omega⟩
 ·obtain ⟨b,h,p⟩:=c1I hT hx hk hK
  refine ⟨b,h,fun hb=>?_⟩
  obtain ⟨w,n,r⟩:=p hb
  exact ⟨by omega,by rw [hK,show a0k 3=1 from rfl];omega,by rw [hK,show a0h 3=1 from rfl];omega,fun e=>by omega,fun e=>by omega,fun e=>by omega,fun _=>by obtain ⟨v,v1,v2,v3⟩:=r;exact ⟨v,by rw [a0K];exact v1,c3C v2,c2e v3⟩,fun _=>a2z (by omega) n.2,fun e=>by omega,fun e=>by omega,fun e=>by omega,fun e=>by omega,fun e=>by omega,fun e=>by omega,fun e=>by omega,fun e=>by omega,fun e=>by omega,fun e=>by omega⟩
 ·obtain ⟨b,h,p⟩:=b9K hT hx hk hK
  refine ⟨b,h,fun hb=>?_⟩
  obtain ⟨w,n,r⟩:=p hb
  exact ⟨by omega,by rw [hK,show a0k 4=0 from rfl];omega,by rw [hK,show a0h 4=0 from rfl];omega,fun e=>by omega,fun e=>by omega,fun e=>by omega,fun e=>by omega,fun e=>by omega,fun _=>⟨by omega,(r.2.2 0 (by omega)).1 (by omega)⟩,fun e=>by omega,fun e=>by omega,fun e=>by omega,fun e=>by omega,fun e=>by omega,fun e=>by omega,fun e=>by omega,fun e=>by omega,fun e=>by omega⟩
 ·obtain ⟨b,h,p⟩:=c5l hT hx hk hK
  refine ⟨b,h,fun hb=>?_⟩
  obtain ⟨w,n,r⟩:=p hb
  exact ⟨by omega,by rw [hK,show a0k 5=0 from rfl];omega,by rw [hK,show a0h 5=0 from rfl];omega,fun e=>by omega,fun e=>by omega,fun e=>by omega,fun e=>by omega,fun e=>by omega,fun e=>by omega,fun _=>r,fun e=>by omega,fun e=>by omega,fun e=>by omega,fun e=>by omega,fun e=>by omega,fun e=>by omega,fun e=>by omega,fun e=>by omega⟩
 ·obtain ⟨b,h,p⟩:=c3J hT hx hk hK
  refine ⟨b,h,fun hb=>?_⟩
  obtain ⟨w,n,r⟩:=p hb
  exact ⟨by omega,by rw [hK,show a0k 6=1 from rfl];omega,by rw [hK,show a0h 6=0 from rfl];omega,fun e=>by omega,fun e=>by omega,fun e=>by omega,fun e=>by omega,fun e=>by omega,fun _=>⟨by omega,(r.2.2 0 (by omega)).1 (by omega)⟩,fun e=>by omega,fun e=>by omega,fun e=>by omega,fun e=>by omega,fun e=>by omega,fun e=>by omega,fun e=>by omega,fun e=>by omega,fun e=>by omega⟩
 ·obtain ⟨b,h,p⟩:=c1E hT hx hk hK
  refine ⟨b,h,fun hb=>?_⟩
  obtain ⟨w,n,r⟩:=p hb
  exact ⟨by omega,by rw [hK,show a0k 7=1 from rfl];omega,by rw [hK,show a0h 7=0 from rfl];omega,fun e=>by omega,fun e=>by omega,fun e=>by omega,fun e=>by omega,fun e=>by omega,fun _=>⟨by omega,(r.2.2 0 (by omega)).1 (by omega)⟩,fun e=>by omega,fun e=>by omega,fun e=>by omega,fun e=>by omega,fun e=>by omega,fun e=>by omega,fun e=>by omega,fun e=>by omega,fun e=>by omega⟩
 ·obtain ⟨b,h,p⟩:=b9Q hT hx hk hK
  refine ⟨b,h,fun hb=>?_⟩
  obtain ⟨w,n,r⟩:=p hb
  exact ⟨by omega,by rw [hK,show a0k 8=2 from rfl];omega,by rw [hK,show a0h 8=1 from rfl];omega,fun e=>by omega,fun e=>by omega,fun e=>by omega,fun e=>by omega,fun e=>by omega,fun e=>by omega,fun _=>r,fun e=>by omega,fun e=>by omega,fun e=>by omega,fun e=>by omega,fun e=>by omega,fun e=>by omega,fun _=>a2z (by omega) n.2,fun e=>by omega⟩
 ·obtain ⟨b,h,p⟩:=c59 hT hx hk hK
  refine ⟨b,h,fun hb=>?_⟩
  obtain ⟨w,n,r⟩:=p hb
  exact ⟨by omega,by rw [hK,show a0k 9=0 from rfl];omega,by rw [hK,show a0h 9=1 from rfl];omega,fun e=>by omega,fun e=>by omega,fun e=>by omega,fun e=>by omega,fun e=>by omega,fun _=>⟨by omega,(r.2.2 0 (by omega)).1 (by omega)⟩,fun e=>by omega,fun e=>by omega,fun e=>by omega,fun e=>by omega,fun e=>by omega,fun e=>by omega,fun e=>by omega,fun _=>a2z (by omega) n.2,fun e=>by omega⟩
 ·obtain ⟨b,h,p⟩:=c1C hT hx hk hK
  refine ⟨b,h,fun hb=>?_⟩
  obtain ⟨w,n,r⟩:=p hb
  exact ⟨by omega,by rw [hK,show a0k 10=0 from rfl];omega,by rw [hK,show a0h 10=1 from rfl];omega,fun e=>by omega,fun e=>by omega,fun e=>by omega,fun e=>by omega,fun e=>by omega,fun e=>by omega,fun e=>by omega,fun _=>⟨by omega,c1M fun i hi=>(r.2.2 i hi).2 (by omega)⟩,fun e=>by omega,fun e=>by omega,fun e=>by omega,fun e=>by omega,fun e=>by omega,fun _=>a2z (by omega) n.2,fun e=>by omega⟩
 ·obtain ⟨b,h,p⟩:=b61 hT hx hk hK
  refine ⟨b,h,fun hb=>?_⟩
  obtain ⟨w,n,r⟩:=p hb
  exact ⟨by omega,by rw [hK,show a0k 11=0 from rfl];omega,by rw [hK,show a0h 11=0 from rfl];omega,fun e=>by omega,fun e=>by omega,fun e=>by omega,fun e=>by omega,fun e=>by omega,fun e=>by omega,fun e=>by omega,fun e=>by omega,fun _=>⟨by omega,(r.2.2 0 (by omega)).1 (by omega),(r.2.2 1 (by omega)).2 (by omega),fun h3=>(r.2.2 2 (by omega)).2 (by omega)⟩,fun e=>by omega,fun e=>by omega,fun e=>by omega,fun e=>by omega,fun e=>by omega,fun e=>by omega⟩
 ·obtain ⟨b,h,p⟩:=b89 hT hx hk hK
  refine ⟨b,h,fun hb=>?_⟩
  obtain ⟨w,n,r⟩:=p hb
  exact ⟨by omega,by rw [hK,show a0k 12=0 from rfl];omega,by rw [hK,show a0h 12=0 from rfl];omega,fun e=>by omega,fun e=>by omega,fun e=>by omega,fun e=>by omega,fun e=>by omega,fun e=>by omega,fun e=>by omega,fun e=>by omega,fun e=>by omega,fun _=>⟨by omega,(r.2.2 0 (by omega)).1 (by omega),(r.2.2 1 (by omega)).2 (by omega)⟩,fun e=>by omega,fun e=>by omega,fun e=>by omega,fun e=>by omega,fun e=>by omega⟩
 ·obtain ⟨b,h,p⟩:=c4i hT hx hk hK
  refine ⟨b,h,fun hb=>?_⟩
  obtain ⟨w,n,r⟩:=p hb
  exact ⟨by omega,by rw [hK,show a0k 13=0 from rfl];omega,by rw [hK,show a0h 13=0 from rfl];omega,fun e=>by omega,fun e=>by omega,fun e=>by omega,fun e=>by omega,fun e=>by omega,fun e=>by omega,fun e=>by omega,fun e=>by omega,fun e=>by omega,fun e=>by omega,fun _=>⟨by omega,(r.2.2 0 (by omega)).2 (by omega)⟩,fun e=>by omega,fun e=>by omega,fun e=>by omega,fun e=>by omega⟩
 ·obtain ⟨b,h,p⟩:=c2n hT hx hk hK
  refine ⟨b,h,fun hb=>?_⟩
  obtain ⟨w,n,r⟩:=p hb
  exact ⟨by omega,by rw [hK,show a0k 14=0 from rfl];omega,by rw [hK,show a0h 14=0 from rfl];omega,fun e=>by omega,fun e=>by omega,fun e=>by omega,fun e=>by omega,fun e=>by omega,fun e=>by omega,fun _=>r,fun e=>by omega,fun e=>by omega,fun e=>by omega,fun e=>by omega,fun e=>by omega,fun e=>by omega,fun e=>by omega,fun e=>by omega⟩
 ·obtain ⟨b,h,p⟩:=c5S hT hx hk hK
  refine ⟨b,h,fun hb=>?_⟩
  obtain ⟨w,n,r⟩:=p hb
  exact ⟨by omega,by rw [hK,show a0k 15=0 from rfl];omega,by rw [hK,show a0h 15=0 from rfl];omega,fun e=>by omega,fun e=>by omega,fun e=>by omega,fun e=>by omega,fun e=>by omega,fun e=>by omega,fun _=>r,fun e=>by omega,fun e=>by omega,fun e=>by omega,fun e=>by omega,fun e=>by omega,fun e=>by omega,fun e=>by omega,fun e=>by omega⟩
 ·obtain ⟨b,h,p⟩:=c4R hT hx hk hK
  refine ⟨b,h,fun hb=>?_⟩
  obtain ⟨w,n,r⟩:=p hb
  exact ⟨by omega,by rw [hK,show a0k 16=0 from rfl];omega,by rw [hK,show a0h 16=0 from rfl];omega,fun e=>by omega,fun e=>by omega,fun e=>by omega,fun e=>by omega,fun e=>by omega,fun e=>by omega,fun e=>by omega,fun e=>by omega,fun e=>by omega,fun e=>by omega,fun e=>by omega,fun _=>b3q r,fun e=>by omega,fun e=>by omega,fun e=>by omega⟩
 ·obtain ⟨b,h,p⟩:=c0B hT hx hk hK
  refine ⟨b,h,fun hb=>?_⟩
  obtain ⟨w,n,r⟩:=p hb
  exact ⟨by omega,by rw [hK,show a0k 17=0 from rfl];omega,by rw [hK,show a0h 17=1 from rfl];omega,fun e=>by omega,fun e=>by omega,fun e=>by omega,fun e=>by omega,fun e=>by omega,fun e=>by omega,fun _=>r,fun e=>by omega,fun e=>by omega,fun e=>by omega,fun e=>by omega,fun e=>by omega,fun e=>by omega,fun e=>by omega,fun _=>a2z (by omega) n.2⟩
 ·obtain ⟨b,h,p⟩:=c4d hT hx hk hK
  refine ⟨b,h,fun hb=>?_⟩
  obtain ⟨w,n,r⟩:=p hb
  exact ⟨by omega,by rw [hK,show a0k 18=1 from rfl];omega,by rw [hK,show a0h 18=0 from rfl];omega,fun e=>by omega,fun e=>by omega,fun e=>by omega,fun e=>by omega,fun e=>by omega,fun e=>by omega,fun _=>r,fun e=>by omega,fun e=>by omega,fun e=>by omega,fun e=>by omega,fun e=>by omega,fun e=>by omega,fun e=>by omega,fun e=>by omega⟩
 ·obtain ⟨b,h,p⟩:=c0C hT hx hk hK
  refine ⟨b,h,fun hb=>?_⟩
  obtain ⟨w,n,r⟩:=p hb
  exact ⟨by omega,by rw [hK,show a0k 19=1 from rfl];omega,by rw [hK,show a0h 19=0 from rfl];omega,fun e=>by omega,fun e=>by omega,fun e=>by omega,fun e=>by omega,fun e=>by omega,fun e=>by omega,fun _=>r,fun e=>by omega,fun e=>by omega,fun e=>by omega,fun e=>by omega,fun e=>by omega,fun e=>by omega,fun e=>by omega,fun e=>by omega⟩
 ·obtain ⟨b,h,p⟩:=b6G hT hx hk hK
  refine ⟨b,h,fun hb=>?_⟩
  obtain ⟨w,n,r⟩:=p hb
  exact ⟨by omega,by rw [hK,show a0k 20=0 from rfl];omega,by rw [hK,show a0h 20=0 from rfl];omega,fun e=>by omega,fun e=>by omega,fun e=>by omega,fun e=>by omega,fun e=>by omega,fun _=>⟨by omega,(r.2.2 0 (by omega)).1 (by omega)⟩,fun e=>by omega,fun e=>by omega,fun e=>by omega,fun e=>by omega,fun e=>by omega,fun e=>by omega,fun e=>by omega,fun e=>by omega,fun e=>by omega⟩
 ·obtain ⟨b,h,p⟩:=c4n hT hx hk hK
  refine ⟨b,h,fun hb=>?_⟩
  obtain ⟨w,n,r⟩:=p hb
  exact ⟨by omega,by rw [hK,show a0k 21=0 from rfl];omega,by rw [hK,show a0h 21=0 from rfl];omega,fun e=>by omega,fun e=>by omega,fun e=>by omega,fun e=>by omega,fun e=>by omega,fun _=>⟨by omega,(r.2.2 0 (by omega)).1 (by omega)⟩,fun e=>by omega,fun e=>by omega,fun e=>by omega,fun e=>by omega,fun e=>by omega,fun e=>by omega,fun e=>by omega,fun e=>by omega,fun e=>by omega⟩
 ·obtain ⟨b,h,p⟩:=c2q hT hx hk hK
  refine ⟨b,h,fun hb=>?_⟩
  obtain ⟨w,n,r⟩:=p hb
  exact ⟨by omega,by rw [hK,show a0k 22=0 from rfl];omega,by rw [hK,show a0h 22=1 from rfl];omega,fun e=>by omega,fun e=>by omega,fun e=>by omega,fun e=>by omega,fun e=>by omega,fun e=>by omega,fun e=>by omega,fun e=>by omega,fun e=>by omega,fun e=>by omega,fun e=>by omega,fun e=>by omega,fun _=>⟨by omega,(r.2.2 0 (by omega)).1 (by omega),(r.2.2 1 (by omega)).1 (by omega),(a2z (by omega) n.2).1,(a2z (by omega) n.2).2⟩,fun e=>by omega,fun e=>by omega⟩
theorem b5n {d:D} {t:List Nd} (hT:N7 d t) (hl:t.length<=800):∀ (f i:Nat),f<=20->i<t.length->Iso 60 [d,.int .i64 (i:Int),.int .i64 ((21-f:Nat):Int)] (.tup [.int .i64 ((R7 t f i).1:Int),.bool (R7 t f i).2])
 | 0,i,_,hi=>by
   refine a2r ?_
   have e:(((21-0:Nat)):Int)=21:=rfl
   rw [e]
   refine M6 (vf:=a5r) rfl ?_
   unfold a5r;refine zE ?_
   try refine zW0 ?_
   exact ⟨.inr trivial,_,rR,rfl⟩
 | f+1,i,hf,hi=>by
   refine a2r ?_
   have hidx:=hT.at (z:=(i:Int)) (by omega) (by omega) (k:=.i64)
   rw [Int.toNat_natCast] at hidx
   have hx:=hT.nd hi
   have o1:=FL.one hx.w
   have o2:=FL.one hx.n
   have o3:=FL.one hx.k
   have hlk:=FI.len hx.k
   have hlen:=hT.len
   have e1:((20:Int)<((21-(f+1):Nat):Int))=False:=eq_false (by omega)
   have e2:IntKind.i64.wrap ((i:Int)+1)=((i+1:Nat):Int):=by rw [O7 (by omega) (by omega)];omega
   have e3:IntKind.i64.wrap (((21-(f+1):Nat):Int)+1)=((21-f:Nat):Int):=by rw [O7 (by omega) (by omega)];omega
   have key:∀ (n:Nat) (P:Nat×Bool),R7 t (f+1) i=P->True:=fun _ _ _=>trivial
   refine M6 (vf:=a5r) rfl ?_
   unfold a5r;refine zE ?_
   try refine zW (aN e1 e2) ?_
   refine W2 (Q:=N5 0 _) (fun n env s=>∃j next:Nat,j<=(nd t i).kids.length/\n=(nd t i).kids.length-j/\next<=t.length/\R7 t (f+1) i=a2m (R7 t f) t.length ((nd t i).kids.drop j) next/\(env.get 0=d/\env.get 1=.int .i64 (i:Int)/\env.get 2=.int .i64 ((21-(f+1):Nat):Int)/\env.get 8=.int .i64 (next:Int)/\env.get 9=.int .i64 (j:Int))) ?_ (nd t i).kids.length _ _ ⟨0,i+1,by omega,rfl,by omega,rfl,by simp [Env.get]⟩
   rintro n env s ⟨j,next,hj,rfl,hn,hw,hE⟩
   by_cases c1:j<(nd t i).kids.length
   ·have c1':((j:Int)<((nd t i).kids.length:Int))=True:=eq_true (by omega)
    have hki:=FI.idx hx.k c1 (k:=.i64)
    have hs:=a2g c1 hx.kl
    rw [List.drop_eq_getElem_cons c1] at hw
    unfold a2m at hw
    by_cases c2:(nd t i).kids[j]=(next:Int)
    ·have c2':((nd t i).kids[j] != (next:Int))=false:=by rw [c2];simp
     by_cases c3:next<t.length
     ·have c3':((t.length:Int)<=(next:Int))=False:=eq_false (by omega)
      rw [if_neg (by omega)] at hw
      have hrec:=b5n hT hl f next (by omega) c3
      obtain ⟨s1,hrec⟩:=hrec
      have hwl:=b2u f c3
      cases hb:(R7 t f next).2
      ·rw [hb] at hrec hw
       rw [if_neg (by simp)] at hw
       repeat first
       |(refine a2N (l:=[d,.int .i64 (next:Int),.int .i64 ((21-f:Nat):Int)]) ?_ (fz3 hT.fz k4 k4) hrec rfl rfl ?_;(focus (simp only [Env.evL,Env.ev,Env.get,Nat.reduceEqDiff,↓reduceIte,hE])))
       |refine zW (aN hE (aN e1 (aN hidx (aN o1 (aN o2 (aN o3 (aN hlk (aN hlen (aN c1' (aN hki (aN c2' (aN c3' e3)))))))))))) ?_
       exact ⟨.inr trivial,_,rR,by rw [hw]⟩
      ·rw [hb] at hrec hw
       rw [if_pos rfl] at hw
       repeat first
       |(refine a2N (l:=[d,.int .i64 (next:Int),.int .i64 ((21-f:Nat):Int)]) ?_ (fz3 hT.fz k4 k4) hrec rfl rfl ?_;(focus (simp only [Env.evL,Env.ev,Env.get,Nat.reduceEqDiff,↓reduceIte,hE])))
       |refine zW (aN hE (aN e1 (aN hidx (aN o1 (aN o2 (aN o3 (aN hlk (aN hlen (aN c1' (aN hki (aN c2' (aN c3' (aN e3 hs))))))))))))) ?_
       exact ⟨(nd t i).kids.length-(j+1),by omega,j+1,(R7 t f next).1,by omega,rfl,hwl,hw,(rG hE)⟩
     ·have c3':((t.length:Int)<=(next:Int))=True:=eq_true (by omega)
      rw [if_pos (by omega)] at hw
      try refine zW (aN hE (aN e1 (aN hidx (aN o1 (aN o2 (aN o3 (aN hlk (aN hlen (aN c1' (aN hki (aN c2' c3'))))))))))) ?_
      exact ⟨.inr trivial,_,rR,by rw [hw]⟩
    ·have c2':((nd t i).kids[j] != (next:Int))=true:=by rw [bne_iff_ne];exact c2
     rw [if_pos (by omega)] at hw
     try refine zW (aN hE (aN e1 (aN hidx (aN o1 (aN o2 (aN o3 (aN hlk (aN hlen (aN c1' (aN hki c2')))))))))) ?_
     exact ⟨.inr trivial,_,rR,by rw [hw]⟩
   ·have c1':((j:Int)<((nd t i).kids.length:Int))=False:=eq_false (by omega)
    rw [List.drop_eq_nil_of_le (by omega)] at hw
    try refine zW (aN hE (aN e1 (aN hidx (aN o1 (aN o2 (aN o3 (aN hlk (aN hlen c1')))))))) ?_
    exact ⟨.inr trivial,_,rR,by rw [hw];rfl⟩
theorem b3H {d:D} {t:List Nd} (hT:N7 d t):S6 35 [d] fun _=>True:=by
 refine U0 ?_
 have hlen:=hT.len
 refine M6 (vf:=a9E) rfl ?_
 unfold a9E;refine zE ?_
 try refine zW hlen ?_
 refine W2 (Q:=N5 0 _) (fun n env s=>∃ (i:Nat) (m:Int),i<=t.length/\n=t.length-i/\(env.get 0=d/\env.get 3=.int .i64 m/\env.get 4=.int .i64 (i:Int))) ?_ t.length _ _ ⟨0,_,by omega,rfl,by simp [Env.get];rfl⟩
 rintro n env s ⟨i,m,hi,rfl,hE⟩
 by_cases c1:i<t.length
 ·have c1':((i:Int)<(t.length:Int))=True:=eq_true (by omega)
  have hs:=a2g c1 hT.le
  have hidx:=hT.at (z:=(i:Int)) (by omega) (by omega) (k:=.i64)
  rw [Int.toNat_natCast] at hidx
  have hx:=hT.nd c1
  have o1:=FL.one hx.w
  have o2:=FL.one hx.n
  have o3:=FL.one hx.k
  have l1:=FS.len hx.w
  have l2:=FI.len hx.n
  have l3:=FI.len hx.k
  by_cases c2:m<=1500
  ·try refine zW (aN hE (aN hlen (aN c1' (aN c2 (aN hidx (aN o1 (aN o2 (aN o3 (aN l1 (aN l2 (aN l3 hs))))))))))) ?_
   exact ⟨t.length-(i+1),by omega,i+1,_,by omega,rfl,by simp only [Env.get,Nat.reduceEqDiff,↓reduceIte,hE,and_self,true_and,and_true];rfl⟩
  ·try refine zW (aN hE (aN hlen (aN c1' c2))) ?_
   exact ⟨.inr trivial,_,rR,_,rfl,trivial⟩
 ·have c1':((i:Int)<(t.length:Int))=False:=eq_false (by omega)
  try refine zW (aN hE (aN hlen c1')) ?_
  exact ⟨.inr trivial,_,rR,_,rfl,trivial⟩
theorem b1S {d:D} {t:List Nd} (hT:N7 d t):S6 36 [d] fun b=>b=true->N6 t:=by
 refine U0 ?_
 have hlen:=hT.len
 by_cases c1:t.length=0
 ·have c1':((t.length:Int)==0)=true:=by rw [c1];rfl
  refine M6 (vf:=a1Q) rfl ?_
  unfold a1Q;refine zE ?_
  try refine zW (aN hlen c1') ?_
  exact ⟨.inr trivial,_,rR,_,rfl,by simp⟩
 have c1':((t.length:Int)==0)=false:=by rw [beq_eq_false_iff_ne];omega
 by_cases c2:800<t.length
 ·have c2':((800:Int)<(t.length:Int))=True:=eq_true (by omega)
  refine M6 (vf:=a1Q) rfl ?_
  unfold a1Q;refine zE ?_
  try refine zW (aN hlen (aN c1' c2')) ?_
  exact ⟨.inr trivial,_,rR,_,rfl,by simp⟩
 have c2':((800:Int)<(t.length:Int))=False:=eq_false (by omega)
 have h0:=hT.at (z:=0) (by omega) (by omega) (k:=.i64)
 have x0:=hT.nd (i:=0) (by omega)
 have z0:(0:Int).toNat=0:=rfl
 rw [z0] at h0
 have o1:=FL.one x0.w
 have o2:=FL.one x0.n
 have o3:=FL.one x0.k
 by_cases c3:(nd t 0).kind=0
 ·have c3':((nd t 0).kind != 0)=false:=by rw [c3];rfl
  obtain ⟨s1,hw⟩:=b5n hT (by omega) 20 0 (by omega) (by omega)
  have e21:((21-20:Nat):Int)=1:=rfl
  have e00:((0:Nat):Int)=0:=rfl
  rw [e21,e00] at hw
  cases hb:(R7 t 20 0).2
  ·rw [hb] at hw
   refine M6 (vf:=a1Q) rfl ?_
   unfold a1Q;refine zE ?_
   repeat first
   |(refine a2N (l:=[d,.int .i64 0,.int .i64 1]) rfl (fz3 hT.fz k4 k4) hw rfl rfl ?_)
   |refine zW (aN hlen (aN c1' (aN c2' (aN h0 (aN o1 (aN o2 (aN o3 c3'))))))) ?_
   exact ⟨.inr trivial,_,rR,_,rfl,by simp⟩
  ·rw [hb] at hw
   by_cases c4:(R7 t 20 0).1=t.length
   ·have c4':(((R7 t 20 0).1:Int) != (t.length:Int))=false:=by rw [c4];simp
    have hfull:R7 t 20 0=(t.length,true):=by rw [<- c4,<- hb]
    obtain ⟨hsub,hsubs⟩:=a2W 20 (by omega) hfull
    have hbe:∀i,i<t.length->∀k∈(nd t i).kids,(i:Int)<k/\k<(t.length:Int):=fun i hi k hk=>hsub.down i (by omega) hi k hk
    refine M6 (vf:=a1Q) rfl ?_
    unfold a1Q;refine zE ?_
    repeat first
    |(refine a2N (l:=[d,.int .i64 0,.int .i64 1]) rfl (fz3 hT.fz k4 k4) hw rfl rfl ?_)
    |refine zW (aN hlen (aN c1' (aN c2' (aN h0 (aN o1 (aN o2 (aN o3 (aN c3' c4')))))))) ?_
    refine W2 (Q:=N5 0 _) (fun n env s=>∃i:Nat,i<=t.length/\n=t.length-i/\(∀j,j<i->a7J t (nd t j))/\(env.get 0=d/\env.get 5=.int .i64 (i:Int))) ?_ t.length _ _ ⟨0,by omega,rfl,fun j h=>by omega,by simp [Env.get]⟩
    rintro n env s ⟨i,hi,rfl,hall,hE⟩
    by_cases c5:i<t.length
    ·have c5':((i:Int)<(t.length:Int))=True:=eq_true (by omega)
     have hs:=a2g c5 hT.le
     have hidx:=hT.at (z:=(i:Int)) (by omega) (by omega) (k:=.i64)
     rw [Int.toNat_natCast] at hidx
     have hx:=hT.nd c5
     have p1:=FL.one hx.w
     have p2:=FL.one hx.n
     have p3:=FL.one hx.k
     obtain ⟨b,hn,hp⟩:=c2m hT hx (fun k hk=>by have:=hbe i c5 k hk;omega)
     have hz:=hx.fz
     unfold Nd.row at hn hz
     cases b
     ·repeat first
      |(apply M4 hn rfl;(focus (simp only [Env.evL,Env.ev,Env.get,Nat.reduceEqDiff,↓reduceIte,hE]));(focus exact fz2 hT.fz hz))
      |refine zW (aN hE (aN hlen (aN c5' (aN hidx (aN p1 (aN p2 p3)))))) ?_
      exact ⟨.inr trivial,_,rR,_,rfl,by simp⟩
     ·repeat first
      |(apply M4 hn rfl;(focus (simp only [Env.evL,Env.ev,Env.get,Nat.reduceEqDiff,↓reduceIte,hE]));(focus exact fz2 hT.fz hz))
      |refine zW (aN hE (aN hlen (aN c5' (aN hidx (aN p1 (aN p2 (aN p3 hs))))))) ?_
      refine ⟨t.length-(i+1),by omega,i+1,by omega,rfl,fun j h=>?_,(rG hE)⟩
      by_cases e:j=i
      ·subst e;exact hp rfl
      ·exact hall j (by omega)
    ·have c5':((i:Int)<(t.length:Int))=False:=eq_false (by omega)
     try refine zW (aN hE (aN hlen c5')) ?_
     exact ⟨.inr trivial,_,rR,_,rfl,fun _=>⟨⟨by omega,by omega,c3,hbe,fun j h=>hall j (by omega)⟩,hsubs,hfull⟩⟩
   ·have c4':(((R7 t 20 0).1:Int) != (t.length:Int))=true:=by rw [bne_iff_ne];omega
    refine M6 (vf:=a1Q) rfl ?_
    unfold a1Q;refine zE ?_
    repeat first
    |(refine a2N (l:=[d,.int .i64 0,.int .i64 1]) rfl (fz3 hT.fz k4 k4) hw rfl rfl ?_)
    |refine zW (aN hlen (aN c1' (aN c2' (aN h0 (aN o1 (aN o2 (aN o3 (aN c3' c4')))))))) ?_
    exact ⟨.inr trivial,_,rR,_,rfl,by simp⟩
 ·have c3':((nd t 0).kind != 0)=true:=by rw [bne_iff_ne];exact c3
  refine M6 (vf:=a1Q) rfl ?_
  unfold a1Q;refine zE ?_
  try refine zW (aN hlen (aN c1' (aN c2' (aN h0 (aN o1 (aN o2 (aN o3 c3'))))))) ?_
  exact ⟨.inr trivial,_,rR,_,rfl,by simp⟩
end Go.Proofs.YtnjlhebkhjcagaaGreat
namespace Go.Proofs.YtnjlhebkhjcagaaGreat
open Go.V
set_option maxRecDepth 100000
set_option maxHeartbeats 4000000
theorem b6w {d:D} {l:List ByteArray} (h:Rd f6.empty d (l.map .str)):FS d l:=by
 rcases h with ⟨rfl,h⟩ | rfl | ⟨id,off,cs,rfl,h,_⟩
 ·left;exact ⟨rfl,by simpa using h⟩
 ·right;simp
 ·simp at h
theorem b3e {s:f6} {d:D} {l:List ByteArray} {ids:List Nat} (h:Sl s d (l.map .str) ids):∃d',V.ice s.get 20 d=some d'/\FS d' l:=by
 obtain ⟨d',h1,h2⟩:=h.rd.ice (by simp [a0m])
 exact ⟨d',h1,b6w h2⟩
theorem c0y {l:List ByteArray} {x:ByteArray} {i:Nat} (h:i<l.length):inB (l.take (i+1)) x=(inB (l.take i) x||decide (l[i]=x)):=by
 unfold inB
 rw [List.take_succ_eq_append_getElem h,List.any_append];simp
theorem a1j {d:D} {l:List ByteArray} {x:ByteArray} (hd:FS d l) (hl:l.length<=maxLen):Iso 127 [d,.str x] (.bool (inB l x)):=by
 refine a2r ?_
 have hlen:=FS.len hd
 refine M6 (vf:=a9v) rfl ?_
 unfold a9v;refine zE ?_
 try refine zW0 ?_
 refine W2 (Q:=N5 0 _) (fun n env s=>∃i:Nat,i<=l.length/\n=l.length-i/\inB (l.take i) x=false/\(env.get 0=d/\env.get 1=.str x/\env.get 5=.int .i64 (i:Int))) ?_ l.length _ _ ⟨0,by omega,rfl,by simp [inB],by simp [Env.get]⟩
 rintro n env s ⟨i,hi,rfl,hn,hE⟩
 by_cases c1:i<l.length
 ·have c1':((i:Int)<(l.length:Int))=True:=eq_true (by omega)
  have hs:=a2g c1 hl
  have hidx:=FS.idx hd c1 (k:=.i64)
  have ht:=c0y (x:=x) c1
  rw [hn] at ht
  by_cases c2:l[i]=x
  ·try refine zW (aN hE (aN hlen (aN c1' (aN hidx c2)))) ?_
   refine ⟨.inr trivial,_,rR,?_⟩
   have:inB l x=true:=by rw [b0n];exact c2▸List.getElem_mem c1
   rw [this]
  ·rw [decide_eq_false c2] at ht
   try refine zW (aN hE (aN hlen (aN c1' (aN hidx (aN c2 hs))))) ?_
   exact ⟨l.length-(i+1),by omega,i+1,by omega,rfl,by rw [ht];rfl,(rG hE)⟩
 ·have c1':((i:Int)<(l.length:Int))=False:=eq_false (by omega)
  rw [List.take_of_length_le (by omega)] at hn
  try refine zW (aN hE (aN hlen c1')) ?_
  exact ⟨.inr trivial,_,rR,by rw [hn]⟩
theorem b0V {d:D} {t:List Nd} (hT:N7 d t) (hR:N6 t) {i:Nat} (hi:i<t.length):Iso 140 [d,.int .i64 (i:Int)] (.int .i64 (item t i:Int)):=by
 refine a2r ?_
 have hp:=hR.ok.pos
 have h0:=hT.at (z:=0) (by omega) (by omega) (k:=.i64)
 have x0:=hT.nd (i:=0) (by omega)
 have z0:(0:Int).toNat=0:=rfl
 rw [z0] at h0
 have o1:=FL.one x0.w
 have o2:=FL.one x0.n
 have o3:=FL.one x0.k
 have hlk:=FI.len x0.k
 refine M6 (vf:=b0O) rfl ?_
 unfold b0O;refine zE ?_
 try refine zW0 ?_
 refine W2 (Q:=N5 0 _) (fun n env s=>∃j out:Nat,j<=(nd t 0).kids.length/\n=(nd t 0).kids.length-j/\item t i=a1H ((nd t 0).kids.drop j) i out/\(env.get 0=d/\env.get 1=.int .i64 (i:Int)/\env.get 5=.int .i64 (out:Int)/\env.get 6=.int .i64 (j:Int))) ?_ (nd t 0).kids.length _ _ ⟨0,0,by omega,rfl,rfl,by simp [Env.get]⟩
 rintro n env s ⟨j,out,hj,rfl,hw,hE⟩
 by_cases c1:j<(nd t 0).kids.length
 ·have c1':((j:Int)<((nd t 0).kids.length:Int))=True:=eq_true (by omega)
  have hki:=FI.idx x0.k c1 (k:=.i64)
  have hs:=a2g c1 x0.kl
  have hkr:=hR.ok.kids 0 hp _ (List.getElem_mem c1)
  rw [List.drop_eq_getElem_cons c1] at hw
  unfold a1H at hw
  by_cases c2:(nd t 0).kids[j]<=(i:Int)
  ·rw [if_pos c2] at hw
   have hk:(((nd t 0).kids[j].toNat:Nat):Int)=(nd t 0).kids[j]:=Int.toNat_of_nonneg (by omega)
   try refine zW (aN hE (aN h0 (aN o1 (aN o2 (aN o3 (aN hlk (aN c1' (aN hki (aN c2 hs))))))))) ?_
   exact ⟨(nd t 0).kids.length-(j+1),by omega,j+1,_,by omega,rfl,hw,by simp only [Env.get,Nat.reduceEqDiff,↓reduceIte,hE,hk,and_self]⟩
  ·rw [if_neg c2] at hw
   try refine zW (aN hE (aN h0 (aN o1 (aN o2 (aN o3 (aN hlk (aN c1' (aN hki (aN c2 hs))))))))) ?_
   exact ⟨(nd t 0).kids.length-(j+1),by omega,j+1,_,by omega,rfl,hw,(rG hE)⟩
 ·have c1':((j:Int)<((nd t 0).kids.length:Int))=False:=eq_false (by omega)
  rw [List.drop_eq_nil_of_le (by omega)] at hw
  try refine zW (aN hE (aN h0 (aN o1 (aN o2 (aN o3 (aN hlk c1')))))) ?_
  exact ⟨.inr trivial,_,rR,by rw [hw];rfl⟩
theorem a88 (t:List Nd) (at':Nat) (kind:Int):∀n,(W8 t at' kind n).length<=n
 | 0=>Nat.le_refl _
 | n+1=>by
   have:=a88 t at' kind n
   rw [W8]
   split
   ·simp;exact this
   ·omega
def b1Z (f:Nat) (l:List D) (x:List ByteArray):Prop:=∃s1 r d',Ev vfs f l f6.empty r s1/\V.ice s1.get 20 r=some d'/\FS d' x
theorem Y7 {pairs i t f args rest s Q} {env:Env} {l:List D} {x:List ByteArray} (hr:b1Z f l x) (hl:env.evL args=l) (ha:N1 (V.ice s.get 20) l=some l) (hp:pureL l=true)
 (h:∀d,FS d x->WQ vfs pairs rest ((t,d)::env) s Q):WQ vfs pairs ((i,⟨some t,.m (.call .iso (.cst (.fn f [])) args),none⟩)::rest) env s Q:=by
 obtain ⟨s1,r,d',h1,h2,h3⟩:=hr
 exact a2N hl ha h1 h2 (by rw [hp,Bool.or_true]) (h d' h3)
theorem Y2 {d:D} {t:List Nd} (hT:N7 d t) (hR:N6 t) {i:Nat} (hi:i<t.length) {kind:Int} (hk:kind=1∨kind=2∨kind=3):b1Z 126 [d,.int .i64 (i:Int),.int .i64 kind] (W8 t i kind i):=by
 have main:EvP vfs 126 [d,.int .i64 (i:Int),.int .i64 kind] f6.empty fun r s'=>∃ids,Sl s' r ((W8 t i kind i).map .str) ids:=by
  have hit:=b0V hT hR hi
  have hle:=hR.ok.le
  refine M6 (vf:=b1c) rfl ?_
  unfold b1c;refine zE ?_
  repeat first
  |(apply M4 hit rfl rfl (fz2 hT.fz k4))
  |refine zW0 ?_
  refine W2 (Q:=N5 0 _) (fun n env s=>∃ (j:Nat) (dn:D) (ids:List Nat),j<=i/\n=i-j/\Sl s dn ((W8 t i kind j).map .str) ids/\(env.get 0=d/\env.get 1=.int .i64 (i:Int)/\env.get 2=.int .i64 kind/\env.get 7=dn/\env.get 8=.int .i64 (item t i:Int)/\env.get 9=.int .i64 (j:Int))) ?_ i _ _ ⟨0,.nils,[],by omega,rfl,.inl ⟨rfl,rfl,rfl⟩,by simp [Env.get]⟩
  rintro n env s ⟨j,dn,ids,hj,rfl,hS,hE⟩
  have hnl:=a88 t i kind j
  by_cases c1:j<i
  ·have c1':((j:Int)<(i:Int))=True:=eq_true (by omega)
   have hs:IntKind.i64.wrap ((j:Int)+1)=((j+1:Nat):Int):=by rw [O7 (by omega) (by omega)];omega
   have hidx:=hT.at (z:=(j:Int)) (by omega) (by omega) (k:=.i64)
   rw [Int.toNat_natCast] at hidx
   have hx:=hT.nd (i:=j) (by omega)
   have o1:=FL.one hx.w
   have o2:=FL.one hx.n
   have o3:=FL.one hx.k
   have hnode:=hR.ok.node j (by omega)
   have hitj:=b0V hT hR (i:=j) (by omega)
   by_cases c2:(nd t j).kind=kind
   ·have c2':((nd t j).kind != kind)=false:=by rw [c2];simp
    have hwl:(nd t j).words.length=1:=by
     rw [hnode.wl,c2]
     rcases hk with rfl | rfl | rfl<;>rfl
    have hw0:N2 1 (nd t j).dw (.int .i64 0)=some (.fp [.str ((nd t j).word 0)] 0):=by
     rw [a2T (by omega)];exact FS.idx hx.w (i:=0) (by omega)
    obtain ⟨dn',hi1,hi2⟩:=b3e hS
    obtain ⟨s1,hin⟩:=a1j (x:=(nd t j).word 0) hi2 (by have:maxLen=9223372036854775807:=rfl;omega)
    obtain ⟨s',d',e1,e2,e3,e4⟩:=hS.push1 (.str ((nd t j).word 0)) (bytes:=16) (by decide) (by rw [List.length_map];omega)
    have hone:=hS.one
    by_cases b1:item t j=j
    ·have c3:item t j=j∨item t j=item t i:=.inl b1
     have b1':(item t j=j)=True:=eq_true b1
     cases hr:inB (W8 t i kind j) ((nd t j).word 0)
     ·rw [hr] at hin
      repeat first
      |(apply M4 hitj rfl;(focus (simp only [Env.evL,Env.ev,Env.get,Nat.reduceEqDiff,↓reduceIte,hE]));(focus exact fz2 hT.fz k4))
      |(refine a2b (l:=[dn,.str ((nd t j).word 0)]) hin rfl ?_ ?_ ?_;(focus (simp only [Env.evL,Env.ev,Env.get,Nat.reduceEqDiff,↓reduceIte,hE]));(focus (simp only [N1,hi1];rfl)))
      |(apply b0U;(focus (simp only [Env.ev,Env.get,Nat.reduceEqDiff,↓reduceIte,hE];rfl));(focus rfl);(focus exact e1))
      |refine zW (aN hE (aN c1' (aN hidx (aN o1 (aN o2 (aN o3 (aN c2' (aN b1' (aN hw0 (aN hs hone)))))))))) ?_
      refine ⟨i-(j+1),by omega,j+1,d',[s.next+1],by omega,rfl,?_,(rG hE)⟩
      rw [W8,if_pos ⟨c2,c3,hr⟩,List.map_append]
      exact e2
     ·rw [hr] at hin
      repeat first
      |(apply M4 hitj rfl;(focus (simp only [Env.evL,Env.ev,Env.get,Nat.reduceEqDiff,↓reduceIte,hE]));(focus exact fz2 hT.fz k4))
      |(refine a2b (l:=[dn,.str ((nd t j).word 0)]) hin rfl ?_ ?_ ?_;(focus (simp only [Env.evL,Env.ev,Env.get,Nat.reduceEqDiff,↓reduceIte,hE]));(focus (simp only [N1,hi1];rfl)))
      |refine zW (aN hE (aN c1' (aN hidx (aN o1 (aN o2 (aN o3 (aN c2' (aN b1' (aN hw0 (aN hs hone)))))))))) ?_
      refine ⟨i-(j+1),by omega,j+1,dn,ids,by omega,rfl,?_,(rG hE)⟩
      rw [W8,if_neg (by rw [hr];simp)]
      exact hS
    ·have b1':(item t j=j)=False:=eq_false b1
     by_cases b2:item t j=item t i
     ·have b2':(item t j=item t i)=True:=eq_true b2
      have c3:item t j=j∨item t j=item t i:=.inr b2
      cases hr:inB (W8 t i kind j) ((nd t j).word 0)
      ·rw [hr] at hin
       repeat first
       |(apply M4 hitj rfl;(focus (simp only [Env.evL,Env.ev,Env.get,Nat.reduceEqDiff,↓reduceIte,hE]));(focus exact fz2 hT.fz k4))
       |(refine a2b (l:=[dn,.str ((nd t j).word 0)]) hin rfl ?_ ?_ ?_;(focus (simp only [Env.evL,Env.ev,Env.get,Nat.reduceEqDiff,↓reduceIte,hE]));(focus (simp only [N1,hi1];rfl)))
       |(apply b0U;(focus (simp only [Env.ev,Env.get,Nat.reduceEqDiff,↓reduceIte,hE];rfl));(focus rfl);(focus exact e1))
       |refine zW (aN hE (aN c1' (aN hidx (aN o1 (aN o2 (aN o3 (aN c2' (aN b1' (aN b2' (aN hw0 (aN hs hone))))))))))) ?_
       refine ⟨i-(j+1),by omega,j+1,d',[s.next+1],by omega,rfl,?_,(rG hE)⟩
       rw [W8,if_pos ⟨c2,c3,hr⟩,List.map_append]
       exact e2
      ·rw [hr] at hin
       repeat first
       |(apply M4 hitj rfl;(focus (simp only [Env.evL,Env.ev,Env.get,Nat.reduceEqDiff,↓reduceIte,hE]));(focus exact fz2 hT.fz k4))
       |(refine a2b (l:=[dn,.str ((nd t j).word 0)]) hin rfl ?_ ?_ ?_;(focus (simp only [Env.evL,Env.ev,Env.get,Nat.reduceEqDiff,↓reduceIte,hE]));(focus (simp only [N1,hi1];rfl)))
       |refine zW (aN hE (aN c1' (aN hidx (aN o1 (aN o2 (aN o3 (aN c2' (aN b1' (aN b2' (aN hw0 (aN hs hone))))))))))) ?_
       refine ⟨i-(j+1),by omega,j+1,dn,ids,by omega,rfl,?_,(rG hE)⟩
       rw [W8,if_neg (by rw [hr];simp)]
       exact hS
     ·have b2':(item t j=item t i)=False:=eq_false b2
      repeat first
      |(apply M4 hitj rfl;(focus (simp only [Env.evL,Env.ev,Env.get,Nat.reduceEqDiff,↓reduceIte,hE]));(focus exact fz2 hT.fz k4))
      |refine zW (aN hE (aN c1' (aN hidx (aN o1 (aN o2 (aN o3 (aN c2' (aN b1' (aN b2' hs))))))))) ?_
      refine ⟨i-(j+1),by omega,j+1,dn,ids,by omega,rfl,?_,(rG hE)⟩
      rw [W8,if_neg fun h=>by rcases h.2.1 with h | h;exact b1 h;exact b2 h]
      exact hS
   ·have c2':((nd t j).kind != kind)=true:=by rw [bne_iff_ne];exact c2
    try refine zW (aN hE (aN c1' (aN hidx (aN o1 (aN o2 (aN o3 (aN c2' hs))))))) ?_
    refine ⟨i-(j+1),by omega,j+1,dn,ids,by omega,rfl,?_,(rG hE)⟩
    rw [W8,if_neg fun h=>c2 h.1]
    exact hS
  ·have c1':((j:Int)<(i:Int))=False:=eq_false (by omega)
   obtain rfl:j=i:=by omega
   try refine zW (aN hE c1') ?_
   exact ⟨.inr trivial,_,rR,ids,hS⟩
 obtain ⟨r,s',h,ids,hS⟩:=main
 obtain ⟨d',h1,h2⟩:=b3e hS
 exact ⟨s',r,d',h,h1,h2⟩
end Go.Proofs.YtnjlhebkhjcagaaGreat
namespace Go.Proofs.YtnjlhebkhjcagaaGreat
open Go.V
set_option maxRecDepth 100000
set_option maxHeartbeats 4000000
structure a2C (t:List Nd) (i:Nat):Prop where
 use:(nd t i).kind=6∨(nd t i).kind=18->a03 t 2 i ((nd t i).word 0)
 chan:(nd t i).kind=7∨(nd t i).kind=19∨(nd t i).kind=8->a03 t 1 i ((nd t i).word 0)
 recv:(nd t i).kind=8->a03 t 2 i ((nd t i).word 1)
 once:(nd t i).kind=1∨(nd t i).kind=2∨(nd t i).kind=3->¬ a03 t 1 i ((nd t i).word 0)/\¬ a03 t 2 i ((nd t i).word 0)/\¬ a03 t 3 i ((nd t i).word 0)
theorem a3W {t:List Nd} {i:Nat} {k:Int} {s:ByteArray}:inB (W8 t i k i) s=true↔a03 t k i s:=by rw [b0n,b40];rfl
theorem a3u {t:List Nd} {i:Nat} {k:Int} {s:ByteArray}:inB (W8 t i k i) s=false↔¬ a03 t k i s:=by rw [<- a3W];simp
theorem a1r {t:List Nd} (hR:N6 t) {i:Nat} {k:Int} (hi:i<t.length):(W8 t i k i).length<=maxLen:=by
 have h1:=a88 t i k i
 have h2:=hR.ok.le
 have:maxLen=9223372036854775807:=rfl
 omega
theorem c4H {d:D} {t:List Nd} (hT:N7 d t) (hR:N6 t) {i:Nat} (hi:i<t.length) (hK:(nd t i).kind=1):S6 109 [d,.int .i64 (i:Int)] fun b=>b=false->a2C t i:=by
 refine U0 ?_
 have hidx:=hT.at (z:=(i:Int)) (by omega) (by omega) (k:=.i64)
 rw [Int.toNat_natCast] at hidx
 have hx:=hT.nd hi
 have hnode:=hR.ok.node i hi
 have o1:=FL.one hx.w
 have o2:=FL.one hx.n
 have o3:=FL.one hx.k
 have hpu:∀n m:Int,pureL [d,.int .i64 n,.int .i64 m]=true:=fun n m=>by simp [pureL,W3,hT.fl.pure]
 have hwl:(nd t i).words.length=1:=by rw [hnode.wl,hK];rfl
 have w0:N2 1 (nd t i).dw (.int .i64 0)=some (.fp [.str ((nd t i).word 0)] 0):=by
  rw [a2T (by omega)];exact FS.idx hx.w (i:=0) (by omega)
 rw [hK] at hidx
 refine M6 (vf:=a0U) rfl ?_
 unfold a0U;refine zE ?_
 try refine zW (aN hidx (aN o1 (aN o2 o3))) ?_
 refine Y7 (Y2 hT hR hi (.inl rfl)) rfl (fz3 hT.fz k4 k4) (hpu _ _) ?_
 intro dc hdc
 try refine zW0 ?_
 refine Y7 (Y2 hT hR hi (.inr (.inl rfl))) rfl (fz3 hT.fz k4 k4) (hpu _ _) ?_
 intro dv hdv
 try refine zW0 ?_
 refine Y7 (Y2 hT hR hi (.inr (.inr rfl))) rfl (fz3 hT.fz k4 k4) (hpu _ _) ?_
 intro dp hdp
 have fc:=FL.fz hdc
 have fv:=FL.fz hdv
 have fp:=FL.fz hdp
 have hc:=a1j (x:=(nd t i).word 0) hdc (a1r hR hi)
 have hv:=a1j (x:=(nd t i).word 0) hdv (a1r hR hi)
 have hp:=a1j (x:=(nd t i).word 0) hdp (a1r hR hi)
 cases r1:inB (W8 t i 1 i) ((nd t i).word 0)
 ·rw [r1] at hc
  cases r2:inB (W8 t i 2 i) ((nd t i).word 0)
  ·rw [r2] at hv
   repeat first
   |(apply M4 hc rfl rfl (fz2 fc V8))
   |(apply M4 hv rfl rfl (fz2 fv V8))
   |(apply M4 hp rfl rfl (fz2 fp V8))
   |refine zW (aN o1 (aN o2 (aN o3 w0))) ?_
   exact ⟨.inr trivial,_,rR,_,rfl,fun h=>⟨fun e=>by omega,fun e=>by omega,fun e=>by omega,fun _=>⟨a3u.1 r1,a3u.1 r2,a3u.1 h⟩⟩⟩
  ·rw [r2] at hv
   repeat first
   |(apply M4 hc rfl rfl (fz2 fc V8))
   |(apply M4 hv rfl rfl (fz2 fv V8))
   |(apply M4 hp rfl rfl (fz2 fp V8))
   |refine zW (aN o1 (aN o2 (aN o3 w0))) ?_
   exact ⟨.inr trivial,_,rR,_,rfl,by simp⟩
 ·rw [r1] at hc
  repeat first
  |(apply M4 hc rfl rfl (fz2 fc V8))
  |(apply M4 hv rfl rfl (fz2 fv V8))
  |(apply M4 hp rfl rfl (fz2 fp V8))
  |refine zW (aN o1 (aN o2 (aN o3 w0))) ?_
  exact ⟨.inr trivial,_,rR,_,rfl,by simp⟩
theorem c4p {d:D} {t:List Nd} (hT:N7 d t) (hR:N6 t) {i:Nat} (hi:i<t.length) (hK:(nd t i).kind=2):S6 109 [d,.int .i64 (i:Int)] fun b=>b=false->a2C t i:=by
 refine U0 ?_
 have hidx:=hT.at (z:=(i:Int)) (by omega) (by omega) (k:=.i64)
 rw [Int.toNat_natCast] at hidx
 have hx:=hT.nd hi
 have hnode:=hR.ok.node i hi
 have o1:=FL.one hx.w
 have o2:=FL.one hx.n
 have o3:=FL.one hx.k
 have hpu:∀n m:Int,pureL [d,.int .i64 n,.int .i64 m]=true:=fun n m=>by simp [pureL,W3,hT.fl.pure]
 have hwl:(nd t i).words.length=1:=by rw [hnode.wl,hK];rfl
 have w0:N2 1 (nd t i).dw (.int .i64 0)=some (.fp [.str ((nd t i).word 0)] 0):=by
  rw [a2T (by omega)];exact FS.idx hx.w (i:=0) (by omega)
 rw [hK] at hidx
 refine M6 (vf:=a0U) rfl ?_
 unfold a0U;refine zE ?_
 try refine zW (aN hidx (aN o1 (aN o2 o3))) ?_
 refine Y7 (Y2 hT hR hi (.inl rfl)) rfl (fz3 hT.fz k4 k4) (hpu _ _) ?_
 intro dc hdc
 try refine zW0 ?_
 refine Y7 (Y2 hT hR hi (.inr (.inl rfl))) rfl (fz3 hT.fz k4 k4) (hpu _ _) ?_
 intro dv hdv
 try refine zW0 ?_
 refine Y7 (Y2 hT hR hi (.inr (.inr rfl))) rfl (fz3 hT.fz k4 k4) (hpu _ _) ?_
 intro dp hdp
 have fc:=FL.fz hdc
 have fv:=FL.fz hdv
 have fp:=FL.fz hdp
 have hc:=a1j (x:=(nd t i).word 0) hdc (a1r hR hi)
 have hv:=a1j (x:=(nd t i).word 0) hdv (a1r hR hi)
 have hp:=a1j (x:=(nd t i).word 0) hdp (a1r hR hi)
 cases r1:inB (W8 t i 1 i) ((nd t i).word 0)
 ·rw [r1] at hc
  cases r2:inB (W8 t i 2 i) ((nd t i).word 0)
  ·rw [r2] at hv
   repeat first
   |(apply M4 hc rfl rfl (fz2 fc V8))
   |(apply M4 hv rfl rfl (fz2 fv V8))
   |(apply M4 hp rfl rfl (fz2 fp V8))
   |refine zW (aN o1 (aN o2 (aN o3 w0))) ?_
   exact ⟨.inr trivial,_,rR,_,rfl,fun h=>⟨fun e=>by omega,fun e=>by omega,fun e=>by omega,fun _=>⟨a3u.1 r1,a3u.1 r2,a3u.1 h⟩⟩⟩
  ·rw [r2] at hv
   repeat first
   |(apply M4 hc rfl rfl (fz2 fc V8))
   |(apply M4 hv rfl rfl (fz2 fv V8))
   |(apply M4 hp rfl rfl (fz2 fp V8))
   |refine zW (aN o1 (aN o2 (aN o3 w0))) ?_
   exact ⟨.inr trivial,_,rR,_,rfl,by simp⟩
 ·rw [r1] at hc
  repeat first
  |(apply M4 hc rfl rfl (fz2 fc V8))
  |(apply M4 hv rfl rfl (fz2 fv V8))
  |(apply M4 hp rfl rfl (fz2 fp V8))
  |refine zW (aN o1 (aN o2 (aN o3 w0))) ?_
  exact ⟨.inr trivial,_,rR,_,rfl,by simp⟩
theorem c3M {d:D} {t:List Nd} (hT:N7 d t) (hR:N6 t) {i:Nat} (hi:i<t.length) (hK:(nd t i).kind=3):S6 109 [d,.int .i64 (i:Int)] fun b=>b=false->a2C t i:=by
 refine U0 ?_
 have hidx:=hT.at (z:=(i:Int)) (by omega) (by omega) (k:=.i64)
 rw [Int.toNat_natCast] at hidx
 have hx:=hT.nd hi
 have hnode:=hR.ok.node i hi
 have o1:=FL.one hx.w
 have o2:=FL.one hx.n
 have o3:=FL.one hx.k
 have hpu:∀n m:Int,pureL [d,.int .i64 n,.int .i64 m]=true:=fun n m=>by simp [pureL,W3,hT.fl.pure]
 have hwl:(nd t i).words.length=1:=by rw [hnode.wl,hK];rfl
 have w0:N2 1 (nd t i).dw (.int .i64 0)=some (.fp [.str ((nd t i).word 0)] 0):=by
  rw [a2T (by omega)];exact FS.idx hx.w (i:=0) (by omega)
 rw [hK] at hidx
 refine M6 (vf:=a0U) rfl ?_
 unfold a0U;refine zE ?_
 try refine zW (aN hidx (aN o1 (aN o2 o3))) ?_
 refine Y7 (Y2 hT hR hi (.inl rfl)) rfl (fz3 hT.fz k4 k4) (hpu _ _) ?_
 intro dc hdc
 try refine zW0 ?_
 refine Y7 (Y2 hT hR hi (.inr (.inl rfl))) rfl (fz3 hT.fz k4 k4) (hpu _ _) ?_
 intro dv hdv
 try refine zW0 ?_
 refine Y7 (Y2 hT hR hi (.inr (.inr rfl))) rfl (fz3 hT.fz k4 k4) (hpu _ _) ?_
 intro dp hdp
 have fc:=FL.fz hdc
 have fv:=FL.fz hdv
 have fp:=FL.fz hdp
 have hc:=a1j (x:=(nd t i).word 0) hdc (a1r hR hi)
 have hv:=a1j (x:=(nd t i).word 0) hdv (a1r hR hi)
 have hp:=a1j (x:=(nd t i).word 0) hdp (a1r hR hi)
 cases r1:inB (W8 t i 1 i) ((nd t i).word 0)
 ·rw [r1] at hc
  cases r2:inB (W8 t i 2 i) ((nd t i).word 0)
  ·rw [r2] at hv
   repeat first
   |(apply M4 hc rfl rfl (fz2 fc V8))
   |(apply M4 hv rfl rfl (fz2 fv V8))
   |(apply M4 hp rfl rfl (fz2 fp V8))
   |refine zW (aN o1 (aN o2 (aN o3 w0))) ?_
   exact ⟨.inr trivial,_,rR,_,rfl,fun h=>⟨fun e=>by omega,fun e=>by omega,fun e=>by omega,fun _=>⟨a3u.1 r1,a3u.1 r2,a3u.1 h⟩⟩⟩
  ·rw [r2] at hv
   repeat first
   |(apply M4 hc rfl rfl (fz2 fc V8))
   |(apply M4 hv rfl rfl (fz2 fv V8))
   |(apply M4 hp rfl rfl (fz2 fp V8))
   |refine zW (aN o1 (aN o2 (aN o3 w0))) ?_
   exact ⟨.inr trivial,_,rR,_,rfl,by simp⟩
 ·rw [r1] at hc
  repeat first
  |(apply M4 hc rfl rfl (fz2 fc V8))
  |(apply M4 hv rfl rfl (fz2 fv V8))
  |(apply M4 hp rfl rfl (fz2 fp V8))
  |refine zW (aN o1 (aN o2 (aN o3 w0))) ?_
  exact ⟨.inr trivial,_,rR,_,rfl,by simp⟩
theorem b6D {d:D} {t:List Nd} (hT:N7 d t) (hR:N6 t) {i:Nat} (hi:i<t.length) (hK:(nd t i).kind=6):S6 109 [d,.int .i64 (i:Int)] fun b=>b=false->a2C t i:=by
 refine U0 ?_
 have hidx:=hT.at (z:=(i:Int)) (by omega) (by omega) (k:=.i64)
 rw [Int.toNat_natCast] at hidx
 have hx:=hT.nd hi
 have hnode:=hR.ok.node i hi
 have o1:=FL.one hx.w
 have o2:=FL.one hx.n
 have o3:=FL.one hx.k
 have hpu:∀n m:Int,pureL [d,.int .i64 n,.int .i64 m]=true:=fun n m=>by simp [pureL,W3,hT.fl.pure]
 have hwl:(nd t i).words.length=1:=by rw [hnode.wl,hK];rfl
 have w0:N2 1 (nd t i).dw (.int .i64 0)=some (.fp [.str ((nd t i).word 0)] 0):=by
  rw [a2T (by omega)];exact FS.idx hx.w (i:=0) (by omega)
 rw [hK] at hidx
 refine M6 (vf:=a0U) rfl ?_
 unfold a0U;refine zE ?_
 try refine zW (aN hidx (aN o1 (aN o2 o3))) ?_
 refine Y7 (Y2 hT hR hi (.inl rfl)) rfl (fz3 hT.fz k4 k4) (hpu _ _) ?_
 intro dc hdc
 try refine zW0 ?_
 refine Y7 (Y2 hT hR hi (.inr (.inl rfl))) rfl (fz3 hT.fz k4 k4) (hpu _ _) ?_
 intro dv hdv
 try refine zW0 ?_
 refine Y7 (Y2 hT hR hi (.inr (.inr rfl))) rfl (fz3 hT.fz k4 k4) (hpu _ _) ?_
 intro dp hdp
 have fc:=FL.fz hdc
 have fv:=FL.fz hdv
 have fp:=FL.fz hdp
 have hc:=a1j (x:=(nd t i).word 0) hdv (a1r hR hi)
 repeat first
 |(apply M4 hc rfl rfl (fz2 fv V8))
 |refine zW (aN o1 (aN o2 (aN o3 w0))) ?_
 exact ⟨.inr trivial,_,rR,_,rfl,fun h=>⟨fun _=>a3W.1 (by simpa using h),fun e=>by omega,fun e=>by omega,fun e=>by omega⟩⟩
theorem c1u {d:D} {t:List Nd} (hT:N7 d t) (hR:N6 t) {i:Nat} (hi:i<t.length) (hK:(nd t i).kind=18):S6 109 [d,.int .i64 (i:Int)] fun b=>b=false->a2C t i:=by
 refine U0 ?_
 have hidx:=hT.at (z:=(i:Int)) (by omega) (by omega) (k:=.i64)
 rw [Int.toNat_natCast] at hidx
 have hx:=hT.nd hi
 have hnode:=hR.ok.node i hi
 have o1:=FL.one hx.w
 have o2:=FL.one hx.n
 have o3:=FL.one hx.k
 have hpu:∀n m:Int,pureL [d,.int .i64 n,.int .i64 m]=true:=fun n m=>by simp [pureL,W3,hT.fl.pure]
 have hwl:(nd t i).words.length=1:=by rw [hnode.wl,hK];rfl
 have w0:N2 1 (nd t i).dw (.int .i64 0)=some (.fp [.str ((nd t i).word 0)] 0):=by
  rw [a2T (by omega)];exact FS.idx hx.w (i:=0) (by omega)
 rw [hK] at hidx
 refine M6 (vf:=a0U) rfl ?_
 unfold a0U;refine zE ?_
 try refine zW (aN hidx (aN o1 (aN o2 o3))) ?_
 refine Y7 (Y2 hT hR hi (.inl rfl)) rfl (fz3 hT.fz k4 k4) (hpu _ _) ?_
 intro dc hdc
 try refine zW0 ?_
 refine Y7 (Y2 hT hR hi (.inr (.inl rfl))) rfl (fz3 hT.fz k4 k4) (hpu _ _) ?_
 intro dv hdv
 try refine zW0 ?_
 refine Y7 (Y2 hT hR hi (.inr (.inr rfl))) rfl (fz3 hT.fz k4 k4) (hpu _ _) ?_
 intro dp hdp
 have fc:=FL.fz hdc
 have fv:=FL.fz hdv
 have fp:=FL.fz hdp
 have hc:=a1j (x:=(nd t i).word 0) hdv (a1r hR hi)
 repeat first
 |(apply M4 hc rfl rfl (fz2 fv V8))
 |refine zW (aN o1 (aN o2 (aN o3 w0))) ?_
 exact ⟨.inr trivial,_,rR,_,rfl,fun h=>⟨fun _=>a3W.1 (by simpa using h),fun e=>by omega,fun e=>by omega,fun e=>by omega⟩⟩
theorem b8q {d:D} {t:List Nd} (hT:N7 d t) (hR:N6 t) {i:Nat} (hi:i<t.length) (hK:(nd t i).kind=7):S6 109 [d,.int .i64 (i:Int)] fun b=>b=false->a2C t i:=by
 refine U0 ?_
 have hidx:=hT.at (z:=(i:Int)) (by omega) (by omega) (k:=.i64)
 rw [Int.toNat_natCast] at hidx
 have hx:=hT.nd hi
 have hnode:=hR.ok.node i hi
 have o1:=FL.one hx.w
 have o2:=FL.one hx.n
 have o3:=FL.one hx.k
 have hpu:∀n m:Int,pureL [d,.int .i64 n,.int .i64 m]=true:=fun n m=>by simp [pureL,W3,hT.fl.pure]
 have hwl:(nd t i).words.length=1:=by rw [hnode.wl,hK];rfl
 have w0:N2 1 (nd t i).dw (.int .i64 0)=some (.fp [.str ((nd t i).word 0)] 0):=by
  rw [a2T (by omega)];exact FS.idx hx.w (i:=0) (by omega)
 rw [hK] at hidx
 refine M6 (vf:=a0U) rfl ?_
 unfold a0U;refine zE ?_
 try refine zW (aN hidx (aN o1 (aN o2 o3))) ?_
 refine Y7 (Y2 hT hR hi (.inl rfl)) rfl (fz3 hT.fz k4 k4) (hpu _ _) ?_
 intro dc hdc
 try refine zW0 ?_
 refine Y7 (Y2 hT hR hi (.inr (.inl rfl))) rfl (fz3 hT.fz k4 k4) (hpu _ _) ?_
 intro dv hdv
 try refine zW0 ?_
 refine Y7 (Y2 hT hR hi (.inr (.inr rfl))) rfl (fz3 hT.fz k4 k4) (hpu _ _) ?_
 intro dp hdp
 have fc:=FL.fz hdc
 have fv:=FL.fz hdv
 have fp:=FL.fz hdp
 have hc:=a1j (x:=(nd t i).word 0) hdc (a1r hR hi)
 repeat first
 |(apply M4 hc rfl rfl (fz2 fc V8))
 |refine zW (aN o1 (aN o2 (aN o3 w0))) ?_
 exact ⟨.inr trivial,_,rR,_,rfl,fun h=>⟨fun e=>by omega,fun _=>a3W.1 (by simpa using h),fun e=>by omega,fun e=>by omega⟩⟩
theorem c2z {d:D} {t:List Nd} (hT:N7 d t) (hR:N6 t) {i:Nat} (hi:i<t.length) (hK:(nd t i).kind=19):S6 109 [d,.int .i64 (i:Int)] fun b=>b=false->a2C t i:=by
 refine U0 ?_
 have hidx:=hT.at (z:=(i:Int)) (by omega) (by omega) (k:=.i64)
 rw [Int.toNat_natCast] at hidx
 have hx:=hT.nd hi
 have hnode:=hR.ok.node i hi
 have o1:=FL.one hx.w
 have o2:=FL.one hx.n
 have o3:=FL.one hx.k
 have hpu:∀n m:Int,pureL [d,.int .i64 n,.int .i64 m]=true:=fun n m=>by simp [pureL,W3,hT.fl.pure]
 have hwl:(nd t i).words.length=1:=by rw [hnode.wl,hK];rfl
 have w0:N2 1 (nd t i).dw (.int .i64 0)=some (.fp [.str ((nd t i).word 0)] 0):=by
  rw [a2T (by omega)];exact FS.idx hx.w (i:=0) (by omega)
 rw [hK] at hidx
 refine M6 (vf:=a0U) rfl ?_
 unfold a0U;refine zE ?_
 try refine zW (aN hidx (aN o1 (aN o2 o3))) ?_
 refine Y7 (Y2 hT hR hi (.inl rfl)) rfl (fz3 hT.fz k4 k4) (hpu _ _) ?_
 intro dc hdc
 try refine zW0 ?_
 refine Y7 (Y2 hT hR hi (.inr (.inl rfl))) rfl (fz3 hT.fz k4 k4) (hpu _ _) ?_
 intro dv hdv
 try refine zW0 ?_
 refine Y7 (Y2 hT hR hi (.inr (.inr rfl))) rfl (fz3 hT.fz k4 k4) (hpu _ _) ?_
 intro dp hdp
 have fc:=FL.fz hdc
 have fv:=FL.fz hdv
 have fp:=FL.fz hdp
 have hc:=a1j (x:=(nd t i).word 0) hdc (a1r hR hi)
 repeat first
 |(apply M4 hc rfl rfl (fz2 fc V8))
 |refine zW (aN o1 (aN o2 (aN o3 w0))) ?_
 exact ⟨.inr trivial,_,rR,_,rfl,fun h=>⟨fun e=>by omega,fun _=>a3W.1 (by simpa using h),fun e=>by omega,fun e=>by omega⟩⟩
theorem c23 {d:D} {t:List Nd} (hT:N7 d t) (hR:N6 t) {i:Nat} (hi:i<t.length) (hK:(nd t i).kind=8):S6 109 [d,.int .i64 (i:Int)] fun b=>b=false->a2C t i:=by
 refine U0 ?_
 have hidx:=hT.at (z:=(i:Int)) (by omega) (by omega) (k:=.i64)
 rw [Int.toNat_natCast] at hidx
 have hx:=hT.nd hi
 have hnode:=hR.ok.node i hi
 have o1:=FL.one hx.w
 have o2:=FL.one hx.n
 have o3:=FL.one hx.k
 have hpu:∀n m:Int,pureL [d,.int .i64 n,.int .i64 m]=true:=fun n m=>by simp [pureL,W3,hT.fl.pure]
 have hwl:(nd t i).words.length=2:=by rw [hnode.wl,hK];rfl
 have w0:N2 1 (nd t i).dw (.int .i64 0)=some (.fp [.str ((nd t i).word 0)] 0):=by
  rw [a2T (by omega)];exact FS.idx hx.w (i:=0) (by omega)
 have w1:N2 1 (nd t i).dw (.int .i64 1)=some (.fp [.str ((nd t i).word 1)] 0):=by
  rw [a2T (by omega)];exact FS.idx hx.w (i:=1) (by omega)
 rw [hK] at hidx
 refine M6 (vf:=a0U) rfl ?_
 unfold a0U;refine zE ?_
 try refine zW (aN hidx (aN o1 (aN o2 o3))) ?_
 refine Y7 (Y2 hT hR hi (.inl rfl)) rfl (fz3 hT.fz k4 k4) (hpu _ _) ?_
 intro dc hdc
 try refine zW0 ?_
 refine Y7 (Y2 hT hR hi (.inr (.inl rfl))) rfl (fz3 hT.fz k4 k4) (hpu _ _) ?_
 intro dv hdv
 try refine zW0 ?_
 refine Y7 (Y2 hT hR hi (.inr (.inr rfl))) rfl (fz3 hT.fz k4 k4) (hpu _ _) ?_
 intro dp hdp
 have fc:=FL.fz hdc
 have fv:=FL.fz hdv
 have fp:=FL.fz hdp
 have hc:=a1j (x:=(nd t i).word 0) hdc (a1r hR hi)
 have hv:=a1j (x:=(nd t i).word 1) hdv (a1r hR hi)
 cases r1:inB (W8 t i 1 i) ((nd t i).word 0)
 ·rw [r1] at hc
  repeat first
  |(apply M4 hc rfl rfl (fz2 fc V8))
  |(apply M4 hv rfl rfl (fz2 fv V8))
  |refine zW (aN o1 (aN o2 (aN o3 (aN w0 w1)))) ?_
  exact ⟨.inr trivial,_,rR,_,rfl,by simp⟩
 ·rw [r1] at hc
  repeat first
  |(apply M4 hc rfl rfl (fz2 fc V8))
  |(apply M4 hv rfl rfl (fz2 fv V8))
  |refine zW (aN o1 (aN o2 (aN o3 (aN w0 w1)))) ?_
  exact ⟨.inr trivial,_,rR,_,rfl,fun h=>⟨fun e=>by omega,fun _=>a3W.1 r1,fun _=>a3W.1 (by simpa using h),fun e=>by omega⟩⟩
theorem b9f {d:D} {t:List Nd} (hT:N7 d t) (hR:N6 t) {i:Nat} (hi:i<t.length) (hK:(nd t i).kind≠1/\(nd t i).kind≠2/\(nd t i).kind≠3/\(nd t i).kind≠6/\(nd t i).kind≠18/\(nd t i).kind≠7/\(nd t i).kind≠19/\(nd t i).kind≠8):S6 109 [d,.int .i64 (i:Int)] fun b=>b=false->a2C t i:=by
 refine U0 ?_
 have hidx:=hT.at (z:=(i:Int)) (by omega) (by omega) (k:=.i64)
 rw [Int.toNat_natCast] at hidx
 have hx:=hT.nd hi
 have hnode:=hR.ok.node i hi
 have o1:=FL.one hx.w
 have o2:=FL.one hx.n
 have o3:=FL.one hx.k
 have hpu:∀n m:Int,pureL [d,.int .i64 n,.int .i64 m]=true:=fun n m=>by simp [pureL,W3,hT.fl.pure]
 have n1:((nd t i).kind==1)=false:=by rw [beq_eq_false_iff_ne];omega
 have n2:((nd t i).kind==2)=false:=by rw [beq_eq_false_iff_ne];omega
 have n3:((nd t i).kind==3)=false:=by rw [beq_eq_false_iff_ne];omega
 have n6:((nd t i).kind==6)=false:=by rw [beq_eq_false_iff_ne];omega
 have n18:((nd t i).kind==18)=false:=by rw [beq_eq_false_iff_ne];omega
 have n7:((nd t i).kind==7)=false:=by rw [beq_eq_false_iff_ne];omega
 have n19:((nd t i).kind==19)=false:=by rw [beq_eq_false_iff_ne];omega
 have n8:((nd t i).kind==8)=false:=by rw [beq_eq_false_iff_ne];omega
 refine M6 (vf:=a0U) rfl ?_
 unfold a0U;refine zE ?_
 try refine zW (aN hidx (aN o1 (aN o2 o3))) ?_
 refine Y7 (Y2 hT hR hi (.inl rfl)) rfl (fz3 hT.fz k4 k4) (hpu _ _) ?_
 intro dc hdc
 try refine zW0 ?_
 refine Y7 (Y2 hT hR hi (.inr (.inl rfl))) rfl (fz3 hT.fz k4 k4) (hpu _ _) ?_
 intro dv hdv
 try refine zW0 ?_
 refine Y7 (Y2 hT hR hi (.inr (.inr rfl))) rfl (fz3 hT.fz k4 k4) (hpu _ _) ?_
 intro dp hdp
 have fc:=FL.fz hdc
 have fv:=FL.fz hdv
 have fp:=FL.fz hdp
 try refine zW (aN o1 (aN o2 (aN o3 (aN n1 (aN n2 (aN n3 (aN n6 (aN n18 (aN n7 (aN n19 n8)))))))))) ?_
 exact ⟨.inr trivial,_,rR,_,rfl,fun _=>⟨fun e=>by omega,fun e=>by omega,fun e=>by omega,fun e=>by omega⟩⟩
theorem b7g {d:D} {t:List Nd} (hT:N7 d t) (hR:N6 t) {i:Nat} (hi:i<t.length):S6 109 [d,.int .i64 (i:Int)] fun b=>b=false->a2C t i:=by
 by_cases k1:(nd t i).kind=1
 ·exact c4H hT hR hi k1
 by_cases k2:(nd t i).kind=2
 ·exact c4p hT hR hi k2
 by_cases k3:(nd t i).kind=3
 ·exact c3M hT hR hi k3
 by_cases k6:(nd t i).kind=6
 ·exact b6D hT hR hi k6
 by_cases k18:(nd t i).kind=18
 ·exact c1u hT hR hi k18
 by_cases k7:(nd t i).kind=7
 ·exact b8q hT hR hi k7
 by_cases k19:(nd t i).kind=19
 ·exact c2z hT hR hi k19
 by_cases k8:(nd t i).kind=8
 ·exact c23 hT hR hi k8
 exact b9f hT hR hi ⟨k1,k2,k3,k6,k18,k7,k19,k8⟩
def a9p (f:Nat) (l:List D) (P:Prop):Prop:=∃ (e a:Int),Iso f l (.agg [.int .i64 e,.int .i64 a])/\(e=0->P)
theorem b4z {f:Nat} {l:List D} {P:Prop} (h:EvP vfs f l f6.empty fun d _=>∃ (e a:Int),d=.agg [.int .i64 e,.int .i64 a]/\(e=0->P)):a9p f l P:=by
 obtain ⟨d,s',h,e,a,rfl,hp⟩:=h
 exact ⟨e,a,⟨s',h⟩,hp⟩
theorem c6Z {d:D} {t:List Nd} (hT:N7 d t) (hR:N6 t):a9p 85 [d] (a0s t):=by
 refine b4z ?_
 have hlen:=hT.len
 have hle:=hR.ok.le
 refine M6 (vf:=a8z) rfl ?_
 unfold a8z;refine zE ?_
 try refine zW0 ?_
 refine W2 (Q:=N5 0 _) (fun n env s=>∃i:Nat,i<=t.length/\n=t.length-i/\(∀j,j<i->a2C t j)/\s.get 0=some (.cells [.int .i64 0,.int .i64 0])/\(env.get 0=d/\env.get 2=.ptr 0 0/\env.get 3=.int .i64 (i:Int))) ?_ t.length _ _ ⟨0,by omega,rfl,fun j h=>by omega,P0 rfl,by simp [Env.get,P3.at];rfl⟩
 rintro n env s ⟨i,hi,rfl,hall,hg,hE⟩
 have hgl:=M5 hg
 by_cases c1:i<t.length
 ·have c1':((i:Int)<(t.length:Int))=True:=eq_true (by omega)
  have hs:IntKind.i64.wrap ((i:Int)+1)=((i+1:Nat):Int):=by rw [O7 (by omega) (by omega)];omega
  have hidx:=hT.at (z:=(i:Int)) (by omega) (by omega) (k:=.i64)
  rw [Int.toNat_natCast] at hidx
  have hx:=hT.nd c1
  have o1:=FL.one hx.w
  have o2:=FL.one hx.n
  have o3:=FL.one hx.k
  obtain ⟨b,hb,hp⟩:=b7g hT hR c1
  cases b
  ·repeat first
   |(apply M4 hb rfl;(focus (simp only [Env.evL,Env.ev,Env.get,Nat.reduceEqDiff,↓reduceIte,hE]));(focus exact fz2 hT.fz k4))
   |refine zW (aN hE (aN hlen (aN c1' hs))) ?_
   refine ⟨t.length-(i+1),by omega,i+1,by omega,rfl,fun j h=>?_,hg,(rG hE)⟩
   by_cases e:j=i
   ·subst e;exact hp rfl
   ·exact hall j (by omega)
  ·repeat first
   |(apply M4 hb rfl;(focus (simp only [Env.evL,Env.ev,Env.get,Nat.reduceEqDiff,↓reduceIte,hE]));(focus exact fz2 hT.fz k4))
   |refine zW (aN hE (aN hlen (aN c1' (aN hidx (aN o1 (aN o2 (aN o3 hg))))))) ?_
   refine ⟨.inr trivial,_,?_,20,(nd t i).pos,rfl,by simp⟩
   simp only [V0,V4,W4,Env.get,Nat.reduceEqDiff,↓reduceIte,hE,S0 hgl]
   rfl
 ·have c1':((i:Int)<(t.length:Int))=False:=eq_false (by omega)
  try refine zW (aN hE (aN hlen (aN c1' hg))) ?_
  refine ⟨.inr trivial,_,?_,0,0,rfl,fun _=>?_⟩
  ·simp only [V0,V4,W4,Env.get,Nat.reduceEqDiff,↓reduceIte,hE,S0 hgl]
   rfl
  ·exact ⟨fun j h=>(hall j (by omega)).use,fun j h=>(hall j (by omega)).chan,fun j h=>(hall j (by omega)).recv,fun j h=>(hall j (by omega)).once⟩
end Go.Proofs.YtnjlhebkhjcagaaGreat
namespace Go.V
def b2n (b:Bool):Nat:=if b then 1 else 0
@[simp] theorem c67:b2n true=1:=rfl
@[simp] theorem c64:b2n false=0:=rfl
def num (f:Nat->Bool):Nat->Nat
 | 0=>0
 | n+1=>num f n+b2n (f n)*2 ^ n
def b1B (A B:Nat->Bool) (c:Bool):Nat->Bool
 | 0=>c
 | i+1=>(A i&&B i)||((A i != B i)&&b1B A B c i)
def c17 (A B:Nat->Bool) (c:Bool) (i:Nat):Bool:=(A i != B i) != b1B A B c i
def b5F (A B:Nat->Bool):Nat->Bool
 | 0=>false
 | i+1=>if A i != B i then B i else b5F A B i
def O6 (n:Int) (w:Nat):Int:=(n+2 ^ (w-1)) % 2 ^ w-2 ^ (w-1)
theorem a6J (w:Nat):(0:Int)<2 ^ w:=by
 have:(0:Int)<((2 ^ w:Nat):Int):=by exact_mod_cast Nat.pos_of_ne_zero (by simp)
 simpa using this
theorem a7G {w:Nat} (h:0<w):(2:Int) ^ w=2*2 ^ (w-1):=by
 obtain ⟨k,rfl⟩:∃k,w=k+1:=⟨w-1,by omega⟩
 rw [Int.pow_succ,Nat.add_sub_cancel];omega
theorem b3r {a b:Int} {w:Nat} (h:a % 2 ^ w=b % 2 ^ w):O6 a w=O6 b w:=by
 unfold O6
 rw [Int.add_emod,h,<- Int.add_emod]
theorem b0S {n:Int} {w:Nat} (h:0<w) (h1:-2 ^ (w-1)<=n) (h2:n<2 ^ (w-1)):O6 n w=n:=by
 unfold O6
 rw [Int.emod_eq_of_lt (by omega) (by have:=a7G h;omega)];omega
theorem b01 {n:Int} {w:Nat} (h:0<w):-2 ^ (w-1)<=O6 n w/\O6 n w<2 ^ (w-1):=by
 unfold O6
 have hp:=a6J w
 have h1:=Int.emod_nonneg (n+2 ^ (w-1)) (b:=2 ^ w) (by omega)
 have h2:=Int.emod_lt_of_pos (n+2 ^ (w-1)) hp
 have:=a7G h
 omega
def a8k (r:Nat->Bool) (d:Bool) (j:Nat):Bool:=if j=0 then d else r (j-1)
def c6T (c:Bool) (A B:Nat->Bool) (j:Nat):Bool:=if c then A j else B j
mutual
def b1g (X Y:Nat->Bool) (w:Nat):Nat->(Nat->Bool)
 | 0=>fun _=>false
 | k+1=>c6T (!b5F (a8k (b1g X Y w k) (X (w-1-k))) Y w) (c17 (a8k (b1g X Y w k) (X (w-1-k))) (fun j=>!Y j) true) (a8k (b1g X Y w k) (X (w-1-k)))
end
end Go.V
namespace Go.Proofs.YtnjlhebkhjcagaaGreat
open Go.V
set_option maxRecDepth 100000
set_option maxHeartbeats 4000000
theorem b3D {v w:Nat} (h:w<=v):(2:Int) ^ w<=2 ^ v:=by
 have:(2:Nat) ^ w<=2 ^ v:=Nat.pow_le_pow_right (by omega) h
 exact_mod_cast this
theorem b1i {v w:Nat} (h:w<=v):(2:Int) ^ w ∣ 2 ^ v:=by
 obtain ⟨k,rfl⟩:∃k,v=w+k:=⟨v-w,by omega⟩
 rw [Int.pow_add];exact Int.dvd_mul_right _ _
theorem b0x {n:Int} {w:Nat} (h:0<w):O6 n w=if 2 ^ (w-1)<=n % 2 ^ w then n % 2 ^ w-2 ^ w else n % 2 ^ w:=by
 have hp:=a7G h
 have p:=a6J w
 have h1:=Int.emod_nonneg n (b:=2 ^ w) (by omega)
 have h2:=Int.emod_lt_of_pos n p
 have e:O6 n w=O6 (n % 2 ^ w) w:=(b3r (by rw [Int.emod_emod_of_dvd _ (Int.dvd_refl _)])).symm
 rw [e]
 generalize n % 2 ^ w=r at *
 split
 ·rw [<- b3r (a:=r-2 ^ w) (b:=r) (by rw [Int.sub_emod,Int.emod_self];simp),b0S h (by omega) (by omega)]
 ·rw [b0S h (by omega) (by omega)]
theorem c0h {n m:Int} (h:0<m):(if n.tmod m<0 then n.tmod m+m else n.tmod m)=n % m:=by
 have h1:=Int.mul_tdiv_add_tmod n m
 have h2:=Int.tmod_lt_of_pos n h
 have h3:-m<n.tmod m:=by
  have:=Int.tmod_lt_of_pos (-n) h
  rw [Int.neg_tmod] at this
  omega
 have e:n % m=n.tmod m % m:=by
  conv=>lhs;rw [<- h1]
  rw [Int.add_comm,Int.add_mul_emod_self_left]
 rw [e]
 generalize n.tmod m=r at *
 split
 ·rw [<- Int.add_emod_right,Int.emod_eq_of_lt (by omega) (by omega)]
 ·rw [Int.emod_eq_of_lt (by omega) (by omega)]
theorem b1P {w:Nat} (h:w<=16):(2:Int) ^ w<=65536:=by
 have:=b3D (w:=w) (v:=16) h
 omega
theorem b1x {s:f6} {x n:Int} {w:Nat} (hn:(w:Int)=min (max n 1) 16) (hx:a0w x) :
 Ev vfs 38 [.int .i64 x,.int .i64 n] s (.int .i64 (O6 x w)) s:=by
 obtain ⟨hx1,hx2⟩:=hx
 have hw1:1<=w:=by omega
 have hwl:w<=16:=by omega
 have hp:=b1P hwl
 have hp0:=a6J w
 rw [b0x hw1]
 refine a6A (vf:=a9B) rfl ?_
 unfold a9B;refine zE ?_
 try refine zW0 ?_
 refine WP.mono (Q:=fun e env s'=>e=.normal/\s'=s/\(env.get 0=.int .i64 x/\env.get 1=.int .i64 (max n 1))) ?_ ?_
 ·by_cases h:n<1
  ·have b1:(n<1)=True:=eq_true h
   try refine zW b1 ?_
   exact ⟨trivial,trivial,by simp [Env.get];omega⟩
  ·have b1:(n<1)=False:=eq_false h
   try refine zW b1 ?_
   exact ⟨trivial,trivial,by simp [Env.get];omega⟩
 rintro e env s' ⟨rfl,rfl,hE⟩
 simp only [P7]
 try refine zW hE ?_
 refine WP.mono (Q:=fun e env s1=>e=.normal/\s1=s'/\(env.get 0=.int .i64 x/\env.get 1=.int .i64 (w:Int))) ?_ ?_
 ·by_cases h:16<max n 1
  ·have b1:(16<max n 1)=True:=eq_true h
   try refine zW (aN hE b1) ?_
   exact ⟨trivial,trivial,by simp [Env.get,hE];omega⟩
  ·have b1:(16<max n 1)=False:=eq_false h
   try refine zW (aN hE b1) ?_
   exact ⟨trivial,trivial,by simp [Env.get,hE];omega⟩
 clear hE
 rintro e env s1 ⟨rfl,rfl,hE⟩
 simp only [P7]
 try refine zW hE ?_
 refine W2 (fun k env s2=>∃ (i:Nat),i<=w/\k=w-i/\s2=s1/\(env.get 0=.int .i64 x/\env.get 1=.int .i64 (w:Int)/\env.get 5=.int .i64 (2 ^ i)/\env.get 6=.int .i64 (i:Int))) ?_ w _ _
  ⟨0,Nat.zero_le _,by omega,rfl,by simp [Env.get,hE]⟩
 clear hE
 rintro k env s2 ⟨i,hi,rfl,rfl,hE⟩
 by_cases hci:i<w
 ·have hci':(i:Int)<(w:Int):=by omega
  have hs:=(by rw [O7 (by omega) (by omega)];omega:IntKind.i64.wrap ((i:Int)+1)=((i+1:Nat):Int))
  have hpi:=b1P (w:=i) (by omega)
  have hpi0:=a6J i
  have hmul:IntKind.i64.wrap ((2:Int) ^ i*2)=2 ^ (i+1):=by rw [O7 (by omega) (by omega),Int.pow_succ]
  try refine zW (aN hE (aN hci' (aN hs hmul))) ?_
  exact ⟨w-(i+1),by omega,i+1,by omega,rfl,trivial,(rG hE)⟩
 ·have hci':¬ (i:Int)<(w:Int):=by omega
  obtain rfl:i=w:=by omega
  have hne:((2:Int) ^ i=0)=False:=eq_false (by omega)
  have hm:=c0h (n:=x) hp0
  have h1:=Int.emod_nonneg x (b:=2 ^ i) (by omega)
  have h2:=Int.emod_lt_of_pos x hp0
  have hh:=a7G (w:=i) (by omega)
  have hdiv:((2:Int) ^ i).tdiv 2=2 ^ (i-1):=by
   rw [Int.tdiv_eq_ediv_of_nonneg (by omega)];omega
  have hwd:IntKind.i64.wrap ((2:Int) ^ (i-1))=2 ^ (i-1):=O7 (by omega) (by omega)
  have hs2:IntKind.i64.wrap (x % 2 ^ i-2 ^ i)=x % 2 ^ i-2 ^ i:=O7 (by omega) (by omega)
  by_cases hneg:x.tmod (2 ^ i)<0
  ·rw [if_pos hneg] at hm
   have hadd:IntKind.i64.wrap (x.tmod (2 ^ i)+2 ^ i)=x % 2 ^ i:=by rw [hm];exact O7 (by omega) (by omega)
   by_cases hc:2 ^ (i-1)<=x % 2 ^ i
   ·try refine zW (aN hE (aN hci' (aN hne (aN hneg (aN hadd (aN hdiv (aN hwd (aN hc hs2)))))))) ?_
    exact ⟨.inr trivial,trivial,(by simp only [V0,V4,W4,Env.get,Nat.reduceEqDiff,↓reduceIte,hc]<;>rfl)⟩
   ·try refine zW (aN hE (aN hci' (aN hne (aN hneg (aN hadd (aN hdiv (aN hwd (aN hc hs2)))))))) ?_
    exact ⟨.inr trivial,trivial,(by simp only [V0,V4,W4,Env.get,Nat.reduceEqDiff,↓reduceIte,hc]<;>rfl)⟩
  ·rw [if_neg hneg] at hm
   have hneg:(x % 2 ^ i<0)=False:=eq_false (by omega)
   by_cases hc:2 ^ (i-1)<=x % 2 ^ i
   ·try refine zW (aN hE (aN hci' (aN hne (aN hneg (aN hm (aN hdiv (aN hwd (aN hc hs2)))))))) ?_
    exact ⟨.inr trivial,trivial,(by simp only [V0,V4,W4,Env.get,Nat.reduceEqDiff,↓reduceIte,hc]<;>rfl)⟩
   ·try refine zW (aN hE (aN hci' (aN hne (aN hneg (aN hm (aN hdiv (aN hwd (aN hc hs2)))))))) ?_
    exact ⟨.inr trivial,trivial,(by simp only [V0,V4,W4,Env.get,Nat.reduceEqDiff,↓reduceIte,hc]<;>rfl)⟩
theorem a8T {x n:Int} {w:Nat} (hn:(w:Int)=min (max n 1) 16) (hx:a0w x):Iso 38 [.int .i64 x,.int .i64 n] (.int .i64 (O6 x w)):=⟨_,b1x hn hx⟩
end Go.Proofs.YtnjlhebkhjcagaaGreat
namespace Go.V
def a2y (t:List Nd) (i:Nat):Int:=if (nd t (item t i)).kind=3 then (nd t (item t i)).num 0 else 1
def a1s (t:List Nd) (kind:Int) (i:Nat):Int:=if kind=1 then 1 else min (a2y t i) 100
def S1 (t:List Nd) (kind:Int):Nat->Int
 | 0=>0
 | i+1=>if S1 t kind i<100/\(nd t i).kind=kind then S1 t kind i+a1s t kind i else S1 t kind i
theorem b3K {t:List Nd} {kind:Int} {i:Nat} (h:100<=S1 t kind i):∀ {j:Nat},i<=j->S1 t kind j=S1 t kind i
 | 0,hj=>by
   obtain rfl:i=0:=by omega
   rfl
 | j+1,hj=>by
   by_cases e:i=j+1
   ·subst e;rfl
   ·have ih:=b3K h (j:=j) (by omega)
    rw [S1,if_neg (by omega),ih]
structure a3i (t:List Nd) (i:Nat):Prop where
 chan:(nd t i).kind=1->1<=(nd t i).num 0/\(nd t i).num 0<=3/\1<=(nd t i).num 1/\(nd t i).num 1<=8/\S1 t 1 (i+1)<=3
 var:(nd t i).kind=2->1<=(nd t i).num 0/\(nd t i).num 0<=8/\O6 ((nd t i).num 1) ((nd t i).num 0).toNat=(nd t i).num 1/\S1 t 2 (i+1)<=8
 proc:(nd t i).kind=3->1<=(nd t i).num 0/\S1 t 3 (i+1)<=4
 lit:(nd t i).kind=17->(nd t i).num 0<=127
structure a1h (t:List Nd):Prop where
 fine:∀i,i<t.length->a3i t i
theorem b5R {t:List Nd} (h:N6 t) {i:Nat} (hi:i<t.length):item t i<=i:=by
 by_cases h0:i=0
 ·subst h0
  have:item t 0=0:=a60 fun k hk=>by have:=h.subs.mem k hk;omega
  omega
 ·obtain ⟨b,_,_,h3,_⟩:=b93 h (by omega) hi
  exact h3
theorem b2L {t:List Nd} (h:N6 t) {i:Nat} (hi:i<t.length):0<=a2y t i/\a2y t i<=999999:=by
 have:=b5R h hi
 unfold a2y
 split
 ·rename_i h3
  exact (h.ok.node _ (by omega)).copies h3
 ·omega
theorem b2R {t:List Nd} (h:N6 t) {kind:Int} {i:Nat} (hi:i<t.length):0<=a1s t kind i/\a1s t kind i<=100:=by
 have:=b2L h hi
 unfold a1s
 split<;>omega
theorem a9F {t:List Nd} (h:N6 t) {kind:Int}:∀ {i:Nat},i<=t.length->0<=S1 t kind i/\S1 t kind i<200
 | 0,_=>by simp [S1]
 | i+1,hi=>by
   have ih:=a9F h (kind:=kind) (i:=i) (by omega)
   have:=b2R h (kind:=kind) (i:=i) (by omega)
   rw [S1]
   split<;>omega
end Go.V
namespace Go.Proofs.YtnjlhebkhjcagaaGreat
open Go.V
set_option maxRecDepth 100000
set_option maxHeartbeats 4000000
theorem a25 {x:Nd} (hx:x.Ok) {i:Nat} (h:i<x.nums.length):N2 1 x.dn (.int .i64 (i:Int))=some (.fp [.int .i64 (x.num i)] 0):=by rw [a4w h];exact FI.idx hx.n h
theorem c6f {d:D} {t:List Nd} (hT:N7 d t) (hR:N6 t) {i:Nat} (hi:i<t.length):Iso 128 [d,.int .i64 (i:Int)] (.int .i64 (a2y t i)):=by
 refine a2r ?_
 have hit:=b0V hT hR hi
 have hle:=b5R hR hi
 have hidx:=hT.at (z:=(item t i:Int)) (by omega) (by omega) (k:=.i64)
 rw [Int.toNat_natCast] at hidx
 have hx:=hT.nd (i:=item t i) (by omega)
 have o1:=FL.one hx.w
 have o2:=FL.one hx.n
 have o3:=FL.one hx.k
 unfold a2y
 by_cases c:(nd t (item t i)).kind=3
 ·have c':((nd t (item t i)).kind==3)=true:=by rw [c];rfl
  have hnl:(nd t (item t i)).nums.length=1:=by rw [(hR.ok.node _ (by omega)).nl,c];rfl
  have n0:=a25 hx (i:=0) (by omega)
  have z0:((0:Nat):Int)=0:=rfl
  rw [z0] at n0
  rw [if_pos c]
  refine M6 (vf:=a6t) rfl ?_
  unfold a6t;refine zE ?_
  repeat first
  |(apply M4 hit rfl rfl (fz2 hT.fz k4))
  |refine zW (aN hidx (aN o1 (aN o2 (aN o3 (aN c' n0))))) ?_
  exact ⟨.inr trivial,_,rR,rfl⟩
 ·have c':((nd t (item t i)).kind==3)=false:=by rw [beq_eq_false_iff_ne];exact c
  rw [if_neg c]
  refine M6 (vf:=a6t) rfl ?_
  unfold a6t;refine zE ?_
  repeat first
  |(apply M4 hit rfl rfl (fz2 hT.fz k4))
  |refine zW (aN hidx (aN o1 (aN o2 (aN o3 c')))) ?_
  exact ⟨.inr trivial,_,rR,rfl⟩
theorem a81 {d:D} {t:List Nd} (hT:N7 d t) (hR:N6 t) {i:Nat} (hi:i<t.length) {kind:Int}:Iso 110 [d,.int .i64 (i:Int),.int .i64 kind] (.int .i64 (S1 t kind (i+1))):=by
 refine a2r ?_
 have hle:=hR.ok.le
 refine M6 (vf:=a80) rfl ?_
 unfold a80;refine zE ?_
 try refine zW0 ?_
 refine W2 (Q:=N5 0 _) (fun n env s=>∃j:Nat,j<=i+1/\n=i+1-j/\(env.get 0=d/\env.get 1=.int .i64 (i:Int)/\env.get 2=.int .i64 kind/\env.get 7=.int .i64 (S1 t kind j)/\env.get 8=.int .i64 (j:Int))) ?_ (i+1) _ _ ⟨0,by omega,rfl,by simp [Env.get,S1]⟩
 rintro n env s ⟨j,hj,rfl,hE⟩
 have hsi:=a9F hR (kind:=kind) (i:=j) (by omega)
 by_cases c1:j<=i
 ·have c1':((j:Int)<=(i:Int))=True:=eq_true (by omega)
  have hs:IntKind.i64.wrap ((j:Int)+1)=((j+1:Nat):Int):=by rw [O7 (by omega) (by omega)];omega
  by_cases c2:S1 t kind j<100
  ·have hidx:=hT.at (z:=(j:Int)) (by omega) (by omega) (k:=.i64)
   rw [Int.toNat_natCast] at hidx
   have hx:=hT.nd (i:=j) (by omega)
   have o1:=FL.one hx.w
   have o2:=FL.one hx.n
   have o3:=FL.one hx.k
   by_cases c3:(nd t j).kind=kind
   ·have c3':((nd t j).kind != kind)=false:=by rw [c3];simp
    have hst:S1 t kind (j+1)=S1 t kind j+a1s t kind j:=by rw [S1,if_pos ⟨c2,c3⟩]
    have hsr:=b2R hR (kind:=kind) (i:=j) (by omega)
    by_cases c4:kind=1
    ·have c4':(kind==1)=true:=by rw [c4];rfl
     have hw:IntKind.i64.wrap (S1 t kind j+1)=S1 t kind (j+1):=by rw [O7 (by omega) (by omega),hst,a1s,if_pos c4]
     try refine zW (aN hE (aN c1' (aN c2 (aN hidx (aN o1 (aN o2 (aN o3 (aN c3' (aN c4' (aN hw hs)))))))))) ?_
     exact ⟨i+1-(j+1),by omega,j+1,by omega,rfl,(rG hE)⟩
    ·have c4':(kind==1)=false:=by rw [beq_eq_false_iff_ne];exact c4
     have hc:=c6f hT hR (i:=j) (by omega)
     have hcr:=b2L hR (i:=j) (by omega)
     have hw:IntKind.i64.wrap (S1 t kind j+min (a2y t j) 100)=S1 t kind (j+1):=by rw [O7 (by omega) (by omega),hst,a1s,if_neg c4]
     repeat first
     |(apply M4 hc rfl;(focus (simp only [Env.evL,Env.ev,Env.get,Nat.reduceEqDiff,↓reduceIte,hE]));(focus exact fz2 hT.fz k4))
     |refine zW (aN hE (aN c1' (aN c2 (aN hidx (aN o1 (aN o2 (aN o3 (aN c3' (aN c4' (aN hw hs)))))))))) ?_
     exact ⟨i+1-(j+1),by omega,j+1,by omega,rfl,(rG hE)⟩
   ·have c3':((nd t j).kind != kind)=true:=by rw [bne_iff_ne];exact c3
    have hst:S1 t kind (j+1)=S1 t kind j:=by rw [S1,if_neg fun h=>c3 h.2]
    try refine zW (aN hE (aN c1' (aN c2 (aN hidx (aN o1 (aN o2 (aN o3 (aN c3' hs)))))))) ?_
    exact ⟨i+1-(j+1),by omega,j+1,by omega,rfl,by simp only [Env.get,Nat.reduceEqDiff,↓reduceIte,hE,hst,and_self]⟩
  ·have hb:=b3K (t:=t) (kind:=kind) (i:=j) (by omega) (j:=i+1) (by omega)
   try refine zW (aN hE (aN c1' c2)) ?_
   exact ⟨.inr trivial,_,rR,by rw [hb]⟩
 ·have c1':((j:Int)<=(i:Int))=False:=eq_false (by omega)
  obtain rfl:j=i+1:=by omega
  try refine zW (aN hE c1') ?_
  exact ⟨.inr trivial,_,rR,rfl⟩
theorem b4Q {d:D} {t:List Nd} (hT:N7 d t) (hR:N6 t) {z:Int}:∀ (f a:Nat),a<t.length->t.length-a<f->S6 111 [d,.int .i64 z,.int .i64 (a:Int)] fun _=>True
 | 0,a,_,h=>by omega
 | f+1,a,ha,hf=>by
   refine U0 ?_
   have hidx:=hT.at (z:=(a:Int)) (by omega) (by omega) (k:=.i64)
   rw [Int.toNat_natCast] at hidx
   have hx:=hT.nd ha
   have o1:=FL.one hx.w
   have o2:=FL.one hx.n
   have o3:=FL.one hx.k
   have hlk:=FI.len hx.k
   refine M6 (vf:=a8M) rfl ?_
   unfold a8M;refine zE ?_
   try refine zW0 ?_
   refine W2 (Q:=N5 0 _) (fun n env s=>∃j:Nat,j<=(nd t a).kids.length/\n=(nd t a).kids.length-j/\(env.get 0=d/\env.get 1=.int .i64 z/\env.get 2=.int .i64 (a:Int)/\env.get 7=.int .i64 (j:Int))) ?_ (nd t a).kids.length _ _ ⟨0,by omega,rfl,by simp [Env.get]⟩
   rintro n env s ⟨j,hj,rfl,hE⟩
   by_cases c1:j<(nd t a).kids.length
   ·have c1':((j:Int)<((nd t a).kids.length:Int))=True:=eq_true (by omega)
    have hki:=FI.idx hx.k c1 (k:=.i64)
    have hs:=a2g c1 hx.kl
    have hkr:=hR.ok.kids a ha _ (List.getElem_mem c1)
    obtain ⟨k,hk⟩:∃k:Nat,(nd t a).kids[j]=(k:Int):=⟨(nd t a).kids[j].toNat,by omega⟩
    rw [hk] at hki hkr
    obtain ⟨b,hb,_⟩:=b4Q hT hR (z:=z) f k (by omega) (by omega)
    cases c2:((k:Int)==z)
    ·cases b
     ·repeat first
      |(apply M4 hb rfl;(focus (simp only [Env.evL,Env.ev,Env.get,Nat.reduceEqDiff,↓reduceIte,hE]));(focus exact fz3 hT.fz k4 k4))
      |refine zW (aN hE (aN hidx (aN o1 (aN o2 (aN o3 (aN hlk (aN c1' (aN hki (aN c2 hs))))))))) ?_
      exact ⟨(nd t a).kids.length-(j+1),by omega,j+1,by omega,rfl,(rG hE)⟩
     ·repeat first
      |(apply M4 hb rfl;(focus (simp only [Env.evL,Env.ev,Env.get,Nat.reduceEqDiff,↓reduceIte,hE]));(focus exact fz3 hT.fz k4 k4))
      |refine zW (aN hE (aN hidx (aN o1 (aN o2 (aN o3 (aN hlk (aN c1' (aN hki c2)))))))) ?_
      exact ⟨.inr trivial,_,rR,_,rfl,trivial⟩
    ·try refine zW (aN hE (aN hidx (aN o1 (aN o2 (aN o3 (aN hlk (aN c1' (aN hki c2)))))))) ?_
     exact ⟨.inr trivial,_,rR,_,rfl,trivial⟩
   ·have c1':((j:Int)<((nd t a).kids.length:Int))=False:=eq_false (by omega)
    try refine zW (aN hE (aN hidx (aN o1 (aN o2 (aN o3 (aN hlk c1')))))) ?_
    exact ⟨.inr trivial,_,rR,_,rfl,trivial⟩
end Go.Proofs.YtnjlhebkhjcagaaGreat
namespace Go.Proofs.YtnjlhebkhjcagaaGreat
open Go.V
set_option maxRecDepth 100000
set_option maxHeartbeats 4000000
def a3G (f:Nat) (l:List D) (P:Prop):Prop:=∃e:Int,Iso f l (.int .i64 e)/\(e=0->P)
theorem a4O {f:Nat} {l:List D} {P:Prop} (h:EvP vfs f l f6.empty fun d _=>∃e:Int,d=.int .i64 e/\(e=0->P)):a3G f l P:=by
 obtain ⟨d,s',h,e,rfl,hp⟩:=h
 exact ⟨e,⟨s',h⟩,hp⟩
theorem c0o {d:D} {t:List Nd} (hT:N7 d t) (hR:N6 t) {i:Nat} (hi:i<t.length) (hK:(nd t i).kind=1):a3G 86 [d,.int .i64 (i:Int)] (a3i t i):=by
 refine a4O ?_
 have hidx:=hT.at (z:=(i:Int)) (by omega) (by omega) (k:=.i64)
 rw [Int.toNat_natCast] at hidx
 have hx:=hT.nd hi
 have hnode:=hR.ok.node i hi
 have hle:=hR.ok.le
 have o1:=FL.one hx.w
 have o2:=FL.one hx.n
 have o3:=FL.one hx.k
 have hnl:(nd t i).nums.length=4:=by rw [hnode.nl,hK];rfl
 have n0:N2 1 (nd t i).dn (.int .i64 0)=some (.fp [.int .i64 ((nd t i).num 0)] 0):=a25 hx (i:=0) (by omega)
 have n1:N2 1 (nd t i).dn (.int .i64 1)=some (.fp [.int .i64 ((nd t i).num 1)] 0):=a25 hx (i:=1) (by omega)
 rw [hK] at hidx
 have hs:=a81 hT hR hi (kind:=1)
 by_cases e0:(nd t i).num 0<1
 ·have d0:((nd t i).num 0<1)=True:=eq_true e0
  refine M6 (vf:=U7) rfl ?_
  unfold U7;refine zE ?_
  repeat first
  |(apply M4 hs rfl rfl (fz3 hT.fz k4 k4))
  |refine zW (aN hidx (aN o1 (aN o2 (aN o3 (aN n0 (aN n1 d0)))))) ?_
  exact ⟨.inr trivial,_,rR,_,rfl,by simp⟩
 have d0:((nd t i).num 0<1)=False:=eq_false e0
 by_cases e1:3<(nd t i).num 0
 ·have d1:(3<(nd t i).num 0)=True:=eq_true e1
  refine M6 (vf:=U7) rfl ?_
  unfold U7;refine zE ?_
  repeat first
  |(apply M4 hs rfl rfl (fz3 hT.fz k4 k4))
  |refine zW (aN hidx (aN o1 (aN o2 (aN o3 (aN n0 (aN n1 (aN d0 d1))))))) ?_
  exact ⟨.inr trivial,_,rR,_,rfl,by simp⟩
 have d1:(3<(nd t i).num 0)=False:=eq_false e1
 by_cases e2:(nd t i).num 1<1
 ·have d2:((nd t i).num 1<1)=True:=eq_true e2
  refine M6 (vf:=U7) rfl ?_
  unfold U7;refine zE ?_
  repeat first
  |(apply M4 hs rfl rfl (fz3 hT.fz k4 k4))
  |refine zW (aN hidx (aN o1 (aN o2 (aN o3 (aN n0 (aN n1 (aN d0 (aN d1 d2)))))))) ?_
  exact ⟨.inr trivial,_,rR,_,rfl,by simp⟩
 have d2:((nd t i).num 1<1)=False:=eq_false e2
 by_cases e3:8<(nd t i).num 1
 ·have d3:(8<(nd t i).num 1)=True:=eq_true e3
  refine M6 (vf:=U7) rfl ?_
  unfold U7;refine zE ?_
  repeat first
  |(apply M4 hs rfl rfl (fz3 hT.fz k4 k4))
  |refine zW (aN hidx (aN o1 (aN o2 (aN o3 (aN n0 (aN n1 (aN d0 (aN d1 (aN d2 d3))))))))) ?_
  exact ⟨.inr trivial,_,rR,_,rfl,by simp⟩
 have d3:(8<(nd t i).num 1)=False:=eq_false e3
 by_cases e4:3<S1 t 1 (i+1)
 ·have d4:(3<S1 t 1 (i+1))=True:=eq_true e4
  refine M6 (vf:=U7) rfl ?_
  unfold U7;refine zE ?_
  repeat first
  |(apply M4 hs rfl rfl (fz3 hT.fz k4 k4))
  |refine zW (aN hidx (aN o1 (aN o2 (aN o3 (aN n0 (aN n1 (aN d0 (aN d1 (aN d2 (aN d3 d4)))))))))) ?_
  exact ⟨.inr trivial,_,rR,_,rfl,by simp⟩
 have d4:(3<S1 t 1 (i+1))=False:=eq_false e4
 refine M6 (vf:=U7) rfl ?_
 unfold U7;refine zE ?_
 repeat first
 |(apply M4 hs rfl rfl (fz3 hT.fz k4 k4))
 |refine zW (aN hidx (aN o1 (aN o2 (aN o3 (aN n0 (aN n1 (aN d0 (aN d1 (aN d2 (aN d3 d4)))))))))) ?_
 exact ⟨.inr trivial,_,rR,_,rfl,fun _=>⟨fun _=>by omega,fun h=>by omega,fun h=>by omega,fun h=>by omega⟩⟩
theorem c6R {d:D} {t:List Nd} (hT:N7 d t) (hR:N6 t) {i:Nat} (hi:i<t.length) (hK:(nd t i).kind=2):a3G 86 [d,.int .i64 (i:Int)] (a3i t i):=by
 refine a4O ?_
 have hidx:=hT.at (z:=(i:Int)) (by omega) (by omega) (k:=.i64)
 rw [Int.toNat_natCast] at hidx
 have hx:=hT.nd hi
 have hnode:=hR.ok.node i hi
 have hle:=hR.ok.le
 have o1:=FL.one hx.w
 have o2:=FL.one hx.n
 have o3:=FL.one hx.k
 have hnl:(nd t i).nums.length=2:=by rw [hnode.nl,hK];rfl
 have n0:N2 1 (nd t i).dn (.int .i64 0)=some (.fp [.int .i64 ((nd t i).num 0)] 0):=a25 hx (i:=0) (by omega)
 have n1:N2 1 (nd t i).dn (.int .i64 1)=some (.fp [.int .i64 ((nd t i).num 1)] 0):=a25 hx (i:=1) (by omega)
 rw [hK] at hidx
 have hs:=a81 hT hR hi (kind:=2)
 have hv:=hnode.var hK
 by_cases e0:(nd t i).num 0<1
 ·have d0:((nd t i).num 0<1)=True:=eq_true e0
  refine M6 (vf:=U7) rfl ?_
  unfold U7;refine zE ?_
  repeat first
  |(apply M4 hs rfl rfl (fz3 hT.fz k4 k4))
  |refine zW (aN hidx (aN o1 (aN o2 (aN o3 (aN n0 (aN n1 d0)))))) ?_
  exact ⟨.inr trivial,_,rR,_,rfl,by simp⟩
 have d0:((nd t i).num 0<1)=False:=eq_false e0
 by_cases e1:8<(nd t i).num 0
 ·have d1:(8<(nd t i).num 0)=True:=eq_true e1
  refine M6 (vf:=U7) rfl ?_
  unfold U7;refine zE ?_
  repeat first
  |(apply M4 hs rfl rfl (fz3 hT.fz k4 k4))
  |refine zW (aN hidx (aN o1 (aN o2 (aN o3 (aN n0 (aN n1 (aN d0 d1))))))) ?_
  exact ⟨.inr trivial,_,rR,_,rfl,by simp⟩
 have d1:(8<(nd t i).num 0)=False:=eq_false e1
 have ht:=a8T (x:=(nd t i).num 1) (n:=(nd t i).num 0) (w:=((nd t i).num 0).toNat) (by omega) ⟨by omega,by omega⟩
 by_cases e2:O6 ((nd t i).num 1) ((nd t i).num 0).toNat=(nd t i).num 1
 ·have d2:(O6 ((nd t i).num 1) ((nd t i).num 0).toNat != (nd t i).num 1)=false:=by rw [e2];simp
  by_cases e3:8<S1 t 2 (i+1)
  ·have d3:(8<S1 t 2 (i+1))=True:=eq_true e3
   refine M6 (vf:=U7) rfl ?_
   unfold U7;refine zE ?_
   repeat first
   |(apply M4 hs rfl rfl (fz3 hT.fz k4 k4))
   |(apply M4 ht rfl rfl (fz2 k4 k4))
   |refine zW (aN hidx (aN o1 (aN o2 (aN o3 (aN n0 (aN n1 (aN d0 (aN d1 (aN d2 d3))))))))) ?_
   exact ⟨.inr trivial,_,rR,_,rfl,by simp⟩
  ·have d3:(8<S1 t 2 (i+1))=False:=eq_false e3
   refine M6 (vf:=U7) rfl ?_
   unfold U7;refine zE ?_
   repeat first
   |(apply M4 hs rfl rfl (fz3 hT.fz k4 k4))
   |(apply M4 ht rfl rfl (fz2 k4 k4))
   |refine zW (aN hidx (aN o1 (aN o2 (aN o3 (aN n0 (aN n1 (aN d0 (aN d1 (aN d2 d3))))))))) ?_
   exact ⟨.inr trivial,_,rR,_,rfl,fun _=>⟨fun h=>by omega,fun _=>⟨by omega,by omega,e2,by omega⟩,fun h=>by omega,fun h=>by omega⟩⟩
 ·have d2:(O6 ((nd t i).num 1) ((nd t i).num 0).toNat != (nd t i).num 1)=true:=by rw [bne_iff_ne];exact e2
  refine M6 (vf:=U7) rfl ?_
  unfold U7;refine zE ?_
  repeat first
  |(apply M4 hs rfl rfl (fz3 hT.fz k4 k4))
  |(apply M4 ht rfl rfl (fz2 k4 k4))
  |refine zW (aN hidx (aN o1 (aN o2 (aN o3 (aN n0 (aN n1 (aN d0 (aN d1 d2)))))))) ?_
  exact ⟨.inr trivial,_,rR,_,rfl,by simp⟩
theorem c4j {d:D} {t:List Nd} (hT:N7 d t) (hR:N6 t) {i:Nat} (hi:i<t.length) (hK:(nd t i).kind=3):a3G 86 [d,.int .i64 (i:Int)] (a3i t i):=by
 refine a4O ?_
 have hidx:=hT.at (z:=(i:Int)) (by omega) (by omega) (k:=.i64)
 rw [Int.toNat_natCast] at hidx
 have hx:=hT.nd hi
 have hnode:=hR.ok.node i hi
 have hle:=hR.ok.le
 have o1:=FL.one hx.w
 have o2:=FL.one hx.n
 have o3:=FL.one hx.k
 have hnl:(nd t i).nums.length=1:=by rw [hnode.nl,hK];rfl
 have n0:N2 1 (nd t i).dn (.int .i64 0)=some (.fp [.int .i64 ((nd t i).num 0)] 0):=a25 hx (i:=0) (by omega)
 rw [hK] at hidx
 have hs:=a81 hT hR hi (kind:=3)
 by_cases e0:(nd t i).num 0<1
 ·have d0:((nd t i).num 0<1)=True:=eq_true e0
  refine M6 (vf:=U7) rfl ?_
  unfold U7;refine zE ?_
  repeat first
  |(apply M4 hs rfl rfl (fz3 hT.fz k4 k4))
  |refine zW (aN hidx (aN o1 (aN o2 (aN o3 (aN n0 d0))))) ?_
  exact ⟨.inr trivial,_,rR,_,rfl,by simp⟩
 have d0:((nd t i).num 0<1)=False:=eq_false e0
 by_cases e1:4<S1 t 3 (i+1)
 ·have d1:(4<S1 t 3 (i+1))=True:=eq_true e1
  refine M6 (vf:=U7) rfl ?_
  unfold U7;refine zE ?_
  repeat first
  |(apply M4 hs rfl rfl (fz3 hT.fz k4 k4))
  |refine zW (aN hidx (aN o1 (aN o2 (aN o3 (aN n0 (aN d0 d1)))))) ?_
  exact ⟨.inr trivial,_,rR,_,rfl,by simp⟩
 have d1:(4<S1 t 3 (i+1))=False:=eq_false e1
 refine M6 (vf:=U7) rfl ?_
 unfold U7;refine zE ?_
 repeat first
 |(apply M4 hs rfl rfl (fz3 hT.fz k4 k4))
 |refine zW (aN hidx (aN o1 (aN o2 (aN o3 (aN n0 (aN d0 d1)))))) ?_
 exact ⟨.inr trivial,_,rR,_,rfl,fun _=>⟨fun h=>by omega,fun h=>by omega,fun _=>by omega,fun h=>by omega⟩⟩
theorem c1Z {d:D} {t:List Nd} (hT:N7 d t) (hR:N6 t) {i:Nat} (hi:i<t.length) (hK:(nd t i).kind=17):a3G 86 [d,.int .i64 (i:Int)] (a3i t i):=by
 refine a4O ?_
 have hidx:=hT.at (z:=(i:Int)) (by omega) (by omega) (k:=.i64)
 rw [Int.toNat_natCast] at hidx
 have hx:=hT.nd hi
 have hnode:=hR.ok.node i hi
 have hle:=hR.ok.le
 have o1:=FL.one hx.w
 have o2:=FL.one hx.n
 have o3:=FL.one hx.k
 have hnl:(nd t i).nums.length=1:=by rw [hnode.nl,hK];rfl
 have n0:N2 1 (nd t i).dn (.int .i64 0)=some (.fp [.int .i64 ((nd t i).num 0)] 0):=a25 hx (i:=0) (by omega)
 rw [hK] at hidx
 by_cases e0:127<(nd t i).num 0
 ·have d0:(127<(nd t i).num 0)=True:=eq_true e0
  refine M6 (vf:=U7) rfl ?_
  unfold U7;refine zE ?_
  try refine zW (aN hidx (aN o1 (aN o2 (aN o3 (aN n0 d0))))) ?_
  exact ⟨.inr trivial,_,rR,_,rfl,by simp⟩
 have d0:(127<(nd t i).num 0)=False:=eq_false e0
 refine M6 (vf:=U7) rfl ?_
 unfold U7;refine zE ?_
 try refine zW (aN hidx (aN o1 (aN o2 (aN o3 (aN n0 d0))))) ?_
 exact ⟨.inr trivial,_,rR,_,rfl,fun _=>⟨fun h=>by omega,fun h=>by omega,fun h=>by omega,fun _=>by omega⟩⟩
theorem c1V {d:D} {t:List Nd} (hT:N7 d t) (hR:N6 t) {i:Nat} (hi:i<t.length) (hK:(nd t i).kind=13):a3G 86 [d,.int .i64 (i:Int)] (a3i t i):=by
 refine a4O ?_
 have hidx:=hT.at (z:=(i:Int)) (by omega) (by omega) (k:=.i64)
 rw [Int.toNat_natCast] at hidx
 have hx:=hT.nd hi
 have hnode:=hR.ok.node i hi
 have hle:=hR.ok.le
 have o1:=FL.one hx.w
 have o2:=FL.one hx.n
 have o3:=FL.one hx.k
 rw [hK] at hidx
 refine M6 (vf:=U7) rfl ?_
 unfold U7;refine zE ?_
 try refine zW (aN hidx (aN o1 (aN o2 o3))) ?_
 refine W2 (Q:=N5 1 _) (fun n env s=>∃j:Nat,j<=i/\n=i-j/\(env.get 0=d/\env.get 1=.int .i64 (i:Int)/\env.get 6=.bool false/\env.get 7=.int .i64 (j:Int))) ?_ i _ _ ⟨0,by omega,rfl,by simp [Env.get]⟩
 rintro n env s ⟨j,hj,rfl,hE⟩
 by_cases c1:j<i
 ·have c1':((j:Int)<(i:Int))=True:=eq_true (by omega)
  have hs:IntKind.i64.wrap ((j:Int)+1)=((j+1:Nat):Int):=by rw [O7 (by omega) (by omega)];omega
  have hjdx:=hT.at (z:=(j:Int)) (by omega) (by omega) (k:=.i64)
  rw [Int.toNat_natCast] at hjdx
  have hy:=hT.nd (i:=j) (by omega)
  have q1:=FL.one hy.w
  have q2:=FL.one hy.n
  have q3:=FL.one hy.k
  obtain ⟨b,hb,_⟩:=b4Q hT hR (z:=(i:Int)) (t.length+1) j (by omega) (by omega)
  by_cases c2:(nd t j).kind=13
  ·have c2':((nd t j).kind==13)=true:=by rw [c2];rfl
   cases b
   ·repeat first
    |(apply M4 hb rfl;(focus (simp only [Env.evL,Env.ev,Env.get,Nat.reduceEqDiff,↓reduceIte,hE]));(focus exact fz3 hT.fz k4 k4))
    |refine zW (aN hE (aN hjdx (aN q1 (aN q2 (aN q3 (aN c1' (aN c2' hs))))))) ?_
    exact ⟨i-(j+1),by omega,j+1,by omega,rfl,(rG hE)⟩
   ·repeat first
    |(apply M4 hb rfl;(focus (simp only [Env.evL,Env.ev,Env.get,Nat.reduceEqDiff,↓reduceIte,hE]));(focus exact fz3 hT.fz k4 k4))
    |refine zW (aN hE (aN hjdx (aN q1 (aN q2 (aN q3 (aN c1' c2')))))) ?_
    exact ⟨.inr trivial,_,rR,_,rfl,by simp⟩
  ·have c2':((nd t j).kind==13)=false:=by rw [beq_eq_false_iff_ne];exact c2
   try refine zW (aN hE (aN hjdx (aN q1 (aN q2 (aN q3 (aN c1' (aN c2' hs))))))) ?_
   exact ⟨i-(j+1),by omega,j+1,by omega,rfl,(rG hE)⟩
 ·have c1':((j:Int)<(i:Int))=False:=eq_false (by omega)
  try refine zW (aN hE c1') ?_
  exact ⟨.inr trivial,_,rR,_,rfl,fun _=>⟨fun h=>by omega,fun h=>by omega,fun h=>by omega,fun h=>by omega⟩⟩
theorem c6F {d:D} {t:List Nd} (hT:N7 d t) (hR:N6 t) {i:Nat} (hi:i<t.length) (hK:(nd t i).kind≠1/\(nd t i).kind≠2/\(nd t i).kind≠3/\(nd t i).kind≠13/\(nd t i).kind≠17):a3G 86 [d,.int .i64 (i:Int)] (a3i t i):=by
 refine a4O ?_
 have hidx:=hT.at (z:=(i:Int)) (by omega) (by omega) (k:=.i64)
 rw [Int.toNat_natCast] at hidx
 have hx:=hT.nd hi
 have hnode:=hR.ok.node i hi
 have hle:=hR.ok.le
 have o1:=FL.one hx.w
 have o2:=FL.one hx.n
 have o3:=FL.one hx.k
 have n1:((nd t i).kind==1)=false:=by rw [beq_eq_false_iff_ne];omega
 have n2:((nd t i).kind==2)=false:=by rw [beq_eq_false_iff_ne];omega
 have n3:((nd t i).kind==3)=false:=by rw [beq_eq_false_iff_ne];omega
 have n13:((nd t i).kind==13)=false:=by rw [beq_eq_false_iff_ne];omega
 have n17:((nd t i).kind==17)=false:=by rw [beq_eq_false_iff_ne];omega
 refine M6 (vf:=U7) rfl ?_
 unfold U7;refine zE ?_
 try refine zW (aN hidx (aN o1 (aN o2 (aN o3 (aN n1 (aN n2 (aN n3 (aN n13 n17)))))))) ?_
 exact ⟨.inr trivial,_,rR,_,rfl,fun _=>⟨fun h=>by omega,fun h=>by omega,fun h=>by omega,fun h=>by omega⟩⟩
theorem c4W {d:D} {t:List Nd} (hT:N7 d t) (hR:N6 t) {i:Nat} (hi:i<t.length):a3G 86 [d,.int .i64 (i:Int)] (a3i t i):=by
 by_cases k1:(nd t i).kind=1
 ·exact c0o hT hR hi k1
 by_cases k2:(nd t i).kind=2
 ·exact c6R hT hR hi k2
 by_cases k3:(nd t i).kind=3
 ·exact c4j hT hR hi k3
 by_cases k13:(nd t i).kind=13
 ·exact c1V hT hR hi k13
 by_cases k17:(nd t i).kind=17
 ·exact c1Z hT hR hi k17
 exact c6F hT hR hi ⟨k1,k2,k3,k13,k17⟩
theorem b8N {d:D} {t:List Nd} (hT:N7 d t) (hR:N6 t):a9p 58 [d] (a0s t/\a1h t):=by
 refine b4z ?_
 have hlen:=hT.len
 have hle:=hR.ok.le
 obtain ⟨e,a,hc,hp⟩:=c6Z hT hR
 obtain ⟨sc,hc⟩:=hc
 by_cases c0:e=0
 ·subst c0
  refine M6 (vf:=a6D) rfl ?_
  unfold a6D;refine zE ?_
  repeat first
  |(refine a2N rfl (fz1 hT.fz) hc rfl rfl ?_)
  |refine zW0 ?_
  refine W2 (Q:=N5 0 _) (fun n env s=>∃i:Nat,i<=t.length/\n=t.length-i/\(∀j,j<i->a3i t j)/\s.get 0=some (.cells [.int .i64 0,.int .i64 0])/\(env.get 0=d/\env.get 2=.ptr 0 0/\env.get 4=.int .i64 (i:Int))) ?_ t.length _ _ ⟨0,by omega,rfl,fun j h=>by omega,rfl,by simp [Env.get,P3.at];rfl⟩
  rintro n env s ⟨i,hi,rfl,hall,hg,hE⟩
  have hgl:=M5 hg
  by_cases c1:i<t.length
  ·have c1':((i:Int)<(t.length:Int))=True:=eq_true (by omega)
   have hs:IntKind.i64.wrap ((i:Int)+1)=((i+1:Nat):Int):=by rw [O7 (by omega) (by omega)];omega
   have hidx:=hT.at (z:=(i:Int)) (by omega) (by omega) (k:=.i64)
   rw [Int.toNat_natCast] at hidx
   have hx:=hT.nd c1
   have o1:=FL.one hx.w
   have o2:=FL.one hx.n
   have o3:=FL.one hx.k
   obtain ⟨e,hb,hq⟩:=c4W hT hR c1
   by_cases c2:e=0
   ·subst c2
    repeat first
    |(apply M4 hb rfl;(focus (simp only [Env.evL,Env.ev,Env.get,Nat.reduceEqDiff,↓reduceIte,hE]));(focus exact fz2 hT.fz k4))
    |refine zW (aN hE (aN hlen (aN c1' hs))) ?_
    refine ⟨t.length-(i+1),by omega,i+1,by omega,rfl,fun j h=>?_,hg,(rG hE)⟩
    by_cases e:j=i
    ·subst e;exact hq rfl
    ·exact hall j (by omega)
   ·have c2':(e != 0)=true:=by rw [bne_iff_ne];exact c2
    repeat first
    |(apply M4 hb rfl;(focus (simp only [Env.evL,Env.ev,Env.get,Nat.reduceEqDiff,↓reduceIte,hE]));(focus exact fz2 hT.fz k4))
    |refine zW (aN hE (aN hlen (aN c1' (aN c2' (aN hidx (aN o1 (aN o2 (aN o3 hg)))))))) ?_
    refine ⟨.inr trivial,_,?_,e,(nd t i).pos,rfl,fun h=>(c2 h).elim⟩
    simp only [V0,V4,W4,Env.get,Nat.reduceEqDiff,↓reduceIte,hE,S0 hgl]
    rfl
  ·have c1':((i:Int)<(t.length:Int))=False:=eq_false (by omega)
   try refine zW (aN hE (aN hlen (aN c1' hg))) ?_
   refine ⟨.inr trivial,_,?_,0,0,rfl,fun _=>⟨hp rfl,⟨fun j h=>hall j (by omega)⟩⟩⟩
   simp only [V0,V4,W4,Env.get,Nat.reduceEqDiff,↓reduceIte,hE,S0 hgl]
   rfl
 ·have c0':(e != 0)=true:=by rw [bne_iff_ne];exact c0
  refine M6 (vf:=a6D) rfl ?_
  unfold a6D;refine zE ?_
  repeat first
  |(refine a2N rfl (fz1 hT.fz) hc rfl rfl ?_)
  |refine zW c0' ?_
  exact ⟨.inr trivial,_,rR,e,a,rfl,fun h=>(c0 h).elim⟩
end Go.Proofs.YtnjlhebkhjcagaaGreat
namespace Go.V
def SN (s:f6) (sz:Nat) (d:D) (rows:List (List D)):Prop:=(d=.nils/\rows=[])∨(∃id,d=.arr id 0 rows.length sz/\s.get id=some (.cells rows.flatten))∨d=.lst sz rows
theorem SN.one {s:f6} {sz:Nat} {d:D} {rows:List (List D)} (h:SN s sz d rows):M8 d=true:=by
 rcases h with ⟨rfl,_⟩ | ⟨id,rfl,_⟩ | rfl<;>rfl
theorem SN.stay {s s':f6} {sz:Nat} {d:D} {rows:List (List D)} (h:SN s sz d rows) (hf:Fr [] s s'):SN s' sz d rows:=by
 rcases h with h | ⟨id,rfl,h⟩ | h
 ·exact .inl h
 ·exact .inr (.inl ⟨id,rfl,by rw [hf.2 id (M5 h) (by simp),h]⟩)
 ·exact .inr (.inr h)
theorem SN.len {s:f6} {sz:Nat} {d:D} {rows:List (List D)} (h:SN s sz d rows):V2 false d=some (.int .i64 (rows.length:Int)):=by
 rcases h with ⟨rfl,rfl⟩ | ⟨id,rfl,_⟩ | rfl<;>rfl
theorem SN.row {s:f6} {sz:Nat} {d:D} {rows:List (List D)} (h:SN s sz d rows) (hr:∀r∈rows,r.length=sz):Z8 s.get d=some rows.flatten/\a1U d=some rows.length/\a0J sz d=true:=by
 rcases h with ⟨rfl,rfl⟩ | ⟨id,rfl,h⟩ | rfl
 ·exact ⟨rfl,rfl,rfl⟩
 rotate_left
 ·exact ⟨rfl,rfl,by simp [a0J]⟩
 ·refine ⟨?_,rfl,by simp [a0J]⟩
  have hl:rows.flatten.length=rows.length*sz:=by
   clear h
   induction rows with
   | nil=>simp
   | cons a r ih =>
     rw [List.flatten_cons,List.length_append,ih fun x hx=>hr x (by simp [hx]),hr a (by simp),List.length_cons,Nat.succ_mul]
     omega
  simp only [Z8,h]
  rw [if_pos (by omega),List.drop_zero,List.take_of_length_le (by omega)]
theorem a6p {sz:Nat} {rows:List (List D)} (hr:∀r∈rows,r.length=sz):rows.flatten.length=rows.length*sz:=by
 induction rows with
 | nil=>simp
 | cons a r ih =>
   rw [List.flatten_cons,List.length_append,ih fun x hx=>hr x (by simp [hx]),hr a (by simp),List.length_cons,Nat.succ_mul]
   omega
theorem a4H {s:f6} {sz bytes id:Nat} {d:D} {old rows:List (List D)} (h:s.get id=some (.cells old.flatten)) (ho:∀r∈old,r.length=sz) (hd:SN s sz d rows) (hr:∀r∈rows,r.length=sz) (hb:bytes<=128) (hl:old.length+rows.length<=2 ^ 30) :
 ∃d' s',V3 sz bytes (.arr id 0 old.length sz) d s=some (d',s')/\∃id',d'=.arr id' 0 (old++rows).length sz/\s'.get id'=some (.cells (old++rows).flatten)/\Fr [id] s s'/\(id'=id∨s.next<=id'):=by
 have b1:(old.length+rows.length)*bytes<=2 ^ 45:=Nat.le_trans (Nat.mul_le_mul hl hb) (by decide)
 have b2:old.length+rows.length<=2 ^ 45:=Nat.le_trans hl (by decide)
 have b3:bytes<=2 ^ 20:=Nat.le_trans hb (by decide)
 obtain ⟨r1,r2,r3⟩:=hd.row hr
 have hf:=a6p ho
 by_cases hn:rows.length=0
 ·obtain rfl:=List.length_eq_zero_iff.1 hn
  refine ⟨.arr id 0 old.length sz,s,?_,id,by simp,by simpa using h,Fr.refl _ _,.inl rfl⟩
  unfold V3
  simp only [r1,r2,r3,b3,decide_true,Bool.and_self,if_true,h,Nat.zero_add,hf,and_self,List.length_nil]
 ·refine ⟨.arr s.next 0 (old.length+rows.length) sz,(s.set id none).push (.cells (old.flatten++rows.flatten)),?_,s.next,by simp,?_,(Fr.set _ (by simp)).thenPush _,.inr (Nat.le_refl _)⟩
  ·unfold V3
   simp only [r1,r2,r3,b3,decide_true,Bool.and_self,if_true,h,Nat.zero_add,hf,and_self,hn,if_false,b1,b2,List.drop_zero]
  ·rw [P0 (by simp),List.flatten_append]
theorem a1x {fs:FuncId->Option M3} {i t sz bytes a x rest s Q} {env:Env} {da dx:D} {Φ:D->f6->Prop} (hr:∃d s',V3 sz bytes da dx s=some (d,s')/\Φ d s') (ha:env.ev a=da) (hx:env.ev x=dx)
 (h:∀d s',Φ d s'->WQ fs [] rest ((t,d)::env) s' Q):WQ fs [] ((i,⟨some t,.m (.append sz bytes a x),none⟩)::rest) env s Q:=by
 obtain ⟨d,s',h1,h2⟩:=hr
 exact b0U ha hx h1 (h d s' h2)
theorem SN.of {s:f6} {sz id n:Nat} {rows:List (List D)} (h:s.get id=some (.cells rows.flatten)) (hn:rows.length=n):SN s sz (.arr id 0 n sz) rows:=.inr (.inl ⟨id,by rw [hn],h⟩)
theorem a5W:∀ {sz:Nat} {rows:List (List D)},(∀r∈rows,r.length=sz)->∀ {i f:Nat} (hi:i<rows.length),f<sz->rows.flatten[i*sz+f]?=rows[i][f]?
 | sz,[],_,i,f,hi,_=>by simp at hi
 | sz,a::r,hr,0,f,_,hf=>by
   rw [Nat.zero_mul,Nat.zero_add,List.flatten_cons,List.getElem?_append_left (by rw [hr a (by simp)];exact hf)]
   rfl
 | sz,a::r,hr,i+1,f,hi,hf=>by
   have ha:=hr a (by simp)
   rw [List.flatten_cons,List.getElem?_append_right (by rw [ha,Nat.succ_mul];omega),ha,show (i+1)*sz+f-sz=i*sz+f by rw [Nat.succ_mul];omega]
   exact a5W (fun x hx=>hr x (by simp [hx])) (by simpa using hi) hf
theorem SN.get1 {s:f6} {sz:Nat} {d:D} {rows:List (List D)} (h:SN s sz d rows) (hr:∀r∈rows,r.length=sz) {i:Nat} (hi:i<rows.length) {c:D} (hc:(rows[i])[0]?=some c) (ho:M8 c=true) (hz:0<sz):∃p,N2 sz d (.int .i64 (i:Int))=some p/\ldV s.get none p=some c/\∀id off,p=.ptr id off->id<s.next:=by
 rcases h with ⟨_,rfl⟩ | ⟨id,rfl,hg⟩ | rfl
 ·simp at hi
 ·refine ⟨.ptr id (i*sz),?_,?_,?_⟩
  ·simp only [N2]
   rw [if_pos ⟨trivial,by omega,by omega⟩]
   simp
  ·simp only [ldV,hg,a0z]
   have:=a5W hr hi (f:=0) hz
   rw [Nat.add_zero] at this
   rw [this,hc]
   simp [ho]
  ·rintro a b e
   cases e
   exact M5 hg
 ·refine ⟨.fp rows[i] 0,by simp [N2,hi],?_,by simp⟩
  simp only [ldV,a0z,hc,ho,if_true]
def P5 (l:List Nat):List (List D):=l.map fun (n:Nat)=>[.int .i64 (n:Int)]
def V1 (l:List Bool):List (List D):=l.map fun b=>[.bool b]
def X5 (l:List ByteArray):List (List D):=l.map fun x=>[.str x]
def U2 (l:List Ed):List (List D):=l.map Ed.row
theorem a33 (l:List Bool):∀r∈V1 l,r.length=1:=by intro r h;obtain ⟨b,_,rfl⟩:=List.mem_map.1 h;rfl
theorem a3K (l:List Ed):∀r∈U2 l,r.length=8:=by intro r h;obtain ⟨b,_,rfl⟩:=List.mem_map.1 h;rfl
@[simp] theorem a6h (l:List Bool):(V1 l).length=l.length:=by simp [V1]
@[simp] theorem a3c (l:List Ed):(U2 l).length=l.length:=by simp [U2]
theorem b5e (a b:List Bool):V1 (a++b)=V1 a++V1 b:=by simp [V1]
theorem b3g (a b:List Ed):U2 (a++b)=U2 a++U2 b:=by simp [U2]
structure PrD where
 dl:D
 dr:D
 de:D
 dn:D
 dv:D
def M1 (p:Pr) (x:PrD):List D:=[.str p.name,.int .i64 (p.copy:Int),x.dl,.int .i64 (p.places:Int),x.dr,x.de,x.dn,x.dv]
structure O2 (s:f6) (p:Pr) (x:PrD):Prop where
 l:SN s 1 x.dl (P5 p.locals)
 r:SN s 1 x.dr (V1 p.rest)
 e:SN s 8 x.de (U2 p.edges)
 n:SN s 1 x.dn (X5 p.names)
 v:SN s 1 x.dv (P5 p.vars)
theorem O2.stay {s s':f6} {p:Pr} {x:PrD} (h:O2 s p x) (hf:Fr [] s s'):O2 s' p x:=⟨h.l.stay hf,h.r.stay hf,h.e.stay hf,h.n.stay hf,h.v.stay hf⟩
theorem a2h (l:List Nat):∀r∈P5 l,r.length=1:=by intro r h;obtain ⟨b,_,rfl⟩:=List.mem_map.1 h;rfl
theorem a7c (l:List ByteArray):∀r∈X5 l,r.length=1:=by intro r h;obtain ⟨b,_,rfl⟩:=List.mem_map.1 h;rfl
@[simp] theorem a3P (l:List Nat):(P5 l).length=l.length:=by simp [P5]
@[simp] theorem a6Z (l:List ByteArray):(X5 l).length=l.length:=by simp [X5]
def a0C (l:List Ch):List (List D):=l.map Ch.row
theorem a8C (l:List Ch):∀r∈a0C l,r.length=5:=by intro r h;obtain ⟨b,_,rfl⟩:=List.mem_map.1 h;rfl
@[simp] theorem a5J (l:List Ch):(a0C l).length=l.length:=by simp [a0C]
structure MdX where
 dt:D
 dc:D
 dv:D
 dp:D
 ds:D
 g:Int
 b:Bool
def N8 (m:MdX):List D:=[m.dt,.int .i64 m.g,m.dc,m.dv,m.dp,m.ds,.bool m.b]
structure a0L (s:f6) (m:MdX) (t:List Nd) (ch:List Ch):Prop where
 tr:N7 m.dt t
 c:SN s 5 m.dc (a0C ch)
 ov:M8 m.dv=true
 op:M8 m.dp=true
 os:M8 m.ds=true
theorem a0L.stay {s s':f6} {m:MdX} {t:List Nd} {ch:List Ch} (h:a0L s m t ch) (hf:Fr [] s s'):a0L s' m t ch:=⟨h.tr,h.c.stay hf,h.ov,h.op,h.os⟩
structure S9 (p:Pr) (n:Nat):Prop where
 pl:p.places<=n
 rl:p.rest.length<=n
 el:p.edges.length<=n
end Go.V
namespace Go.V
variable {fs:FuncId->Option M3}
def WQT (fs:FuncId->Option M3) (pairs:List (Nat×Nat)) (R:List Nat) (ops:List (Nat×P1)) (env:Env) (s:f6) (Q:Env->f6->Prop):Prop :=
 ∀tr:List Tr,(∀x∈tr,x.pre=x.post/\∀id,x.rd=some id->id∈R)->WO fs pairs ops tr env s Q
theorem a9L {vars ops p pairs dr env s Q} (h:WQT fs (p::pairs) [] ops env s fun env' s'=>Q .normal (env'.keep vars) s'):WP fs vars (.region ⟨ops,p::pairs,dr⟩) env s Q:=a78 (h [] (by simp))
theorem a5K {R:List Nat} {pairs:List (Nat×Nat)} {tr:List Tr} {t:Tr} (h:∀x∈tr,x.pre=x.post/\∀id,x.rd=some id->id∈R) (ht:t.pre=t.post/\∀id,t.rd=some id->id∈R):∀x∈(if pairs.isEmpty then tr else t::tr),x.pre=x.post/\∀id,x.rd=some id->id∈R:=by
 split
 ·exact h
 ·intro x hx
  rcases List.mem_cons.1 hx with rfl | hx
  ·exact ht
  ·exact h x hx
theorem a8b {pairs R i t o rest s Q} {env:Env} {d:D} (hr:evP env o=some d) (h:WQT fs pairs R rest ((t,d)::env) s Q):WQT fs pairs R ((i,⟨some t,.p o,none⟩)::rest) env s Q:=by
 intro tr ht
 exact a1I rfl 0 (d:=d) (s':=s) (by simp only [Q0,hr,Option.map_some]) (a32 rfl fun t hm=>(ht t hm).1) (h _ (a5K ht ⟨rfl,by simp [W9]⟩))
theorem a8p {pairs R i t n x rest s Q} {env:Env} {d:D} {id off:Nat} (hx:env.ev x=.ptr id off) (hr:evR env s.get (.load n x)=some d) (h:WQT fs pairs (id::R) rest ((t,d)::env) s Q):WQT fs pairs R ((i,⟨some t,.r (.load n x),none⟩)::rest) env s Q:=by
 intro tr ht
 refine a1I rfl 0 (d:=d) (s':=s) (by simp only [Q0,hr,Option.map_some]) (a32 rfl fun t hm=>(ht t hm).1) (h _ (a5K (fun y hy=>⟨(ht y hy).1,fun id h=>List.mem_cons_of_mem _ ((ht y hy).2 id h)⟩) ⟨rfl,fun j hj=>?_⟩))
 simp only [W9,rdR,hx,Option.some.injEq] at hj
 simp [hj]
theorem c2P {pairs R i n a v rest s Q} {env:Env} {id:Nat} {ob:O3} (hr:evW env s.get n a v=some (id,ob)) (hid:id∉R) (hp:(rest.all fun o=>pairs.all fun p=>p.2 != o.1)=true) (h:WQ fs [] rest env (s.set id (some ob)) Q):WQT fs pairs R ((i,⟨none,.w n a v,none⟩)::rest) env s Q:=by
 intro tr ht
 refine a1I rfl 0 (d:=.tup []) (s':=s.set id (some ob)) (by simp only [Q0,hr]) ?_ ?_
 ·have key:∀ {l:List Tr},(∀x∈l,x.pre=x.post/\∀j,x.rd=some j->j∈R)->a0p pairs ⟨i,W9 env (.w n a v),s,s.set id (some ob)⟩ l=true:=by
   intro l
   induction l with
   | nil=>intro _;rfl
   | cons t r ih =>
     intro hl
     have h1:=hl t (by simp)
     have st1:Z7 s (s.set id (some ob)) t.rd=true:=by
      cases hrd:t.rd with
      | none=>rfl
      | some j =>
        have hj:=h1.2 j hrd
        have hne:j≠id:=fun e=>hid (e▸hj)
        simp only [Z7]
        rw [O5 hne]
        exact a6H _
     have st2:Z7 t.pre t.post (W9 env (.w n a v))=true:=by rw [h1.1];exact b6c _ _
     simp only [a0p,st1,st2,Bool.and_self,ite_self,Bool.true_and]
     exact ih fun x hx=>hl x (by simp [hx])
  exact key ht
 ·obtain ⟨m,env',s',h1,h2⟩:=h [] a7w
  exact ⟨m,env',s',a5l hp h1,h2⟩
theorem a93 {pairs R i t n x rest s Q} {env:Env} {d:D} {cs:List D} {off:Nat} (hx:env.ev x=.fp cs off) (hr:evR env s.get (.load n x)=some d) (h:WQT fs pairs R rest ((t,d)::env) s Q):WQT fs pairs R ((i,⟨some t,.r (.load n x),none⟩)::rest) env s Q:=by
 intro tr ht
 refine a1I rfl 0 (d:=d) (s':=s) (by simp only [Q0,hr,Option.map_some]) (a32 rfl fun t hm=>(ht t hm).1) (h _ (a5K ht ⟨rfl,fun j hj=>?_⟩))
 simp only [W9,rdR,hx] at hj
 cases hj
def a6f:D->List Nat
 | .ptr id _=>[id]
 | _=>[]
theorem b7Q {p:D} {id:Nat} (h:id∈a6f p):∃off,p=.ptr id off:=by
 cases p<;>simp [a6f] at h
 subst h
 exact ⟨_,rfl⟩
theorem b7K {pairs R i t n x rest s Q} {env:Env} {d p:D} (hl:ldV s.get n p=some d) (hx:env.ev x=p) (h:WQT fs pairs (a6f p++R) rest ((t,d)::env) s Q):WQT fs pairs R ((i,⟨some t,.r (.load n x),none⟩)::rest) env s Q:=by
 intro tr ht
 refine a1I rfl 0 (d:=d) (s':=s) (by simp only [Q0,a5v,hx,hl,Option.map_some]) (a32 rfl fun t hm=>(ht t hm).1) (h _ (a5K (fun y hy=>⟨(ht y hy).1,fun id h=>List.mem_append_right _ ((ht y hy).2 id h)⟩) ⟨rfl,fun j hj=>?_⟩))
 simp only [W9,rdR,hx] at hj
 refine List.mem_append_left _ ?_
 cases p<;>simp_all [a6f]
theorem b8O {pairs R i t f args rest s Q} {env:Env} {l:List D} {d:D} (hr:Ev fs f l s d s) (ha:env.evL args=l) (h:WQT fs pairs R rest ((t,d)::env) s Q):WQT fs pairs R ((i,⟨some t,.m (.call .raw (.cst (.fn f [])) args),none⟩)::rest) env s Q:=by
 subst ha
 obtain ⟨n,hn⟩:=hr
 intro tr ht
 exact a1I rfl n (d:=d) (s':=s) (by simp only [Q0,evM,a1d,Env.ev,List.append_nil];exact hn) (a32 rfl fun t hm=>(ht t hm).1) (h _ (a5K ht ⟨rfl,by simp [W9]⟩))
theorem b38 {pairs R i t f args rest s Q} {env:Env} {l:List D} {P:D->f6->Prop} (hr:EvP fs f l s P) (hP:∀d s',P d s'->Fr [] s s') (hR:∀id∈R,id<s.next) (hp:(rest.all fun o=>pairs.all fun p=>p.2 != o.1)=true) (ha:env.evL args=l)
 (h:∀d s',P d s'->WQ fs [] rest ((t,d)::env) s' Q):WQT fs pairs R ((i,⟨some t,.m (.call .raw (.cst (.fn f [])) args),none⟩)::rest) env s Q:=by
 subst ha
 obtain ⟨d,s',⟨n,hn⟩,hd⟩:=hr
 have hF:=hP d s' hd
 intro tr ht
 refine a1I rfl n (d:=d) (s':=s') (by simp only [Q0,evM,a1d,Env.ev,List.append_nil];exact hn) ?_ ?_
 ·have key:∀ {l:List Tr},(∀x∈l,x.pre=x.post/\∀j,x.rd=some j->j∈R)->a0p pairs ⟨i,none,s,s'⟩ l=true:=by
   intro l
   induction l with
   | nil=>intro _;rfl
   | cons t r ih =>
     intro hl
     have h1:=hl t (by simp)
     have st1:Z7 s s' t.rd=true:=by
      cases hrd:t.rd with
      | none=>rfl
      | some j =>
        have hj:=hR j (h1.2 j hrd)
        simp only [Z7]
        rw [hF.2 j hj (by simp)]
        exact a6H _
     have st2:Z7 t.pre t.post none=true:=rfl
     simp only [a0p,st1,st2,Bool.and_self,ite_self,Bool.true_and]
     exact ih fun x hx=>hl x (by simp [hx])
  exact key ht
 ·obtain ⟨m,env',s2,h1,h2⟩:=h d s' hd [] a7w
  exact ⟨m,env',s2,a5l hp h1,h2⟩
theorem W7 {pairs ops env s Q} {Φ:f6->Prop} (h:Φ s) (k:∀s',Φ s'->WQ fs pairs ops env s' Q):WQ fs pairs ops env s Q:=k s h
theorem b6a {pairs R ops env s Q} {Φ:f6->Prop} (h:Φ s) (k:∀s',Φ s'->WQT fs pairs R ops env s' Q):WQT fs pairs R ops env s Q:=k s h
theorem c4K {vars c env s Q} {Φ:f6->Prop} (h:Φ s) (k:∀s',Φ s'->WP fs vars c env s' Q):WP fs vars c env s Q:=k s h
theorem zT {F P Q:Prop} (f:F) (k:Q) (h:F->Q->P:=by
 intro f k
 (first|(with_reducible refine a9L ?_)|((with_reducible apply a8b);(focus (simp (disch:=(first|with_reducible assumption|omega|((repeat (first|rw [nP]|rw [nS]))<;>omega)|fail)) only [go_sem,Env.ev,Env.get,↓reduceIte,f]<;>rfl)))|((with_reducible apply a8p);(focus (simp only [Env.ev,Env.get,Nat.reduceEqDiff,↓reduceIte,P3.at,Nat.add_zero,Nat.zero_add,f]<;>rfl));(focus (simp (disch:=(first|with_reducible assumption|omega|((repeat (first|rw [nP]|rw [nS]))<;>omega)|fail)) only [go_sem,Env.ev,Env.get,↓reduceIte,f]<;>rfl)))|((with_reducible apply a93);(focus (simp only [Env.ev,Env.get,Nat.reduceEqDiff,↓reduceIte,P3.at,Nat.add_zero,Nat.zero_add,f]<;>rfl));(focus (simp (disch:=(first|with_reducible assumption|omega|((repeat (first|rw [nP]|rw [nS]))<;>omega)|fail)) only [go_sem,Env.ev,Env.get,↓reduceIte,f]<;>rfl)))|(with_reducible first|apply vA|apply vB|apply vC)|((with_reducible apply vD);(focus rfl))|((with_reducible first|apply vE|apply vF|apply vG|apply vH);simp only [Env.keep,Env.get,Env.ev,List.map,Nat.reduceEqDiff,↓reduceIte,P7,N5])|((with_reducible first|apply vI|apply vJ|apply vK|apply vL|apply vM|apply vN);(focus (simp (disch:=(first|with_reducible assumption|omega|((repeat (first|rw [nP]|rw [nS]))<;>omega)|fail)) only [go_sem,Env.ev,Env.get,↓reduceIte,f]<;>rfl));(first|(with_reducible (first|apply vO|apply vP|apply vQ|apply vR|apply vS|apply vT|apply vU);try simp only [Env.put])|with_reducible refine (?_:WQ _ _ _ _ _ _))))
 repeat (first|(with_reducible refine a9L ?_)|((with_reducible apply a8b);(focus (simp (disch:=(first|with_reducible assumption|omega|((repeat (first|rw [nP]|rw [nS]))<;>omega)|fail)) only [go_sem,Env.ev,Env.get,↓reduceIte,f]<;>rfl)))|((with_reducible apply a8p);(focus (simp only [Env.ev,Env.get,Nat.reduceEqDiff,↓reduceIte,P3.at,Nat.add_zero,Nat.zero_add,f]<;>rfl));(focus (simp (disch:=(first|with_reducible assumption|omega|((repeat (first|rw [nP]|rw [nS]))<;>omega)|fail)) only [go_sem,Env.ev,Env.get,↓reduceIte,f]<;>rfl)))|((with_reducible apply a93);(focus (simp only [Env.ev,Env.get,Nat.reduceEqDiff,↓reduceIte,P3.at,Nat.add_zero,Nat.zero_add,f]<;>rfl));(focus (simp (disch:=(first|with_reducible assumption|omega|((repeat (first|rw [nP]|rw [nS]))<;>omega)|fail)) only [go_sem,Env.ev,Env.get,↓reduceIte,f]<;>rfl)))|(with_reducible first|apply vA|apply vB|apply vC)|((with_reducible apply vD);(focus rfl))|((with_reducible first|apply vE|apply vF|apply vG|apply vH);simp only [Env.keep,Env.get,Env.ev,List.map,Nat.reduceEqDiff,↓reduceIte,P7,N5])|((with_reducible first|apply vI|apply vJ|apply vK|apply vL|apply vM|apply vN);(focus (simp (disch:=(first|with_reducible assumption|omega|((repeat (first|rw [nP]|rw [nS]))<;>omega)|fail)) only [go_sem,Env.ev,Env.get,↓reduceIte,f]<;>rfl));(first|(with_reducible (first|apply vO|apply vP|apply vQ|apply vR|apply vS|apply vT|apply vU);try simp only [Env.put])|with_reducible refine (?_:WQ _ _ _ _ _ _))))
 exact k):P:=h f k
end Go.V
namespace Go.Proofs.YtnjlhebkhjcagaaGreat
open Go.V
set_option maxRecDepth 100000
set_option maxHeartbeats 4000000
theorem a5T {s:f6} {p:Pr} {x:PrD} (hp:O2 s p x) (hl:S9 p 1000000) :
 EvP vfs 89 [.agg (M1 p x)] s fun r s'=>∃x',r=.tup [.agg (M1 p.place x'),.int .i64 (p.places:Int)]/\Fr [] s s'/\O2 s' p.place x':=by
 have o1:=hp.l.one
 have o2:=hp.r.one
 have o3:=hp.e.one
 have o4:=hp.n.one
 have o5:=hp.v.one
 have hpl:=hl.pl
 have hrl:=hl.rl
 have e1:IntKind.i64.wrap ((p.places:Int)+1)=((p.places+1:Nat):Int):=by rw [O7 (by omega) (by omega)];omega
 have e2:IntKind.i64.wrap (((p.places+1:Nat):Int)-1)=(p.places:Int):=by rw [O7 (by omega) (by omega)];omega
 unfold M1
 refine M6 (vf:=a84) rfl ?_
 unfold a84;refine zE ?_
 try refine zW (aN o1 (aN o2 (aN o3 (aN o4 (aN o5 e1))))) ?_
 refine a1x (a4H (old:=[]) (rows:=V1 p.rest) (sz:=1) (bytes:=1) (d:=x.dr) ?_ (by simp) ?_ (a33 _) (by decide) (by simp;omega)) rfl rfl ?_
 ·exact P0 rfl
 ·exact hp.r.stay ((((Fr.push _).thenPush _).thenSet _ (.inr (Nat.le_refl _))).thenPush _)
 rintro d1 s1 ⟨id1,rfl,k1,f1,g1⟩
 have fr1:Fr [] s s1:=Fr.trans ((((Fr.push _).thenPush _).thenSet _ (.inr (Nat.le_refl _))).thenPush _) f1 (by simp;omega)
 have n1:=f1.1
 have kb:=f1.2 s.next (by simp only [f6.next_push,f6.next_set];omega) (by simp only [f6.next_push,f6.next_set,List.mem_singleton];omega)
 have kz:=f1.2 (s.next+1) (by simp only [f6.next_push,f6.next_set];omega) (by simp only [f6.next_push,f6.next_set,List.mem_singleton];omega)
 simp only [f6.next_push,f6.next_set] at n1 g1
 rw [U5 (by simp only [f6.next_push,f6.next_set];omega),S0 (by simp only [f6.next_push];omega)] at kb
 rw [U5 (by simp only [f6.next_push,f6.next_set];omega),O5 (by omega),P0 (by simp only [f6.next_push])] at kz
 have hid1:s.next+2<=id1:=by omega
 clear f1 g1
 rw [List.nil_append] at k1
 simp only [List.nil_append,a6h]
 have lid:=M5 k1
 try refine zW0 ?_
 refine a1x (a4H (old:=V1 p.rest) (rows:=V1 [false]) (sz:=1) (bytes:=1) (d:=.arr s1.next 0 1 1) ?_ (a33 _) (SN.of (P0 rfl) rfl) (a33 _) (by decide) (by simp;omega)) (by rw [a6h];rfl) rfl ?_
 ·rw [U5 lid,k1]
 rintro d2 s2 ⟨id2,rfl,k2,f2,g2⟩
 have fr2:Fr [] s s2:=(fr1.thenPush _).trans f2 (by simp;omega)
 have n2:=f2.1
 have kb2:=f2.2 s.next (by simp only [f6.next_push];omega) (by simp only [List.mem_singleton];omega)
 have kz2:=f2.2 (s.next+1) (by simp only [f6.next_push];omega) (by simp only [List.mem_singleton];omega)
 simp only [f6.next_push] at n2 g2
 rw [U5 (by omega),kb] at kb2
 rw [U5 (by omega),kz] at kz2
 have hid2:s.next+2<=id2:=by omega
 clear f2 g2 kb kz
 rw [<- b5e] at k2
 rw [<- b5e,a6h]
 have lid2:=M5 k2
 try refine zT (aN kb2 (aN kz2 (aN o1 (aN o3 (aN o4 (aN o5 e2)))))) ?_
 refine c2P (id:=s.next+1) (ob:=.cells [.str p.name,.int .i64 (p.copy:Int),x.dl,.int .i64 ((p.places+1:Nat):Int),.arr id2 0 (p.rest++[false]).length 1,x.de,x.dn,x.dv]) ?_ (by simp) rfl ?_
 ·simp (disch:=(first|with_reducible assumption|omega|((repeat (first|rw [nP]|rw [nS]))<;>omega)|fail)) only [go_sem,Env.ev,Env.get,↓reduceIte,kz2,o1,o3,o4,o5]
 try refine zW0 ?_
 have fr3:Fr [] s ((s2.set s.next (some (.cells [.str p.name,.int .i64 (p.copy:Int),x.dl,.int .i64 ((p.places+1:Nat):Int),.arr id2 0 (p.rest++[false]).length 1,x.de,x.dn,x.dv]))).set (s.next+1) (some (.cells [.str p.name,.int .i64 (p.copy:Int),x.dl,.int .i64 ((p.places+1:Nat):Int),.arr id2 0 (p.rest++[false]).length 1,x.de,x.dn,x.dv]))):=(fr2.thenSet _ (.inr (Nat.le_refl _))).thenSet _ (.inr (Nat.le_succ _))
 refine ⟨.inr trivial,_,?_,⟨x.dl,.arr id2 0 (p.rest++[false]).length 1,x.de,x.dn,x.dv⟩,rfl,fr3,?_⟩
 ·simp only [V0,V4,W4,Env.get,Nat.reduceEqDiff,↓reduceIte,P3.at,f6.next_push,S0 (s:=s2.set s.next _) (i:=s.next+1) (by simp only [f6.next_set];omega)]
  rfl
 refine ⟨hp.l.stay fr3,SN.of ?_ (by simp [Pr.place]),hp.e.stay fr3,hp.n.stay fr3,hp.v.stay fr3⟩
 rw [O5 (by omega),O5 (by omega),k2]
 rfl
end Go.Proofs.YtnjlhebkhjcagaaGreat
namespace Go.Proofs.YtnjlhebkhjcagaaGreat
open Go.V
set_option maxRecDepth 100000
set_option maxHeartbeats 4000000
theorem a1S {s:f6} {p:Pr} {x:PrD} (hp:O2 s p x) (hl:S9 p 1000000) {frm to act node:Nat} {expr v c:Int} :
 EvP vfs 87 [.agg (M1 p x),.int .i64 (frm:Int),.int .i64 (to:Int),.int .i64 (act:Int),.int .i64 (node:Int),.int .i64 expr,.int .i64 v,.int .i64 c] s fun r s'=>∃x',r=.agg (M1 (p.put frm to act node expr v c) x')/\Fr [] s s'/\O2 s' (p.put frm to act node expr v c) x'/\∃id,x'.de=.arr id 0 (p.put frm to act node expr v c).edges.length 8/\s.next<=id:=by
 have o1:=hp.l.one
 have o2:=hp.r.one
 have o3:=hp.e.one
 have o4:=hp.n.one
 have o5:=hp.v.one
 have hel:=hl.el
 unfold M1
 refine M6 (vf:=b09) rfl ?_
 unfold b09;refine zE ?_
 try refine zW (aN o1 (aN o2 (aN o3 (aN o4 o5)))) ?_
 refine a1x (a4H (old:=[]) (rows:=U2 p.edges) (sz:=8) (bytes:=64) (d:=x.de) ?_ (by simp) ?_ (a3K _) (by decide) (by simp;omega)) rfl rfl ?_
 ·exact P0 rfl
 ·exact hp.e.stay (((Fr.push _).thenPush _).thenPush _)
 rintro d1 s1 ⟨id1,rfl,k1,f1,g1⟩
 have fr1:Fr [] s s1:=Fr.trans (((Fr.push _).thenPush _).thenPush _) f1 (by simp;omega)
 have n1:=f1.1
 have kb:=f1.2 s.next (by simp only [f6.next_push];omega) (by simp only [f6.next_push,List.mem_singleton];omega)
 have kz:=f1.2 (s.next+1) (by simp only [f6.next_push];omega) (by simp only [f6.next_push,List.mem_singleton];omega)
 simp only [f6.next_push] at n1 g1
 rw [U5 (by simp only [f6.next_push];omega),U5 (by simp only [f6.next_push];omega),P0 rfl] at kb
 rw [U5 (by simp only [f6.next_push];omega),P0 (by simp only [f6.next_push])] at kz
 have hid1:s.next+2<=id1:=by omega
 clear f1 g1
 rw [List.nil_append] at k1
 simp only [List.nil_append,a3c]
 have lid:=M5 k1
 try refine zW0 ?_
 refine a1x (a4H (old:=U2 p.edges) (rows:=U2 [⟨frm,to,act,expr,v,c,false,node⟩]) (sz:=8) (bytes:=64) (d:=.arr s1.next 0 1 8) ?_ (a3K _) (SN.of (P0 rfl) rfl) (a3K _) (by decide) (by simp;omega)) (by rw [a3c];rfl) rfl ?_
 ·rw [U5 lid,k1]
 rintro d2 s2 ⟨id2,rfl,k2,f2,g2⟩
 have fr2:Fr [] s s2:=(fr1.thenPush _).trans f2 (by simp;omega)
 have n2:=f2.1
 have kb2:=f2.2 s.next (by simp only [f6.next_push];omega) (by simp only [List.mem_singleton];omega)
 have kz2:=f2.2 (s.next+1) (by simp only [f6.next_push];omega) (by simp only [List.mem_singleton];omega)
 simp only [f6.next_push] at n2 g2
 rw [U5 (by omega),kb] at kb2
 rw [U5 (by omega),kz] at kz2
 have hid2:s.next+2<=id2:=by omega
 clear f2 g2 kb kz
 rw [<- b3g] at k2
 rw [<- b3g,a3c]
 have lid2:=M5 k2
 try refine zW (aN kb2 (aN kz2 (aN o1 (aN o2 (aN o4 o5))))) ?_
 generalize hrow:[D.str p.name,.int .i64 (p.copy:Int),x.dl,.int .i64 (p.places:Int),x.dr,.arr id2 0 (p.edges++[(⟨frm,to,act,expr,v,c,false,node⟩:Ed)]).length 8,x.dn,x.dv]=row
 have fr3:Fr [] s ((s2.set s.next (some (.cells row))).set (s.next+1) (some (.cells row))):=(fr2.thenSet _ (.inr (Nat.le_refl _))).thenSet _ (.inr (Nat.le_succ _))
 refine ⟨.inr trivial,_,?_,⟨x.dl,x.dr,.arr id2 0 (p.edges++[(⟨frm,to,act,expr,v,c,false,node⟩:Ed)]).length 8,x.dn,x.dv⟩,rfl,fr3,?_,id2,rfl,by omega⟩
 ·simp only [V0,V4,W4,Env.get,Nat.reduceEqDiff,↓reduceIte,P3.at,f6.next_push,S0 (s:=s2.set s.next _) (i:=s.next+1) (by simp only [f6.next_set];omega)]
  rw [<- hrow]
  rfl
 refine ⟨hp.l.stay fr3,hp.r.stay fr3,SN.of ?_ (by simp [Pr.put]),hp.n.stay fr3,hp.v.stay fr3⟩
 rw [O5 (by omega),O5 (by omega),k2]
 rfl
theorem b7z (l:List Bool) (i:Nat) (b:Bool):(V1 l).flatten.set i (.bool b)=(V1 (l.set i b)).flatten:=by
 have key:∀l:List Bool,(V1 l).flatten=l.map .bool:=by
  intro l
  induction l with
  | nil=>rfl
  | cons a r ih=>simp only [V1,List.map_cons,List.flatten_cons] at ih ⊢;rw [ih];rfl
 rw [key,key,List.map_set]
theorem b4m (l:List Bool):(V1 l).flatten.length=l.length:=by rw [a6p (a33 l),a6h,Nat.mul_one]
theorem a9R {s:f6} {p:Pr} {x:PrD} (hp:O2 s p x) (hl:S9 p 1000000) {n:Nat} (hn:n<p.rest.length) {is:Int} :
 EvP vfs 114 [.agg (M1 p x),.int .i64 (n:Int),.int .i64 is] s fun r s'=>∃x',r=.agg (M1 (p.idle n is) x')/\Fr [] s s'/\O2 s' (p.idle n is) x':=by
 have o1:=hp.l.one
 have o2:=hp.r.one
 have o3:=hp.e.one
 have o4:=hp.n.one
 have o5:=hp.v.one
 have hrl:=hl.rl
 unfold M1
 refine M6 (vf:=a8O) rfl ?_
 unfold a8O;refine zE ?_
 try refine zW (aN o1 (aN o2 (aN o3 (aN o4 o5)))) ?_
 refine a1x (a4H (old:=[]) (rows:=V1 p.rest) (sz:=1) (bytes:=1) (d:=x.dr) ?_ (by simp) ?_ (a33 _) (by decide) (by simp;omega)) rfl rfl ?_
 ·exact P0 rfl
 ·exact hp.r.stay (((Fr.push _).thenPush _).thenPush _)
 rintro d1 s1 ⟨id1,rfl,k1,f1,g1⟩
 have fr1:Fr [] s s1:=Fr.trans (((Fr.push _).thenPush _).thenPush _) f1 (by simp;omega)
 have n1:=f1.1
 have kb:=f1.2 s.next (by simp only [f6.next_push];omega) (by simp only [f6.next_push,List.mem_singleton];omega)
 have kz:=f1.2 (s.next+1) (by simp only [f6.next_push];omega) (by simp only [f6.next_push,List.mem_singleton];omega)
 simp only [f6.next_push] at n1 g1
 rw [U5 (by simp only [f6.next_push];omega),U5 (by simp only [f6.next_push];omega),P0 rfl] at kb
 rw [U5 (by simp only [f6.next_push];omega),P0 (by simp only [f6.next_push])] at kz
 have hid1:s.next+2<=id1:=by omega
 clear f1 g1
 rw [List.nil_append] at k1
 simp only [List.nil_append,a6h]
 have lid:=M5 k1
 by_cases c:is=1
 ·have c':(is==1)=true:=by rw [c];rfl
  have hnl:((n:Int)<(p.rest.length:Int)):=by omega
  have hi:N2 1 (.arr id1 0 p.rest.length 1) (.int .i64 (n:Int))=some (.ptr id1 n):=by
   simp only [N2]
   rw [if_pos ⟨trivial,by omega,by omega⟩]
   simp
  repeat first
  |(refine a7B (x:=.bool true) k1 (n:=n) (by rw [b4m];omega) rfl ?_ rfl ?_;(focus (simp only [Env.ev,Env.get,Nat.reduceEqDiff,↓reduceIte])))
  |refine zW (aN c' hi) ?_
  have kb1:(s1.set id1 (some (.cells ((V1 p.rest).flatten.set n (.bool true))))).get s.next=some (.cells [.str p.name,.int .i64 (p.copy:Int),x.dl,.int .i64 (p.places:Int),x.dr,x.de,x.dn,x.dv]):=by rw [O5 (by omega),kb]
  have kz1:=O5 (s:=s1) (o:=some (.cells ((V1 p.rest).flatten.set n (.bool true)))) (i:=s.next+1) (id:=id1) (by omega)
  rw [kz] at kz1
  try refine zW (aN kb1 (aN kz1 (aN o1 (aN o3 (aN o4 o5))))) ?_
  generalize hrow:[D.str p.name,.int .i64 (p.copy:Int),x.dl,.int .i64 (p.places:Int),.arr id1 0 p.rest.length 1,x.de,x.dn,x.dv]=row
  have fr3:Fr [] s (((s1.set id1 (some (.cells ((V1 p.rest).flatten.set n (.bool true))))).set s.next (some (.cells row))).set (s.next+1) (some (.cells row))):=((fr1.thenSet _ (.inr (by omega))).thenSet _ (.inr (Nat.le_refl _))).thenSet _ (.inr (Nat.le_succ _))
  have hid:p.idle n is={ p with rest:=p.rest.set n true }:=by unfold Pr.idle;rw [if_pos c]
  rw [hid]
  refine ⟨.inr trivial,_,?_,⟨x.dl,.arr id1 0 p.rest.length 1,x.de,x.dn,x.dv⟩,rfl,fr3,?_⟩
  ·simp only [V0,V4,W4,Env.get,Nat.reduceEqDiff,↓reduceIte,P3.at,f6.next_push,S0 (i:=s.next+1) (s:=(s1.set id1 _).set s.next _) (by simp only [f6.next_set];omega)]
   rw [<- hrow]
   rfl
  refine ⟨hp.l.stay fr3,SN.of ?_ (by simp),hp.e.stay fr3,hp.n.stay fr3,hp.v.stay fr3⟩
  rw [O5 (by omega),O5 (by omega),S0 lid,b7z]
 ·have c':(is==1)=false:=by rw [beq_eq_false_iff_ne];exact c
  try refine zW (aN c' (aN kb (aN kz (aN o1 (aN o3 (aN o4 o5)))))) ?_
  generalize hrow:[D.str p.name,.int .i64 (p.copy:Int),x.dl,.int .i64 (p.places:Int),.arr id1 0 p.rest.length 1,x.de,x.dn,x.dv]=row
  have fr3:Fr [] s ((s1.set s.next (some (.cells row))).set (s.next+1) (some (.cells row))):=(fr1.thenSet _ (.inr (Nat.le_refl _))).thenSet _ (.inr (Nat.le_succ _))
  have hid:p.idle n is=p:=by unfold Pr.idle;rw [if_neg c]
  rw [hid]
  refine ⟨.inr trivial,_,?_,⟨x.dl,.arr id1 0 p.rest.length 1,x.de,x.dn,x.dv⟩,rfl,fr3,?_⟩
  ·simp only [V0,V4,W4,Env.get,Nat.reduceEqDiff,↓reduceIte,P3.at,f6.next_push,S0 (i:=s.next+1) (s:=s1.set s.next _) (by simp only [f6.next_set];omega)]
   rw [<- hrow]
   rfl
  refine ⟨hp.l.stay fr3,SN.of ?_ (by simp),hp.e.stay fr3,hp.n.stay fr3,hp.v.stay fr3⟩
  rw [O5 (by omega),O5 (by omega),k1]
end Go.Proofs.YtnjlhebkhjcagaaGreat
namespace Go.Proofs.YtnjlhebkhjcagaaGreat
open Go.V
set_option maxRecDepth 100000
set_option maxHeartbeats 4000000
theorem b0b {l:List ByteArray} {x:ByteArray} {i:Nat} (h:i<l.length) (hx:l[i]=x) (hb:∀j (hj:j<l.length),j<i->l[j]≠x):a0i l x=i:=by
 have:l.findIdx (fun y=>decide (y=x))=i:=by
  rw [List.findIdx_eq h]
  exact ⟨by simpa using hx,fun j hj=>by simpa using hb j (by omega) hj⟩
 unfold a0i
 rw [this,if_pos h]
theorem b5W {l:List ByteArray} {x:ByteArray} (hb:∀j (hj:j<l.length),l[j]≠x):a0i l x=0:=by
 unfold a0i
 rw [if_neg]
 rw [List.findIdx_lt_length]
 rintro ⟨y,hy,e⟩
 obtain ⟨j,hj,rfl⟩:=List.getElem_of_mem hy
 exact hb j hj (by simpa using e)
theorem b2j {s:f6} {d:D} {l:List ByteArray} {x:ByteArray} (hd:SN s 1 d (X5 l)) (hl:l.length<=1000000):Ev vfs 112 [d,.str x] s (.int .i64 (a0i l x:Int)) s:=by
 have hlen:=hd.len
 rw [a6Z] at hlen
 refine a6A (vf:=b0Q) rfl ?_
 unfold b0Q;refine zE ?_
 try refine zW0 ?_
 refine W2 (Q:=N5 0 _) (fun n env s1=>∃i:Nat,i<=l.length/\n=l.length-i/\(∀j (hj:j<l.length),j<i->l[j]≠x)/\s1=s/\(env.get 0=d/\env.get 1=.str x/\env.get 5=.int .i64 (i:Int))) ?_ l.length _ _ ⟨0,by omega,rfl,fun j _ h=>by omega,rfl,by simp [Env.get]⟩
 rintro n env s1 ⟨i,hi,rfl,hno,rfl,hE⟩
 by_cases c1:i<l.length
 ·have c1':((i:Int)<(l.length:Int))=True:=eq_true (by omega)
  have hs:IntKind.i64.wrap ((i:Int)+1)=((i+1:Nat):Int):=by rw [O7 (by omega) (by omega)];omega
  obtain ⟨pp,p1,p2,-⟩:=hd.get1 (a7c l) (i:=i) (c:=.str l[i]) (by simpa using c1) (by simp [X5]) rfl (by decide)
  by_cases c2:l[i]=x
  ·have hf:=b0b c1 c2 hno
   try refine zW (aN hE (aN hlen (aN c1' (aN p1 (aN p2 c2))))) ?_
   exact ⟨.inr trivial,trivial,by rw [hf];simp only [V0,V4,W4,Env.get,Nat.reduceEqDiff,↓reduceIte,hE]⟩
  ·try refine zW (aN hE (aN hlen (aN c1' (aN p1 (aN p2 (aN c2 hs)))))) ?_
   refine ⟨l.length-(i+1),by omega,i+1,by omega,rfl,fun j hj hji=>?_,trivial,(rG hE)⟩
   by_cases e:j=i
   ·subst e;exact c2
   ·exact hno j hj (by omega)
 ·have c1':((i:Int)<(l.length:Int))=False:=eq_false (by omega)
  have hf:=b5W (l:=l) (x:=x) fun j hj=>hno j hj (by omega)
  try refine zW (aN hE (aN hlen c1')) ?_
  exact ⟨.inr trivial,trivial,by rw [hf];rfl⟩
theorem b55 {s:f6} {m:MdX} {t:List Nd} {ch:List Ch} {x:ByteArray} (hm:a0L s m t ch) (hl:ch.length<=1000000) :
 EvP vfs 113 [.agg (N8 m),.str x] s fun r s'=>r=.int .i64 (a0i (ch.map Ch.name) x:Int)/\Fr [] s s':=by
 have hlen:=hm.c.len
 rw [a5J] at hlen
 have o0:=FL.one hm.tr.fl
 have o1:=hm.c.one
 have o2:=hm.ov
 have o3:=hm.op
 have o4:=hm.os
 unfold N8
 refine M6 (vf:=a8e) rfl ?_
 unfold a8e;refine zE ?_
 try refine zW (aN o0 (aN o1 (aN o2 (aN o3 o4)))) ?_
 have hg0:(s.push (.cells [m.dt,.int .i64 m.g,m.dc,m.dv,m.dp,m.ds,.bool m.b])).get s.next=some (.cells [m.dt,.int .i64 m.g,m.dc,m.dv,m.dp,m.ds,.bool m.b]):=P0 rfl
 have hc:=hm.c.stay (Fr.push (ids:=[]) (s:=s) (.cells [m.dt,.int .i64 m.g,m.dc,m.dv,m.dp,m.ds,.bool m.b]))
 have fr:=Fr.push (ids:=[]) (s:=s) (.cells [m.dt,.int .i64 m.g,m.dc,m.dv,m.dp,m.ds,.bool m.b])
 generalize s.push (.cells [m.dt,.int .i64 m.g,m.dc,m.dv,m.dp,m.ds,.bool m.b])=s1 at *
 refine W2 (Q:=N5 0 _) (fun n env s2=>∃i:Nat,i<=ch.length/\n=ch.length-i/\(∀j (hj:j<(ch.map Ch.name).length),j<i->(ch.map Ch.name)[j]≠x)/\s2=s1/\(env.get 1=.str x/\env.get 2=.ptr s.next 0/\env.get 5=.int .i64 (i:Int))) ?_ ch.length _ _ ⟨0,by omega,rfl,fun j _ h=>by omega,rfl,by simp [Env.get,P3.at]⟩
 rintro n env s2 ⟨i,hi,rfl,hno,rfl,hE⟩
 by_cases c1:i<ch.length
 ·have c1':((i:Int)<(ch.length:Int))=True:=eq_true (by omega)
  have hs:IntKind.i64.wrap ((i:Int)+1)=((i+1:Nat):Int):=by rw [O7 (by omega) (by omega)];omega
  rcases hc with ⟨_,h0⟩ | ⟨id,hdc,hg⟩ | hdc
  ·have:=congrArg List.length h0
   rw [a5J,List.length_nil] at this
   omega
  ·have hq:(a0C ch).flatten[i*5]?=some (.str ch[i].name):=by
    have:=a5W (a8C ch) (i:=i) (f:=0) (by simpa using c1) (by decide)
    rw [Nat.add_zero] at this
    rw [this]
    simp [a0C,Ch.row]
   rw [a5J] at hdc
   have hnm:(ch.map Ch.name)[i]'(by simpa using c1)=ch[i].name:=by simp
   rw [hdc] at hg0 hlen o1
   by_cases c2:ch[i].name=x
   ·have hf:=b0b (l:=ch.map Ch.name) (i:=i) (by simpa using c1) (by rw [hnm];exact c2) hno
    try refine zW (aN hE (aN hg0 (aN o0 (aN o1 (aN o2 (aN o3 (aN o4 (aN hlen (aN c1' (aN hg (aN hq c2))))))))))) ?_
    exact ⟨.inr trivial,_,rR,by rw [hf],fr⟩
   ·try refine zW (aN hE (aN hg0 (aN o0 (aN o1 (aN o2 (aN o3 (aN o4 (aN hlen (aN c1' (aN hg (aN hq (aN c2 hs)))))))))))) ?_
    refine ⟨ch.length-(i+1),by omega,i+1,by omega,rfl,fun j hj hji=>?_,trivial,(rG hE)⟩
    by_cases e:j=i
    ·subst e;rw [hnm];exact c2
    ·exact hno j hj (by omega)
  ·have hnm:(ch.map Ch.name)[i]'(by simpa using c1)=ch[i].name:=by simp
   have hix:N2 5 m.dc (.int .i64 (i:Int))=some (.fp [.str ch[i].name,.int .i64 ch[i].room,.int .i64 ch[i].width,.bool ch[i].lossy,.bool ch[i].copying] 0):=by
    rw [hdc]
    simp [N2,a0C,c1,Ch.row]
   by_cases c2:ch[i].name=x
   ·have hf:=b0b (l:=ch.map Ch.name) (i:=i) (by simpa using c1) (by rw [hnm];exact c2) hno
    try refine zW (aN hE (aN hg0 (aN o0 (aN o1 (aN o2 (aN o3 (aN o4 (aN hlen (aN c1' (aN hix c2)))))))))) ?_
    exact ⟨.inr trivial,_,rR,by rw [hf],fr⟩
   ·try refine zW (aN hE (aN hg0 (aN o0 (aN o1 (aN o2 (aN o3 (aN o4 (aN hlen (aN c1' (aN hix (aN c2 hs))))))))))) ?_
    refine ⟨ch.length-(i+1),by omega,i+1,by omega,rfl,fun j hj hji=>?_,trivial,(rG hE)⟩
    by_cases e:j=i
    ·subst e;rw [hnm];exact c2
    ·exact hno j hj (by omega)
 ·have c1':((i:Int)<(ch.length:Int))=False:=eq_false (by omega)
  have hf:=b5W (l:=ch.map Ch.name) (x:=x) fun j hj=>hno j hj (by simp at hj;omega)
  try refine zW (aN hE (aN hg0 (aN o0 (aN o1 (aN o2 (aN o3 (aN o4 (aN hlen c1')))))))) ?_
  exact ⟨.inr trivial,_,rR,by rw [hf];rfl,fr⟩
end Go.Proofs.YtnjlhebkhjcagaaGreat
namespace Go.V
def KF (t:List Nd) (g:Nat) (ks:List Int) (a n:Nat):Prop:=a2m (R7 t g) t.length ks a=(n,true)
theorem KF.cons {t:List Nd} {g:Nat} {z:Int} {zs:List Int} {a n:Nat} (h:KF t g (z::zs) a n):z=(a:Int)/\a<t.length/\∃b,R7 t g a=(b,true)/\a<b/\b<=t.length/\KF t g zs b n:=by
 unfold KF a2m at h
 split at h
 ·simp at h
 ·rename_i hc
  split at h
  ·rename_i ht
   have ha:a<t.length:=by omega
   have hw:R7 t g a=((R7 t g a).1,true):=by rw [<- ht]
   have hs:=(a2W g ha hw).1
   exact ⟨by omega,ha,(R7 t g a).1,hw,hs.lt,hs.le,h⟩
  ·simp at h
theorem KF.nil {t:List Nd} {g:Nat} {a n:Nat} (h:KF t g [] a n):n=a:=by
 simp only [KF,a2m,Prod.mk.injEq,and_true] at h
 exact h.symm
theorem KF.le {t:List Nd} {g:Nat}:∀ {ks:List Int} {a n:Nat},KF t g ks a n->a<=n
 | [],a,n,h=>by have:=h.nil;omega
 | z::zs,a,n,h=>by
   obtain ⟨_,_,b,_,h1,_,h2⟩:=h.cons
   have:=h2.le
   omega
theorem a1K {t:List Nd} {g k n:Nat} (h:R7 t g k=(n,true)):∃g',g=g'+1/\KF t g' (nd t k).kids (k+1) n:=by
 cases g with
 | zero=>simp [R7] at h
 | succ g=>exact ⟨g,rfl,h⟩
structure Gw (p q:Pr) (n:Nat):Prop where
 pl:q.places<=p.places+n
 rl:q.rest.length<=p.rest.length+n
 el:q.edges.length<=p.edges.length+n
theorem Gw.refl (p:Pr):Gw p p 0:=⟨Nat.le_refl _,Nat.le_refl _,Nat.le_refl _⟩
theorem Gw.trans {p q r:Pr} {a b:Nat} (h:Gw p q a) (k:Gw q r b):Gw p r (a+b):=⟨by have:=h.pl;have:=k.pl;omega,by have:=h.rl;have:=k.rl;omega,by have:=h.el;have:=k.el;omega⟩
theorem Gw.le {p q:Pr} {a b:Nat} (h:Gw p q a) (k:a<=b):Gw p q b:=⟨by have:=h.pl;omega,by have:=h.rl;omega,by have:=h.el;omega⟩
theorem a0Z (p:Pr) (frm to act node:Nat) (expr v c:Int):Gw p (p.put frm to act node expr v c) 1:=⟨by simp [Pr.put],by simp [Pr.put],by simp [Pr.put]⟩
theorem a2B (p:Pr):Gw p p.place 1:=⟨by simp [Pr.place],by simp [Pr.place],by simp [Pr.place]⟩
theorem a66 (p:Pr) (n:Nat) (is:Int):Gw p (p.idle n is) 0:=by
 unfold Pr.idle
 split
 ·exact ⟨Nat.le_refl _,by simp,Nat.le_refl _⟩
 ·exact Gw.refl p
def StG (t:List Nd) (st:Pr->Nat->Nat->Nat->Pr) (k:Nat):Prop:=∀g n,R7 t g k=(n,true)->∀p frm to,Gw p (st p k frm to) (4*(n-k)-1)
theorem b02 {t:List Nd} {st:Pr->Nat->Nat->Nat->Pr} {node g:Nat}:∀ {ks:List Int} {a n:Nat} {p:Pr} {frm to:Nat},KF t g ks a n->(∀k∈ks.map Int.toNat,StG t st k)->Gw p (a0Q st node p (ks.map Int.toNat) frm to) (4*(n-a)+1)
 | [],a,n,p,frm,to,h,_=>(a0Z _ _ _ _ _ _ _ _).le (by omega)
 | [z],a,n,p,frm,to,h,hs=>by
   obtain ⟨rfl,h1,b,h2,h3,h4,h5⟩:=h.cons
   obtain rfl:=h5.nil
   exact (hs _ (by simp) g n (by simpa using h2) p frm to).le (by simp;omega)
 | z::z'::zs,a,n,p,frm,to,h,hs=>by
   obtain ⟨rfl,h1,b,h2,h3,h4,h5⟩:=h.cons
   have hle:=h5.le
   have s1:=hs ((a:Int).toNat) (by simp) g b (by simpa using h2) p.place frm p.places
   have s2:=b02 (st:=st) (node:=node) (p:=st p.place (a:Int).toNat frm p.places) (frm:=p.places) (to:=to) h5 (fun k hk=>hs k (by simp only [List.map_cons,List.mem_cons] at hk ⊢;right;exact hk))
   exact (((a2B p).trans s1).trans s2).le (by simp;omega)
theorem a2e {t:List Nd} {st:Pr->Nat->Nat->Nat->Pr} {g b n:Nat} {p:Pr} {frm to:Nat} (hb:b<t.length) (h:R7 t g b=(n,true)) (hs:∀k∈(nd t b).ks,StG t st k):Gw p (V7 t st p b frm to) (4*(n-b)-3):=by
 obtain ⟨g',rfl,hk⟩:=a1K h
 have:=hk.le
 exact (b02 hk hs).le (by omega)
theorem b4d {t:List Nd} {st:Pr->Nat->Nat->Nat->Pr} {frm to g:Nat}:∀ {ks:List Int} {a n:Nat} {p:Pr},KF t g ks a n->(∀b∈ks.map Int.toNat,∀k∈(nd t b).ks,StG t st k)->Gw p (Y0 t st frm to p (ks.map Int.toNat)) (4*(n-a))
 | [],a,n,p,h,_=>(Gw.refl p).le (by omega)
 | z::zs,a,n,p,h,hs=>by
   obtain ⟨rfl,h1,b,h2,h3,h4,h5⟩:=h.cons
   have hle:=h5.le
   have hsa:∀k∈(nd t a).ks,StG t st k:=by simpa using hs (a:Int).toNat (by simp)
   rw [List.map_cons,Y0]
   simp only [Int.toNat_natCast]
   have key:∀q,Gw p q (4*(b-a)-1)->Gw p (Y0 t st frm to q (zs.map Int.toNat)) (4*(n-a)):=fun q hq=>(hq.trans (b4d h5 fun b hb=>hs b (by simp only [List.map_cons,List.mem_cons];right;exact hb))).le (by omega)
   split
   ·exact key _ ((((a2B p).trans (a0Z p.place frm p.places 0 a (-1) (-1) (-1))).trans (a2e h1 h2 hsa)).le (by omega))
   ·exact key _ ((a2e h1 h2 hsa).le (by omega))
theorem a7k {t:List Nd} (ht:Z0 t) (ch:List ByteArray):∀ (f k:Nat),k<t.length->a14 (nd t k).kind->t.length-k<f->StG t (M9 t ch f) k
 | 0,k,_,_,h=>by omega
 | f+1,k,hk,hst,hf=>by
   intro g n hw p frm to
   have hsub:=(a2W g hk hw).1
   have hlt:=hsub.lt
   have hle:=hsub.le
   obtain ⟨g',rfl,hkf⟩:=a1K hw
   have hno:=ht.node k hk
   have hks:=ht.ks hk
   have bl:∀b∈(nd t k).ks,(nd t b).kind=16->∀x∈(nd t b).ks,StG t (M9 t ch f) x:=fun b hb hb16 x hx=>by
    have h1:=hks b hb
    have h2:=ht.ks h1.2 x hx
    exact a7k ht ch f x h2.2 ((ht.node b h1.2).block hb16 x hx) (by omega)
   have one:∀q:Pr,Gw p q 1->Gw p q (4*(n-k)-1):=fun q h=>h.le (by omega)
   unfold M9
   simp only
   by_cases c6:(nd t k).kind=6
   ·rw [if_pos c6];exact one _ (a0Z _ _ _ _ _ _ _ _)
   rw [if_neg c6]
   by_cases c7:(nd t k).kind=7
   ·rw [if_pos c7];exact one _ (a0Z _ _ _ _ _ _ _ _)
   rw [if_neg c7]
   by_cases c8:(nd t k).kind=8
   ·rw [if_pos c8];exact one _ (((a66 _ _ _).trans (a0Z _ _ _ _ _ _ _ _)).le (by omega))
   rw [if_neg c8]
   by_cases c9:(nd t k).kind=9
   ·rw [if_pos c9];exact one _ (((a66 _ _ _).trans (a0Z _ _ _ _ _ _ _ _)).le (by omega))
   rw [if_neg c9]
   by_cases c10:(nd t k).kind=10
   ·rw [if_pos c10]
    have h1:=hno.choose c10
    exact ((a66 _ _ _).trans (b4d hkf fun b hb=>bl b hb (h1.2 b hb))).le (by omega)
   rw [if_neg c10]
   by_cases c11:(nd t k).kind=11
   ·rw [if_pos c11]
    obtain ⟨l1,l2,l3,l4⟩:=hno.cond c11
    match hkk:(nd t k).kids,l1,hkf with
    | [z0,z1],_,hkf =>
      obtain ⟨e0,_,b0,_,s0,_,hkf⟩:=hkf.cons
      obtain ⟨e1,q1,b1,w1,s1,_,hkf⟩:=hkf.cons
      have:=hkf.nil
      have k1:(nd t k).kid 1=b0:=by simp [Nd.kid,hkk,e1]
      have m1:b0∈(nd t k).ks:=by simp [Nd.ks,hkk,e1]
      rw [k1] at l3 ⊢
      rw [if_pos (by simp)]
      exact ((((a2B p).trans (a0Z _ _ _ _ _ _ _ _)).trans (a2e q1 w1 (bl _ m1 l3))).trans (a0Z _ _ _ _ _ _ _ _)).le (by omega)
    | [z0,z1,z2],_,hkf =>
      obtain ⟨e0,_,b0,_,s0,_,hkf⟩:=hkf.cons
      obtain ⟨e1,q1,b1,w1,s1,_,hkf⟩:=hkf.cons
      obtain ⟨e2,q2,b2,w2,s2,_,hkf⟩:=hkf.cons
      have:=hkf.nil
      have k1:(nd t k).kid 1=b0:=by simp [Nd.kid,hkk,e1]
      have k2:(nd t k).kid 2=b1:=by simp [Nd.kid,hkk,e2]
      have m1:b0∈(nd t k).ks:=by simp [Nd.ks,hkk,e1]
      have m2:b1∈(nd t k).ks:=by simp [Nd.ks,hkk,e2]
      have l4:=l4 (by rw [hkk];rfl)
      rw [k1] at l3 ⊢
      rw [k2] at l4 ⊢
      rw [if_neg (by simp)]
      exact ((((((a2B p).trans (a0Z _ _ _ _ _ _ _ _)).trans (a2e q1 w1 (bl _ m1 l3))).trans (a2B _)).trans (a0Z _ _ _ _ _ _ _ _)).trans (a2e q2 w2 (bl _ m2 l4))).le (by omega)
   rw [if_neg c11]
   by_cases c12:(nd t k).kind=12
   ·rw [if_pos c12]
    obtain ⟨l1,l2,l3⟩:=hno.loop c12
    match hkk:(nd t k).kids,l1,hkf with
    | [z0,z1],_,hkf =>
      obtain ⟨e0,_,b0,_,s0,_,hkf⟩:=hkf.cons
      obtain ⟨e1,q1,b1,w1,s1,_,hkf⟩:=hkf.cons
      have:=hkf.nil
      have k1:(nd t k).kid 1=b0:=by simp [Nd.kid,hkk,e1]
      have m1:b0∈(nd t k).ks:=by simp [Nd.ks,hkk,e1]
      rw [k1] at l3 ⊢
      exact ((((a2B p).trans (a0Z _ _ _ _ _ _ _ _)).trans (a0Z _ _ _ _ _ _ _ _)).trans (a2e q1 w1 (bl _ m1 l3))).le (by omega)
   rw [if_neg c12]
   by_cases c13:(nd t k).kind=13
   ·rw [if_pos c13]
    obtain ⟨l1,l2⟩:=hno.atom c13
    match hkk:(nd t k).kids,l1,hkf with
    | [z0],_,hkf =>
      obtain ⟨e0,q0,b0,w0,s0,_,hkf⟩:=hkf.cons
      have:=hkf.nil
      have k0:(nd t k).kid 0=k+1:=by simp [Nd.kid,hkk,e0]
      have m0:k+1∈(nd t k).ks:=by simp [Nd.ks,hkk,e0]
      rw [k0] at l2 ⊢
      have h:=a2e (p:=p) (frm:=frm) (to:=to) q0 w0 (bl _ m0 l2)
      refine ⟨Nat.le_trans h.pl (by omega),Nat.le_trans h.rl (by omega),?_⟩
      have hl:∀ (n to:Nat) (l:List Ed),(a0o n to l).length=l.length:=fun n to l=>by
       unfold a0o
       rw [List.length_append,List.length_map,<- List.length_append,List.take_append_drop]
      show (a0o _ _ _).length<=_
      rw [hl]
      exact Nat.le_trans h.el (by omega)
   rw [if_neg c13]
   by_cases c15:(nd t k).kind=15
   ·rw [if_pos c15];exact one _ (a0Z _ _ _ _ _ _ _ _)
   rw [if_neg c15]
   exact one _ (a0Z _ _ _ _ _ _ _ _)
end Go.V
