/- Texts one behind the other. -/
import Derived.Test.YtlaeblilmppodaaZ1
import Derived.Laws.Strings
import Derived.Test.YtlaeblilmppodaaVt
set_option linter.unusedSimpArgs false
set_option linter.unusedVariables false
namespace Go.V
theorem P1 {n:Int} (h1:-9223372036854775808<=n) (h2:n<9223372036854775808):IntKind.i64.wrap n=n:=IntWalk.i64_in n ⟨by omega,by omega⟩
def Fr (ids:List Nat) (s s':i8):Prop:=s.next<=s'.next/\∀i,i<s.next->i∉ids->s'.get i=s.get i
theorem Fr.refl (ids:List Nat) (s:i8):Fr ids s s:=⟨Nat.le_refl _,fun _ _ _=>rfl⟩
theorem Fr.trans {ids:List Nat} {ids':List Nat} {a b c:i8} (h:Fr ids a b) (k:Fr ids' b c) (hi:∀i∈ids',i∈ids∨a.next<=i):Fr ids a c:=by
 refine ⟨Nat.le_trans h.1 k.1,fun i hl hn=>?_⟩
 rw [k.2 i (Nat.lt_of_lt_of_le hl h.1) ?_,h.2 i hl hn]
 intro hc
 rcases hi i hc with h1 | h1
 ·exact hn h1
 ·omega
theorem Fr.push {ids:List Nat} {s:i8} (o:M6):Fr ids s (s.push o):=⟨by rw [i8.next_push];omega,fun i hl _=>by rw [i8.get_push,if_neg (by omega)]⟩
theorem Fr.set {ids:List Nat} {s:i8} {id:Nat} (o:Option M6) (h:id∈ids):Fr ids s (s.set id o):=⟨by rw [i8.next_set];omega,fun i hl hn=>by
 rw [i8.get_set,if_neg];rintro ⟨rfl,_⟩;exact hn h⟩
theorem Fr.thenPush {ids:List Nat} {a b:i8} (h:Fr ids a b) (o:M6):Fr ids a (b.push o):=h.trans (Fr.push (ids:=[]) o) (by simp)
theorem Fr.thenSet {ids:List Nat} {a b:i8} {id:Nat} (h:Fr ids a b) (o:Option M6) (hi:id∈ids∨a.next<=id):Fr ids a (b.set id o) :=
 h.trans (Fr.set (ids:=[id]) o (by simp)) (by simpa using hi)
theorem Fr.weaken {ids ids':List Nat} {a b:i8} (h:Fr ids a b) (hi:∀i∈ids,i∈ids'):Fr ids' a b:=⟨h.1,fun i hl hn=>h.2 i hl fun hc=>hn (hi i hc)⟩
theorem k4 {s:i8} {i:Nat} {o:M6} (h:s.get i=some o):i<s.next:=by
 unfold i8.get at h
 split at h
 ·assumption
 ·cases h
theorem S6 {s:i8} {o:M6} {i:Nat} (h:i<s.next):(s.push o).get i=s.get i:=by rw [i8.get_push,if_neg (by omega)]
theorem O4 {s:i8} {o:M6} {i:Nat} (h:i=s.next):(s.push o).get i=some o:=by rw [i8.get_push,if_pos h]
theorem O6 {s:i8} {o:Option M6} {i id:Nat} (h:i≠id):(s.set id o).get i=s.get i:=by rw [i8.get_set,if_neg (by rintro ⟨rfl,_⟩;exact h rfl)]
theorem P8 {s:i8} {o:Option M6} {i:Nat} (h:i<s.next):(s.set i o).get i=o:=by rw [i8.get_set,if_pos ⟨rfl,h⟩]
def a1z (l:List Nat):List D:=l.map fun (n:Nat)=>.int .i64 (n:Int)
def a0G (l:List Bool):List D:=l.map fun b=>.bool b
def b2z:List (Nat×Nat)->List D
 | []=>[]
 | p::r=>.int .i64 (p.1:Int)::.int .i64 (p.2:Int)::b2z r
def kvs (l:List ((Nat×Nat)×Nat)):List (D×D):=l.map fun x=>(.agg [.int .i64 (x.1.1:Int),.int .i64 (x.1.2:Int)],.int .i64 (x.2:Int))
@[simp] theorem a9B (l:List Nat):(a1z l).length=l.length:=by simp [a1z]
@[simp] theorem b0Z (l:List Bool):(a0G l).length=l.length:=by simp [a0G]
def Rd (s:i8) (d:D) (l:List D):Prop :=
 (d=.nils/\l=[])∨d=.lst 1 (l.map fun x=>[x])∨∃id off cs,d=.arr id off l.length 1/\s.get id=some (.cells cs)/\off+l.length<=cs.length/\(cs.drop off).take l.length=l
theorem Rd.len {s:i8} {d:D} {l:List D} (h:Rd s d l):X4 false d=some (.int .i64 (l.length:Int)):=by
 rcases h with ⟨rfl,rfl⟩ | rfl | ⟨id,off,cs,rfl,_⟩<;>simp [X4]
theorem Rd.one {s:i8} {d:D} {l:List D} (h:Rd s d l):q8 d=true:=by
 rcases h with ⟨rfl,rfl⟩ | rfl | ⟨id,off,cs,rfl,_⟩<;>rfl
theorem Rd.idx {s:i8} {d:D} {l:List D} (h:Rd s d l) (ho:l.all q8=true) {i:Nat} (hi:i<l.length) {k:IntKind} {z:Int} (hz:z=(i:Int)):∃p,M1 1 d (.int k z)=some p/\ldV s.get none p=some l[i]:=by
 subst hz
 have ho':q8 l[i]=true:=by rw [List.all_eq_true] at ho;exact ho _ (List.getElem_mem hi)
 rcases h with ⟨rfl,rfl⟩ | rfl | ⟨id,off,cs,rfl,h1,h2,h3⟩
 ·simp at hi
 ·refine ⟨.fp [l[i]] 0,?_,?_⟩
  ·simp [M1,hi]
  ·simp [ldV,Y5,ho']
 ·refine ⟨.ptr id (off+i),?_,?_⟩
  ·simp only [M1]
   rw [if_pos (by refine ⟨trivial,?_,?_⟩<;>omega)]
   simp
  ·simp only [ldV,h1,Y5]
   have:cs[off+i]?=some l[i]:=by
    have e:l[i]?=some l[i]:=List.getElem?_eq_getElem hi
    rw [<- e]
    conv=>rhs;rw [<- h3]
    rw [List.getElem?_take_of_lt hi,List.getElem?_drop]
   rw [this]
   simp [ho']
theorem Rd.row {s:i8} {d:D} {l:List D} (h:Rd s d l):U4 s.get d=some l/\a1m d=some l.length/\Z7 1 d=true:=by
 rcases h with ⟨rfl,rfl⟩ | rfl | ⟨id,off,cs,rfl,h1,h2,h3⟩
 ·simp [U4,a1m,Z7]
 ·refine ⟨?_,by simp [a1m],by simp [Z7]⟩
  simp only [U4]
  congr 1
  induction l with
  | nil=>rfl
  | cons a l ih=>simp [ih]
 ·refine ⟨?_,by simp [a1m],by simp [Z7]⟩
  simp only [U4,h1,Nat.mul_one]
  rw [if_pos h2,h3]
theorem Rd.arr {s:i8} {id:Nat} {l:List D} (h:s.get id=some (.cells l)):Rd s (.arr id 0 l.length 1) l:=.inr (.inr ⟨id,0,l,rfl,h,by simp,by simp⟩)
theorem Rd.stay {s s':i8} {d:D} {l:List D} (h:Rd s d l) (hs:∀id off len,d=.arr id off len 1->s'.get id=s.get id):Rd s' d l:=by
 rcases h with h | h | ⟨id,off,cs,rfl,h1,h2,h3⟩
 ·exact .inl h
 ·exact .inr (.inl h)
 ·exact .inr (.inr ⟨id,off,cs,rfl,by rw [hs id off _ rfl,h1],h2,h3⟩)
theorem b7C (l:List Bool):(a0G l).all q8=true:=by simp [a0G,q8]
theorem Rd.idxB {s:i8} {d:D} {l:List Bool} (h:Rd s d (a0G l)) {i:Nat} (hi:i<l.length):∃p,M1 1 d (.int .i64 (i:Int))=some p/\ldV s.get none p=some (.bool l[i]):=by
 obtain ⟨p,h1,h2⟩:=h.idx (b7C l) (i:=i) (by simpa using hi) (k:=.i64) rfl
 exact ⟨p,h1,by rw [h2];simp [a0G]⟩
def W5:D->Bool
 | .int _ _=>true
 | .bool _=>true
 | .str _=>true
 | _=>false
theorem a5v {g:O7} {d:D} (h:W5 d=true):∀n,ice g (n+1) d=some d:=by
 intro n
 cases d<;>first | rfl | (simp [W5] at h)
theorem c06 {d:D} (h:W5 d=true):Y1 d=true:=by cases d<;>first | rfl | (simp [W5] at h)
theorem a5m {g:O7} {n:Nat}:∀ {l:List D},l.all W5=true->M3 (ice g (n+1)) l=some l
 | [],_=>rfl
 | d::r,h=>by
   simp only [List.all_cons,Bool.and_eq_true] at h
   simp only [M3,a5v h.1,a5m h.2]
theorem a6L:∀ (l:List D),a1S 1 l.length l=l.map fun x=>[x]
 | []=>rfl
 | d::r=>by simp [a1S,a6L r]
theorem Rd.ice {s:i8} {d:D} {l:List D} (h:Rd s d l) (hl:l.all W5=true):∃d',ice s.get 20 d=some d'/\Rd i8.empty d' l:=by
 have hrow:=h.row.1
 rcases h with ⟨rfl,rfl⟩ | rfl | ⟨id,off,cs,rfl,h1,h2,h3⟩
 ·exact ⟨.nils,rfl,.inl ⟨rfl,rfl⟩⟩
 ·exact ⟨_,rfl,.inr (.inl rfl)⟩
 ·refine ⟨.lst 1 (l.map fun x=>[x]),?_,.inr (.inl rfl)⟩
  simp only [V.ice,hrow]
  rw [a5m hl]
  simp only [Option.map_some,a6L]
theorem a4K {fs:FuncId->Option o8} {pairs i t f args rest s Q} {env:Env} {l l':List D} {r:D} {s1:i8} (hr:Ev fs f l' i8.empty r s1) (hs:W5 r=true) (hl:env.evL args=l) (ha:M3 (V.ice s.get 20) l=some l')
 (h:WQ fs pairs rest ((t,r)::env) s Q):WQ fs pairs ((i,⟨some t,.m (.call .iso (.cst (.fn f [])) args),none⟩)::rest) env s Q :=
 a3y hl ha hr (a5v hs 19) (by rw [c06 hs];rfl) h
theorem S2 {fs:FuncId->Option o8} {n:Nat} {f:FuncId} {args:List D} {s:i8} {d:D} (h:(a3P fs n f args s).map Prod.fst=some d):∃s',Ev fs f args s d s':=by
 cases hv:a3P fs n f args s with
 | none=>rw [hv] at h;cases h
 | some r =>
   rw [hv] at h
   obtain ⟨d',s'⟩:=r
   simp at h
   subst h
   exact ⟨s',n,hv⟩
def Sl (s:i8) (d:D) (l:List D) (ids:List Nat):Prop :=
 (d=.nils/\l=[]/\ids=[])∨∃id,d=.arr id 0 l.length 1/\s.get id=some (.cells l)/\ids=[id]
theorem Sl.rd {s:i8} {d:D} {l:List D} {ids:List Nat} (h:Sl s d l ids):Rd s d l:=by
 rcases h with ⟨rfl,rfl,_⟩ | ⟨id,rfl,h,_⟩
 ·exact .inl ⟨rfl,rfl⟩
 ·exact Rd.arr h
theorem Sl.one {s:i8} {d:D} {l:List D} {ids:List Nat} (h:Sl s d l ids):q8 d=true:=h.rd.one
theorem Sl.lt {s:i8} {d:D} {l:List D} {ids:List Nat} (h:Sl s d l ids):∀i∈ids,i<s.next:=by
 rcases h with ⟨_,_,rfl⟩ | ⟨id,_,h,rfl⟩
 ·simp
 ·simpa using k4 h
theorem Sl.push {s:i8} {d:D} {l:List D} {ids:List Nat} {new:List D} {id2 bytes:Nat} (h:Sl s d l ids) (h3:s.get id2=some (.cells new)) (hne:new≠[]) (hb:bytes<=16) (hl:l.length+new.length<=2 ^ 40) :
 ∃s' d',S9 1 bytes d (.arr id2 0 new.length 1) s=some (d',s')/\Sl s' d' (l++new) [s.next]/\s'.next=s.next+1/\∀i,i∉ids->i<s.next->s'.get i=s.get i:=by
 have hn:new.length≠0:=by simpa using hne
 have b1:(l.length+new.length)*bytes<=2 ^ 45:=Nat.le_trans (Nat.mul_le_mul hl hb) (by decide)
 have b2:l.length+new.length<=2 ^ 45:=Nat.le_trans hl (by decide)
 have b3:bytes<=2 ^ 20:=Nat.le_trans hb (by decide)
 rcases h with ⟨rfl,rfl,rfl⟩ | ⟨id,rfl,h1,rfl⟩
 ·refine ⟨s.push (.cells new),.arr s.next 0 new.length 1,?_,.inr ⟨s.next,by simp,by simp [i8.get_push],rfl⟩,rfl,fun i _ hi=>by rw [i8.get_push,if_neg (by omega)]⟩
  unfold S9
  simp only [List.length_nil,Nat.zero_add] at b1 b2
  simp only [U4,h3,a1m,Z7,Nat.zero_add,Nat.mul_one,Nat.le_refl,if_true,List.drop_zero,beq_self_eq_true,b3,decide_true,Bool.and_self,and_self,hn,if_false,b1,b2,List.take_length]
 ·refine ⟨(s.set id none).push (.cells (l++new)),.arr s.next 0 (l.length+new.length) 1,?_,.inr ⟨s.next,by simp,by rw [i8.get_push,if_pos (by simp only [i8.next_set])],rfl⟩,rfl,fun i hi hl=>?_⟩
  ·unfold S9
   simp only [U4,h3,a1m,Z7,Nat.zero_add,Nat.mul_one,Nat.le_refl,if_true,List.drop_zero,beq_self_eq_true,b3,decide_true,Bool.and_self,h1,and_self,hn,if_false,b1,b2,List.take_length]
  ·simp only [List.mem_singleton] at hi
   rw [i8.get_push,if_neg (by simp only [i8.next_set];omega),i8.get_set,if_neg (by rintro ⟨rfl,_⟩;exact hi rfl)]
structure Gr where
 nodes:List (Nat×Nat)
 ins:List Nat
 known:List ((Nat×Nat)×Nat)
structure b9N (s:i8) (g:Nat) (G:Gr) (nid mid:Nat) (dins:D) (iids:List Nat):Prop where
 obj:s.get g=some (.cells [.arr nid 0 G.nodes.length 2,dins,.map mid])
 nodes:s.get nid=some (.cells (b2z G.nodes))
 ins:Sl s dins (a1z G.ins) iids
 known:s.get mid=some (.map (kvs G.known))
 nd:(g::nid::mid::iids).Nodup
def GA (s:i8) (g:Nat) (G:Gr) (ids:List Nat):Prop:=∃nid mid dins iids,b9N s g G nid mid dins iids/\ids=g::nid::mid::iids
def a1K (s:i8) (g:Nat) (ids:List Nat) (s':i8) (G':Gr) (ids':List Nat):Prop:=GA s' g G' ids'/\Fr ids s s'/\∀i∈ids',i∈ids∨s.next<=i
theorem a1K.trans {s s' s'':i8} {g:Nat} {ids ids' ids'':List Nat} {G' G'':Gr} (h:a1K s g ids s' G' ids') (k:a1K s' g ids' s'' G'' ids''):a1K s g ids s'' G'' ids'':=by
 refine ⟨k.1,h.2.1.trans k.2.1 h.2.2,fun i hi=>?_⟩
 rcases k.2.2 i hi with h1 | h1
 ·exact h.2.2 i h1
 ·exact .inr (Nat.le_trans h.2.1.1 h1)
theorem a1K.refl {s:i8} {g:Nat} {G:Gr} {ids:List Nat} (h:GA s g G ids):a1K s g ids s G ids:=⟨h,Fr.refl _ _,fun _ hi=>.inl hi⟩
theorem GA.stay' {s s':i8} {g:Nat} {G:Gr} {ids:List Nat} (h:GA s g G ids) (hs:∀i∈ids,i<s.next->s'.get i=s.get i):GA s' g G ids:=by
 obtain ⟨nid,mid,dins,iids,hg,rfl⟩:=h
 have k:∀i o,i∈g::nid::mid::iids->s.get i=some o->s'.get i=some o:=fun i o hi ho=>by rw [hs i hi (k4 ho),ho]
 refine ⟨nid,mid,dins,iids,⟨k _ _ (by simp) hg.obj,k _ _ (by simp) hg.nodes,?_,k _ _ (by simp) hg.known,hg.nd⟩,rfl⟩
 rcases hg.ins with h1 | ⟨id,h1,h2,rfl⟩
 ·exact .inl h1
 ·exact .inr ⟨id,h1,k _ _ (by simp) h2,rfl⟩
theorem GA.stay {s s':i8} {g:Nat} {G:Gr} {ids ids2:List Nat} (h:GA s g G ids) (hf:Fr ids2 s s') (hd:∀i∈ids,i∉ids2):GA s' g G ids:=h.stay' fun i hi hl=>hf.2 i hl (hd i hi)
theorem Sl.stay {s s':i8} {d:D} {l:List D} {ids ids2:List Nat} (h:Sl s d l ids) (hf:Fr ids2 s s') (hd:∀i∈ids,i∉ids2):Sl s' d l ids:=by
 rcases h with h1 | ⟨id,h1,h2,rfl⟩
 ·exact .inl h1
 ·exact .inr ⟨id,h1,by rw [hf.2 id (k4 h2) (hd id (by simp)),h2],rfl⟩
theorem GA.lt {s:i8} {g:Nat} {G:Gr} {ids:List Nat} (h:GA s g G ids):∀i∈ids,i<s.next:=by
 obtain ⟨nid,mid,dins,iids,hg,rfl⟩:=h
 intro i hi
 simp only [List.mem_cons] at hi
 rcases hi with rfl | rfl | rfl | hi
 ·exact k4 hg.obj
 ·exact k4 hg.nodes
 ·exact k4 hg.known
 ·exact hg.ins.lt i hi
theorem GA.pos {s:i8} {g:Nat} {G:Gr} {ids:List Nat} (h:GA s g G ids):∃nid dins mid,s.get g=some (.cells [.arr nid 0 G.nodes.length 2,dins,.map mid]):=by
 obtain ⟨nid,mid,dins,iids,hg,rfl⟩:=h
 exact ⟨nid,dins,mid,hg.obj⟩
theorem GA.push {s:i8} {g:Nat} {G:Gr} {ids:List Nat} (hG:GA s g G ids) (o:M6):GA (s.push o) g G ids:=hG.stay (ids2:=[]) (Fr.push _) (by simp)
theorem GA.newer {s s':i8} {g:Nat} {G:Gr} {ids:List Nat} (hG:GA s g G ids) (h:Fr [] s s'):a1K s g ids s' G ids:=⟨hG.stay h (by simp),h.weaken (by simp),fun _ h=>.inl h⟩
def b2D (e:Nat):Nat:=if e % 2=0 then e+1 else e-1
def Gr.own (G:Gr) (e:Int):Nat:=if e<0∨(G.nodes.length:Int)<=e.tdiv 2 then 0 else e.toNat
def Gr.add (G:Gr) (p:Nat×Nat):Gr:={ G with nodes:=G.nodes++[p] }
def find (k:Nat×Nat):List ((Nat×Nat)×Nat)->Option Nat
 | []=>none
 | (p,n)::r=>if k=p then some n else find k r
def Gr.and (G:Gr) (a b:Nat):Nat×Gr :=
 if min a b=0∨min a b=b2D (max a b) then (0,G)
 else if min a b=1∨min a b=max a b then (max a b,G)
 else match find (min a b,max a b) G.known with
  | some n=>(2*n,G)
  | none=>(2*G.nodes.length,{ nodes:=G.nodes++[(min a b,max a b)],ins:=G.ins,known:=G.known++[((min a b,max a b),G.nodes.length)] })
attribute [go_sem] S6 O4 O6 P8 P1
end Go.V
namespace Go.V
def FL (sz:Nat) (d:D) (rows:List (List D)):Prop:=(d=.nils/\rows=[])∨d=.lst sz rows
theorem FL.len {sz:Nat} {d:D} {rows:List (List D)} (h:FL sz d rows):X4 false d=some (.int .i64 (rows.length:Int)):=by
 rcases h with ⟨rfl,rfl⟩ | rfl<;>rfl
theorem FL.one {sz:Nat} {d:D} {rows:List (List D)} (h:FL sz d rows):q8 d=true:=by
 rcases h with ⟨rfl,rfl⟩ | rfl<;>rfl
theorem FL.pure {sz:Nat} {d:D} {rows:List (List D)} (h:FL sz d rows):U3 d=true:=by
 rcases h with ⟨rfl,rfl⟩ | rfl<;>rfl
theorem FL.ice {sz:Nat} {d:D} {rows:List (List D)} (h:FL sz d rows) {g:O7} {n:Nat}:ice g (n+1) d=some d:=by
 rcases h with ⟨rfl,rfl⟩ | rfl<;>rfl
theorem FL.idx {sz:Nat} {d:D} {rows:List (List D)} (h:FL sz d rows) {i:Nat} (hi:i<rows.length) {k:IntKind}:M1 sz d (.int k (i:Int))=some (.fp rows[i] 0):=by
 rcases h with ⟨rfl,rfl⟩ | rfl
 ·simp at hi
 ·simp [M1,hi]
theorem FL.cells {sz:Nat} {d:D} {rows:List (List D)} (h:FL sz d rows):cellsOf d=[d]:=by
 rcases h with ⟨rfl,rfl⟩ | rfl<;>rfl
def FS (d:D) (l:List ByteArray):Prop:=FL 1 d (l.map fun x=>[.str x])
def FI (d:D) (l:List Int):Prop:=FL 1 d (l.map fun n=>[.int .i64 n])
def FB (d:D) (l:List Bool):Prop:=FL 1 d (l.map fun b=>[.bool b])
theorem FS.len {d:D} {l:List ByteArray} (h:FS d l):X4 false d=some (.int .i64 (l.length:Int)):=by rw [FL.len h,List.length_map]
theorem FI.len {d:D} {l:List Int} (h:FI d l):X4 false d=some (.int .i64 (l.length:Int)):=by rw [FL.len h,List.length_map]
theorem FB.len {d:D} {l:List Bool} (h:FB d l):X4 false d=some (.int .i64 (l.length:Int)):=by rw [FL.len h,List.length_map]
theorem FS.idx {d:D} {l:List ByteArray} (h:FS d l) {i:Nat} (hi:i<l.length) {k:IntKind}:M1 1 d (.int k (i:Int))=some (.fp [.str l[i]] 0):=by
 rw [FL.idx h (by simpa using hi)];simp
theorem FI.idx {d:D} {l:List Int} (h:FI d l) {i:Nat} (hi:i<l.length) {k:IntKind}:M1 1 d (.int k (i:Int))=some (.fp [.int .i64 l[i]] 0):=by
 rw [FL.idx h (by simpa using hi)];simp
theorem FB.idx {d:D} {l:List Bool} (h:FB d l) {i:Nat} (hi:i<l.length) {k:IntKind}:M1 1 d (.int k (i:Int))=some (.fp [.bool l[i]] 0):=by
 rw [FL.idx h (by simpa using hi)];simp
theorem FL.drop {sz:Nat} {d:D} {rows:List (List D)} (h:FL sz d rows) {n:Nat} (hn:n<=rows.length) {k:IntKind}:∃d',a0E (some sz) d (some (.int k (n:Int))) none=some d'/\FL sz d' (rows.drop n):=by
 rcases h with ⟨rfl,rfl⟩ | rfl
 ·obtain rfl:n=0:=by simpa using hn
  exact ⟨.nils,by simp [a0E,Z6],.inl ⟨rfl,rfl⟩⟩
 ·exact ⟨_,by simp [a0E,Z6,hn],.inr rfl⟩
theorem FL.take {sz:Nat} {d:D} {rows:List (List D)} (h:FL sz d rows) {n:Nat} (hn:n<=rows.length) {k:IntKind}:∃d',a0E (some sz) d none (some (.int k (n:Int)))=some d'/\FL sz d' (rows.take n):=by
 rcases h with ⟨rfl,rfl⟩ | rfl
 ·obtain rfl:n=0:=by simpa using hn
  exact ⟨.nils,by simp [a0E,Z6],.inl ⟨rfl,rfl⟩⟩
 ·exact ⟨_,by simp [a0E,Z6,hn],.inr rfl⟩
theorem b4T {a b:ByteArray}:(a.toList==b.toList)=decide (a=b):=by
 rw [Bool.eq_iff_iff,beq_iff_eq,decide_eq_true_eq]
 constructor
 ·intro h
  rw [ByteArray.toList_eq,ByteArray.toList_eq] at h
  cases a;cases b
  simp at h
  rw [h]
 ·rintro rfl;rfl
theorem c2m {a b:ByteArray}:a0g .eql a b=some (.bool (decide (a=b))):=by rw [<- b4T];rfl
attribute [go_sem] c2m
end Go.V
namespace Go.V
theorem b3l {α β:Type} {f:α->β} {P:α->Prop}:∀ {xs:List β},(∀x∈xs,∃a,x=f a/\P a)->∃aa:List α,xs=aa.map f/\∀a∈aa,P a
 | [],_=>⟨[],rfl,by simp⟩
 | x::r,h=>by
   obtain ⟨a,rfl,ha⟩:=h x (by simp)
   obtain ⟨aa,rfl,has⟩:=b3l (xs:=r) fun x hx=>h x (by simp [hx])
   exact ⟨a::aa,rfl,by simpa using ⟨ha,has⟩⟩
def a2G (n:Int):Prop:=-9223372036854775808<=n/\n<9223372036854775808
theorem b5n {n:Int} (h:(Lit.int .u8 n).wf=true):0<=n/\n<256:=by
 simp only [Lit.wf,Bool.and_eq_true,decide_eq_true_eq] at h
 have h1:IntKind.u8.min=0:=rfl
 have h2:IntKind.u8.max=255:=rfl
 rw [h1,h2] at h
 omega
def Ty.act:Ty:=.slice 4 (.struct [.int .i64,.int .i64,.int .i64,.int .i64])
theorem Sl.push1 {s:i8} {d:D} {l:List D} {ids:List Nat} (h:Sl s d l ids) (x:D) {bytes:Nat} (hb:bytes<=16) (hl:l.length<2 ^ 40) :
 ∃s' d',S9 1 bytes d (.arr s.next 0 1 1) (s.push (.cells [x]))=some (d',s')/\Sl s' d' (l++[x]) [s.next+1]/\s'.next=s.next+2/\Fr ids s s':=by
 have h':Sl (s.push (.cells [x])) d l ids:=h.stay (ids2:=[]) (Fr.push _) (by simp)
 obtain ⟨s',d',e1,e2,e3,e4⟩:=h'.push (new:=[x]) (id2:=s.next) (bytes:=bytes) (O4 rfl) (by simp) hb (by simp;omega)
 refine ⟨s',d',e1,e2,e3,by rw [e3,i8.next_push];omega,fun i hi hn=>?_⟩
 rw [e4 i hn (by simp only [i8.next_push];omega),S6 hi]
section
variable {fs:FuncId->Option o8}
theorem b7G {l:List D} {n:Nat} {x:D} (h:n<l.length):a2t l n [x]=l.set n x:=by
 simp only [a2t,List.length_singleton]
 rw [List.set_eq_take_append_cons_drop,if_pos h]
 simp
theorem a6e {i a v rest s Q} {env:Env} {id n:Nat} {l:List D} {x:D} (hg:s.get id=some (.cells l)) (hn:n<l.length) (ho:q8 x=true) (ha:env.ev a=.ptr id n) (hv:env.ev v=x)
 (h:WQ fs [] rest env (s.set id (some (.cells (l.set n x)))) Q):WQ fs [] ((i,⟨none,.w 1 a v,none⟩)::rest) env s Q:=by
 refine a6f (id:=id) (ob:=.cells (l.set n x)) ?_ h
 simp only [evW,ha,hg,hv,b22 ho,List.length_singleton,List.all_cons,List.all_nil,ho]
 rw [if_pos ⟨trivial,by omega,rfl,by omega⟩,b7G hn]
end
theorem b6P {s:i8} {id:Nat} {l:List Nat} (h:s.get id=some (.cells (a1z l))):Rd s (.arr id 0 l.length 1) (a1z l):=by
 have:=Rd.arr h
 rwa [a9B] at this
end Go.V
namespace Go.V
structure Nd where
 kind:Int
 dw:D
 dn:D
 dk:D
 pos:Int
 words:List ByteArray
 nums:List Int
 kids:List Int
 deriving Inhabited
def Nd.row (x:Nd):List D:=[.int .i64 x.kind,x.dw,x.dn,x.dk,.int .i64 x.pos]
structure Nd.Ok (x:Nd):Prop where
 w:FS x.dw x.words
 n:FI x.dn x.nums
 k:FI x.dk x.kids
 ki:a2G x.kind
 wl:x.words.length<=maxLen
 nl:x.nums.length<=maxLen
 kl:x.kids.length<=maxLen
 ni:∀n∈x.nums,a2G n
 ii:∀n∈x.kids,a2G n
structure O1 (d:D) (t:List Nd):Prop where
 fl:FL 5 d (t.map Nd.row)
 ok:∀x∈t,x.Ok
 le:t.length<=maxLen
theorem O1.len {d:D} {t:List Nd} (h:O1 d t):X4 false d=some (.int .i64 (t.length:Int)):=by rw [h.fl.len,List.length_map]
theorem O1.idx {d:D} {t:List Nd} (h:O1 d t) {i:Nat} (hi:i<t.length) {k:IntKind}:M1 5 d (.int k (i:Int))=some (.fp [.int .i64 t[i].kind,t[i].dw,t[i].dn,t[i].dk,.int .i64 t[i].pos] 0):=by
 rw [h.fl.idx (by simpa using hi)];simp [Nd.row]
theorem O1.get {d:D} {t:List Nd} (h:O1 d t) {i:Nat} (hi:i<t.length):t[i].Ok:=h.ok _ (List.getElem_mem hi)
def Ty.node:Ty:=.struct [.int .i64,.slice 1 .str,.slice 1 (.int .i64),.slice 1 (.int .i64),.int .i64]
def Ty.tree:Ty:=.slice 5 Ty.node
end Go.V
namespace Go.V
structure Ch where
 name:ByteArray
 room:Int
 width:Int
 lossy:Bool
 copying:Bool
 deriving Inhabited
structure Vr where
 name:ByteArray
 width:Int
 value:Int
 deriving Inhabited
structure Ed where
 frm:Nat
 to:Nat
 act:Nat
 expr:Int
 var:Int
 chan:Int
 keep:Bool
 node:Nat
 deriving Inhabited
structure Pr where
 name:ByteArray
 copy:Nat
 locals:List Nat
 places:Nat
 rest:List Bool
 edges:List Ed
 names:List ByteArray
 vars:List Nat
 deriving Inhabited
def Ch.row (c:Ch):List D:=[.str c.name,.int .i64 c.room,.int .i64 c.width,.bool c.lossy,.bool c.copying]
def Vr.row (v:Vr):List D:=[.str v.name,.int .i64 v.width,.int .i64 v.value]
def Ed.row (e:Ed):List D:=[.int .i64 (e.frm:Int),.int .i64 (e.to:Int),.int .i64 (e.act:Int),.int .i64 e.expr,.int .i64 e.var,.int .i64 e.chan,.bool e.keep,.int .i64 (e.node:Int)]
def Pr.put (p:Pr) (frm to act:Nat) (node:Nat) (expr v c:Int):Pr:={ p with edges:=p.edges++[⟨frm,to,act,expr,v,c,false,node⟩] }
def Pr.place (p:Pr):Pr:={ p with places:=p.places+1,rest:=p.rest++[false] }
def Pr.idle (p:Pr) (n:Nat) (is:Int):Pr:=if is=1 then { p with rest:=p.rest.set n true } else p
def Z8 (l:List ByteArray) (s:ByteArray):Nat:=if l.findIdx (fun x=>decide (x=s))<l.length then l.findIdx (fun x=>decide (x=s)) else 0
def inB (l:List ByteArray) (s:ByteArray):Bool:=l.any fun x=>decide (x=s)
theorem a85 {l:List ByteArray} {s:ByteArray}:inB l s=true↔s∈l:=by
 unfold inB
 rw [List.any_eq_true]
 constructor
 ·rintro ⟨x,hx,h⟩
  rw [decide_eq_true_eq] at h
  exact h▸hx
 ·intro h
  exact ⟨s,h,by simp⟩
def nd (t:List Nd) (i:Nat):Nd:=t.getD i default
def Nd.kid (x:Nd) (i:Nat):Nat:=(x.kids.getD i 0).toNat
def Nd.ks (x:Nd):List Nat:=x.kids.map Int.toNat
def Nd.word (x:Nd) (i:Nat):ByteArray:=x.words.getD i default
def Nd.num (x:Nd) (i:Nat):Int:=x.nums.getD i 0
def a1b (st:Pr->Nat->Nat->Nat->Pr) (node:Nat):Pr->List Nat->Nat->Nat->Pr
 | p,[],frm,to=>p.put frm to 0 node (-1) (-1) (-1)
 | p,[k],frm,to=>st p k frm to
 | p,k::k'::ks,frm,to=>a1b st node (st p.place k frm p.places) (k'::ks) p.places to
def W0 (t:List Nd) (st:Pr->Nat->Nat->Nat->Pr) (p:Pr) (b frm to:Nat):Pr:=a1b st b p (nd t b).ks frm to
def a4y (t:List Nd) (b:Nat):Bool:=match (nd t b).ks with
 | []=>false
 | k::_=>(nd t k).kind==12
def a0i (t:List Nd) (st:Pr->Nat->Nat->Nat->Pr) (frm to:Nat):Pr->List Nat->Pr
 | p,[]=>p
 | p,k::ks=>a0i t st frm to (if a4y t k then W0 t st (p.place.put frm p.places 0 k (-1) (-1) (-1)) k p.places to else W0 t st p k frm to) ks
def a06 (n to:Nat) (l:List Ed):List Ed:=l.take n++(l.drop n).map fun e=>{ e with keep:=e.to != to&&e.to != 1 }
def y0 (t:List Nd) (ch:List ByteArray):Nat->Pr->Nat->Nat->Nat->Pr
 | 0,p,_,_,_=>p
 | f+1,p,at',frm,to =>
   let n:=nd t at'
   let st:=y0 t ch f
   if n.kind=6 then p.put frm to 1 at' (n.kid 0) (p.vars.getD (Z8 p.names (n.word 0)) 0:Nat) (-1)
   else if n.kind=7 then p.put frm to 2 at' (n.kid 0) (-1) (Z8 ch (n.word 0):Nat)
   else if n.kind=8 then (p.idle frm (n.num 0)).put frm to 3 at' (-1) (p.vars.getD (Z8 p.names (n.word 1)) 0:Nat) (Z8 ch (n.word 0):Nat)
   else if n.kind=9 then (p.idle frm (n.num 0)).put frm to 4 at' (n.kid 0) (-1) (-1)
   else if n.kind=10 then a0i t st frm to (p.idle frm (n.num 0)) n.ks
   else if n.kind=11 then
    let p1:=W0 t st (p.place.put frm p.places 4 at' (n.kid 0) (-1) (-1)) (n.kid 1) p.places to
    if n.kids.length=2 then p1.put frm to 5 at' (n.kid 0) (-1) (-1)
    else W0 t st (p1.place.put frm p1.places 5 at' (n.kid 0) (-1) (-1)) (n.kid 2) p1.places to
   else if n.kind=12 then W0 t st ((p.place.put frm p.places 4 at' (n.kid 0) (-1) (-1)).put frm to 5 at' (n.kid 0) (-1) (-1)) (n.kid 1) p.places frm
   else if n.kind=13 then
    let p1:=W0 t st p (n.kid 0) frm to
    { p1 with edges:=a06 p.edges.length to p1.edges }
   else if n.kind=15 then p.put frm 1 0 at' (-1) (-1) (-1)
   else p.put frm to 0 at' (-1) (-1) (-1)
end Go.V
namespace Go.V
def a19 (k:Int):Prop:=17<=k/\k<=22
def a10 (k:Int):Prop:=6<=k/\k<=15
def b28 (k:Int):Nat:=if k=8 then 2 else if k=1∨k=2∨k=3∨k=6∨k=7∨k=18∨k=19 then 1 else 0
def b1g (k:Int):Nat:=if k=1 then 4 else if k=2 then 2 else if k=3∨k=8∨k=9∨k=10∨k=17∨k=22 then 1 else 0
structure a5T (t:List Nd) (x:Nd):Prop where
 kr:0<=x.kind/\x.kind<=22
 wl:x.words.length=b28 x.kind
 nl:x.nums.length=b1g x.kind
 prog:x.kind=0->∀k∈x.ks,1<=(nd t k).kind/\(nd t k).kind<=5
 chan:x.kind=1->0<=x.num 0/\0<=x.num 1/\0<=x.num 2/\x.num 2<=1/\0<=x.num 3/\x.num 3<=1
 var:x.kind=2->-999999<=x.num 1/\x.num 1<=999999
 proc:x.kind=3->∃v,v<=x.ks.length/\(∀k∈x.ks.take v,(nd t k).kind=2)/\∀k∈x.ks.drop v,a10 (nd t k).kind
 copies:x.kind=3->0<=x.num 0/\x.num 0<=999999
 one:x.kind=4∨x.kind=6∨x.kind=7∨x.kind=9∨x.kind=20∨x.kind=21->x.kids.length=1/\a19 (nd t (x.kid 0)).kind
 none:x.kind=1∨x.kind=2∨x.kind=5∨x.kind=8∨x.kind=14∨x.kind=15∨x.kind=17∨x.kind=18∨x.kind=19->x.kids=[]
 choose:x.kind=10->1<=x.kids.length/\∀k∈x.ks,(nd t k).kind=16
 cond:x.kind=11->(x.kids.length=2∨x.kids.length=3)/\a19 (nd t (x.kid 0)).kind/\(nd t (x.kid 1)).kind=16/\(x.kids.length=3->(nd t (x.kid 2)).kind=16)
 loop:x.kind=12->x.kids.length=2/\a19 (nd t (x.kid 0)).kind/\(nd t (x.kid 1)).kind=16
 atom:x.kind=13->x.kids.length=1/\(nd t (x.kid 0)).kind=16
 block:x.kind=16->∀k∈x.ks,a10 (nd t k).kind
 bin:x.kind=22->x.kids.length=2/\a19 (nd t (x.kid 0)).kind/\a19 (nd t (x.kid 1)).kind/\0<=x.num 0/\x.num 0<=8
 flag:x.kind=8∨x.kind=9∨x.kind=10->0<=x.num 0/\x.num 0<=1
 lit:x.kind=17->0<=x.num 0/\x.num 0<=999999
structure Y8 (t:List Nd):Prop where
 pos:0<t.length
 le:t.length<=800
 root:(nd t 0).kind=0
 kids:∀i,i<t.length->∀k∈(nd t i).kids,(i:Int)<k/\k<(t.length:Int)
 node:∀i,i<t.length->a5T t (nd t i)
theorem a9e {t:List Nd} {i:Nat} (h:i<t.length):nd t i=t[i]:=by simp [nd,List.getD,h]
theorem Y8.ks {t:List Nd} (h:Y8 t) {i:Nat} (hi:i<t.length):∀k∈(nd t i).ks,i<k/\k<t.length:=by
 intro k hk
 obtain ⟨z,hz,rfl⟩:=List.mem_map.1 hk
 have:=h.kids i hi z hz
 omega
theorem Z3 {x:Nd} {i:Nat} (h:i<x.kids.length):x.kid i∈x.ks:=by
 unfold Nd.kid Nd.ks
 simp only [List.getD,List.getElem?_eq_getElem h,Option.getD_some]
 exact List.mem_map_of_mem (List.getElem_mem h)
theorem a1d (x:Nd):x.ks.length=x.kids.length:=by simp [Nd.ks]
structure a2Q (t:List Nd) (nch pl:Nat) (vars:List Nat) (e:Ed):Prop where
 f:e.frm<pl
 to:e.to<pl
 act:e.act<=5
 ex0:e.act=0∨e.act=3->e.expr=-1
 ex1:e.act=1∨e.act=2∨e.act=4∨e.act=5->∃n:Nat,e.expr=(n:Int)/\n<t.length/\a19 (nd t n).kind
 v1:e.act=1∨e.act=3->∃n∈vars,e.var=((n:Nat):Int)
 v0:e.act=0∨e.act=2∨e.act=4∨e.act=5->e.var=-1
 c1:e.act=2∨e.act=3->∃n:Nat,e.chan=(n:Int)/\n<nch
 c0:e.act=0∨e.act=1∨e.act=4∨e.act=5->e.chan=-1
theorem a2Q.mono {t:List Nd} {nch pl pl':Nat} {vars:List Nat} {e:Ed} (h:a2Q t nch pl vars e) (hp:pl<=pl'):a2Q t nch pl' vars e :=
 ⟨by have:=h.f;omega,by have:=h.to;omega,h.act,h.ex0,h.ex1,h.v1,h.v0,h.c1,h.c0⟩
structure W8 (t:List Nd) (nch:Nat) (p:Pr):Prop where
 two:2<=p.places
 rest:p.rest.length=p.places
 ed:∀e∈p.edges,a2Q t nch p.places p.vars e
structure a0m (p q:Pr):Prop where
 name:q.name=p.name
 copy:q.copy=p.copy
 locals:q.locals=p.locals
 names:q.names=p.names
 vars:q.vars=p.vars
 places:p.places<=q.places
 edges:∃l,q.edges=p.edges++l
theorem a0m.refl (p:Pr):a0m p p:=⟨rfl,rfl,rfl,rfl,rfl,Nat.le_refl _,[],by simp⟩
theorem a0m.trans {p q r:Pr} (h:a0m p q) (k:a0m q r):a0m p r:=by
 obtain ⟨l,hl⟩:=h.edges
 obtain ⟨m,hm⟩:=k.edges
 exact ⟨k.name.trans h.name,k.copy.trans h.copy,k.locals.trans h.locals,k.names.trans h.names,k.vars.trans h.vars,Nat.le_trans h.places k.places,l++m,by rw [hm,hl,List.append_assoc]⟩
theorem a0B (p:Pr) (frm to act node:Nat) (expr v c:Int):a0m p (p.put frm to act node expr v c):=⟨rfl,rfl,rfl,rfl,rfl,Nat.le_refl _,_,rfl⟩
theorem a17 (p:Pr):a0m p p.place:=⟨rfl,rfl,rfl,rfl,rfl,Nat.le_succ _,[],by simp [Pr.place]⟩
theorem b3c (p:Pr) (n:Nat) (is:Int):a0m p (p.idle n is):=by
 unfold Pr.idle
 split
 ·exact ⟨rfl,rfl,rfl,rfl,rfl,Nat.le_refl _,[],by simp⟩
 ·exact a0m.refl p
theorem a5r (p:Pr) (n:Nat) (is:Int):(p.idle n is).places=p.places/\(p.idle n is).edges=p.edges/\(p.idle n is).vars=p.vars/\(p.idle n is).names=p.names:=by
 unfold Pr.idle;split<;>exact ⟨rfl,rfl,rfl,rfl⟩
theorem a0C {t:List Nd} {nch:Nat} {p:Pr} {frm to act node:Nat} {expr v c:Int} (h:W8 t nch p) (he:a2Q t nch p.places p.vars ⟨frm,to,act,expr,v,c,false,node⟩):W8 t nch (p.put frm to act node expr v c):=by
 refine ⟨h.two,h.rest,fun e hm=>?_⟩
 rcases List.mem_append.1 hm with hm | hm
 ·exact h.ed e hm
 ·simp at hm;subst hm;exact he
theorem a1M {t:List Nd} {nch:Nat} {p:Pr} (h:W8 t nch p):W8 t nch p.place :=
 ⟨by have:=h.two;simp [Pr.place];omega,by simp [Pr.place,h.rest],fun e hm=>(h.ed e hm).mono (Nat.le_succ _)⟩
theorem b0x {t:List Nd} {nch:Nat} {p:Pr} {n:Nat} {is:Int} (h:W8 t nch p):W8 t nch (p.idle n is):=by
 unfold Pr.idle
 split
 ·exact ⟨h.two,by simp [h.rest],h.ed⟩
 ·exact h
theorem a45 {t:List Nd} {nch pl:Nat} {vars:List Nat} {frm to node:Nat} (hf:frm<pl) (ht:to<pl):a2Q t nch pl vars ⟨frm,to,0,-1,-1,-1,false,node⟩ :=
 ⟨hf,ht,by simp,by simp,by simp,by simp,by simp,by simp,by simp⟩
theorem a2a {t:List Nd} {nch pl:Nat} {vars:List Nat} {frm to node n:Nat} {a:Nat} (ha:a=4∨a=5) (hf:frm<pl) (ht:to<pl) (hn:n<t.length) (hk:a19 (nd t n).kind):a2Q t nch pl vars ⟨frm,to,a,(n:Int),-1,-1,false,node⟩:=by
 refine ⟨hf,ht,?_,?_,fun _=>⟨n,rfl,hn,hk⟩,?_,fun _=>rfl,?_,fun _=>rfl⟩<;>simp<;>omega
def a09 (t:List Nd) (nch:Nat) (names:List ByteArray) (vars:List Nat) (st:Pr->Nat->Nat->Nat->Pr) (k:Nat):Prop :=
 ∀p frm to,W8 t nch p->p.names=names->p.vars=vars->frm<p.places->to<p.places->W8 t nch (st p k frm to)/\a0m p (st p k frm to)
theorem a3i {t:List Nd} {nch:Nat} {names:List ByteArray} {vars:List Nat} {st:Pr->Nat->Nat->Nat->Pr} {node:Nat}:∀ {ks:List Nat} {p:Pr} {frm to:Nat},(∀k∈ks,a09 t nch names vars st k) ->
 W8 t nch p->p.names=names->p.vars=vars->frm<p.places->to<p.places->W8 t nch (a1b st node p ks frm to)/\a0m p (a1b st node p ks frm to)
 | [],p,frm,to,_,h,hn,hv,hf,ht=>⟨a0C h (a45 hf ht),a0B _ _ _ _ _ _ _ _⟩
 | [k],p,frm,to,hs,h,hn,hv,hf,ht=>hs k (by simp) p frm to h hn hv hf ht
 | k::k'::ks,p,frm,to,hs,h,hn,hv,hf,ht=>by
   have h1:=hs k (by simp) p.place frm p.places (a1M h) hn hv (Nat.lt_succ_of_lt hf) (Nat.lt_succ_self _)
   have g1:=(a17 p).trans h1.2
   have:=h1.2.places
   have:p.place.places=p.places+1:=rfl
   have h2:=a3i (node:=node) (ks:=k'::ks) (p:=st p.place k frm p.places) (frm:=p.places) (to:=to) (fun x hx=>hs x (by simp only [List.mem_cons] at hx ⊢;right;exact hx)) h1.1 (g1.names.trans hn) (g1.vars.trans hv) (by omega) (by omega)
   exact ⟨h2.1,g1.trans h2.2⟩
theorem b0r {t:List Nd} {nch:Nat} {names:List ByteArray} {vars:List Nat} {st:Pr->Nat->Nat->Nat->Pr} {frm to:Nat}:∀ {ks:List Nat} {p:Pr},(∀b∈ks,∀k∈(nd t b).ks,a09 t nch names vars st k) ->
 W8 t nch p->p.names=names->p.vars=vars->frm<p.places->to<p.places->W8 t nch (a0i t st frm to p ks)/\a0m p (a0i t st frm to p ks)
 | [],p,_,h,_,_,_,_=>⟨h,a0m.refl p⟩
 | k::ks,p,hs,h,hn,hv,hf,ht=>by
   have key:∀q,W8 t nch q->a0m p q->W8 t nch (a0i t st frm to q ks)/\a0m p (a0i t st frm to q ks):=fun q hq gq=>by
    have:=gq.places
    have:=b0r (ks:=ks) (p:=q) (frm:=frm) (to:=to) (fun b hb=>hs b (by simp [hb])) hq (gq.names.trans hn) (gq.vars.trans hv) (by omega) (by omega)
    exact ⟨this.1,gq.trans this.2⟩
   have hk:=hs k (by simp)
   unfold a0i
   split
   ·have h1:=a0C (node:=k) (a1M h) (a45 (frm:=frm) (to:=p.places) (Nat.lt_succ_of_lt hf) (Nat.lt_succ_self _))
    have g1:=(a17 p).trans (a0B p.place frm p.places 0 k (-1) (-1) (-1))
    have:=a3i (node:=k) (frm:=p.places) (to:=to) hk h1 hn hv (Nat.lt_succ_self _) (Nat.lt_succ_of_lt ht)
    exact key _ this.1 (g1.trans this.2)
   ·have:=a3i (node:=k) (frm:=frm) (to:=to) hk h hn hv hf ht
    exact key _ this.1 this.2
theorem a3v {t:List Nd} {nch:Nat} {names:List ByteArray} {vars:List Nat} {st:Pr->Nat->Nat->Nat->Pr} {b:Nat} {p:Pr} {frm to:Nat} (hs:∀k∈(nd t b).ks,a09 t nch names vars st k)
 (h:W8 t nch p) (hn:p.names=names) (hv:p.vars=vars) (hf:frm<p.places) (ht:to<p.places):W8 t nch (W0 t st p b frm to)/\a0m p (W0 t st p b frm to):=a3i hs h hn hv hf ht
structure a6z (t:List Nd) (nch:Nat) (ch names:List ByteArray) (vars:List Nat) (k:Nat):Prop where
 same:names.length=vars.length
 chs:ch.length=nch
 v:(nd t k).kind=6∨(nd t k).kind=8->0<names.length
 c:(nd t k).kind=7∨(nd t k).kind=8->0<ch.length
theorem a6F {l:List ByteArray} {s:ByteArray} (h:0<l.length):Z8 l s<l.length:=by
 unfold Z8;split<;>assumption
theorem b70 {l:List Nat} {i:Nat} (h:i<l.length):l.getD i 0∈l:=by simp [List.getD,h]
theorem b6T {n to:Nat} {l:List Ed} {e:Ed} (h:e∈a06 n to l):∃e'∈l,∃b,e={ e' with keep:=b }:=by
 rcases List.mem_append.1 h with h | h
 ·exact ⟨e,List.mem_of_mem_take h,e.keep,rfl⟩
 ·obtain ⟨e',h',rfl⟩:=List.mem_map.1 h
  exact ⟨e',List.mem_of_mem_drop h',_,rfl⟩
theorem a5I {t:List Nd} (ht:Y8 t) {nch:Nat} {ch names:List ByteArray} {vars:List Nat} {P:Nat->Prop} (hc:∀j,j<t.length->P j->∀k∈(nd t j).ks,P k) (hs:∀k,P k->a6z t nch ch names vars k):∀ (f k:Nat),k<t.length->P k->a10 (nd t k).kind->t.length-k<f->a09 t nch names vars (y0 t ch f) k
 | 0,k,_,_,_,hf=>by omega
 | f+1,k,hk,hP,hst,hf=>by
   intro p frm to h hn hv hfr hto
   have hno:=ht.node k hk
   have hks:=ht.ks hk
   have hS:=hs k hP
   have bl:∀b∈(nd t k).ks,(nd t b).kind=16->∀x∈(nd t b).ks,a09 t nch names vars (y0 t ch f) x:=fun b hb hb16 x hx=>by
    have h1:=hks b hb
    have h2:=ht.ks h1.2 x hx
    exact a5I ht hc hs f x h2.2 (hc b h1.2 (hc k hk hP b hb) x hx) ((ht.node b h1.2).block hb16 x hx) (by omega)
   have hvar:0<names.length->∀s,∃n∈p.vars,((p.vars.getD (Z8 p.names s) 0:Nat):Int)=((n:Nat):Int):=fun hp s=>by
    refine ⟨_,b70 ?_,rfl⟩
    rw [hv,hn,<- hS.same]
    exact a6F hp
   have hch:0<ch.length->∀s,∃n:Nat,((Z8 ch s:Nat):Int)=(n:Int)/\n<nch:=fun hp s=>⟨_,rfl,by rw [<- hS.chs];exact a6F hp⟩
   have hex:1<=(nd t k).kids.length->a19 (nd t ((nd t k).kid 0)).kind->∃n:Nat,(((nd t k).kid 0:Nat):Int)=(n:Int)/\n<t.length/\a19 (nd t n).kind:=fun h1 h2=>⟨_,rfl,(hks _ (Z3 h1)).2,h2⟩
   have ip:=a5r p frm ((nd t k).num 0)
   have gi:=b3c p frm ((nd t k).num 0)
   have ii:=b0x (n:=frm) (is:=(nd t k).num 0) h
   unfold y0
   simp only
   have hp2:=h.two
   by_cases c6:(nd t k).kind=6
   ·rw [if_pos c6]
    have h1:=hno.one (by omega)
    refine ⟨a0C h ⟨hfr,hto,by simp,by simp,fun _=>hex (by omega) h1.2,fun _=>hvar (hS.v (by omega)) _,by simp,by simp,fun _=>rfl⟩,a0B _ _ _ _ _ _ _ _⟩
   rw [if_neg c6]
   by_cases c7:(nd t k).kind=7
   ·rw [if_pos c7]
    have h1:=hno.one (by omega)
    refine ⟨a0C h ⟨hfr,hto,by simp,by simp,fun _=>hex (by omega) h1.2,by simp,fun _=>rfl,fun _=>hch (hS.c (by omega)) _,by simp⟩,a0B _ _ _ _ _ _ _ _⟩
   rw [if_neg c7]
   by_cases c8:(nd t k).kind=8
   ·rw [if_pos c8]
    refine ⟨a0C ii ⟨by rw [ip.1];exact hfr,by rw [ip.1];exact hto,by simp,fun _=>rfl,by simp,fun _=>by rw [ip.2.2.1];exact hvar (hS.v (by omega)) _,by simp,fun _=>hch (hS.c (by omega)) _,by simp⟩,gi.trans (a0B _ _ _ _ _ _ _ _)⟩
   rw [if_neg c8]
   by_cases c9:(nd t k).kind=9
   ·rw [if_pos c9]
    have h1:=hno.one (by omega)
    exact ⟨a0C ii (a2a (.inl rfl) (by rw [ip.1];exact hfr) (by rw [ip.1];exact hto) (hks _ (Z3 (by omega))).2 h1.2),gi.trans (a0B _ _ _ _ _ _ _ _)⟩
   rw [if_neg c9]
   by_cases c10:(nd t k).kind=10
   ·rw [if_pos c10]
    have h1:=hno.choose c10
    have:=b0r (frm:=frm) (to:=to) (fun b hb=>bl b hb (h1.2 b hb)) ii (ip.2.2.2.trans hn) (ip.2.2.1.trans hv) (by rw [ip.1];exact hfr) (by rw [ip.1];exact hto)
    exact ⟨this.1,gi.trans this.2⟩
   rw [if_neg c10]
   by_cases c11:(nd t k).kind=11
   ·rw [if_pos c11]
    obtain ⟨l1,l2,l3,l4⟩:=hno.cond c11
    have k0:=(hks _ (Z3 (i:=0) (by omega))).2
    have m1:=Z3 (x:=nd t k) (i:=1) (by omega)
    have i1:=a0C (node:=k) (a1M h) (a2a (.inl rfl) (frm:=frm) (to:=p.places) (Nat.lt_succ_of_lt hfr) (Nat.lt_succ_self _) k0 l2)
    have g1:=(a17 p).trans (a0B p.place frm p.places 4 k ((nd t k).kid 0:Nat) (-1) (-1))
    have s1:=a3v (b:=(nd t k).kid 1) (frm:=p.places) (to:=to) (bl _ m1 l3) i1 hn hv (Nat.lt_succ_self _) (Nat.lt_succ_of_lt hto)
    generalize W0 t (y0 t ch f) (p.place.put frm p.places 4 k ((nd t k).kid 0:Nat) (-1) (-1)) ((nd t k).kid 1) p.places to=q at *
    have g2:=g1.trans s1.2
    have:=g2.places
    split
    ·exact ⟨a0C s1.1 (a2a (.inr rfl) (by omega) (by omega) k0 l2),g2.trans (a0B _ _ _ _ _ _ _ _)⟩
    ·have l3':(nd t k).kids.length=3:=by omega
     have m2:=Z3 (x:=nd t k) (i:=2) (by omega)
     have hpl:q.place.places=q.places+1:=rfl
     have i2:=a0C (node:=k) (a1M s1.1) (a2a (.inr rfl) (frm:=frm) (to:=q.places) (by omega) (Nat.lt_succ_self _) k0 l2)
     have g3:=(g2.trans (a17 _)).trans (a0B _ frm q.places 5 k ((nd t k).kid 0:Nat) (-1) (-1))
     have s2:=a3v (b:=(nd t k).kid 2) (frm:=q.places) (to:=to) (bl _ m2 (l4 l3')) i2 (g3.names.trans hn) (g3.vars.trans hv) (Nat.lt_succ_self _) (by show to<q.places+1;omega)
     exact ⟨s2.1,g3.trans s2.2⟩
   rw [if_neg c11]
   by_cases c12:(nd t k).kind=12
   ·rw [if_pos c12]
    obtain ⟨l1,l2,l3⟩:=hno.loop c12
    have k0:=(hks _ (Z3 (i:=0) (by omega))).2
    have m1:=Z3 (x:=nd t k) (i:=1) (by omega)
    have i1:=a0C (node:=k) (a1M h) (a2a (.inl rfl) (frm:=frm) (to:=p.places) (Nat.lt_succ_of_lt hfr) (Nat.lt_succ_self _) k0 l2)
    have i2:=a0C (node:=k) i1 (a2a (.inr rfl) (frm:=frm) (to:=to) (Nat.lt_succ_of_lt hfr) (Nat.lt_succ_of_lt hto) k0 l2)
    have g1:=((a17 p).trans (a0B p.place frm p.places 4 k ((nd t k).kid 0:Nat) (-1) (-1))).trans (a0B _ frm to 5 k ((nd t k).kid 0:Nat) (-1) (-1))
    have s1:=a3i (node:=(nd t k).kid 1) (frm:=p.places) (to:=frm) (bl _ m1 l3) i2 hn hv (Nat.lt_succ_self _) (Nat.lt_succ_of_lt hfr)
    exact ⟨s1.1,g1.trans s1.2⟩
   rw [if_neg c12]
   by_cases c13:(nd t k).kind=13
   ·rw [if_pos c13]
    obtain ⟨l1,l2⟩:=hno.atom c13
    have m0:=Z3 (x:=nd t k) (i:=0) (by omega)
    have s1:=a3i (node:=(nd t k).kid 0) (frm:=frm) (to:=to) (bl _ m0 l2) h hn hv hfr hto
    obtain ⟨l,hl⟩:=s1.2.edges
    refine ⟨⟨s1.1.two,s1.1.rest,fun e he=>?_⟩,⟨s1.2.name,s1.2.copy,s1.2.locals,s1.2.names,s1.2.vars,s1.2.places,l.map fun e=>{ e with keep:=e.to != to&&e.to != 1 },?_⟩⟩
    ·obtain ⟨e',h',b,rfl⟩:=b6T he
     have:=s1.1.ed e' h'
     exact ⟨this.f,this.to,this.act,this.ex0,this.ex1,this.v1,this.v0,this.c1,this.c0⟩
    ·show a06 _ _ (W0 t (y0 t ch f) p ((nd t k).kid 0) frm to).edges=p.edges++l.map fun e=>{ e with keep:=e.to != to&&e.to != 1 }
     unfold a06 W0
     rw [hl,List.take_left,List.drop_left]
   rw [if_neg c13]
   by_cases c15:(nd t k).kind=15
   ·rw [if_pos c15]
    exact ⟨a0C h (a45 hfr (by omega)),a0B _ _ _ _ _ _ _ _⟩
   rw [if_neg c15]
   exact ⟨a0C h (a45 hfr hto),a0B _ _ _ _ _ _ _ _⟩
end Go.V
namespace Go.V
def Fz (d:D):Prop:=∀g n,ice g (n+3) d=some d
theorem u7 {k:IntKind} {n:Int}:Fz (.int k n):=fun _ _=>rfl
theorem S8 {x:ByteArray}:Fz (.str x):=fun _ _=>rfl
theorem FL.fz {sz:Nat} {d:D} {rows:List (List D)} (h:FL sz d rows):Fz d:=fun _ _=>h.ice
theorem O1.fz {d:D} {t:List Nd} (h:O1 d t):Fz d:=h.fl.fz
theorem b1q {f:D->Option D}:∀ {l:List D},(∀d∈l,f d=some d)->M3 f l=some l
 | [],_=>rfl
 | d::r,h=>by
   rw [M3,h d (by simp),b1q fun x hx=>h x (by simp [hx])]
theorem fz1 {g:O7} {a:D} (ha:Fz a):M3 (V.ice g 20) [a]=some [a]:=by simp only [M3,ha g 17]
theorem fz2 {g:O7} {a b:D} (ha:Fz a) (hb:Fz b):M3 (V.ice g 20) [a,b]=some [a,b]:=by simp only [M3,ha g 17,hb g 17]
theorem fz3 {g:O7} {a b c:D} (ha:Fz a) (hb:Fz b) (hc:Fz c):M3 (V.ice g 20) [a,b,c]=some [a,b,c]:=by simp only [M3,ha g 17,hb g 17,hc g 17]
theorem a5a {l:List D} (h:∀d∈l,∀g n,ice g (n+2) d=some d):Fz (.agg l):=fun g n=>by
 show (M3 (V.ice g (n+2)) l).map D.agg=some (D.agg l)
 rw [b1q fun d hd=>h d hd g n]
 rfl
theorem FL.ic {sz:Nat} {d:D} {rows:List (List D)} (h:FL sz d rows):∀g n,V.ice g (n+2) d=some d:=fun _ _=>h.ice
theorem Nd.Ok.fz {x:Nd} (h:x.Ok):Fz (.agg x.row):=a5a fun d hd=>by
 simp only [Nd.row,List.mem_cons,List.not_mem_nil,or_false] at hd
 rcases hd with rfl | rfl | rfl | rfl | rfl
 ·exact fun _ _=>rfl
 ·exact FL.ic h.w
 ·exact FL.ic h.n
 ·exact FL.ic h.k
 ·exact fun _ _=>rfl
theorem b0V {x:Nd} {i:Nat} (h:i<x.kids.length):x.kid i=x.kids[i].toNat:=by simp [Nd.kid,List.getD,h]
theorem b0f {x:Nd} {i:Nat} (h:i<x.nums.length):x.num i=x.nums[i]:=by simp [Nd.num,List.getD,h]
theorem a1A {x:Nd} {i:Nat} (h:i<x.words.length):x.word i=x.words[i]:=by simp [Nd.word,List.getD,h]
theorem O1.at {d:D} {t:List Nd} (h:O1 d t) {z:Int} (h0:0<=z) (hl:z<(t.length:Int)) {k:IntKind}:M1 5 d (.int k z)=some (.fp [.int .i64 (nd t z.toNat).kind,(nd t z.toNat).dw,(nd t z.toNat).dn,(nd t z.toNat).dk,.int .i64 (nd t z.toNat).pos] 0):=by
 have hz:((z.toNat:Nat):Int)=z:=Int.toNat_of_nonneg h0
 have:=h.idx (i:=z.toNat) (by omega) (k:=k)
 rw [hz,<- a9e (by omega)] at this
 exact this
theorem O1.nd {d:D} {t:List Nd} (h:O1 d t) {i:Nat} (hi:i<t.length):(V.nd t i).Ok:=by rw [a9e hi];exact h.get hi
end Go.V
namespace Go.V
variable {fs:FuncId->Option o8}
structure Ent where
 i:Nat
 rd:Option Nat
 eff:List Nat
structure TrE (n:Nat) (e:Ent) (t:Tr):Prop where
 i:t.idx=e.i
 rd:t.rd=e.rd
 ef:∀id,id∉e.eff->t.pre.get id=t.post.get id
 lt:∀id,e.rd=some id->id<n
def TrM (n:Nat) (T:List Ent) (tr:List Tr):Prop:=∀t∈tr,(t.rd=none/\∀id,t.pre.get id=t.post.get id)∨∃e∈T,TrE n e t
def WX (fs:FuncId->Option o8) (pairs:List (Nat×Nat)) (T:List Ent) (ops:List (Nat×N6)) (env:Env) (s:i8) (Q:Env->i8->Prop):Prop:=∀tr,TrM s.next T tr->WO fs pairs ops tr env s Q
theorem c1F {vars ops p pairs dr env s Q} (h:WX fs (p::pairs) [] ops env s fun env' s'=>Q .normal (env'.keep vars) s'):WP fs vars (.region ⟨ops,p::pairs,dr⟩) env s Q:=a6Y (h [] (by simp [TrM]))
theorem a5z {a b:i8} {r:Option Nat} (h:∀id,r=some id->a.get id=b.get id):X3 a b r=true:=by
 cases r with
 | none=>rfl
 | some id=>simp only [X3];rw [h id rfl];exact a5c _
def a65 (pairs:List (Nat×Nat)) (T:List Ent) (i:Nat) (r:Option Nat) (E:List Nat):Prop:=∀e∈T,(e.i,i)∈pairs->(∀id,e.rd=some id->id∉E)/\∀id,r=some id->id∉e.eff
theorem a9a {pairs:List (Nat×Nat)} {T:List Ent} {n:Nat} {j:Tr} {E:List Nat} (hE:∀id,id∉E->j.pre.get id=j.post.get id) (hf:a65 pairs T j.idx j.rd E):∀ {tr:List Tr},TrM n T tr->Y4 pairs j tr=true
 | [],_=>rfl
 | t::r,h=>by
   have ih:=a9a hE hf (tr:=r) fun x hx=>h x (by simp [hx])
   rcases h t (by simp) with ⟨k1,k2⟩ | ⟨e,he,k⟩
   ·have s1:X3 j.pre j.post t.rd=true:=by rw [k1];rfl
    have s2:X3 t.pre t.post j.rd=true:=a5z fun id _=>k2 id
    simp only [Y4,s1,s2,Bool.and_self,ite_self,Bool.true_and,ih]
   by_cases hc:(t.idx,j.idx)∈pairs
   ·rw [k.i] at hc
    obtain ⟨f1,f2⟩:=hf e he hc
    have s1:X3 j.pre j.post t.rd=true:=a5z fun id hid=>hE id (f1 id (by rw [<- k.rd];exact hid))
    have s2:X3 t.pre t.post j.rd=true:=a5z fun id hid=>k.ef id (f2 id hid)
    simp only [Y4,s1,s2,Bool.and_self,ite_self,Bool.true_and,ih]
   ·have hc':pairs.contains (t.idx,j.idx)=false:=by rw [Bool.eq_false_iff];intro h';rw [List.contains_iff_mem] at h';exact hc h'
    simp only [Y4,hc',Bool.false_eq_true,if_false,Bool.true_and,ih]
theorem TrM.grow {n m:Nat} {T:List Ent} {tr:List Tr} (h:TrM n T tr) (hm:n<=m) (e:Ent):TrM m (e::T) tr:=fun t ht=>by
 rcases h t ht with k | ⟨e',h1,h2⟩
 ·exact .inl k
 ·exact .inr ⟨e',by simp [h1],h2.i,h2.rd,h2.ef,fun id hid=>Nat.lt_of_lt_of_le (h2.lt id hid) hm⟩
theorem a82 {pairs T i o rest env s Q} (hw:Y3 env o.guard=some true) {d s'} {E:List Nat} (m:Nat) (hr:O2 (Z2 fs (N7 fs m)) env s o.op=some (d,s')) (hE:∀id,id∉E->s.get id=s'.get id) (hn:s.next<=s'.next) (hl:∀id,V4 env o.op=some id->id<s.next) (hf:a65 pairs T i (V4 env o.op) E)
 (h:WX fs pairs (⟨i,V4 env o.op,E⟩::T) rest (env.put o.dst d) s' Q):WX fs pairs T ((i,o)::rest) env s Q:=by
 intro tr ht
 refine a1f hw m hr (a9a (j:=⟨i,V4 env o.op,s,s'⟩) hE hf ht) (h _ ?_)
 split
 ·exact ht.grow hn _
 ·intro t hm
  rcases List.mem_cons.1 hm with rfl | hm
  ·exact .inr ⟨⟨i,V4 env o.op,E⟩,by simp,rfl,rfl,hE,fun id hid=>Nat.lt_of_lt_of_le (hl id hid) hn⟩
  ·exact ht.grow hn _ t hm
theorem b8P {pairs:List (Nat×Nat)} {T:List Ent} {i:Nat}:a65 pairs T i none []:=fun e _ _=>⟨by simp,by simp⟩
theorem a68 {pairs T i o rest env s Q} (hw:Y3 env o.guard=some true) {d} (m:Nat) (hr:O2 (Z2 fs (N7 fs m)) env s o.op=some (d,s)) (hn:V4 env o.op=none) (h:WX fs pairs T rest (env.put o.dst d) s Q):WX fs pairs T ((i,o)::rest) env s Q:=by
 intro tr ht
 refine a1f hw m hr (a9a (E:=[]) (fun _ _=>rfl) (by rw [hn];exact b8P) ht) (h _ ?_)
 split
 ·exact ht
 ·intro t hm
  rcases List.mem_cons.1 hm with rfl | hm
  ·exact .inl ⟨hn,fun _=>rfl⟩
  ·exact ht t hm
theorem c2H {pairs T env s Q} (h:Q env s):WX fs pairs T [] env s Q:=fun _ _=>b26 h
theorem b2X {pairs T i o rest env s Q} (hw:Y3 env o.guard=some false) (h:WX fs pairs T rest (env.put o.dst (.tup [])) s Q):WX fs pairs T ((i,o)::rest) env s Q:=fun tr ht=>b3G hw (h tr ht)
theorem b7a {pairs T i t o rest s Q} {env:Env} {d:D} (hr:evP env o=some d) (h:WX fs pairs T rest ((t,d)::env) s Q):WX fs pairs T ((i,⟨some t,.p o,none⟩)::rest) env s Q :=
 a68 rfl 0 (by simp only [O2,hr,Option.map_some]) rfl h
theorem b9Q {pairs T i t n x rest s Q} {env:Env} {d:D} {cs:List D} {off:Nat} (hx:env.ev x=.fp cs off) (hr:ldV s.get n (.fp cs off)=some d) (h:WX fs pairs T rest ((t,d)::env) s Q):WX fs pairs T ((i,⟨some t,.r (.load n x),none⟩)::rest) env s Q :=
 a68 rfl 0 (by simp only [O2,a4p,hx,hr,Option.map_some]) (by simp only [V4,rdR,hx]) h
theorem c0Z {pairs T i t n x rest s Q} {env:Env} {d:D} {id off:Nat} (hx:env.ev x=.ptr id off) (hr:ldV s.get n (.ptr id off)=some d) (hf:∀e∈T,(e.i,i)∈pairs->id∉e.eff) (h:WX fs pairs (⟨i,some id,[]⟩::T) rest ((t,d)::env) s Q):WX fs pairs T ((i,⟨some t,.r (.load n x),none⟩)::rest) env s Q:=by
 have hrd:V4 env (.r (.load n x))=some id:=by simp only [V4,rdR,hx]
 have hlt:id<s.next:=by
  simp only [ldV] at hr
  cases hg:s.get id with
  | none=>rw [hg] at hr;cases hr
  | some o=>exact k4 hg
 refine a82 (E:=[]) rfl 0 (d:=d) (s':=s) (by simp only [O2,a4p,hx,hr,Option.map_some]) (fun _ _=>rfl) (Nat.le_refl _) ?_ ?_ ?_
 ·intro j hj
  simp only [hrd,Option.some.injEq] at hj
  subst hj;exact hlt
 ·simp only [hrd]
  intro e he hp
  refine ⟨by simp,fun j hj=>?_⟩
  simp only [Option.some.injEq] at hj
  subst hj
  exact hf e he hp
 ·simp only [hrd];exact h
theorem b6s {pairs T i t o rest s Q} {env:Env} {ob:M6} {m:P5} (hr:evA env o=some (ob,m)) (h:WX fs pairs (⟨i,none,[s.next]⟩::T) rest ((t,m.at s.next)::env) (s.push ob) Q):WX fs pairs T ((i,⟨some t,.a o,none⟩)::rest) env s Q:=by
 intro tr ht
 have hE:∀id,id∉[s.next]->s.get id=(s.push ob).get id:=fun id hid=>by
  rw [i8.get_push,if_neg (by simpa using hid)]
 refine a1f rfl 0 (d:=m.at s.next) (s':=s.push ob) (by simp only [O2,hr]) ?_ (h _ ?_)
 ·have key:∀ {tr:List Tr},TrM s.next T tr->Y4 pairs ⟨i,none,s,s.push ob⟩ tr=true:=by
   intro tr
   induction tr with
   | nil=>intro _;rfl
   | cons x r ih =>
     intro hx
     have ih:=ih fun y hy=>hx y (by simp [hy])
     have s1:X3 s (s.push ob) x.rd=true:=by
      rcases hx x (by simp) with ⟨k1,_⟩ | ⟨e,_,k⟩
      ·rw [k1];rfl
      ·refine a5z fun id hid=>hE id ?_
       have:=k.lt id (by rw [<- k.rd];exact hid)
       simp only [List.mem_singleton];omega
     have s2:X3 x.pre x.post none=true:=rfl
     simp only [Y4,s1,s2,Bool.and_self,ite_self,Bool.true_and,ih]
  exact key ht
 ·have hn:s.next<=(s.push ob).next:=by simp
  split
  ·exact ht.grow hn _
  ·intro x hm
   rcases List.mem_cons.1 hm with rfl | hm
   ·exact .inr ⟨⟨i,none,[s.next]⟩,by simp,rfl,rfl,hE,by simp⟩
   ·exact ht.grow hn _ x hm
theorem b6v {pairs T i n a v rest s Q} {env:Env} {id off:Nat} {ob:M6} (hx:env.ev a=.ptr id off) (hr:evW env s.get n a v=some (id,ob)) (hf:∀e∈T,(e.i,i)∈pairs->e.rd≠some id/\id∉e.eff) (h:WX fs pairs (⟨i,some id,[id]⟩::T) rest env (s.set id (some ob)) Q):WX fs pairs T ((i,⟨none,.w n a v,none⟩)::rest) env s Q:=by
 have hrd:V4 env (.w n a v)=some id:=by simp only [V4,rdW,hx]
 have hlt:id<s.next:=by
  simp only [evW,hx] at hr
  cases hg:s.get id with
  | none=>rw [hg] at hr;cases hr
  | some o=>exact k4 hg
 refine a82 (E:=[id]) rfl 0 (d:=.tup []) (s':=s.set id (some ob)) (by simp only [O2,hr]) (fun j hj=>by rw [O6 (by simpa using hj)]) (by simp) ?_ ?_ ?_
 ·intro j hj
  simp only [hrd,Option.some.injEq] at hj
  subst hj;exact hlt
 ·simp only [hrd]
  intro e he hp
  obtain ⟨f1,f2⟩:=hf e he hp
  refine ⟨fun j hj hm=>?_,fun j hj=>?_⟩
  ·simp only [List.mem_singleton] at hm
   subst hm
   exact f1 hj
  ·simp only [Option.some.injEq] at hj
   subst hj
   exact f2
 ·simp only [hrd];exact h
theorem b15 {pairs T i t o rest s Q} {env:Env} {d:D} {s':i8} {E:List Nat} (hr:∃n,evM (Z2 fs (N7 fs n)) env s o=some (d,s')) (hE:∀id,id∉E->s.get id=s'.get id) (hn:s.next<=s'.next) (hf:∀e∈T,(e.i,i)∈pairs->∀id,e.rd=some id->id∉E)
 (h:WX fs pairs (⟨i,none,E⟩::T) rest ((t,d)::env) s' Q):WX fs pairs T ((i,⟨some t,.m o,none⟩)::rest) env s Q:=by
 obtain ⟨n,hn'⟩:=hr
 refine a82 (E:=E) rfl n (d:=d) (s':=s') (by simp only [O2];exact hn') hE hn (by intro id hid;simp [V4] at hid) (fun e he hp=>⟨hf e he hp,by intro id hid;simp [V4] at hid⟩) h
theorem b44 {pairs T i t f args rest s Q} {env:Env} {l l':List D} {d r:D} {s1:i8} (hl:env.evL args=l) (ha:M3 (ice s.get 20) l=some l')
 (hr:Ev fs f l' i8.empty r s1) (hi:ice s1.get 20 r=some d) (hs:(Y1 d||pureL l)=true)
 (h:WX fs pairs T rest ((t,d)::env) s Q):WX fs pairs T ((i,⟨some t,.m (.call .iso (.cst (.fn f [])) args),none⟩)::rest) env s Q:=by
 subst hl
 obtain ⟨n,hn⟩:=hr
 have hn':Z2 fs (N7 fs n) f l' i8.empty=some (r,s1):=hn
 exact a68 rfl n (by simp only [O2,evM,a0U,Env.ev,List.append_nil,ha,hn',hi,hs,if_true]) rfl h
end Go.V
namespace Go.V
def a1C (w:Nat->Nat×Bool) (len:Nat):List Int->Nat->Nat×Bool
 | [],next=>(next,true)
 | k::ks,next=>if k≠(next:Int)∨len<=next then (next,false) else if (w next).2 then a1C w len ks (w next).1 else ((w next).1,false)
def U7 (t:List Nd):Nat->Nat->Nat×Bool
 | 0,i=>(i,false)
 | f+1,i=>a1C (U7 t f) t.length (nd t i).kids (i+1)
structure Sub (t:List Nd) (i n:Nat):Prop where
 lt:i<n
 le:n<=t.length
 down:∀j,i<=j->j<n->∀k∈(nd t j).kids,(j:Int)<k/\k<(n:Int)
 up:∀j,i<j->j<n->∃p,i<=p/\p<n/\(j:Int)∈(nd t p).kids
def W6 (t:List Nd):List Int->Nat->Nat->Prop
 | [],a,n=>a=n
 | k::ks,a,n=>k=(a:Int)/\∃b,Sub t a b/\W6 t ks b n
theorem W6.le {t:List Nd}:∀ {ks:List Int} {a n:Nat},W6 t ks a n->a<=n
 | [],a,n,h=>Nat.le_of_eq h
 | k::ks,a,n,h=>by
   obtain ⟨_,b,h1,h2⟩:=h
   have:=h1.lt
   have:=h2.le
   omega
theorem W6.down {t:List Nd}:∀ {ks:List Int} {a n:Nat},W6 t ks a n->∀j,a<=j->j<n->∀k∈(nd t j).kids,(j:Int)<k/\k<(n:Int)
 | [],a,n,h,j,h1,h2=>by simp only [W6] at h;omega
 | k::ks,a,n,h,j,h1,h2=>by
   obtain ⟨_,b,h3,h4⟩:=h
   have:=h4.le
   by_cases hj:j<b
   ·intro x hx
    have:=h3.down j h1 hj x hx
    omega
   ·exact h4.down j (by omega) h2
theorem W6.up {t:List Nd}:∀ {ks:List Int} {a n:Nat},W6 t ks a n->∀j,a<=j->j<n->(j:Int)∈ks∨∃p,a<=p/\p<n/\(j:Int)∈(nd t p).kids
 | [],a,n,h,j,h1,h2=>by simp only [W6] at h;omega
 | k::ks,a,n,h,j,h1,h2=>by
   obtain ⟨rfl,b,h3,h4⟩:=h
   have:=h4.le
   have:=h3.lt
   by_cases hj:j<b
   ·by_cases ha:j=a
    ·subst ha;exact .inl (by simp)
    ·obtain ⟨p,p1,p2,p3⟩:=h3.up j (by omega) hj
     exact .inr ⟨p,p1,by omega,p3⟩
   ·rcases h4.up j (by omega) h2 with h | ⟨p,p1,p2,p3⟩
    ·exact .inl (by simp [h])
    ·exact .inr ⟨p,by omega,p2,p3⟩
theorem W6.mem {t:List Nd}:∀ {ks:List Int} {a n:Nat},W6 t ks a n->∀k∈ks,(a:Int)<=k/\k<(n:Int)
 | [],a,n,h=>by simp
 | k::ks,a,n,h=>by
   obtain ⟨rfl,b,h3,h4⟩:=h
   have:=h4.le
   have:=h3.lt
   intro x hx
   rcases List.mem_cons.1 hx with rfl | hx
   ·omega
   ·have:=h4.mem x hx
    omega
theorem a6g {t:List Nd} {i n:Nat} (h:W6 t (nd t i).kids (i+1) n) (hn:n<=t.length):Sub t i n:=by
 have hl:=h.le
 refine ⟨by omega,hn,fun j h1 h2=>?_,fun j h1 h2=>?_⟩
 ·by_cases hj:j=i
  ·subst hj
   intro k hk
   have:=h.mem k hk
   omega
  ·exact h.down j (by omega) h2
 ·rcases h.up j (by omega) h2 with h | ⟨p,p1,p2,p3⟩
  ·exact ⟨i,by omega,by omega,h⟩
  ·exact ⟨p,by omega,p2,p3⟩
theorem b0t {t:List Nd} {w:Nat->Nat×Bool} (hw:∀i n,i<t.length->w i=(n,true)->Sub t i n):∀ {ks:List Int} {next n:Nat},next<=t.length->a1C w t.length ks next=(n,true)->W6 t ks next n/\n<=t.length
 | [],next,n,hl,h=>by
   simp only [a1C,Prod.mk.injEq,and_true] at h
   subst h
   exact ⟨rfl,hl⟩
 | k::ks,next,n,hl,h=>by
   unfold a1C at h
   split at h
   ·simp at h
   ·rename_i hc
    split at h
    ·rename_i ht
     have hk:k=(next:Int)/\next<t.length:=by omega
     have a:=hw next (w next).1 hk.2 (by rw [<- ht])
     obtain ⟨b1,b2⟩:=b0t hw a.le h
     exact ⟨⟨hk.1,_,a,b1⟩,b2⟩
    ·simp at h
theorem a2k {t:List Nd}:∀ (f:Nat) {i n:Nat},i<t.length->U7 t f i=(n,true)->Sub t i n/\W6 t (nd t i).kids (i+1) n
 | 0,i,n,_,h=>by simp [U7] at h
 | f+1,i,n,hi,h=>by
   obtain ⟨a1,a2⟩:=b0t (fun i n hi h=>(a2k f hi h).1) (by omega) h
   exact ⟨a6g a1 a2,a1⟩
end Go.V
namespace Go.V
structure M8 (t:List Nd):Prop where
 ok:Y8 t
 subs:W6 t (nd t 0).kids 1 t.length
 walk:U7 t 20 0=(t.length,true)
def a1g:List Int->Nat->Nat->Nat
 | [],_,out=>out
 | k::ks,i,out=>a1g ks i (if k<=(i:Int) then k.toNat else out)
def item (t:List Nd) (i:Nat):Nat:=a1g (nd t 0).kids i 0
theorem a5E {ks:List Int} {i out:Nat} (h:∀k∈ks,(i:Int)<k):a1g ks i out=out:=by
 induction ks generalizing out with
 | nil=>rfl
 | cons k ks ih =>
   have:=h k (by simp)
   unfold a1g
   rw [if_neg (by omega)]
   exact ih fun x hx=>h x (by simp [hx])
theorem b2K {t:List Nd}:∀ {ks:List Int} {a n i out:Nat},W6 t ks a n->a<=i->i<n->∃b,(a1g ks i out:Int)∈ks/\Sub t (a1g ks i out) b/\a1g ks i out<=i/\i<b
 | [],a,n,i,out,h,h1,h2=>by simp only [W6] at h;omega
 | k::ks,a,n,i,out,h,h1,h2=>by
   obtain ⟨rfl,b,h3,h4⟩:=h
   unfold a1g
   rw [if_pos (by omega)]
   by_cases hb:i<b
   ·rw [a5E fun x hx=>by have:=h4.mem x hx;omega]
    exact ⟨b,by simp,by simpa using h3,by simpa using h1,hb⟩
   ·obtain ⟨c,c1,c2,c3,c4⟩:=b2K (out:=(a:Int).toNat) h4 (by omega) h2
    exact ⟨c,List.mem_cons_of_mem _ c1,c2,c3,c4⟩
theorem b9B {t:List Nd} (h:M8 t) {i:Nat} (h1:1<=i) (h2:i<t.length):∃b,(item t i:Int)∈(nd t 0).kids/\Sub t (item t i) b/\item t i<=i/\i<b:=b2K h.subs h1 h2
theorem a27 {t:List Nd} (h:M8 t) {x:Nat} (hx:(x:Int)∈(nd t 0).kids):item t x=x:=by
 have hm:=h.subs.mem _ hx
 have key:∀ {ks:List Int} {a n out:Nat},W6 t ks a n->(x:Int)∈ks->a1g ks x out=x:=by
  intro ks
  induction ks with
  | nil=>intro a n out _ hx;simp at hx
  | cons k ks ih =>
    intro a n out hs hx
    obtain ⟨rfl,b,h3,h4⟩:=hs
    unfold a1g
    rcases List.mem_cons.1 hx with hx | hx
    ·rw [if_pos (by omega),a5E fun y hy=>by have:=h4.mem y hy;have:=h3.lt;omega]
     omega
    ·exact ih h4 hx
 exact key h.subs hx
theorem b25 {t:List Nd} (h:M8 t) {x i:Nat} (hx:(x:Int)∈(nd t 0).kids):∃b,Sub t x b/\b<=t.length/\∀i,x<=i->i<b->item t i=x:=by
 have key:∀ {ks:List Int} {a n:Nat},W6 t ks a n->(x:Int)∈ks->∃b,Sub t x b/\b<=n/\∀i out,x<=i->i<b->a1g ks i out=x:=by
  intro ks
  induction ks with
  | nil=>intro a n _ hx;simp at hx
  | cons k ks ih =>
    intro a n hs hx
    obtain ⟨rfl,b,h3,h4⟩:=hs
    have hl:=h4.le
    rcases List.mem_cons.1 hx with hx | hx
    ·obtain rfl:x=a:=by omega
     refine ⟨b,h3,hl,fun i out h1 h2=>?_⟩
     unfold a1g
     rw [if_pos (by omega),a5E fun y hy=>by have:=h4.mem y hy;omega]
     omega
    ·obtain ⟨c,c1,c2,c3⟩:=ih h4 hx
     exact ⟨c,c1,c2,fun i out h1 h2=>c3 i _ h1 h2⟩
 obtain ⟨b,b1,b2,b3⟩:=key h.subs hx
 exact ⟨b,b1,b2,fun i h1 h2=>b3 i 0 h1 h2⟩
def a0p (t:List Nd) (kind:Int) (at':Nat) (s:ByteArray):Prop:=∃i,i<at'/\(nd t i).kind=kind/\(item t i=i∨item t i=item t at')/\(nd t i).word 0=s
def U5 (t:List Nd) (at':Nat) (kind:Int):Nat->List ByteArray
 | 0=>[]
 | i+1=>if (nd t i).kind=kind/\(item t i=i∨item t i=item t at')/\inB (U5 t at' kind i) ((nd t i).word 0)=false then U5 t at' kind i++[(nd t i).word 0] else U5 t at' kind i
theorem b3j {t:List Nd} {at':Nat} {kind:Int} {s:ByteArray}:∀ {n:Nat},s∈U5 t at' kind n↔∃i,i<n/\(nd t i).kind=kind/\(item t i=i∨item t i=item t at')/\(nd t i).word 0=s
 | 0=>by simp [U5]
 | n+1=>by
   have ih:=b3j (t:=t) (at':=at') (kind:=kind) (s:=s) (n:=n)
   rw [U5]
   split
   ·rename_i hc
    rw [List.mem_append,ih]
    constructor
    ·rintro (⟨i,h1,h2⟩ | h)
     ·exact ⟨i,by omega,h2⟩
     ·simp at h
      exact ⟨n,by omega,hc.1,hc.2.1,h.symm⟩
    ·rintro ⟨i,h1,h2,h3,h4⟩
     by_cases hi:i=n
     ·subst hi;right;simp [h4]
     ·exact .inl ⟨i,by omega,h2,h3,h4⟩
   ·rename_i hc
    rw [ih]
    constructor
    ·rintro ⟨i,h1,h2⟩
     exact ⟨i,by omega,h2⟩
    ·rintro ⟨i,h1,h2,h3,h4⟩
     by_cases hi:i=n
     ·subst hi
      have:(nd t i).word 0∈U5 t at' kind i:=by
       rw [<- a85]
       cases h:inB (U5 t at' kind i) ((nd t i).word 0)
       ·exact (hc ⟨h2,h3,h⟩).elim
       ·rfl
      rw [h4] at this
      obtain ⟨j,j1,j2⟩:=ih.1 this
      exact ⟨j,j1,j2⟩
     ·exact ⟨i,by omega,h2,h3,h4⟩
structure a11 (t:List Nd):Prop where
 use:∀i,i<t.length->(nd t i).kind=6∨(nd t i).kind=18->a0p t 2 i ((nd t i).word 0)
 chan:∀i,i<t.length->(nd t i).kind=7∨(nd t i).kind=19∨(nd t i).kind=8->a0p t 1 i ((nd t i).word 0)
 recv:∀i,i<t.length->(nd t i).kind=8->a0p t 2 i ((nd t i).word 1)
 once:∀i,i<t.length->(nd t i).kind=1∨(nd t i).kind=2∨(nd t i).kind=3->¬ a0p t 1 i ((nd t i).word 0)/\¬ a0p t 2 i ((nd t i).word 0)/\¬ a0p t 3 i ((nd t i).word 0)
end Go.V
namespace Go.V
def KF (t:List Nd) (g:Nat) (ks:List Int) (a n:Nat):Prop:=a1C (U7 t g) t.length ks a=(n,true)
theorem KF.cons {t:List Nd} {g:Nat} {z:Int} {zs:List Int} {a n:Nat} (h:KF t g (z::zs) a n):z=(a:Int)/\a<t.length/\∃b,U7 t g a=(b,true)/\a<b/\b<=t.length/\KF t g zs b n:=by
 unfold KF a1C at h
 split at h
 ·simp at h
 ·rename_i hc
  split at h
  ·rename_i ht
   have ha:a<t.length:=by omega
   have hw:U7 t g a=((U7 t g a).1,true):=by rw [<- ht]
   have hs:=(a2k g ha hw).1
   exact ⟨by omega,ha,(U7 t g a).1,hw,hs.lt,hs.le,h⟩
  ·simp at h
theorem KF.nil {t:List Nd} {g:Nat} {a n:Nat} (h:KF t g [] a n):n=a:=by
 simp only [KF,a1C,Prod.mk.injEq,and_true] at h
 exact h.symm
theorem KF.le {t:List Nd} {g:Nat}:∀ {ks:List Int} {a n:Nat},KF t g ks a n->a<=n
 | [],a,n,h=>by have:=h.nil;omega
 | z::zs,a,n,h=>by
   obtain ⟨_,_,b,_,h1,_,h2⟩:=h.cons
   have:=h2.le
   omega
theorem a2d {t:List Nd} {g k n:Nat} (h:U7 t g k=(n,true)):∃g',g=g'+1/\KF t g' (nd t k).kids (k+1) n:=by
 cases g with
 | zero=>simp [U7] at h
 | succ g=>exact ⟨g,rfl,h⟩
structure Gw (p q:Pr) (n:Nat):Prop where
 pl:q.places<=p.places+n
 rl:q.rest.length<=p.rest.length+n
 el:q.edges.length<=p.edges.length+n
theorem Gw.refl (p:Pr):Gw p p 0:=⟨Nat.le_refl _,Nat.le_refl _,Nat.le_refl _⟩
theorem Gw.trans {p q r:Pr} {a b:Nat} (h:Gw p q a) (k:Gw q r b):Gw p r (a+b):=⟨by have:=h.pl;have:=k.pl;omega,by have:=h.rl;have:=k.rl;omega,by have:=h.el;have:=k.el;omega⟩
theorem Gw.le {p q:Pr} {a b:Nat} (h:Gw p q a) (k:a<=b):Gw p q b:=⟨by have:=h.pl;omega,by have:=h.rl;omega,by have:=h.el;omega⟩
theorem a0t (p:Pr) (frm to act node:Nat) (expr v c:Int):Gw p (p.put frm to act node expr v c) 1:=⟨by simp [Pr.put],by simp [Pr.put],by simp [Pr.put]⟩
theorem a1T (p:Pr):Gw p p.place 1:=⟨by simp [Pr.place],by simp [Pr.place],by simp [Pr.place]⟩
theorem a6c (p:Pr) (n:Nat) (is:Int):Gw p (p.idle n is) 0:=by
 unfold Pr.idle
 split
 ·exact ⟨Nat.le_refl _,by simp,Nat.le_refl _⟩
 ·exact Gw.refl p
def StG (t:List Nd) (st:Pr->Nat->Nat->Nat->Pr) (k:Nat):Prop:=∀g n,U7 t g k=(n,true)->∀p frm to,Gw p (st p k frm to) (4*(n-k)-1)
theorem a6X {t:List Nd} {st:Pr->Nat->Nat->Nat->Pr} {node g:Nat}:∀ {ks:List Int} {a n:Nat} {p:Pr} {frm to:Nat},KF t g ks a n->(∀k∈ks.map Int.toNat,StG t st k)->Gw p (a1b st node p (ks.map Int.toNat) frm to) (4*(n-a)+1)
 | [],a,n,p,frm,to,h,_=>(a0t _ _ _ _ _ _ _ _).le (by omega)
 | [z],a,n,p,frm,to,h,hs=>by
   obtain ⟨rfl,h1,b,h2,h3,h4,h5⟩:=h.cons
   obtain rfl:=h5.nil
   exact (hs _ (by simp) g n (by simpa using h2) p frm to).le (by simp;omega)
 | z::z'::zs,a,n,p,frm,to,h,hs=>by
   obtain ⟨rfl,h1,b,h2,h3,h4,h5⟩:=h.cons
   have hle:=h5.le
   have s1:=hs ((a:Int).toNat) (by simp) g b (by simpa using h2) p.place frm p.places
   have s2:=a6X (st:=st) (node:=node) (p:=st p.place (a:Int).toNat frm p.places) (frm:=p.places) (to:=to) h5 (fun k hk=>hs k (by simp only [List.map_cons,List.mem_cons] at hk ⊢;right;exact hk))
   exact (((a1T p).trans s1).trans s2).le (by simp;omega)
theorem a1v {t:List Nd} {st:Pr->Nat->Nat->Nat->Pr} {g b n:Nat} {p:Pr} {frm to:Nat} (hb:b<t.length) (h:U7 t g b=(n,true)) (hs:∀k∈(nd t b).ks,StG t st k):Gw p (W0 t st p b frm to) (4*(n-b)-3):=by
 obtain ⟨g',rfl,hk⟩:=a2d h
 have:=hk.le
 exact (a6X hk hs).le (by omega)
theorem a9G {t:List Nd} {st:Pr->Nat->Nat->Nat->Pr} {frm to g:Nat}:∀ {ks:List Int} {a n:Nat} {p:Pr},KF t g ks a n->(∀b∈ks.map Int.toNat,∀k∈(nd t b).ks,StG t st k)->Gw p (a0i t st frm to p (ks.map Int.toNat)) (4*(n-a))
 | [],a,n,p,h,_=>(Gw.refl p).le (by omega)
 | z::zs,a,n,p,h,hs=>by
   obtain ⟨rfl,h1,b,h2,h3,h4,h5⟩:=h.cons
   have hle:=h5.le
   have hsa:∀k∈(nd t a).ks,StG t st k:=by simpa using hs (a:Int).toNat (by simp)
   rw [List.map_cons,a0i]
   simp only [Int.toNat_natCast]
   have key:∀q,Gw p q (4*(b-a)-1)->Gw p (a0i t st frm to q (zs.map Int.toNat)) (4*(n-a)):=fun q hq=>(hq.trans (a9G h5 fun b hb=>hs b (by simp only [List.map_cons,List.mem_cons];right;exact hb))).le (by omega)
   split
   ·exact key _ ((((a1T p).trans (a0t p.place frm p.places 0 a (-1) (-1) (-1))).trans (a1v h1 h2 hsa)).le (by omega))
   ·exact key _ ((a1v h1 h2 hsa).le (by omega))
theorem a6k {t:List Nd} (ht:Y8 t) (ch:List ByteArray):∀ (f k:Nat),k<t.length->a10 (nd t k).kind->t.length-k<f->StG t (y0 t ch f) k
 | 0,k,_,_,h=>by omega
 | f+1,k,hk,hst,hf=>by
   intro g n hw p frm to
   have hsub:=(a2k g hk hw).1
   have hlt:=hsub.lt
   have hle:=hsub.le
   obtain ⟨g',rfl,hkf⟩:=a2d hw
   have hno:=ht.node k hk
   have hks:=ht.ks hk
   have bl:∀b∈(nd t k).ks,(nd t b).kind=16->∀x∈(nd t b).ks,StG t (y0 t ch f) x:=fun b hb hb16 x hx=>by
    have h1:=hks b hb
    have h2:=ht.ks h1.2 x hx
    exact a6k ht ch f x h2.2 ((ht.node b h1.2).block hb16 x hx) (by omega)
   have one:∀q:Pr,Gw p q 1->Gw p q (4*(n-k)-1):=fun q h=>h.le (by omega)
   unfold y0
   simp only
   by_cases c6:(nd t k).kind=6
   ·rw [if_pos c6];exact one _ (a0t _ _ _ _ _ _ _ _)
   rw [if_neg c6]
   by_cases c7:(nd t k).kind=7
   ·rw [if_pos c7];exact one _ (a0t _ _ _ _ _ _ _ _)
   rw [if_neg c7]
   by_cases c8:(nd t k).kind=8
   ·rw [if_pos c8];exact one _ (((a6c _ _ _).trans (a0t _ _ _ _ _ _ _ _)).le (by omega))
   rw [if_neg c8]
   by_cases c9:(nd t k).kind=9
   ·rw [if_pos c9];exact one _ (((a6c _ _ _).trans (a0t _ _ _ _ _ _ _ _)).le (by omega))
   rw [if_neg c9]
   by_cases c10:(nd t k).kind=10
   ·rw [if_pos c10]
    have h1:=hno.choose c10
    exact ((a6c _ _ _).trans (a9G hkf fun b hb=>bl b hb (h1.2 b hb))).le (by omega)
   rw [if_neg c10]
   by_cases c11:(nd t k).kind=11
   ·rw [if_pos c11]
    obtain ⟨l1,l2,l3,l4⟩:=hno.cond c11
    match hkk:(nd t k).kids,l1,hkf with
    | [z0,z1],_,hkf =>
      obtain ⟨e0,_,b0,_,s0,_,hkf⟩:=hkf.cons
      obtain ⟨e1,q1,b1,w1,s1,_,hkf⟩:=hkf.cons
      have:=hkf.nil
      have k1:(nd t k).kid 1=b0:=by simp [Nd.kid,hkk,e1]
      have m1:b0∈(nd t k).ks:=by simp [Nd.ks,hkk,e1]
      rw [k1] at l3 ⊢
      rw [if_pos (by simp)]
      exact ((((a1T p).trans (a0t _ _ _ _ _ _ _ _)).trans (a1v q1 w1 (bl _ m1 l3))).trans (a0t _ _ _ _ _ _ _ _)).le (by omega)
    | [z0,z1,z2],_,hkf =>
      obtain ⟨e0,_,b0,_,s0,_,hkf⟩:=hkf.cons
      obtain ⟨e1,q1,b1,w1,s1,_,hkf⟩:=hkf.cons
      obtain ⟨e2,q2,b2,w2,s2,_,hkf⟩:=hkf.cons
      have:=hkf.nil
      have k1:(nd t k).kid 1=b0:=by simp [Nd.kid,hkk,e1]
      have k2:(nd t k).kid 2=b1:=by simp [Nd.kid,hkk,e2]
      have m1:b0∈(nd t k).ks:=by simp [Nd.ks,hkk,e1]
      have m2:b1∈(nd t k).ks:=by simp [Nd.ks,hkk,e2]
      have l4:=l4 (by rw [hkk];rfl)
      rw [k1] at l3 ⊢
      rw [k2] at l4 ⊢
      rw [if_neg (by simp)]
      exact ((((((a1T p).trans (a0t _ _ _ _ _ _ _ _)).trans (a1v q1 w1 (bl _ m1 l3))).trans (a1T _)).trans (a0t _ _ _ _ _ _ _ _)).trans (a1v q2 w2 (bl _ m2 l4))).le (by omega)
   rw [if_neg c11]
   by_cases c12:(nd t k).kind=12
   ·rw [if_pos c12]
    obtain ⟨l1,l2,l3⟩:=hno.loop c12
    match hkk:(nd t k).kids,l1,hkf with
    | [z0,z1],_,hkf =>
      obtain ⟨e0,_,b0,_,s0,_,hkf⟩:=hkf.cons
      obtain ⟨e1,q1,b1,w1,s1,_,hkf⟩:=hkf.cons
      have:=hkf.nil
      have k1:(nd t k).kid 1=b0:=by simp [Nd.kid,hkk,e1]
      have m1:b0∈(nd t k).ks:=by simp [Nd.ks,hkk,e1]
      rw [k1] at l3 ⊢
      exact ((((a1T p).trans (a0t _ _ _ _ _ _ _ _)).trans (a0t _ _ _ _ _ _ _ _)).trans (a1v q1 w1 (bl _ m1 l3))).le (by omega)
   rw [if_neg c12]
   by_cases c13:(nd t k).kind=13
   ·rw [if_pos c13]
    obtain ⟨l1,l2⟩:=hno.atom c13
    match hkk:(nd t k).kids,l1,hkf with
    | [z0],_,hkf =>
      obtain ⟨e0,q0,b0,w0,s0,_,hkf⟩:=hkf.cons
      have:=hkf.nil
      have k0:(nd t k).kid 0=k+1:=by simp [Nd.kid,hkk,e0]
      have m0:k+1∈(nd t k).ks:=by simp [Nd.ks,hkk,e0]
      rw [k0] at l2 ⊢
      have h:=a1v (p:=p) (frm:=frm) (to:=to) q0 w0 (bl _ m0 l2)
      refine ⟨Nat.le_trans h.pl (by omega),Nat.le_trans h.rl (by omega),?_⟩
      have hl:∀ (n to:Nat) (l:List Ed),(a06 n to l).length=l.length:=fun n to l=>by
       unfold a06
       rw [List.length_append,List.length_map,<- List.length_append,List.take_append_drop]
      show (a06 _ _ _).length<=_
      rw [hl]
      exact Nat.le_trans h.el (by omega)
   rw [if_neg c13]
   by_cases c15:(nd t k).kind=15
   ·rw [if_pos c15];exact one _ (a0t _ _ _ _ _ _ _ _)
   rw [if_neg c15]
   exact one _ (a0t _ _ _ _ _ _ _ _)
end Go.V
namespace Go.V
def SN (s:i8) (sz:Nat) (d:D) (rows:List (List D)):Prop:=(d=.nils/\rows=[])∨(∃id,d=.arr id 0 rows.length sz/\s.get id=some (.cells rows.flatten))∨d=.lst sz rows
theorem SN.one {s:i8} {sz:Nat} {d:D} {rows:List (List D)} (h:SN s sz d rows):q8 d=true:=by
 rcases h with ⟨rfl,_⟩ | ⟨id,rfl,_⟩ | rfl<;>rfl
theorem SN.stay {s s':i8} {sz:Nat} {d:D} {rows:List (List D)} (h:SN s sz d rows) (hf:Fr [] s s'):SN s' sz d rows:=by
 rcases h with h | ⟨id,rfl,h⟩ | h
 ·exact .inl h
 ·exact .inr (.inl ⟨id,rfl,by rw [hf.2 id (k4 h) (by simp),h]⟩)
 ·exact .inr (.inr h)
theorem SN.len {s:i8} {sz:Nat} {d:D} {rows:List (List D)} (h:SN s sz d rows):X4 false d=some (.int .i64 (rows.length:Int)):=by
 rcases h with ⟨rfl,rfl⟩ | ⟨id,rfl,_⟩ | rfl<;>rfl
theorem SN.row {s:i8} {sz:Nat} {d:D} {rows:List (List D)} (h:SN s sz d rows) (hr:∀r∈rows,r.length=sz):U4 s.get d=some rows.flatten/\a1m d=some rows.length/\Z7 sz d=true:=by
 rcases h with ⟨rfl,rfl⟩ | ⟨id,rfl,h⟩ | rfl
 ·exact ⟨rfl,rfl,rfl⟩
 rotate_left
 ·exact ⟨rfl,rfl,by simp [Z7]⟩
 ·refine ⟨?_,rfl,by simp [Z7]⟩
  have hl:rows.flatten.length=rows.length*sz:=by
   clear h
   induction rows with
   | nil=>simp
   | cons a r ih =>
     rw [List.flatten_cons,List.length_append,ih fun x hx=>hr x (by simp [hx]),hr a (by simp),List.length_cons,Nat.succ_mul]
     omega
  simp only [U4,h]
  rw [if_pos (by omega),List.drop_zero,List.take_of_length_le (by omega)]
theorem a4G {sz:Nat} {rows:List (List D)} (hr:∀r∈rows,r.length=sz):rows.flatten.length=rows.length*sz:=by
 induction rows with
 | nil=>simp
 | cons a r ih =>
   rw [List.flatten_cons,List.length_append,ih fun x hx=>hr x (by simp [hx]),hr a (by simp),List.length_cons,Nat.succ_mul]
   omega
theorem a4w {s:i8} {sz bytes id:Nat} {d:D} {old rows:List (List D)} (h:s.get id=some (.cells old.flatten)) (ho:∀r∈old,r.length=sz) (hd:SN s sz d rows) (hr:∀r∈rows,r.length=sz) (hb:bytes<=128) (hl:old.length+rows.length<=2 ^ 30) :
 ∃d' s',S9 sz bytes (.arr id 0 old.length sz) d s=some (d',s')/\∃id',d'=.arr id' 0 (old++rows).length sz/\s'.get id'=some (.cells (old++rows).flatten)/\Fr [id] s s'/\(id'=id∨s.next<=id'):=by
 have b1:(old.length+rows.length)*bytes<=2 ^ 45:=Nat.le_trans (Nat.mul_le_mul hl hb) (by decide)
 have b2:old.length+rows.length<=2 ^ 45:=Nat.le_trans hl (by decide)
 have b3:bytes<=2 ^ 20:=Nat.le_trans hb (by decide)
 obtain ⟨r1,r2,r3⟩:=hd.row hr
 have hf:=a4G ho
 by_cases hn:rows.length=0
 ·obtain rfl:=List.length_eq_zero_iff.1 hn
  refine ⟨.arr id 0 old.length sz,s,?_,id,by simp,by simpa using h,Fr.refl _ _,.inl rfl⟩
  unfold S9
  simp only [r1,r2,r3,b3,decide_true,Bool.and_self,if_true,h,Nat.zero_add,hf,and_self,List.length_nil]
 ·refine ⟨.arr s.next 0 (old.length+rows.length) sz,(s.set id none).push (.cells (old.flatten++rows.flatten)),?_,s.next,by simp,?_,(Fr.set _ (by simp)).thenPush _,.inr (Nat.le_refl _)⟩
  ·unfold S9
   simp only [r1,r2,r3,b3,decide_true,Bool.and_self,if_true,h,Nat.zero_add,hf,and_self,hn,if_false,b1,b2,List.drop_zero]
  ·rw [O4 (by simp),List.flatten_append]
theorem a07 {fs:FuncId->Option o8} {i t sz bytes a x rest s Q} {env:Env} {da dx:D} {Φ:D->i8->Prop} (hr:∃d s',S9 sz bytes da dx s=some (d,s')/\Φ d s') (ha:env.ev a=da) (hx:env.ev x=dx)
 (h:∀d s',Φ d s'->WQ fs [] rest ((t,d)::env) s' Q):WQ fs [] ((i,⟨some t,.m (.append sz bytes a x),none⟩)::rest) env s Q:=by
 obtain ⟨d,s',h1,h2⟩:=hr
 exact a72 ha hx h1 (h d s' h2)
theorem SN.of {s:i8} {sz id n:Nat} {rows:List (List D)} (h:s.get id=some (.cells rows.flatten)) (hn:rows.length=n):SN s sz (.arr id 0 n sz) rows:=.inr (.inl ⟨id,by rw [hn],h⟩)
theorem a4l:∀ {sz:Nat} {rows:List (List D)},(∀r∈rows,r.length=sz)->∀ {i f:Nat} (hi:i<rows.length),f<sz->rows.flatten[i*sz+f]?=rows[i][f]?
 | sz,[],_,i,f,hi,_=>by simp at hi
 | sz,a::r,hr,0,f,_,hf=>by
   rw [Nat.zero_mul,Nat.zero_add,List.flatten_cons,List.getElem?_append_left (by rw [hr a (by simp)];exact hf)]
   rfl
 | sz,a::r,hr,i+1,f,hi,hf=>by
   have ha:=hr a (by simp)
   rw [List.flatten_cons,List.getElem?_append_right (by rw [ha,Nat.succ_mul];omega),ha,show (i+1)*sz+f-sz=i*sz+f by rw [Nat.succ_mul];omega]
   exact a4l (fun x hx=>hr x (by simp [hx])) (by simpa using hi) hf
theorem SN.get1 {s:i8} {sz:Nat} {d:D} {rows:List (List D)} (h:SN s sz d rows) (hr:∀r∈rows,r.length=sz) {i:Nat} (hi:i<rows.length) {c:D} (hc:(rows[i])[0]?=some c) (ho:q8 c=true) (hz:0<sz):∃p,M1 sz d (.int .i64 (i:Int))=some p/\ldV s.get none p=some c/\∀id off,p=.ptr id off->id<s.next:=by
 rcases h with ⟨_,rfl⟩ | ⟨id,rfl,hg⟩ | rfl
 ·simp at hi
 ·refine ⟨.ptr id (i*sz),?_,?_,?_⟩
  ·simp only [M1]
   rw [if_pos ⟨trivial,by omega,by omega⟩]
   simp
  ·simp only [ldV,hg,Y5]
   have:=a4l hr hi (f:=0) hz
   rw [Nat.add_zero] at this
   rw [this,hc]
   simp [ho]
  ·rintro a b e
   cases e
   exact k4 hg
 ·refine ⟨.fp rows[i] 0,by simp [M1,hi],?_,by simp⟩
  simp only [ldV,Y5,hc,ho,if_true]
def Q0 (l:List Nat):List (List D):=l.map fun (n:Nat)=>[.int .i64 (n:Int)]
def P0 (l:List Bool):List (List D):=l.map fun b=>[.bool b]
def W9 (l:List ByteArray):List (List D):=l.map fun x=>[.str x]
def U1 (l:List Ed):List (List D):=l.map Ed.row
theorem a28 (l:List Bool):∀r∈P0 l,r.length=1:=by intro r h;obtain ⟨b,_,rfl⟩:=List.mem_map.1 h;rfl
theorem a4b (l:List Ed):∀r∈U1 l,r.length=8:=by intro r h;obtain ⟨b,_,rfl⟩:=List.mem_map.1 h;rfl
@[simp] theorem a3A (l:List Bool):(P0 l).length=l.length:=by simp [P0]
@[simp] theorem a3p (l:List Ed):(U1 l).length=l.length:=by simp [U1]
theorem b0M (a b:List Bool):P0 (a++b)=P0 a++P0 b:=by simp [P0]
theorem b1W (a b:List Ed):U1 (a++b)=U1 a++U1 b:=by simp [U1]
structure PrD where
 dl:D
 dr:D
 de:D
 dn:D
 dv:D
def j0 (p:Pr) (x:PrD):List D:=[.str p.name,.int .i64 (p.copy:Int),x.dl,.int .i64 (p.places:Int),x.dr,x.de,x.dn,x.dv]
structure M5 (s:i8) (p:Pr) (x:PrD):Prop where
 l:SN s 1 x.dl (Q0 p.locals)
 r:SN s 1 x.dr (P0 p.rest)
 e:SN s 8 x.de (U1 p.edges)
 n:SN s 1 x.dn (W9 p.names)
 v:SN s 1 x.dv (Q0 p.vars)
theorem M5.stay {s s':i8} {p:Pr} {x:PrD} (h:M5 s p x) (hf:Fr [] s s'):M5 s' p x:=⟨h.l.stay hf,h.r.stay hf,h.e.stay hf,h.n.stay hf,h.v.stay hf⟩
theorem a2q (l:List Nat):∀r∈Q0 l,r.length=1:=by intro r h;obtain ⟨b,_,rfl⟩:=List.mem_map.1 h;rfl
theorem a6w (l:List ByteArray):∀r∈W9 l,r.length=1:=by intro r h;obtain ⟨b,_,rfl⟩:=List.mem_map.1 h;rfl
@[simp] theorem c3c (l:List Nat):(Q0 l).length=l.length:=by simp [Q0]
@[simp] theorem b7c (l:List ByteArray):(W9 l).length=l.length:=by simp [W9]
def a0d (l:List Ch):List (List D):=l.map Ch.row
theorem a9p (l:List Ch):∀r∈a0d l,r.length=5:=by intro r h;obtain ⟨b,_,rfl⟩:=List.mem_map.1 h;rfl
@[simp] theorem a5p (l:List Ch):(a0d l).length=l.length:=by simp [a0d]
structure MdX where
 dt:D
 dc:D
 dv:D
 dp:D
 ds:D
 g:Int
 b:Bool
def N2 (m:MdX):List D:=[m.dt,.int .i64 m.g,m.dc,m.dv,m.dp,m.ds,.bool m.b]
structure a0j (s:i8) (m:MdX) (t:List Nd) (ch:List Ch):Prop where
 tr:O1 m.dt t
 c:SN s 5 m.dc (a0d ch)
 ov:q8 m.dv=true
 op:q8 m.dp=true
 os:q8 m.ds=true
theorem a0j.stay {s s':i8} {m:MdX} {t:List Nd} {ch:List Ch} (h:a0j s m t ch) (hf:Fr [] s s'):a0j s' m t ch:=⟨h.tr,h.c.stay hf,h.ov,h.op,h.os⟩
structure P7 (p:Pr) (n:Nat):Prop where
 pl:p.places<=n
 rl:p.rest.length<=n
 el:p.edges.length<=n
end Go.V
namespace Go.V
variable {fs:FuncId->Option o8}
def WQT (fs:FuncId->Option o8) (pairs:List (Nat×Nat)) (R:List Nat) (ops:List (Nat×N6)) (env:Env) (s:i8) (Q:Env->i8->Prop):Prop :=
 ∀tr:List Tr,(∀x∈tr,x.pre=x.post/\∀id,x.rd=some id->id∈R)->WO fs pairs ops tr env s Q
theorem a7N {vars ops p pairs dr env s Q} (h:WQT fs (p::pairs) [] ops env s fun env' s'=>Q .normal (env'.keep vars) s'):WP fs vars (.region ⟨ops,p::pairs,dr⟩) env s Q:=a6Y (h [] (by simp))
theorem a4f {R:List Nat} {pairs:List (Nat×Nat)} {tr:List Tr} {t:Tr} (h:∀x∈tr,x.pre=x.post/\∀id,x.rd=some id->id∈R) (ht:t.pre=t.post/\∀id,t.rd=some id->id∈R):∀x∈(if pairs.isEmpty then tr else t::tr),x.pre=x.post/\∀id,x.rd=some id->id∈R:=by
 split
 ·exact h
 ·intro x hx
  rcases List.mem_cons.1 hx with rfl | hx
  ·exact ht
  ·exact h x hx
theorem a7e {pairs R i t o rest s Q} {env:Env} {d:D} (hr:evP env o=some d) (h:WQT fs pairs R rest ((t,d)::env) s Q):WQT fs pairs R ((i,⟨some t,.p o,none⟩)::rest) env s Q:=by
 intro tr ht
 exact a1f rfl 0 (d:=d) (s':=s) (by simp only [O2,hr,Option.map_some]) (a3d rfl fun t hm=>(ht t hm).1) (h _ (a4f ht ⟨rfl,by simp [V4]⟩))
theorem a7d {pairs R i t n x rest s Q} {env:Env} {d:D} {id off:Nat} (hx:env.ev x=.ptr id off) (hr:evR env s.get (.load n x)=some d) (h:WQT fs pairs (id::R) rest ((t,d)::env) s Q):WQT fs pairs R ((i,⟨some t,.r (.load n x),none⟩)::rest) env s Q:=by
 intro tr ht
 refine a1f rfl 0 (d:=d) (s':=s) (by simp only [O2,hr,Option.map_some]) (a3d rfl fun t hm=>(ht t hm).1) (h _ (a4f (fun y hy=>⟨(ht y hy).1,fun id h=>List.mem_cons_of_mem _ ((ht y hy).2 id h)⟩) ⟨rfl,fun j hj=>?_⟩))
 simp only [V4,rdR,hx,Option.some.injEq] at hj
 simp [hj]
theorem b5E {pairs R i n a v rest s Q} {env:Env} {id:Nat} {ob:M6} (hr:evW env s.get n a v=some (id,ob)) (hid:id∉R) (hp:(rest.all fun o=>pairs.all fun p=>p.2 != o.1)=true) (h:WQ fs [] rest env (s.set id (some ob)) Q):WQT fs pairs R ((i,⟨none,.w n a v,none⟩)::rest) env s Q:=by
 intro tr ht
 refine a1f rfl 0 (d:=.tup []) (s':=s.set id (some ob)) (by simp only [O2,hr]) ?_ ?_
 ·have key:∀ {l:List Tr},(∀x∈l,x.pre=x.post/\∀j,x.rd=some j->j∈R)->Y4 pairs ⟨i,V4 env (.w n a v),s,s.set id (some ob)⟩ l=true:=by
   intro l
   induction l with
   | nil=>intro _;rfl
   | cons t r ih =>
     intro hl
     have h1:=hl t (by simp)
     have st1:X3 s (s.set id (some ob)) t.rd=true:=by
      cases hrd:t.rd with
      | none=>rfl
      | some j =>
        have hj:=h1.2 j hrd
        have hne:j≠id:=fun e=>hid (e▸hj)
        simp only [X3]
        rw [O6 hne]
        exact a5c _
     have st2:X3 t.pre t.post (V4 env (.w n a v))=true:=by rw [h1.1];exact b1A _ _
     simp only [Y4,st1,st2,Bool.and_self,ite_self,Bool.true_and]
     exact ih fun x hx=>hl x (by simp [hx])
  exact key ht
 ·obtain ⟨m,env',s',h1,h2⟩:=h [] a4J
  exact ⟨m,env',s',a39 hp h1,h2⟩
theorem a9m {pairs R i t n x rest s Q} {env:Env} {d:D} {cs:List D} {off:Nat} (hx:env.ev x=.fp cs off) (hr:evR env s.get (.load n x)=some d) (h:WQT fs pairs R rest ((t,d)::env) s Q):WQT fs pairs R ((i,⟨some t,.r (.load n x),none⟩)::rest) env s Q:=by
 intro tr ht
 refine a1f rfl 0 (d:=d) (s':=s) (by simp only [O2,hr,Option.map_some]) (a3d rfl fun t hm=>(ht t hm).1) (h _ (a4f ht ⟨rfl,fun j hj=>?_⟩))
 simp only [V4,rdR,hx] at hj
 cases hj
def a4i:D->List Nat
 | .ptr id _=>[id]
 | _=>[]
theorem b9b {p:D} {id:Nat} (h:id∈a4i p):∃off,p=.ptr id off:=by
 cases p<;>simp [a4i] at h
 subst h
 exact ⟨_,rfl⟩
theorem c2l {pairs R i t n x rest s Q} {env:Env} {d p:D} (hl:ldV s.get n p=some d) (hx:env.ev x=p) (h:WQT fs pairs (a4i p++R) rest ((t,d)::env) s Q):WQT fs pairs R ((i,⟨some t,.r (.load n x),none⟩)::rest) env s Q:=by
 intro tr ht
 refine a1f rfl 0 (d:=d) (s':=s) (by simp only [O2,a4p,hx,hl,Option.map_some]) (a3d rfl fun t hm=>(ht t hm).1) (h _ (a4f (fun y hy=>⟨(ht y hy).1,fun id h=>List.mem_append_right _ ((ht y hy).2 id h)⟩) ⟨rfl,fun j hj=>?_⟩))
 simp only [V4,rdR,hx] at hj
 refine List.mem_append_left _ ?_
 cases p<;>simp_all [a4i]
theorem b8c {pairs R i t f args rest s Q} {env:Env} {l:List D} {d:D} (hr:Ev fs f l s d s) (ha:env.evL args=l) (h:WQT fs pairs R rest ((t,d)::env) s Q):WQT fs pairs R ((i,⟨some t,.m (.call .raw (.cst (.fn f [])) args),none⟩)::rest) env s Q:=by
 subst ha
 obtain ⟨n,hn⟩:=hr
 intro tr ht
 exact a1f rfl n (d:=d) (s':=s) (by simp only [O2,evM,a0U,Env.ev,List.append_nil];exact hn) (a3d rfl fun t hm=>(ht t hm).1) (h _ (a4f ht ⟨rfl,by simp [V4]⟩))
theorem b0U {pairs R i t f args rest s Q} {env:Env} {l:List D} {P:D->i8->Prop} (hr:EvP fs f l s P) (hP:∀d s',P d s'->Fr [] s s') (hR:∀id∈R,id<s.next) (hp:(rest.all fun o=>pairs.all fun p=>p.2 != o.1)=true) (ha:env.evL args=l)
 (h:∀d s',P d s'->WQ fs [] rest ((t,d)::env) s' Q):WQT fs pairs R ((i,⟨some t,.m (.call .raw (.cst (.fn f [])) args),none⟩)::rest) env s Q:=by
 subst ha
 obtain ⟨d,s',⟨n,hn⟩,hd⟩:=hr
 have hF:=hP d s' hd
 intro tr ht
 refine a1f rfl n (d:=d) (s':=s') (by simp only [O2,evM,a0U,Env.ev,List.append_nil];exact hn) ?_ ?_
 ·have key:∀ {l:List Tr},(∀x∈l,x.pre=x.post/\∀j,x.rd=some j->j∈R)->Y4 pairs ⟨i,none,s,s'⟩ l=true:=by
   intro l
   induction l with
   | nil=>intro _;rfl
   | cons t r ih =>
     intro hl
     have h1:=hl t (by simp)
     have st1:X3 s s' t.rd=true:=by
      cases hrd:t.rd with
      | none=>rfl
      | some j =>
        have hj:=hR j (h1.2 j hrd)
        simp only [X3]
        rw [hF.2 j hj (by simp)]
        exact a5c _
     have st2:X3 t.pre t.post none=true:=rfl
     simp only [Y4,st1,st2,Bool.and_self,ite_self,Bool.true_and]
     exact ih fun x hx=>hl x (by simp [hx])
  exact key ht
 ·obtain ⟨m,env',s2,h1,h2⟩:=h d s' hd [] a4J
  exact ⟨m,env',s2,a39 hp h1,h2⟩
theorem V0 {pairs ops env s Q} {Φ:i8->Prop} (h:Φ s) (k:∀s',Φ s'->WQ fs pairs ops env s' Q):WQ fs pairs ops env s Q:=k s h
theorem a9I {pairs R ops env s Q} {Φ:i8->Prop} (h:Φ s) (k:∀s',Φ s'->WQT fs pairs R ops env s' Q):WQT fs pairs R ops env s Q:=k s h
theorem zT {F P Q:Prop} (f:F) (k:Q) (h:F->Q->P:=by
 intro f k
 (first|(with_reducible refine a7N ?_)|((with_reducible apply a7e);(focus (simp (disch:=(first|with_reducible assumption|omega|((repeat (first|rw [nP]|rw [nS]))<;>omega)|fail)) only [go_sem,Env.ev,Env.get,↓reduceIte,f]<;>rfl)))|((with_reducible apply a7d);(focus (simp only [Env.ev,Env.get,Nat.reduceEqDiff,↓reduceIte,P5.at,Nat.add_zero,Nat.zero_add,f]<;>rfl));(focus (simp (disch:=(first|with_reducible assumption|omega|((repeat (first|rw [nP]|rw [nS]))<;>omega)|fail)) only [go_sem,Env.ev,Env.get,↓reduceIte,f]<;>rfl)))|((with_reducible apply a9m);(focus (simp only [Env.ev,Env.get,Nat.reduceEqDiff,↓reduceIte,P5.at,Nat.add_zero,Nat.zero_add,f]<;>rfl));(focus (simp (disch:=(first|with_reducible assumption|omega|((repeat (first|rw [nP]|rw [nS]))<;>omega)|fail)) only [go_sem,Env.ev,Env.get,↓reduceIte,f]<;>rfl)))|(with_reducible first|apply vA|apply vB|apply vC)|((with_reducible apply vD);(focus rfl))|((with_reducible first|apply vE|apply vF|apply vG|apply vH);simp only [Env.keep,Env.get,Env.ev,List.map,Nat.reduceEqDiff,↓reduceIte,O5,M7])|((with_reducible first|apply vI|apply vJ|apply vK|apply vL|apply vM|apply vN);(focus (simp (disch:=(first|with_reducible assumption|omega|((repeat (first|rw [nP]|rw [nS]))<;>omega)|fail)) only [go_sem,Env.ev,Env.get,↓reduceIte,f]<;>rfl));(first|(with_reducible (first|apply vO|apply vP|apply vQ|apply vR|apply vS|apply vT|apply vU);try simp only [Env.put])|with_reducible refine (?_:WQ _ _ _ _ _ _))))
 repeat (first|(with_reducible refine a7N ?_)|((with_reducible apply a7e);(focus (simp (disch:=(first|with_reducible assumption|omega|((repeat (first|rw [nP]|rw [nS]))<;>omega)|fail)) only [go_sem,Env.ev,Env.get,↓reduceIte,f]<;>rfl)))|((with_reducible apply a7d);(focus (simp only [Env.ev,Env.get,Nat.reduceEqDiff,↓reduceIte,P5.at,Nat.add_zero,Nat.zero_add,f]<;>rfl));(focus (simp (disch:=(first|with_reducible assumption|omega|((repeat (first|rw [nP]|rw [nS]))<;>omega)|fail)) only [go_sem,Env.ev,Env.get,↓reduceIte,f]<;>rfl)))|((with_reducible apply a9m);(focus (simp only [Env.ev,Env.get,Nat.reduceEqDiff,↓reduceIte,P5.at,Nat.add_zero,Nat.zero_add,f]<;>rfl));(focus (simp (disch:=(first|with_reducible assumption|omega|((repeat (first|rw [nP]|rw [nS]))<;>omega)|fail)) only [go_sem,Env.ev,Env.get,↓reduceIte,f]<;>rfl)))|(with_reducible first|apply vA|apply vB|apply vC)|((with_reducible apply vD);(focus rfl))|((with_reducible first|apply vE|apply vF|apply vG|apply vH);simp only [Env.keep,Env.get,Env.ev,List.map,Nat.reduceEqDiff,↓reduceIte,O5,M7])|((with_reducible first|apply vI|apply vJ|apply vK|apply vL|apply vM|apply vN);(focus (simp (disch:=(first|with_reducible assumption|omega|((repeat (first|rw [nP]|rw [nS]))<;>omega)|fail)) only [go_sem,Env.ev,Env.get,↓reduceIte,f]<;>rfl));(first|(with_reducible (first|apply vO|apply vP|apply vQ|apply vR|apply vS|apply vT|apply vU);try simp only [Env.put])|with_reducible refine (?_:WQ _ _ _ _ _ _))))
 exact k):P:=h f k
end Go.V
namespace Go.V
structure SF (s0:i8) (m:MdX) (nr:List D) (pr:List D) (s:i8):Prop where
 fr:Fr [] s0 s
 nx:s0.next+4<=s.next
 m:s.get s0.next=some (.cells (N2 m))
 p:s.get (s0.next+1)=some (.cells pr)
 r:s.get (s0.next+2)=some (.cells [.str (bs []),.int .i64 0,.nils,.int .i64 0,.nils,.nils,.nils,.nils])
 n:s.get (s0.next+3)=some (.cells nr)
theorem SF.call {s0:i8} {m:MdX} {nr pr:List D} {s s':i8} (h:SF s0 m nr pr s) (hf:Fr [] s s'):SF s0 m nr pr s':=by
 have:=h.nx
 have:=hf.1
 refine ⟨h.fr.trans hf (by simp),by omega,?_,?_,?_,?_⟩
 ·rw [hf.2 _ (by omega) (by simp),h.m]
 ·rw [hf.2 _ (by omega) (by simp),h.p]
 ·rw [hf.2 _ (by omega) (by simp),h.r]
 ·rw [hf.2 _ (by omega) (by simp),h.n]
theorem SF.setP {s0:i8} {m:MdX} {nr pr pr':List D} {s:i8} (h:SF s0 m nr pr s):SF s0 m nr pr' (s.set (s0.next+1) (some (.cells pr'))):=by
 have:=h.nx
 refine ⟨h.fr.thenSet _ (.inr (by omega)),by simp only [i8.next_set];omega,?_,?_,?_,?_⟩
 ·rw [O6 (by omega),h.m]
 ·rw [P8 (by omega)]
 ·rw [O6 (by omega),h.r]
 ·rw [O6 (by omega),h.n]
def Z1 (s:i8) (d:D):Prop:=∃id n z,d=.arr id 0 n z/\s.next<=id
theorem a2B {s s':i8} {d:D} {id n z:Nat} (h:d=.arr id 0 n z) (h1:s'.next<=id) (h2:s.next<=s'.next):Z1 s d:=⟨id,n,z,h,Nat.le_trans h2 h1⟩
theorem Z1.mono {s s':i8} {d:D} (h:Z1 s' d) (h2:s.next<=s'.next):Z1 s d:=by
 obtain ⟨id,n,z,h,h1⟩:=h
 exact ⟨id,n,z,h,Nat.le_trans h2 h1⟩
def StR (s:i8) (p q:Pr) (r:D) (s':i8):Prop:=∃x',r=.agg (j0 q x')/\Fr [] s s'/\M5 s' q x'/\Z1 s x'.de
theorem a0L {t:List Nd} {d:D} (hT:O1 d t) {k:Nat} (hk:k<t.length):q8 (nd t k).dw=true/\q8 (nd t k).dn=true/\q8 (nd t k).dk=true:=⟨FL.one (hT.nd hk).w,FL.one (hT.nd hk).n,FL.one (hT.nd hk).k⟩
theorem a0W {t:List Nd} {d:D} (hT:O1 d t) (ht:Y8 t) {k:Nat} (hk:k<t.length) {i:Nat} (hi:i<(nd t k).kids.length):M1 1 (nd t k).dk (.int .i64 (i:Int))=some (.fp [.int .i64 ((nd t k).kid i:Int)] 0):=by
 have:=FI.idx (hT.nd hk).k hi (k:=.i64)
 have hr:=ht.kids k hk _ (List.getElem_mem hi)
 rw [this,b0V hi,Int.toNat_of_nonneg (by omega)]
theorem a2W {t:List Nd} {d:D} (hT:O1 d t) {k:Nat} (hk:k<t.length) {i:Nat} (hi:i<(nd t k).words.length):M1 1 (nd t k).dw (.int .i64 (i:Int))=some (.fp [.str ((nd t k).word i)] 0):=by
 rw [a1A hi];exact FS.idx (hT.nd hk).w hi
theorem M5.ones {s:i8} {p:Pr} {x:PrD} (h:M5 s p x):q8 x.dl=true/\q8 x.dr=true/\q8 x.de=true/\q8 x.dn=true/\q8 x.dv=true:=⟨h.l.one,h.r.one,h.e.one,h.n.one,h.v.one⟩
theorem a0j.ones {s:i8} {m:MdX} {t:List Nd} {ch:List Ch} (h:a0j s m t ch):q8 m.dt=true/\q8 m.dc=true/\q8 m.dv=true/\q8 m.dp=true/\q8 m.ds=true:=⟨FL.one h.tr.fl,h.c.one,h.ov,h.op,h.os⟩
theorem SN.set {s:i8} {sz id:Nat} {d:D} {rows:List (List D)} {cs:List D} {o:Option M6} (h:SN s sz d rows) (hg:s.get id=some (.cells cs)) (hne:rows.flatten≠cs):SN (s.set id o) sz d rows:=by
 rcases h with h | ⟨j,rfl,h⟩ | h
 ·exact .inl h
 rotate_left
 ·exact .inr (.inr h)
 ·refine .inr (.inl ⟨j,rfl,?_⟩)
  rw [O6,h]
  rintro rfl
  rw [hg] at h
  simp only [Option.some.injEq,M6.cells.injEq] at h
  exact hne h.symm
theorem M5.set {s:i8} {p:Pr} {x:PrD} {id:Nat} {a:ByteArray} {k:IntKind} {n:Int} {rest:List D} {o:Option M6} (h:M5 s p x) (hg:s.get id=some (.cells (.str a::.int k n::rest))):M5 (s.set id o) p x:=by
 refine ⟨h.l.set hg ?_,h.r.set hg ?_,h.e.set hg ?_,h.n.set hg ?_,h.v.set hg ?_⟩
 ·cases p.locals<;>simp [Q0]
 ·cases p.rest<;>simp [P0]
 ·cases p.edges<;>simp [U1,Ed.row]
 ·match p.names with
  | []=>simp [W9]
  | [y]=>simp [W9]
  | y::z::r=>simp [W9]
 ·cases p.vars<;>simp [Q0]
theorem SF.fin {s0 s:i8} {m:MdX} {nr pr:List D} {p q:Pr} {x:PrD} (h:SF s0 m nr pr s) (hq:M5 s q x) (hz:Z1 s0 x.de):StR s0 p q (.agg (j0 q x)) (s.set (s0.next+2) (some (.cells (j0 q x)))) :=
 ⟨x,rfl,h.fr.thenSet _ (.inr (by omega)),hq.set h.r,hz⟩
theorem SF.res {s0 s:i8} {m:MdX} {nr pr:List D} {q:Pr} {x:PrD} {env:Env} (h:SF s0 m nr pr s) (hE:env.get 10=.ptr (s0.next+2) 0):S7 env (s.set (s0.next+2) (some (.cells (j0 q x)))) [(10,some (some 8))]=some (.agg (j0 q x)):=by
 have:=h.nx
 simp only [S7,U6,V6,hE,P8 (s:=s) (i:=s0.next+2) (by omega)]
 rfl
structure SL (s0:i8) (m:MdX) (nr pr:List D) (B:Nat) (lr:List D) (s:i8):Prop where
 sf:SF s0 m nr pr s
 lo:s0.next+4<=B
 l:s.get B=some (.cells lr)
theorem SL.call {s0:i8} {m:MdX} {nr pr lr:List D} {B:Nat} {s s':i8} (h:SL s0 m nr pr B lr s) (hf:Fr [] s s'):SL s0 m nr pr B lr s' :=
 ⟨h.sf.call hf,h.lo,by rw [hf.2 _ (k4 h.l) (by simp),h.l]⟩
theorem SL.setL {s0:i8} {m:MdX} {nr pr lr lr':List D} {B:Nat} {s:i8} (h:SL s0 m nr pr B lr s):SL s0 m nr pr B lr' (s.set B (some (.cells lr'))):=by
 have:=h.lo
 have hf:=h.sf
 refine ⟨⟨hf.fr.thenSet _ (.inr (by omega)),by simp only [i8.next_set];exact hf.nx,?_,?_,?_,?_⟩,h.lo,by rw [P8 (k4 h.l)]⟩
 ·rw [O6 (by omega),hf.m]
 ·rw [O6 (by omega),hf.p]
 ·rw [O6 (by omega),hf.r]
 ·rw [O6 (by omega),hf.n]
theorem SL.new {s0:i8} {m:MdX} {nr pr lr:List D} {s:i8} {z:List D} (h:SF s0 m nr pr s):SL s0 m nr pr s.next lr ((s.push (.cells z)).set s.next (some (.cells lr))):=by
 have h1:=h.call (Fr.push (ids:=[]) (s:=s) (.cells z))
 have:=h.nx
 exact SL.setL (lr:=z) ⟨h1,by omega,O4 rfl⟩
theorem M5.new {s:i8} {q:Pr} {x:PrD} {a:ByteArray} {k:IntKind} {n:Int} {rest:List D} {o:Option M6} (h:M5 s q x):M5 ((s.push (.cells (.str a::.int k n::rest))).set s.next o) q x :=
 (h.stay (Fr.push (ids:=[]) _)).set (O4 rfl)
def a3x (fs:FuncId->Option o8) (fn:Nat) (t:List Nd) (ch:List Ch) (names:List ByteArray) (vars:List Nat) (f b:Nat):Prop :=
 ∀g n,U7 t g b=(n,true)->∀ (s:i8) (m:MdX) (p:Pr) (x:PrD) (frm to:Nat),a0j s m t ch->M5 s p x->W8 t ch.length p->p.names=names->p.vars=vars->frm<p.places->to<p.places->∀N,P7 p N->N+4*(n-b)<=900000 ->
  EvP fs fn [.agg (N2 m),.agg (j0 p x),.int .i64 (b:Int),.int .i64 (frm:Int),.int .i64 (to:Int)] s (StR s p (W0 t (y0 t (ch.map Ch.name) f) p b frm to))
theorem b1K {l:List Ed} {i f:Nat} (hi:i<l.length) (hf:f<8):(U1 l).flatten[i*8+f]?=(l[i].row)[f]?:=by
 rw [a4l (a4b l) (by simpa using hi) hf]
 simp [U1]
theorem b0u:∀ {l:List Ed} {i:Nat} (hi:i<l.length) (b:Bool),(U1 l).flatten.set (i*8+6) (.bool b)=(U1 (l.set i { l[i] with keep:=b })).flatten
 | [],i,hi,_=>by simp at hi
 | e::r,0,hi,b=>by simp [U1,Ed.row]
 | e::r,i+1,hi,b=>by
   have ih:=b0u (l:=r) (i:=i) (by simpa using hi) b
   simp only [U1,List.map_cons,List.flatten_cons,List.set_cons_succ,List.getElem_cons_succ] at ih ⊢
   have hl:e.row.length=8:=rfl
   rw [List.set_append_right _ _ (by omega),hl,show (i+1)*8+6-8=i*8+6 by omega,ih]
theorem M5.edge {s:i8} {p:Pr} {x:PrD} {id n i:Nat} {b:Bool} (h:M5 s p x) (hd:x.de=.arr id 0 n 8) (hi:i<p.edges.length):M5 (s.set id (some (.cells ((U1 p.edges).flatten.set (i*8+6) (.bool b))))) { p with edges:=p.edges.set i { p.edges[i] with keep:=b } } x:=by
 have he:=h.e
 rcases he with ⟨h0,_⟩ | ⟨j,hj,hg⟩ | h0
 ·rw [hd] at h0;cases h0
 rotate_left
 ·rw [hd] at h0;cases h0
 ·rw [hd] at hj
  cases hj
  have ne:∀ (rows:List (List D)),rows.flatten[6]?≠some (.bool p.edges[0].keep)->rows.flatten≠(U1 p.edges).flatten:=fun rows h e=>by
   apply h
   rw [e]
   have:=b1K (l:=p.edges) (i:=0) (f:=6) (by omega) (by decide)
   rw [Nat.zero_mul,Nat.zero_add] at this
   rw [this]
   rfl
  have kN:∀l:List Nat,(Q0 l).flatten=l.map fun (n:Nat)=>D.int .i64 (n:Int):=by
   intro l
   induction l with
   | nil=>rfl
   | cons a r ih=>simp only [Q0,List.map_cons,List.flatten_cons] at ih ⊢;rw [ih];rfl
  refine ⟨h.l.set hg (ne _ ?_),h.r.set hg ?_,.inr (.inl ⟨id,?_,?_⟩),h.n.set hg ?_,h.v.set hg (ne _ ?_)⟩
  ·rw [kN,List.getElem?_map];cases p.locals[6]?<;>simp
  ·intro e
   have h1:=congrArg List.head? e
   revert h1
   match hpe:p.edges,hi with
   | a::r,_=>cases p.rest<;>simp [P0,U1,Ed.row]
  ·rw [hd];simp
  ·rw [P8 (k4 hg),b0u hi]
  ·intro e
   have h1:=congrArg List.head? e
   revert h1
   match hpe:p.edges,hi with
   | a::r,_=>cases p.names<;>simp [W9,U1,Ed.row]
  ·rw [kN,List.getElem?_map];cases p.vars[6]?<;>simp
theorem SF.setO {s0:i8} {m:MdX} {nr pr:List D} {s:i8} {id:Nat} {o:Option M6} (h:SF s0 m nr pr s) (hid:s0.next+4<=id):SF s0 m nr pr (s.set id o):=by
 refine ⟨h.fr.thenSet _ (.inr (by omega)),by simp only [i8.next_set];exact h.nx,?_,?_,?_,?_⟩
 ·rw [O6 (by omega),h.m]
 ·rw [O6 (by omega),h.p]
 ·rw [O6 (by omega),h.r]
 ·rw [O6 (by omega),h.n]
def a0e (A E:List Ed) (i:Nat):List Ed:=A.take i++E.drop i
theorem a41 {A E:List Ed} {i:Nat} (h:A.length=E.length):(a0e A E i).length=E.length:=by simp [a0e];omega
theorem b3t {A E:List Ed} {i:Nat} (h:A.length=E.length) (hi:i<E.length):(a0e A E i)[i]'(by rw [a41 h];exact hi)=E[i]:=by
 have hl:(A.take i).length=i:=by simp;omega
 unfold a0e
 rw [List.getElem_append_right (by omega)]
 simp only [List.getElem_drop,hl]
 congr 1
 omega
theorem b7o {A E:List Ed} {i:Nat} (h:A.length=E.length) (hi:i<E.length):(a0e A E i).set i A[i]=a0e A E (i+1):=by
 have hl:(A.take i).length=i:=by simp;omega
 unfold a0e
 rw [List.set_append_right _ _ (by omega),hl,Nat.sub_self,List.drop_eq_getElem_cons hi,List.set_cons_zero,List.take_succ_eq_append_getElem (by omega),List.append_assoc,List.singleton_append]
theorem b2c (n to:Nat) (l:List Ed):(a06 n to l).length=l.length:=by
 unfold a06
 rw [List.length_append,List.length_map,<- List.length_append,List.take_append_drop]
theorem b8K {n to:Nat} {l:List Ed} {i:Nat} (hi:i<l.length) (hn:n<=i):(a06 n to l)[i]'(by rw [b2c];exact hi)={ l[i] with keep:=l[i].to != to&&l[i].to != 1 }:=by
 unfold a06
 have hl:(l.take n).length=n:=by simp;omega
 rw [List.getElem_append_right (by omega)]
 simp only [List.getElem_map,List.getElem_drop,hl]
 have e:n+(i-n)=i:=by omega
 simp only [e]
theorem b4M {n to:Nat} {l:List Ed} (h:n<=l.length):a0e (a06 n to l) l n=l:=by
 unfold a0e a06
 rw [List.take_append_of_le_length (by simp;omega),List.take_take,Nat.min_self,List.take_append_drop]
theorem b5r {A E:List Ed} (h:A.length=E.length):a0e A E E.length=A:=by
 unfold a0e
 rw [List.drop_length,List.append_nil,<- h,List.take_length]
structure S3 (s0:i8) (m:MdX) (pr:List D) (s:i8):Prop where
 fr:Fr [] s0 s
 nx:s0.next+3<=s.next
 m:s.get s0.next=some (.cells (N2 m))
 p:s.get (s0.next+1)=some (.cells pr)
 r:s.get (s0.next+2)=some (.cells [.str (bs []),.int .i64 0,.nils,.int .i64 0,.nils,.nils,.nils,.nils])
theorem S3.call {s0:i8} {m:MdX} {pr:List D} {s s':i8} (h:S3 s0 m pr s) (hf:Fr [] s s'):S3 s0 m pr s':=by
 have:=h.nx
 have:=hf.1
 refine ⟨h.fr.trans hf (by simp),by omega,?_,?_,?_⟩
 ·rw [hf.2 _ (by omega) (by simp),h.m]
 ·rw [hf.2 _ (by omega) (by simp),h.p]
 ·rw [hf.2 _ (by omega) (by simp),h.r]
theorem S3.setP {s0:i8} {m:MdX} {pr pr':List D} {s:i8} (h:S3 s0 m pr s):S3 s0 m pr' (s.set (s0.next+1) (some (.cells pr'))):=by
 have:=h.nx
 refine ⟨h.fr.thenSet _ (.inr (by omega)),by simp only [i8.next_set];omega,?_,?_,?_⟩
 ·rw [O6 (by omega),h.m]
 ·rw [P8 (by omega)]
 ·rw [O6 (by omega),h.r]
theorem S3.fin {s0 s:i8} {m:MdX} {pr:List D} {p q:Pr} {x:PrD} (h:S3 s0 m pr s) (hq:M5 s q x) (hz:Z1 s0 x.de):StR s0 p q (.agg (j0 q x)) (s.set (s0.next+2) (some (.cells (j0 q x)))) :=
 ⟨x,rfl,h.fr.thenSet _ (.inr (by omega)),hq.set h.r,hz⟩
theorem S3.res {s0 s:i8} {m:MdX} {pr:List D} {q:Pr} {x:PrD} {env:Env} {sl:Nat} (h:S3 s0 m pr s) (hE:env.get sl=.ptr (s0.next+2) 0):S7 env (s.set (s0.next+2) (some (.cells (j0 q x)))) [(sl,some (some 8))]=some (.agg (j0 q x)):=by
 have:=h.nx
 simp only [S7,U6,V6,hE,P8 (s:=s) (i:=s0.next+2) (by omega)]
 rfl
def a5Z (fs:FuncId->Option o8) (fn:Nat) (t:List Nd) (ch:List Ch) (names:List ByteArray) (vars:List Nat) (f k:Nat):Prop :=
 ∀g n,U7 t g k=(n,true)->∀ (s:i8) (m:MdX) (p:Pr) (x:PrD) (frm to:Nat),a0j s m t ch->M5 s p x->W8 t ch.length p->p.names=names->p.vars=vars->frm<p.places->to<p.places->∀N,P7 p N->N+4*(n-k)<=900000 ->
  EvP fs fn [.agg (N2 m),.agg (j0 p x),.int .i64 (k:Int),.int .i64 (frm:Int),.int .i64 (to:Int)] s (StR s p (y0 t (ch.map Ch.name) f p k frm to))
end Go.V
namespace Go.V
abbrev Hs:=List (Nat×List D)
def Has (s:i8) (R:Hs):Prop:=∀x∈R,s.get x.1=some (.cells x.2)
structure Hp (s:i8) (W R:Hs):Prop where
 nd:(W.map Prod.fst).Nodup
 ap:∀w∈W,∀r∈R,w.1≠r.1
 w:Has s W
 r:Has s R
theorem Has.append {s:i8} {A B:Hs} (h:Has s A) (k:Has s B):Has s (A++B):=by
 intro x hx
 rcases List.mem_append.1 hx with hx | hx
 ·exact h x hx
 ·exact k x hx
theorem Has.left {s:i8} {A B:Hs} (h:Has s (A++B)):Has s A:=fun x hx=>h x (List.mem_append_left _ hx)
theorem Has.right {s:i8} {A B:Hs} (h:Has s (A++B)):Has s B:=fun x hx=>h x (List.mem_append_right _ hx)
theorem Has.fr {s s':i8} {A:Hs} (h:Has s A) (hf:Fr [] s s'):Has s' A:=fun x hx=>by
 rw [hf.2 _ (k4 (h x hx)) (by simp),h x hx]
theorem Hp.fr {s s':i8} {W R:Hs} (h:Hp s W R) (hf:Fr [] s s'):Hp s' W R:=⟨h.nd,h.ap,h.w.fr hf,h.r.fr hf⟩
theorem Hp.push {s:i8} {W R:Hs} (h:Hp s W R) (o:M6):Hp (s.push o) W R:=h.fr (Fr.push o)
theorem Hp.pushW {s:i8} {W R:Hs} (h:Hp s W R) (cs:List D):Hp (s.push (.cells cs)) ((s.next,cs)::W) R:=by
 refine ⟨?_,?_,?_,(h.push _).r⟩
 ·rw [List.map_cons,List.nodup_cons]
  refine ⟨fun hm=>?_,h.nd⟩
  obtain ⟨x,hx,e⟩:=List.mem_map.1 hm
  have:=k4 (h.w x hx)
  simp only at e
  omega
 ·intro w hw r hr
  rcases List.mem_cons.1 hw with rfl | hw
  ·have:=k4 (h.r r hr)
   simp only;omega
  ·exact h.ap w hw r hr
 ·intro x hx
  rcases List.mem_cons.1 hx with rfl | hx
  ·exact O4 rfl
  ·exact (h.push _).w x hx
theorem Hp.get {s:i8} {A B R:Hs} {id:Nat} {cs:List D} (h:Hp s (A++(id,cs)::B) R):s.get id=some (.cells cs):=h.w (id,cs) (by simp)
theorem Hp.sub {s:i8} {W W' R R':Hs} (h:Hp s W R) (hw:W'.Sublist W) (hr:∀x∈R',x∈R):Hp s W' R' :=
 ⟨h.nd.sublist (hw.map _),fun w hm r hn=>h.ap w (hw.subset hm) r (hr r hn),fun x hx=>h.w x (hw.subset hx),fun x hx=>h.r x (hr x hx)⟩
theorem Hp.perm {s:i8} {W W' R:Hs} (h:Hp s W R) (hw:W'.Perm W):Hp s W' R :=
 ⟨(hw.map _).nodup_iff.2 h.nd,fun w hm r hn=>h.ap w (hw.subset hm) r hn,fun x hx=>h.w x (hw.subset hx),h.r⟩
theorem Hp.set {s:i8} {A B R:Hs} {id:Nat} {cs:List D} (h:Hp s (A++(id,cs)::B) R) (cs':List D):Hp (s.set id (some (.cells cs'))) (A++(id,cs')::B) R:=by
 have hl:=k4 h.get
 have hn:=h.nd
 rw [List.map_append,List.map_cons,List.nodup_append] at hn
 obtain ⟨n1,n2,n3⟩:=hn
 rw [List.nodup_cons] at n2
 refine ⟨?_,?_,?_,?_⟩
 ·rw [List.map_append,List.map_cons,List.nodup_append,List.nodup_cons]
  exact ⟨n1,n2,n3⟩
 ·intro w hw r hr
  rcases List.mem_append.1 hw with hw | hw
  ·exact h.ap w (by simp [hw]) r hr
  ·rcases List.mem_cons.1 hw with rfl | hw
   ·exact h.ap (id,cs) (by simp) r hr
   ·exact h.ap w (by simp [hw]) r hr
 ·intro x hx
  rcases List.mem_append.1 hx with hx | hx
  ·rw [O6,h.w x (by simp [hx])]
   exact n3 _ (List.mem_map_of_mem hx) _ (by simp)
  ·rcases List.mem_cons.1 hx with rfl | hx
   ·exact P8 hl
   ·rw [O6,h.w x (by simp [hx])]
    rintro e
    exact n2.1 (e▸(List.mem_map.2 ⟨x,hx,rfl⟩))
 ·intro x hx
  rw [O6,h.r x hx]
  exact fun e=>h.ap (id,cs) (by simp) x hx e.symm
theorem Hp.kill {s:i8} {A B R:Hs} {id:Nat} {cs:List D} (h:Hp s (A++(id,cs)::B) R):Hp (s.set id none) (A++B) R:=by
 have hn:=h.nd
 rw [List.map_append,List.map_cons,List.nodup_append] at hn
 obtain ⟨n1,n2,n3⟩:=hn
 rw [List.nodup_cons] at n2
 have h':Hp s (A++B) R:=h.sub (List.Sublist.append_left (List.sublist_cons_self _ _) _) fun _ hx=>hx
 refine ⟨h'.nd,h'.ap,?_,?_⟩
 ·intro x hx
  rw [O6,h'.w x hx]
  rcases List.mem_append.1 hx with hx | hx
  ·exact n3 _ (List.mem_map_of_mem hx) _ (by simp)
  ·rintro e
   exact n2.1 (e▸(List.mem_map.2 ⟨x,hx,rfl⟩))
 ·intro x hx
  rw [O6,h.r x hx]
  exact fun e=>h.ap (id,cs) (by simp) x hx e.symm
theorem Hp.addR {s:i8} {W R E:Hs} (h:Hp s W R) (he:Has s E) (hc:∀w∈W,∀x∈E,w.2≠x.2):Hp s W (E++R):=by
 refine ⟨h.nd,fun w hw r hr=>?_,h.w,he.append h.r⟩
 rcases List.mem_append.1 hr with hr | hr
 ·intro e
  have h1:=h.w w hw
  rw [e,he r hr] at h1
  simp only [Option.some.injEq,M6.cells.injEq] at h1
  exact hc w hw r hr h1.symm
 ·exact h.ap w hw r hr
theorem a4H {fs:FuncId->Option o8} {vars:List Nat} {c:Z5} {env:Env} {s:i8} {id:Nat} {P:Env->i8->Prop} {Q:V2->Env->i8->Prop} (h:WP fs vars c env s (M7 id fun e env s=>e=.normal/\P env s)) (k:∀env s,P env s->Q .normal env s):WP fs vars c env s (M7 id Q):=by
 refine h.mono fun e env s hp=>?_
 cases e with
 | normal=>exact k _ _ hp.2
 | ret=>cases hp.1
 | exit i =>
   simp only [M7] at hp ⊢
   split
   ·rename_i hi
    rw [if_pos hi] at hp
    exact k _ _ hp.2
   ·rename_i hi
    rw [if_neg hi] at hp
    cases hp.1
def Rp (d:D) (sz:Nat) (rows:List (List D)) (E:Hs):Prop:=(d=.nils/\rows=[]/\E=[])∨∃id,d=.arr id 0 rows.length sz/\E=[(id,rows.flatten)]/\rows≠[]
theorem Rp.sn {s:i8} {d:D} {sz:Nat} {rows:List (List D)} {E:Hs} (h:Rp d sz rows E) (he:Has s E):SN s sz d rows:=by
 rcases h with ⟨h1,h2,_⟩ | ⟨id,h1,rfl,_⟩
 ·exact .inl ⟨h1,h2⟩
 ·exact .inr (.inl ⟨id,h1,he (id,rows.flatten) (by simp)⟩)
theorem Rp.one {d:D} {sz:Nat} {rows:List (List D)} {E:Hs} (h:Rp d sz rows E):q8 d=true:=by
 rcases h with ⟨rfl,_⟩ | ⟨id,rfl,_⟩<;>rfl
theorem Rp.len {d:D} {sz:Nat} {rows:List (List D)} {E:Hs} (h:Rp d sz rows E):X4 false d=some (.int .i64 (rows.length:Int)):=by
 rcases h with ⟨rfl,rfl,_⟩ | ⟨id,rfl,_⟩<;>rfl
theorem Rp.app {s:i8} {d:D} {sz bytes idt:Nat} {rows:List (List D)} {row:List D} {A B E R:Hs} (h:Rp d sz rows E) (hp:Hp s (A++E++B) R) (ht:s.get idt=some (.cells row)) (hr:row.length=sz) (hrs:∀r∈rows,r.length=sz) (hb:bytes<=1000) (hl:rows.length<=1000000000) :
 ∃d' s',S9 sz bytes d (.arr idt 0 1 sz) s=some (d',s')/\∃E',Rp d' sz (rows++[row]) E'/\Hp s' (A++E'++B) R/\s.next<=s'.next:=by
 have b3:bytes<=2 ^ 20:=Nat.le_trans hb (by decide)
 have r1:U4 s.get (.arr idt 0 1 sz)=some row:=by
  simp only [U4,ht,Nat.zero_add,Nat.one_mul,List.drop_zero]
  rw [if_pos (by omega),List.take_of_length_le (by omega)]
 have r2:a1m (.arr idt 0 1 sz)=some 1:=rfl
 have r3:Z7 sz (.arr idt 0 1 sz)=true:=by simp [Z7]
 rcases h with ⟨rfl,rfl,rfl⟩ | ⟨id,rfl,rfl,hne⟩
 ·refine ⟨.arr s.next 0 1 sz,s.push (.cells row),?_,[(s.next,row)],.inr ⟨s.next,rfl,by simp,by simp⟩,?_,by simp⟩
  ·unfold S9
   simp only [r1,r2,r3,b3,decide_true,Bool.and_self,if_true]
   rw [if_neg (by omega),if_pos ⟨by omega,by omega⟩]
  ·refine (hp.pushW row).perm ?_
   simp only [List.append_nil,List.append_assoc,List.singleton_append]
   exact List.perm_middle
 ·have hf:=a4G hrs
  have hg:s.get id=some (.cells rows.flatten):=by
   refine hp.w (id,rows.flatten) ?_
   simp
  have b1:(rows.length+1)*bytes<=2 ^ 45:=Nat.le_trans (Nat.mul_le_mul (show rows.length+1<=1000000001 by omega) hb) (by decide)
  have b2:rows.length+1<=2 ^ 45:=by omega
  refine ⟨.arr s.next 0 (rows.length+1) sz,(s.set id none).push (.cells (rows.flatten++row)),?_,[(s.next,rows.flatten++row)],.inr ⟨s.next,by simp,by simp,by simp⟩,?_,by simp⟩
  ·unfold S9
   simp only [r1,r2,r3,b3,decide_true,Bool.and_self,if_true,hg,Nat.zero_add,hf,and_self,List.drop_zero]
   rw [if_neg (by omega),if_pos ⟨b1,b2⟩]
  ·have h1:Hp (s.set id none) (A++B) R:=by
    refine Hp.kill (cs:=rows.flatten) ?_
    simpa only [List.append_assoc,List.singleton_append] using hp
   have h2:=h1.pushW (rows.flatten++row)
   rw [i8.next_set] at h2
   refine h2.perm ?_
   simp only [List.append_assoc,List.singleton_append]
   exact List.perm_middle
def InR (P:i8->Prop) (R:Hs):Prop:=∀s,Has s R->P s
theorem InR.mono {P:i8->Prop} {R R':Hs} (h:InR P R) (hr:∀x∈R,x∈R'):InR P R':=fun s hs=>h s fun x hx=>hs x (hr x hx)
theorem SN.parts {s:i8} {sz:Nat} {d:D} {rows:List (List D)} (h:SN s sz d rows):∃E:Hs,Has s E/\(∀e∈E,e.2=rows.flatten)/\InR (fun s=>SN s sz d rows) E:=by
 rcases h with h | ⟨id,h,hg⟩ | h
 ·exact ⟨[],by simp [Has],by simp,fun s _=>.inl h⟩
 ·exact ⟨[(id,rows.flatten)],by simpa [Has] using hg,by simp,fun s hs=>.inr (.inl ⟨id,h,hs (id,rows.flatten) (by simp)⟩)⟩
 ·exact ⟨[],by simp [Has],by simp,fun s _=>.inr (.inr h)⟩
def a3h (cs:List D):Prop:=(∃l,cs=(Q0 l).flatten)∨(∃l,cs=(P0 l).flatten)∨(∃l,cs=(U1 l).flatten)∨(∃l,cs=(W9 l).flatten)
theorem a3h.ne_box {cs rest:List D} {d:D} {t:List Nd} (h:a3h cs) (hd:O1 d t):d::rest≠cs:=by
 have hd:=hd.fl
 rcases h with ⟨l,rfl⟩ | ⟨l,rfl⟩ | ⟨l,rfl⟩ | ⟨l,rfl⟩<;>cases l<;>rcases hd with ⟨rfl,_⟩ | rfl<;>simp [Q0,P0,U1,W9,Ed.row]
theorem a3h.ne_si {cs rest:List D} {a:ByteArray} {k:IntKind} {n:Int} (h:a3h cs):D.str a::.int k n::rest≠cs:=by
 rcases h with ⟨l,rfl⟩ | ⟨l,rfl⟩ | ⟨l,rfl⟩ | ⟨l,rfl⟩
 ·cases l<;>simp [Q0]
 ·cases l<;>simp [P0]
 ·cases l<;>simp [U1,Ed.row]
 ·match l with
  | []=>simp [W9]
  | [y]=>simp [W9]
  | y::z::r=>simp [W9]
theorem M5.parts {s:i8} {p:Pr} {x:PrD} (h:M5 s p x):∃E:Hs,Has s E/\(∀e∈E,a3h e.2)/\InR (fun s=>M5 s p x) E:=by
 obtain ⟨E1,a1,b1,c1⟩:=h.l.parts
 obtain ⟨E2,a2,b2,c2⟩:=h.r.parts
 obtain ⟨E3,a3,b3,c3⟩:=h.e.parts
 obtain ⟨E4,a4,b4,c4⟩:=h.n.parts
 obtain ⟨E5,a5,b5,c5⟩:=h.v.parts
 refine ⟨E1++(E2++(E3++(E4++E5))),a1.append (a2.append (a3.append (a4.append a5))),?_,fun s hs=>⟨c1 s hs.left,c2 s hs.right.left,c3 s hs.right.right.left,c4 s hs.right.right.right.left,c5 s hs.right.right.right.right⟩⟩
 intro e he
 simp only [List.mem_append] at he
 rcases he with he | he | he | he | he
 ·exact .inl ⟨_,b1 e he⟩
 ·exact .inr (.inl ⟨_,b2 e he⟩)
 ·exact .inr (.inr (.inl ⟨_,b3 e he⟩))
 ·exact .inr (.inr (.inr ⟨_,b4 e he⟩))
 ·exact .inl ⟨_,b5 e he⟩
def X2 (l:List Vr):List (List D):=l.map Vr.row
theorem a6D (l:List Vr):∀r∈X2 l,r.length=3:=by intro r h;obtain ⟨b,_,rfl⟩:=List.mem_map.1 h;rfl
@[simp] theorem a8M (l:List Vr):(X2 l).length=l.length:=by simp [X2]
def a0M (l:List (Pr×PrD)):List (List D):=l.map fun q=>j0 q.1 q.2
theorem b1Z (l:List (Pr×PrD)):∀r∈a0M l,r.length=8:=by intro r h;obtain ⟨b,_,rfl⟩:=List.mem_map.1 h;rfl
@[simp] theorem b5c (l:List (Pr×PrD)):(a0M l).length=l.length:=by simp [a0M]
theorem b0B (l:List Vr) (v:Vr):X2 l++[v.row]=X2 (l++[v]):=by simp [X2]
theorem b8p (l:List Ch) (v:Ch):a0d l++[v.row]=a0d (l++[v]):=by simp [a0d]
theorem a5W (l:List Nat) (v:Nat):Q0 l++[[.int .i64 (v:Int)]]=Q0 (l++[v]):=by simp [Q0]
theorem a94 (l:List ByteArray) (v:ByteArray):W9 l++[[.str v]]=W9 (l++[v]):=by simp [W9]
theorem b8S (l:List (Pr×PrD)) (p:Pr) (x:PrD):a0M l++[j0 p x]=a0M (l++[(p,x)]):=by simp [a0M]
theorem Rp.si {d:D} {sz:Nat} {rows:List (List D)} {E:Hs} (h:Rp d sz rows E) (hr:∀r∈rows,∃a k n rest,r=D.str a::.int k n::rest):∀e∈E,∃a k n rest,e.2=D.str a::.int k n::rest:=by
 rcases h with ⟨_,_,rfl⟩ | ⟨id,_,rfl,hne⟩
 ·simp
 ·intro e he
  simp at he
  subst he
  cases rows with
  | nil=>exact (hne rfl).elim
  | cons r rs =>
    obtain ⟨a,k,n,rest,rfl⟩:=hr r (by simp)
    exact ⟨a,k,n,rest++rs.flatten,by simp⟩
theorem c0p (l:List Vr):∀r∈X2 l,∃a k n rest,r=D.str a::.int k n::rest:=by
 intro r h;obtain ⟨b,_,rfl⟩:=List.mem_map.1 h;exact ⟨_,_,_,_,rfl⟩
theorem c0e (l:List (Pr×PrD)):∀r∈a0M l,∃a k n rest,r=D.str a::.int k n::rest:=by
 intro r h;obtain ⟨b,_,rfl⟩:=List.mem_map.1 h;exact ⟨_,_,_,_,rfl⟩
end Go.V
namespace Go.V
def b2n (b:Bool):Nat:=if b then 1 else 0
@[simp] theorem c3a:b2n true=1:=rfl
@[simp] theorem c29:b2n false=0:=rfl
def num (f:Nat->Bool):Nat->Nat
 | 0=>0
 | n+1=>num f n+b2n (f n)*2 ^ n
def b0E (A B:Nat->Bool) (c:Bool):Nat->Bool
 | 0=>c
 | i+1=>(A i&&B i)||((A i != B i)&&b0E A B c i)
def b6E (A B:Nat->Bool) (c:Bool) (i:Nat):Bool:=(A i != B i) != b0E A B c i
def b21 (A B:Nat->Bool):Nat->Bool
 | 0=>false
 | i+1=>if A i != B i then B i else b21 A B i
def S4 (n:Int) (w:Nat):Int:=(n+2 ^ (w-1)) % 2 ^ w-2 ^ (w-1)
theorem a4O (w:Nat):(0:Int)<2 ^ w:=by
 have:(0:Int)<((2 ^ w:Nat):Int):=by exact_mod_cast Nat.pos_of_ne_zero (by simp)
 simpa using this
theorem a4M {w:Nat} (h:0<w):(2:Int) ^ w=2*2 ^ (w-1):=by
 obtain ⟨k,rfl⟩:∃k,w=k+1:=⟨w-1,by omega⟩
 rw [Int.pow_succ,Nat.add_sub_cancel];omega
theorem b3g {a b:Int} {w:Nat} (h:a % 2 ^ w=b % 2 ^ w):S4 a w=S4 b w:=by
 unfold S4
 rw [Int.add_emod,h,<- Int.add_emod]
theorem a6B {n:Int} {w:Nat} (h:0<w) (h1:-2 ^ (w-1)<=n) (h2:n<2 ^ (w-1)):S4 n w=n:=by
 unfold S4
 rw [Int.emod_eq_of_lt (by omega) (by have:=a4M h;omega)];omega
theorem b65 {n:Int} {w:Nat} (h:0<w):-2 ^ (w-1)<=S4 n w/\S4 n w<2 ^ (w-1):=by
 unfold S4
 have hp:=a4O w
 have h1:=Int.emod_nonneg (n+2 ^ (w-1)) (b:=2 ^ w) (by omega)
 have h2:=Int.emod_lt_of_pos (n+2 ^ (w-1)) hp
 have:=a4M h
 omega
def a78 (r:Nat->Bool) (d:Bool) (j:Nat):Bool:=if j=0 then d else r (j-1)
def c1e (c:Bool) (A B:Nat->Bool) (j:Nat):Bool:=if c then A j else B j
mutual
def a8f (X Y:Nat->Bool) (w:Nat):Nat->(Nat->Bool)
 | 0=>fun _=>false
 | k+1=>c1e (!b21 (a78 (a8f X Y w k) (X (w-1-k))) Y w) (b6E (a78 (a8f X Y w k) (X (w-1-k))) (fun j=>!Y j) true) (a78 (a8f X Y w k) (X (w-1-k)))
end
end Go.V
namespace Go.V
def a1l (t:List Nd) (i:Nat):Int:=if (nd t (item t i)).kind=3 then (nd t (item t i)).num 0 else 1
def a0K (t:List Nd) (kind:Int) (i:Nat):Int:=if kind=1 then 1 else min (a1l t i) 100
def O0 (t:List Nd) (kind:Int):Nat->Int
 | 0=>0
 | i+1=>if O0 t kind i<100/\(nd t i).kind=kind then O0 t kind i+a0K t kind i else O0 t kind i
theorem a9A {t:List Nd} {kind:Int} {i:Nat} (h:100<=O0 t kind i):∀ {j:Nat},i<=j->O0 t kind j=O0 t kind i
 | 0,hj=>by
   obtain rfl:i=0:=by omega
   rfl
 | j+1,hj=>by
   by_cases e:i=j+1
   ·subst e;rfl
   ·have ih:=a9A h (j:=j) (by omega)
    rw [O0,if_neg (by omega),ih]
structure a1Z (t:List Nd) (i:Nat):Prop where
 chan:(nd t i).kind=1->1<=(nd t i).num 0/\(nd t i).num 0<=3/\1<=(nd t i).num 1/\(nd t i).num 1<=8/\O0 t 1 (i+1)<=3
 var:(nd t i).kind=2->1<=(nd t i).num 0/\(nd t i).num 0<=8/\S4 ((nd t i).num 1) ((nd t i).num 0).toNat=(nd t i).num 1/\O0 t 2 (i+1)<=8
 proc:(nd t i).kind=3->1<=(nd t i).num 0/\O0 t 3 (i+1)<=4
 lit:(nd t i).kind=17->(nd t i).num 0<=127
structure a00 (t:List Nd):Prop where
 fine:∀i,i<t.length->a1Z t i
theorem a76 {t:List Nd} (h:M8 t) {i:Nat} (hi:i<t.length):item t i<=i:=by
 by_cases h0:i=0
 ·subst h0
  have:item t 0=0:=a5E fun k hk=>by have:=h.subs.mem k hk;omega
  omega
 ·obtain ⟨b,_,_,h3,_⟩:=b9B h (by omega) hi
  exact h3
theorem a95 {t:List Nd} (h:M8 t) {i:Nat} (hi:i<t.length):0<=a1l t i/\a1l t i<=999999:=by
 have:=a76 h hi
 unfold a1l
 split
 ·rename_i h3
  exact (h.ok.node _ (by omega)).copies h3
 ·omega
theorem b3q {t:List Nd} (h:M8 t) {kind:Int} {i:Nat} (hi:i<t.length):0<=a0K t kind i/\a0K t kind i<=100:=by
 have:=a95 h hi
 unfold a0K
 split<;>omega
theorem a8C {t:List Nd} (h:M8 t) {kind:Int}:∀ {i:Nat},i<=t.length->0<=O0 t kind i/\O0 t kind i<200
 | 0,_=>by simp [O0]
 | i+1,hi=>by
   have ih:=a8C h (kind:=kind) (i:=i) (by omega)
   have:=b3q h (kind:=kind) (i:=i) (by omega)
   rw [O0]
   split<;>omega
end Go.V
namespace Go.V
def a2R (x:Nd):Ch:=⟨x.word 0,x.num 0,x.num 1,x.num 2==1,x.num 3==1⟩
def a08 (x:Nd):Vr:=⟨x.word 0,x.num 0,x.num 1⟩
structure Ga where
 ch:List Ch
 vs:List Vr
 sf:List Nat
 dead:Bool
def one1 (t:List Nd) (a:Ga) (k:Nat):Ga :=
 if (nd t k).kind=1 then { a with ch:=a.ch++[a2R (nd t k)] }
 else if (nd t k).kind=2 then { a with vs:=a.vs++[a08 (nd t k)] }
 else if (nd t k).kind=4 then { a with sf:=a.sf++[(nd t k).kid 0] }
 else if (nd t k).kind=5 then { a with dead:=true } else a
def pass1 (t:List Nd) (l:List Nat):Ga:=l.foldl (one1 t) ⟨[],[],[],false⟩
theorem b6z (t:List Nd) (l:List Nat) (k:Nat):pass1 t (l++[k])=one1 t (pass1 t l) k:=by simp [pass1]
theorem a8N (t:List Nd) (l:List Nat):(pass1 t l).ch.length<=l.length/\(pass1 t l).vs.length<=l.length/\(pass1 t l).sf.length<=l.length:=by
 have key:∀ (l:List Nat) (a:Ga) (n:Nat),a.ch.length<=n/\a.vs.length<=n/\a.sf.length<=n->(l.foldl (one1 t) a).ch.length<=n+l.length/\(l.foldl (one1 t) a).vs.length<=n+l.length/\(l.foldl (one1 t) a).sf.length<=n+l.length:=by
  intro l
  induction l with
  | nil=>intro a n h;simpa using h
  | cons k l ih =>
    intro a n h
    have:=ih (one1 t a k) (n+1) (by
     obtain ⟨h1,h2,h3⟩:=h
     unfold one1
     by_cases c1:(nd t k).kind=1
     ·rw [if_pos c1];simp only [List.length_append,List.length_singleton];omega
     rw [if_neg c1]
     by_cases c2:(nd t k).kind=2
     ·rw [if_pos c2];simp only [List.length_append,List.length_singleton];omega
     rw [if_neg c2]
     by_cases c4:(nd t k).kind=4
     ·rw [if_pos c4];simp only [List.length_append,List.length_singleton];omega
     rw [if_neg c4]
     by_cases c5:(nd t k).kind=5
     ·rw [if_pos c5];simp only;omega
     rw [if_neg c5];omega)
    simp only [List.foldl_cons,List.length_cons]
    omega
 have:=key l ⟨[],[],[],false⟩ 0 (by simp)
 simpa [pass1] using this
def N5 (t:List Nd) (x:Nd):Nat:=(x.ks.takeWhile fun k=>(nd t k).kind==2).length
def T8 (t:List Nd) (x:Nd):List Nd:=(x.ks.take (N5 t x)).map (nd t)
theorem a5q (t:List Nd) (x:Nd):N5 t x<=x.ks.length:=(List.takeWhile_prefix _).length_le
@[simp] theorem a18 (t:List Nd) (x:Nd):(T8 t x).length=N5 t x:=by simp [T8,a5q]
theorem a5C {t:List Nd} {x:Nd} {i:Nat} (h:i<N5 t x) (hi:i<x.ks.length):(nd t x.ks[i]).kind=2:=by
 have key:∀ (l:List Nat) (p:Nat->Bool) (i:Nat) (h:i<l.length),i<(l.takeWhile p).length->p l[i]=true:=by
  intro l p
  induction l with
  | nil=>intro i h;simp at h
  | cons a l ih =>
    intro i h hi
    cases hp:p a
    ·simp [List.takeWhile_cons,hp] at hi
    ·cases i with
     | zero=>exact hp
     | succ i=>exact ih i (by simpa using h) (by simpa [List.takeWhile_cons,hp] using hi)
 have:=key x.ks (fun k=>(nd t k).kind==2) i hi h
 simpa using this
theorem b2Z {t:List Nd} {x:Nd} (hi:N5 t x<x.ks.length):(nd t x.ks[N5 t x]).kind≠2:=by
 have key:∀ (l:List Nat) (p:Nat->Bool) (h:(l.takeWhile p).length<l.length),p l[(l.takeWhile p).length]=false:=by
  intro l p
  induction l with
  | nil=>intro h;simp at h
  | cons a l ih =>
    intro h
    cases hp:p a
    ·simp [List.takeWhile_cons,hp]
    ·have h':(l.takeWhile p).length<l.length:=by simpa [List.takeWhile_cons,hp] using h
     have:=ih h'
     simpa [List.takeWhile_cons,hp] using this
 have:=key x.ks (fun k=>(nd t k).kind==2) hi
 intro e
 rw [beq_eq_false_iff_ne] at this
 exact this e
def pr0 (x:Nd) (c seen:Nat) (vs:List Vr) (l:List Nd):Pr :=
 ⟨x.word 0,c,(List.range l.length).map (vs.length+·),2,[false,true],[],(vs.take seen).map Vr.name++l.map (fun y=>y.word 0),List.range seen++(List.range l.length).map (vs.length+·)⟩
def a2p (t:List Nd) (ch:List ByteArray) (k seen c:Nat) (vs:List Vr):Pr :=
 a1b (y0 t ch (t.length+1)) k (pr0 (nd t k) c seen vs (T8 t (nd t k))) ((nd t k).ks.drop (N5 t (nd t k))) 0 1
def U0 (t:List Nd) (ch:List ByteArray) (k seen:Nat):Nat->List Vr×List Pr->List Vr×List Pr
 | 0,a=>a
 | c+1,a=>((U0 t ch k seen c a).1++(T8 t (nd t k)).map a08,(U0 t ch k seen c a).2++[a2p t ch k seen c (U0 t ch k seen c a).1])
structure Gb where
 seen:Nat
 vs:List Vr
 ps:List Pr
def Z0 (t:List Nd) (ch:List ByteArray) (a:Gb) (k:Nat):Gb :=
 if (nd t k).kind=3 then ⟨a.seen,(U0 t ch k a.seen ((nd t k).num 0).toNat (a.vs,a.ps)).1,(U0 t ch k a.seen ((nd t k).num 0).toNat (a.vs,a.ps)).2⟩
 else if (nd t k).kind=2 then ⟨a.seen+1,a.vs,a.ps⟩ else a
def pass2 (t:List Nd) (ch:List ByteArray) (vs:List Vr) (l:List Nat):Gb:=l.foldl (Z0 t ch) ⟨0,vs,[]⟩
theorem b0q (t:List Nd) (ch:List ByteArray) (vs:List Vr) (l:List Nat) (k:Nat):pass2 t ch vs (l++[k])=Z0 t ch (pass2 t ch vs l) k:=by simp [pass2]
structure Mo where
 tree:List Nd
 globals:Nat
 chans:List Ch
 vars:List Vr
 procs:List Pr
 safe:List Nat
 dead:Bool
def gat (t:List Nd):Ga:=pass1 t (nd t 0).ks
def chs (t:List Nd):List ByteArray:=(gat t).ch.map Ch.name
def gbt (t:List Nd):Gb:=pass2 t (chs t) (gat t).vs (nd t 0).ks
def a3b (t:List Nd):Mo:=⟨t,(gat t).vs.length,(gat t).ch,(gbt t).vs,(gbt t).ps,(gat t).sf,(gat t).dead⟩
theorem a7n (t:List Nd) (ch:List ByteArray) (k seen:Nat):∀ (c:Nat) (a:List Vr×List Pr),∃l,(U0 t ch k seen c a).1=a.1++l
 | 0,a=>⟨[],by simp [U0]⟩
 | c+1,a=>by
   obtain ⟨l,hl⟩:=a7n t ch k seen c a
   exact ⟨l++(T8 t (nd t k)).map a08,by simp [U0,hl]⟩
theorem c23 (t:List Nd) (ch:List ByteArray) (a:Gb) (k:Nat):∃l,(Z0 t ch a k).vs=a.vs++l:=by
 unfold Z0
 split
 ·exact a7n t ch k a.seen _ (a.vs,a.ps)
 ·split<;>exact ⟨[],by simp⟩
theorem a7w (t:List Nd) (ch:List ByteArray) (vs:List Vr):∀ (l:List Nat),∃m,(pass2 t ch vs l).vs=vs++m:=by
 intro l
 have key:∀ (l:List Nat) (a:Gb),(∃m,a.vs=vs++m)->∃m,(l.foldl (Z0 t ch) a).vs=vs++m:=by
  intro l
  induction l with
  | nil=>intro a h;exact h
  | cons k l ih =>
    intro a ⟨m,hm⟩
    obtain ⟨m2,hm2⟩:=c23 t ch a k
    exact ih _ ⟨m++m2,by rw [hm2,hm,List.append_assoc]⟩
 exact key l _ ⟨[],by simp⟩
theorem b2x (t:List Nd) (ch:List ByteArray) (vs:List Vr) (l:List Nat):(pass2 t ch vs l).seen=(pass1 t l).vs.length:=by
 have key:∀ (l:List Nat) (a:Ga) (b:Gb),b.seen=a.vs.length->(l.foldl (Z0 t ch) b).seen=(l.foldl (one1 t) a).vs.length:=by
  intro l
  induction l with
  | nil=>intro a b h;exact h
  | cons k l ih =>
    intro a b h
    simp only [List.foldl_cons]
    refine ih _ _ ?_
    unfold Z0 one1
    by_cases c3:(nd t k).kind=3
    ·simp [c3,h]
    ·by_cases c2:(nd t k).kind=2
     ·simp [c2,h]
     ·rw [if_neg c3,if_neg c2]
      repeat' split
      all_goals simp_all
 exact key l _ _ rfl
theorem b5k (t:List Nd) (l m:List Nat):(pass1 t l).vs.length<=(pass1 t (l++m)).vs.length:=by
 have key:∀ (m:List Nat) (a:Ga),a.vs.length<=(m.foldl (one1 t) a).vs.length:=by
  intro m
  induction m with
  | nil=>intro a;exact Nat.le_refl _
  | cons k m ih =>
    intro a
    refine Nat.le_trans ?_ (ih (one1 t a k))
    unfold one1
    repeat' split
    all_goals simp
 simp only [pass1,List.foldl_append]
 exact key m _
theorem W6.length {t:List Nd}:∀ {ks:List Int} {a n:Nat},W6 t ks a n->ks.length+a<=n
 | [],a,n,h=>by simp only [W6] at h;simp;omega
 | k::ks,a,n,h=>by
   obtain ⟨_,b,h1,h2⟩:=h
   have:=h1.lt
   have:=h2.length
   simp only [List.length_cons];omega
theorem KF.mem {t:List Nd} {g:Nat}:∀ {ks:List Int} {a n:Nat},KF t g ks a n->n<=t.length->∀k∈ks,∃b,U7 t g k.toNat=(b,true)/\k.toNat<b/\b<=n/\(k.toNat:Int)=k/\a<=k.toNat
 | [],a,n,h,_=>by simp
 | z::zs,a,n,h,hn=>by
   obtain ⟨rfl,h1,b,h2,h3,h4,h5⟩:=h.cons
   have hle:=h5.le
   intro k hk
   rcases List.mem_cons.1 hk with rfl | hk
   ·exact ⟨b,by simpa using h2,by simpa using h3,hle,by simp,by simp⟩
   ·obtain ⟨c,c1,c2,c3,c4,c5⟩:=h5.mem hn k hk
    exact ⟨c,c1,c2,c3,c4,by omega⟩
theorem M8.kf {t:List Nd} (h:M8 t):KF t 19 (nd t 0).kids 1 t.length:=by
 obtain ⟨g',hg,hk⟩:=a2d h.walk
 obtain rfl:g'=19:=by omega
 exact hk
theorem M8.item {t:List Nd} (h:M8 t) {k:Nat} (hk:k∈(nd t 0).ks):1<=k/\k<t.length/\∃b,U7 t 19 k=(b,true)/\k<b/\b<=t.length/\KF t 18 (nd t k).kids (k+1) b:=by
 obtain ⟨z,hz,rfl⟩:=List.mem_map.1 hk
 obtain ⟨b,b1,b2,b3,b4,b5⟩:=h.kf.mem (Nat.le_refl _) z hz
 obtain ⟨g',hg,hkf⟩:=a2d b1
 obtain rfl:g'=18:=by omega
 exact ⟨b5,by omega,b,b1,b2,b3,hkf⟩
theorem KF.length {t:List Nd} {g:Nat}:∀ {ks:List Int} {a n:Nat},KF t g ks a n->ks.length+a<=n
 | [],a,n,h=>by have:=h.nil;simp;omega
 | z::zs,a,n,h=>by
   obtain ⟨_,_,b,_,h1,_,h2⟩:=h.cons
   have:=h2.length
   simp only [List.length_cons];omega
theorem KF.drop {t:List Nd} {g:Nat}:∀ (i:Nat) {ks:List Int} {a n:Nat},KF t g ks a n->∃b,a<=b/\KF t g (ks.drop i) b n
 | 0,ks,a,n,h=>⟨a,Nat.le_refl _,h⟩
 | i+1,[],a,n,h=>⟨a,Nat.le_refl _,h⟩
 | i+1,z::zs,a,n,h=>by
   obtain ⟨_,_,b,_,h1,_,h2⟩:=h.cons
   obtain ⟨c,c1,c2⟩:=h2.drop i
   exact ⟨c,by omega,c2⟩
theorem b1i {x:Nd} {i:Nat} (h:i<x.kids.length):x.ks.take (i+1)=x.ks.take i++[x.kid i]:=by
 have h':i<x.ks.length:=by rw [a1d];exact h
 rw [List.take_succ_eq_append_getElem h']
 congr 2
 simp [Nd.ks,Nd.kid,List.getD,h]
theorem a3r {x:Nd} {i:Nat} (h:i<x.ks.length):x.ks[i]=x.kid i:=by
 have h':i<x.kids.length:=by rw [<- a1d];exact h
 simp [Nd.ks,Nd.kid,List.getD,h']
theorem a21 {t:List Nd} {d:D} (hT:O1 d t) {k:Nat} (hk:k<t.length) {i:Nat} (hi:i<(nd t k).nums.length):M1 1 (nd t k).dn (.int .i64 (i:Int))=some (.fp [.int .i64 ((nd t k).num i)] 0):=by
 rw [b0f hi];exact FI.idx (hT.nd hk).n hi
theorem Hp.newR {s:i8} {W R:Hs} (h:Hp s W R) (z:M6) (cs:List D):Hp ((s.push z).set s.next (some (.cells cs))) W ((s.next,cs)::R):=by
 have hf:Fr [] s ((s.push z).set s.next (some (.cells cs))):=(Fr.push _).thenSet _ (.inr (Nat.le_refl _))
 have h':=h.fr hf
 refine ⟨h'.nd,fun w hw r hr=>?_,h'.w,fun x hx=>?_⟩
 ·rcases List.mem_cons.1 hr with rfl | hr
  ·have:=k4 (h.w w hw)
   simp only;omega
  ·exact h.ap w hw r hr
 ·rcases List.mem_cons.1 hx with rfl | hx
  ·exact P8 (by simp)
  ·exact h'.r x hx
theorem Hp.newW {s:i8} {W R:Hs} (h:Hp s W R) (z:M6) (cs:List D):Hp ((s.push z).set s.next (some (.cells cs))) ((s.next,cs)::W) R:=by
 have hf:Fr [] s ((s.push z).set s.next (some (.cells cs))):=(Fr.push _).thenSet _ (.inr (Nat.le_refl _))
 have h':=h.fr hf
 refine ⟨?_,fun w hw r hr=>?_,fun x hx=>?_,h'.r⟩
 ·rw [List.map_cons,List.nodup_cons]
  refine ⟨fun hm=>?_,h.nd⟩
  obtain ⟨x,hx,e⟩:=List.mem_map.1 hm
  have:=k4 (h.w x hx)
  simp only at e
  omega
 ·rcases List.mem_cons.1 hw with rfl | hw
  ·have:=k4 (h.r r hr)
   simp only;omega
  ·exact h.ap w hw r hr
 ·rcases List.mem_cons.1 hx with rfl | hx
  ·exact P8 (by simp)
  ·exact h'.w x hx
theorem Hp.pushR {s:i8} {W R:Hs} (h:Hp s W R) (cs:List D):Hp (s.push (.cells cs)) W ((s.next,cs)::R):=by
 have h':=h.push (.cells cs)
 refine ⟨h'.nd,fun w hw r hr=>?_,h'.w,fun x hx=>?_⟩
 ·rcases List.mem_cons.1 hr with rfl | hr
  ·have:=k4 (h.w w hw)
   simp only;omega
  ·exact h.ap w hw r hr
 ·rcases List.mem_cons.1 hx with rfl | hx
  ·exact O4 rfl
  ·exact h'.r x hx
end Go.V
namespace Go.V
theorem M8.sub {t:List Nd} (h:M8 t):Sub t 0 t.length:=(a2k 20 h.ok.pos h.walk).1
theorem a4t {x:Nd} {j:Nat} (h:(j:Int)∈x.kids):j∈x.ks:=List.mem_map.2 ⟨_,h,by simp⟩
theorem a6U {t:List Nd} (h:Y8 t) {p:Nat} (hp:p<t.length) {k:Nat} (hk:k∈(nd t p).ks) :
 ((nd t p).kind=0/\1<=(nd t k).kind/\(nd t k).kind<=5)∨((nd t p).kind=3/\((nd t k).kind=2∨a10 (nd t k).kind))∨((nd t p).kind≠3/\(nd t p).kind≠0/\6<=(nd t k).kind):=by
 have hno:=h.node p hp
 have hr:=hno.kr
 have hne:(nd t p).kids≠[]:=by intro e;simp [Nd.ks,e] at hk
 have kidx:∃i,i<(nd t p).kids.length/\k=(nd t p).kid i:=by
  obtain ⟨i,hi,e⟩:=List.getElem_of_mem hk
  exact ⟨i,by rw [<- a1d];exact hi,by rw [<- e,a3r hi]⟩
 obtain ⟨i,hi,rfl⟩:=kidx
 by_cases c0:(nd t p).kind=0
 ·exact .inl ⟨c0,hno.prog c0 _ hk⟩
 by_cases c3:(nd t p).kind=3
 ·obtain ⟨v,_,h1,h2⟩:=hno.proc c3
  rw [<- List.take_append_drop v (nd t p).ks] at hk
  rcases List.mem_append.1 hk with hk | hk
  ·exact .inr (.inl ⟨c3,.inl (h1 _ hk)⟩)
  ·exact .inr (.inl ⟨c3,.inr (h2 _ hk)⟩)
 refine .inr (.inr ⟨c3,c0,?_⟩)
 by_cases a:(nd t p).kind=4∨(nd t p).kind=6∨(nd t p).kind=7∨(nd t p).kind=9∨(nd t p).kind=20∨(nd t p).kind=21
 ·have:=hno.one a
  obtain rfl:i=0:=by omega
  have:=this.2.1
  omega
 by_cases b:(nd t p).kind=10
 ·have:=(hno.choose b).2 _ hk;omega
 by_cases c:(nd t p).kind=11
 ·obtain ⟨h1,h2,h3,h4⟩:=hno.cond c
  have h2:=h2.1
  rcases (show i=0∨i=1∨i=2 by omega) with rfl | rfl | rfl
  ·omega
  ·omega
  ·have:=h4 (by omega);omega
 by_cases d:(nd t p).kind=12
 ·obtain ⟨h1,h2,h3⟩:=hno.loop d
  have h2:=h2.1
  rcases (show i=0∨i=1 by omega) with rfl | rfl<;>omega
 by_cases e:(nd t p).kind=13
 ·obtain ⟨h1,h2⟩:=hno.atom e
  obtain rfl:i=0:=by omega
  omega
 by_cases f:(nd t p).kind=16
 ·have:=(hno.block f _ hk).1;omega
 by_cases g:(nd t p).kind=22
 ·obtain ⟨h1,h2,h3,_⟩:=hno.bin g
  have h2:=h2.1
  have h3:=h3.1
  rcases (show i=0∨i=1 by omega) with rfl | rfl<;>omega
 ·exact (hne (hno.none (by omega))).elim
theorem a7o {t:List Nd} (h:M8 t) {j:Nat} (h0:0<j) (hj:j<t.length):∃p,p<t.length/\p<j/\j∈(nd t p).ks:=by
 obtain ⟨p,_,h2,h3⟩:=h.sub.up j h0 hj
 have:=h.ok.kids p h2 _ h3
 exact ⟨p,h2,by omega,a4t h3⟩
theorem b2O {t:List Nd} (h:M8 t) {j:Nat} (hj:j<t.length) (hk:(nd t j).kind=0):j=0:=by
 by_cases h0:j=0
 ·exact h0
 obtain ⟨p,p1,_,p3⟩:=a7o h (by omega) hj
 rcases a6U h.ok p1 p3 with ⟨_,k1,_⟩ | ⟨_,k1 | k1⟩ | ⟨_,_,k1⟩
 ·omega
 ·omega
 ·have:=k1.1;omega
 ·omega
theorem a6Z {t:List Nd} (h:M8 t) {j:Nat} (hj:j<t.length) (hk:(nd t j).kind=1∨(nd t j).kind=3∨(nd t j).kind=4∨(nd t j).kind=5):j∈(nd t 0).ks:=by
 have h0:j≠0:=by rintro rfl;have:=h.ok.root;omega
 obtain ⟨p,p1,_,p3⟩:=a7o h (by omega) hj
 rcases a6U h.ok p1 p3 with ⟨k0,k1,_⟩ | ⟨_,k1 | k1⟩ | ⟨_,_,k1⟩
 ·obtain rfl:=b2O h p1 k0
  exact p3
 ·omega
 ·have:=k1.1;omega
 ·omega
theorem a5N {t:List Nd} {x:Nd} (h:∃v,v<=x.ks.length/\(∀k∈x.ks.take v,(nd t k).kind=2)/\∀k∈x.ks.drop v,a10 (nd t k).kind):(∀k∈x.ks.drop (N5 t x),a10 (nd t k).kind)/\∀k∈x.ks,(nd t k).kind=2->k∈x.ks.take (N5 t x):=by
 obtain ⟨v,hv,h1,h2⟩:=h
 have hl:=a5q t x
 have e:N5 t x=v:=by
  rcases Nat.lt_trichotomy (N5 t x) v with hlt | heq | hgt
  ·have hi:N5 t x<x.ks.length:=by omega
   have:=b2Z hi
   exact (this (h1 _ (List.mem_take_iff_getElem.2 ⟨N5 t x,by omega,rfl⟩))).elim
  ·exact heq
  ·have hi:v<x.ks.length:=by omega
   have a:=a5C hgt hi
   have b:=h2 x.ks[v] (by rw [List.mem_drop_iff_getElem];exact ⟨0,by omega,by simp⟩)
   have:=b.1;omega
 rw [e]
 refine ⟨h2,fun k hk h3=>?_⟩
 rw [<- List.take_append_drop v x.ks] at hk
 rcases List.mem_append.1 hk with hk | hk
 ·exact hk
 ·have:=(h2 k hk).1;omega
theorem a8u {t:List Nd} (h:M8 t) {j:Nat} (hj:j<t.length) (hk:(nd t j).kind=2):j∈(nd t 0).ks∨∃p,p∈(nd t 0).ks/\(nd t p).kind=3/\j∈(nd t p).ks.take (N5 t (nd t p)):=by
 have h0:j≠0:=by rintro rfl;have:=h.ok.root;omega
 obtain ⟨p,p1,_,p3⟩:=a7o h (by omega) hj
 rcases a6U h.ok p1 p3 with ⟨k0,k1,_⟩ | ⟨k3,k1⟩ | ⟨_,_,k1⟩
 ·obtain rfl:=b2O h p1 k0
  exact .inl p3
 ·exact .inr ⟨p,a6Z h p1 (.inr (.inl k3)),k3,(a5N ((h.ok.node p p1).proc k3)).2 j p3 hk⟩
 ·omega
theorem a2X (t:List Nd) (l:List Nat):pass1 t l=⟨(l.filter fun k=>(nd t k).kind==1).map fun k=>a2R (nd t k),(l.filter fun k=>(nd t k).kind==2).map fun k=>a08 (nd t k),(l.filter fun k=>(nd t k).kind==4).map fun k=>(nd t k).kid 0,l.any fun k=>(nd t k).kind==5⟩:=by
 have key:∀ (l:List Nat) (a:Ga),l.foldl (one1 t) a=⟨a.ch++(l.filter fun k=>(nd t k).kind==1).map fun k=>a2R (nd t k),a.vs++(l.filter fun k=>(nd t k).kind==2).map fun k=>a08 (nd t k),a.sf++(l.filter fun k=>(nd t k).kind==4).map fun k=>(nd t k).kid 0,a.dead||l.any fun k=>(nd t k).kind==5⟩:=by
  intro l
  induction l with
  | nil=>intro a;simp
  | cons k l ih =>
    intro a
    rw [List.foldl_cons,ih]
    unfold one1
    by_cases c1:(nd t k).kind=1
    ·simp [c1]
    by_cases c2:(nd t k).kind=2
    ·simp [c2]
    by_cases c4:(nd t k).kind=4
    ·simp [c4]
    by_cases c5:(nd t k).kind=5
    ·simp [c5]
    ·have c5':((nd t k).kind==5)=false:=by rw [beq_eq_false_iff_ne];exact c5
     simp [c1,c2,c4,c5,c5']
 rw [pass1,key]
 simp
theorem b0Y {t:List Nd}:∀ {ks:List Int} {a n:Nat},W6 t ks a n->(ks.map Int.toNat).Pairwise (·<·)/\∀k∈ks.map Int.toNat,a<=k
 | [],a,n,_=>by simp
 | k::ks,a,n,h=>by
   obtain ⟨rfl,b,h1,h2⟩:=h
   have:=h1.lt
   obtain ⟨s1,s2⟩:=b0Y h2
   refine ⟨?_,?_⟩
   ·rw [List.map_cons,List.pairwise_cons]
    exact ⟨fun x hx=>by have:=s2 x hx;simp;omega,s1⟩
   ·intro x hx
    rw [List.map_cons,List.mem_cons] at hx
    rcases hx with rfl | hx
    ·simp
    ·have:=s2 x hx;omega
theorem M8.sorted {t:List Nd} (h:M8 t):(nd t 0).ks.Pairwise (·<·):=(b0Y h.subs).1
theorem before {l:List Nat} (h:l.Pairwise (·<·)) {i:Nat} (hi:i<l.length) {j:Nat} (hj:j∈l) (hl:j<l[i]):j∈l.take i:=by
 obtain ⟨m,hm,rfl⟩:=List.getElem_of_mem hj
 have hmi:m<i:=by
  rcases Nat.lt_trichotomy m i with h1 | h1 | h1
  ·exact h1
  ·subst h1;omega
  ·have:=List.pairwise_iff_getElem.1 h i m hi hm h1
   omega
 exact List.mem_take_iff_getElem.2 ⟨m,by omega,rfl⟩
theorem b5L {t:List Nd} (h:M8 t) {i:Nat} (hi:i<(nd t 0).ks.length) {b j:Nat} {w:ByteArray} (hk:(nd t (nd t 0).ks[i]).kind=3) (hs:Sub t (nd t 0).ks[i] b) (hit:∀q,(nd t 0).ks[i]<=q->q<b->item t q=(nd t 0).ks[i]) (h1:(nd t 0).ks[i]<=j) (h2:j<b) (hw:a0p t 2 j w) :
 w∈(pass1 t ((nd t 0).ks.take i)).vs.map Vr.name∨w∈(T8 t (nd t (nd t 0).ks[i])).map (fun y=>y.word 0):=by
 obtain ⟨m,m1,m2,m3,m4⟩:=hw
 have hbl:=hs.le
 have hml:m<t.length:=by omega
 rw [a2X]
 simp only [List.map_map,List.mem_map,List.mem_filter,beq_iff_eq,Function.comp_apply]
 rw [hit j h1 h2] at m3
 rcases a8u h hml m2 with v | ⟨p,p1,p2,p3⟩
 ·left
  refine ⟨m,⟨before h.sorted hi v ?_,m2⟩,m4⟩
  rcases Nat.lt_or_ge m (nd t 0).ks[i] with hlt | hge
  ·exact hlt
  ·have e1:=hit m hge (by omega)
   have e2:=a27 h (x:=m) (by
    obtain ⟨z,hz,e⟩:=List.mem_map.1 v
    have:=(h.subs.mem z hz).1
    rw [show (m:Int)=z by omega]
    exact hz)
   rw [e2] at e1
   rw [e1] at m2
   omega
 ·right
  have hpm:m∈(nd t p).ks:=List.mem_of_mem_take p3
  obtain ⟨hp1,hp2,c,c1,c2,c3,c4⟩:=h.item p1
  have hpz:(p:Int)∈(nd t 0).kids:=by
   obtain ⟨z,hz,e⟩:=List.mem_map.1 p1
   have:=(h.subs.mem z hz).1
   rw [show (p:Int)=z by omega]
   exact hz
  have hsp:=(a2k 19 hp2 c1).1
  obtain ⟨b',b1,b2,b3⟩:=b25 h (x:=p) (i:=m) hpz
  have hkm:p<m/\m<b':=by
   obtain ⟨z,hz,e⟩:=List.mem_map.1 hpm
   have:=b1.down p (Nat.le_refl _) b1.lt z hz
   omega
  have hmp:=b3 m (by omega) hkm.2
  rw [hmp] at m3
  have hpe:p=(nd t 0).ks[i]:=by
   rcases m3 with e | e
   ·omega
   ·exact e
  subst hpe
  unfold T8
  exact ⟨nd t m,List.mem_map_of_mem p3,m4⟩
theorem b5G {t:List Nd} (h:M8 t) {j:Nat} {w:ByteArray} (hj:j<t.length) (hw:a0p t 1 j w):w∈chs t:=by
 obtain ⟨m,m1,m2,m3,m4⟩:=hw
 have hm:=a6Z h (by omega) (.inl m2)
 unfold chs gat
 rw [a2X]
 simp only [List.map_map,List.mem_map,List.mem_filter,beq_iff_eq,Function.comp_apply]
 exact ⟨m,⟨hm,m2⟩,m4⟩
end Go.V
namespace Go.V
theorem Hp.freeze {s:i8} {W W' F R:Hs} (h:Hp s W R) (hp:W.Perm (W'++F)):Hp s W' (F++R):=by
 have h':=h.perm hp.symm
 have hn:=h'.nd
 rw [List.map_append,List.nodup_append] at hn
 refine ⟨hn.1,fun w hw r hr=>?_,h'.w.left,h'.w.right.append h'.r⟩
 rcases List.mem_append.1 hr with hr | hr
 ·exact hn.2.2 _ (List.mem_map_of_mem hw) _ (List.mem_map_of_mem hr)
 ·exact h'.ap w (List.mem_append_left _ hw) r hr
theorem a3h.ne_nil {cs rest:List D} (h:a3h cs):D.nils::rest≠cs:=by
 rcases h with ⟨l,rfl⟩ | ⟨l,rfl⟩ | ⟨l,rfl⟩ | ⟨l,rfl⟩<;>cases l<;>simp [Q0,P0,U1,W9,Ed.row]
structure a9j (s:i8) (m:MdX) (mo:Mo) (ps:List (Pr×PrD)):Prop where
 tr:O1 m.dt mo.tree
 c:SN s 5 m.dc (a0d mo.chans)
 v:SN s 3 m.dv (X2 mo.vars)
 p:SN s 8 m.dp (a0M ps)
 eq:ps.map Prod.fst=mo.procs
 at':∀q∈ps,M5 s q.1 q.2
 sf:SN s 1 m.ds (Q0 mo.safe)
 g:m.g=(mo.globals:Int)
 b:m.b=mo.dead
structure MkI (s:i8) (d dc ds:D) (g:Int) (b:Bool) (z:List D) (R0:Hs) (vs:List Vr) (ps':List Pr) (dv dp:D) (Ev Ep R:Hs) (ps:List (Pr×PrD)):Prop where
 v:Rp dv 3 (X2 vs) Ev
 p:Rp dp 8 (a0M ps) Ep
 eq:ps.map Prod.fst=ps'
 at':∀q∈ps,InR (fun s=>M5 s q.1 q.2) R
 sub:∀x∈R0,x∈R
 h:Hp s ((0,z)::(2,[d,.int .i64 g,dc,dv,dp,ds,.bool b])::(Ev++Ep)) R
theorem a8Q {t:List Nd} (h:M8 t) (ht:a00 t) {k:Nat} (hk:k∈(nd t 0).ks) (h3:(nd t k).kind=3):1<=(nd t k).num 0/\(nd t k).num 0<=4:=by
 obtain ⟨k1,k2,_⟩:=h.item hk
 have hf:=(ht.fine k k2).proc h3
 have hz:(k:Int)∈(nd t 0).kids:=by
  obtain ⟨z,hz,e⟩:=List.mem_map.1 hk
  have:=(h.subs.mem z hz).1
  rw [show (k:Int)=z by omega]
  exact hz
 have hi:=a27 h hz
 have hs:=a8C h (kind:=3) (i:=k) (by omega)
 have h2:=hf.2
 rw [O0] at h2
 have e:a0K t 3 k=min ((nd t k).num 0) 100:=by
  unfold a0K a1l
  rw [if_neg (by decide),hi,if_pos h3]
 split at h2
 ·rw [e] at h2;omega
 ·rename_i hc
  have:¬ O0 t 3 k<100:=fun hlt=>hc ⟨hlt,h3⟩
  omega
theorem c1J {vs:List Vr} {v:Nat} (h:v<vs.length):(X2 vs).flatten[v*3]?=some (.str vs[v].name):=by
 have:=a4l (a6D vs) (i:=v) (f:=0) (by simpa using h) (by decide)
 rw [Nat.add_zero] at this
 rw [this]
 simp [X2,Vr.row]
theorem Rp.arr {d:D} {sz:Nat} {rows:List (List D)} {E:Hs} (h:Rp d sz rows E) (hn:0<rows.length):∃id,d=.arr id 0 rows.length sz/\E=[(id,rows.flatten)]:=by
 rcases h with ⟨_,rfl,_⟩ | ⟨id,h1,h2,_⟩
 ·simp at hn
 ·exact ⟨id,h1,h2⟩
theorem b4p {vs:List Vr} {v:Nat} (h:v<vs.length):(vs.take (v+1)).map Vr.name=(vs.take v).map Vr.name++[vs[v].name]:=by
 rw [List.take_succ_eq_append_getElem h,List.map_append,List.map_singleton]
theorem a9r (n k:Nat):(List.range (k+1)).map (n+·)=(List.range k).map (n+·)++[n+k]:=by
 rw [List.range_succ,List.map_append,List.map_singleton]
theorem b2C (t:List Nd) (l m:List Nat):∃r,(pass1 t (l++m)).vs=(pass1 t l).vs++r:=by
 rw [a2X,a2X]
 simp only [List.filter_append,List.map_append]
 exact ⟨_,rfl⟩
theorem b3H (t:List Nd) (ch:List ByteArray) (i:Nat):(pass2 t ch (gat t).vs ((nd t 0).ks.take i)).vs.take (pass2 t ch (gat t).vs ((nd t 0).ks.take i)).seen=(pass1 t ((nd t 0).ks.take i)).vs/\(pass2 t ch (gat t).vs ((nd t 0).ks.take i)).seen<=(pass2 t ch (gat t).vs ((nd t 0).ks.take i)).vs.length/\(pass2 t ch (gat t).vs ((nd t 0).ks.take i)).seen<=(gat t).vs.length:=by
 obtain ⟨m,hm⟩:=a7w t ch (gat t).vs ((nd t 0).ks.take i)
 obtain ⟨r,hr⟩:=b2C t ((nd t 0).ks.take i) ((nd t 0).ks.drop i)
 rw [List.take_append_drop] at hr
 have hg:(gat t).vs=(pass1 t ((nd t 0).ks.take i)).vs++r:=hr
 rw [b2x,hm,hg]
 refine ⟨?_,?_,?_⟩
 ·rw [List.append_assoc,List.take_left]
 ·simp only [List.length_append];omega
 ·simp only [List.length_append];omega
theorem a9w {t:List Nd} {ch:List ByteArray} {k seen c:Nat} {a:List Vr×List Pr} (h:seen<=a.1.length):(U0 t ch k seen c a).1.take seen=a.1.take seen/\a.1.length<=(U0 t ch k seen c a).1.length:=by
 obtain ⟨l,hl⟩:=a7n t ch k seen c a
 rw [hl,List.take_append_of_le_length h]
 exact ⟨rfl,by simp⟩
theorem c0V {t:List Nd} {x:Nd} {k:Nat} (h:k<N5 t x):(T8 t x).take (k+1)=(T8 t x).take k++[nd t (x.kid k)]:=by
 have h0:k<(T8 t x).length:=by simpa using h
 rw [List.take_succ_eq_append_getElem h0]
 congr 2
 simp only [T8,List.getElem_map,List.getElem_take]
 rw [a3r]
theorem Sub.uniq {t:List Nd} {i b b':Nat} (h:Sub t i b) (h':Sub t i b'):b=b':=by
 have key:∀ {b b':Nat},Sub t i b->Sub t i b'->¬ b<b':=by
  intro b b' h h' hlt
  obtain ⟨p,p1,p2,p3⟩:=h'.up b h.lt hlt
  have h3:=h'.down p p1 p2 _ p3
  have:=h.down p p1 (by omega) _ p3
  omega
 have:=key h h'
 have:=key h' h
 omega
theorem a49 {t:List Nd} (h:M8 t) {k:Nat} (hk:k∈(nd t 0).ks):(k:Int)∈(nd t 0).kids:=by
 obtain ⟨z,hz,e⟩:=List.mem_map.1 hk
 have:=(h.subs.mem z hz).1
 rw [show (k:Int)=z by omega]
 exact hz
theorem a38 {t:List Nd} (h:M8 t) {k b:Nat} (hk:k∈(nd t 0).ks) (hs:Sub t k b):∀q,k<=q->q<b->item t q=k:=by
 obtain ⟨b',b1,_,b3⟩:=b25 h (x:=k) (i:=k) (a49 h hk)
 rw [hs.uniq b1]
 exact b3
theorem b0P {t:List Nd} (h:M8 t) (hS:a11 t) {i K b:Nat} (hi:i<(nd t 0).ks.length) (hK:(nd t 0).ks[i]=K) (h3:(nd t K).kind=3) (hs:Sub t K b) {seen c:Nat} {vs:List Vr} (hv:vs.take seen=(pass1 t ((nd t 0).ks.take i)).vs) (hl:seen<=vs.length) :
 ∀j,K<=j/\j<b->a6z t (gat t).ch.length ((gat t).ch.map Ch.name) (pr0 (nd t K) c seen vs (T8 t (nd t K))).names (pr0 (nd t K) c seen vs (T8 t (nd t K))).vars j:=by
 intro j ⟨j1,j2⟩
 have hle:=hs.le
 have hm:K∈(nd t 0).ks:=hK▸List.getElem_mem hi
 have hit:=a38 h hm hs
 subst hK
 have hvar:∀w,a0p t 2 j w->0<(pr0 (nd t (nd t 0).ks[i]) c seen vs (T8 t (nd t (nd t 0).ks[i]))).names.length:=fun w hw=>by
  have:=b5L h hi h3 hs hit j1 j2 hw
  rw [<- hv,<- List.mem_append] at this
  exact List.length_pos_of_mem this
 refine ⟨?_,by simp,fun hk=>?_,fun hk=>?_⟩
 ·simp only [pr0,List.length_append,List.length_map,List.length_take,List.length_range];omega
 ·rcases hk with hk | hk
  ·exact hvar _ (hS.use j (by omega) (.inl hk))
  ·exact hvar _ (hS.recv j (by omega) hk)
 ·exact List.length_pos_of_mem (b5G h (by omega) (hS.chan j (by omega) (by omega)))
end Go.V
namespace Go.V
structure Ft where
 reads:Nat
 writes:Nat
 sends:Nat
 recvs:Nat
 sizes:Nat
 part:Bool
structure Ft.Ok (f:Ft):Prop where
 r:f.reads<4294967296
 w:f.writes<4294967296
 s:f.sends<4294967296
 v:f.recvs<4294967296
 z:f.sizes<4294967296
def Ft.row (f:Ft):List D:=[.int .u32 (f.reads:Int),.int .u32 (f.writes:Int),.int .u32 (f.sends:Int),.int .u32 (f.recvs:Int),.int .u32 (f.sizes:Int),.bool f.part]
end Go.V
namespace Go.V
structure PrF (p:Pr) (x:PrD):Prop where
 l:FL 1 x.dl (Q0 p.locals)
 r:FL 1 x.dr (P0 p.rest)
 e:FL 8 x.de (U1 p.edges)
 n:FL 1 x.dn (W9 p.names)
 v:FL 1 x.dv (Q0 p.vars)
structure MoF (m:MdX) (mo:Mo) (ps:List (Pr×PrD)):Prop where
 tr:O1 m.dt mo.tree
 c:FL 5 m.dc (a0d mo.chans)
 v:FL 3 m.dv (X2 mo.vars)
 p:FL 8 m.dp (a0M ps)
 eq:ps.map Prod.fst=mo.procs
 at':∀q∈ps,PrF q.1 q.2
 sf:FL 1 m.ds (Q0 mo.safe)
 g:m.g=(mo.globals:Int)
 b:m.b=mo.dead
def V5 (f:D->Option D):List (List D)->Option (List (List D))
 | []=>some []
 | r::rs=>match M3 f r,V5 f rs with
   | some a,some b=>some (a::b)
   | _,_=>none
theorem b27 {f:D->Option D}:∀ {a b a' b':List D},M3 f a=some a'->M3 f b=some b'->M3 f (a++b)=some (a'++b')
 | [],b,a',b',h1,h2=>by simp only [M3,Option.some.injEq] at h1;subst h1;simpa using h2
 | d::r,b,a',b',h1,h2=>by
   simp only [M3] at h1
   split at h1
   ·rename_i x l e1 e2
    simp only [Option.some.injEq] at h1
    subst h1
    rw [List.cons_append,M3,e1,b27 e2 h2]
    rfl
   ·cases h1
theorem b2V {f:D->Option D}:∀ {a a':List D},M3 f a=some a'->a'.length=a.length
 | [],a',h=>by simp only [M3,Option.some.injEq] at h;subst h;rfl
 | d::r,a',h=>by
   simp only [M3] at h
   split at h
   ·rename_i x l e1 e2
    simp only [Option.some.injEq] at h
    subst h
    simp [b2V e2]
   ·cases h
theorem b2h {f:D->Option D}:∀ {rows rows':List (List D)},V5 f rows=some rows'->M3 f rows.flatten=some rows'.flatten/\rows'.length=rows.length
 | [],rows',h=>by simp only [V5,Option.some.injEq] at h;subst h;exact ⟨rfl,rfl⟩
 | r::rs,rows',h=>by
   simp only [V5] at h
   split at h
   ·rename_i a b e1 e2
    simp only [Option.some.injEq] at h
    subst h
    obtain ⟨h1,h2⟩:=b2h e2
    exact ⟨by simp only [List.flatten_cons];exact b27 e1 h1,by simp [h2]⟩
   ·cases h
theorem b3v {f:D->Option D} {sz:Nat}:∀ {rows rows':List (List D)},V5 f rows=some rows'->(∀r∈rows,r.length=sz)->∀r∈rows',r.length=sz
 | [],rows',h,_=>by simp only [V5,Option.some.injEq] at h;subst h;simp
 | r::rs,rows',h,hr=>by
   simp only [V5] at h
   split at h
   ·rename_i a b e1 e2
    simp only [Option.some.injEq] at h
    subst h
    intro y hy
    rcases List.mem_cons.1 hy with rfl | hy
    ·rw [b2V e1];exact hr r (by simp)
    ·exact b3v e2 (fun x hx=>hr x (by simp [hx])) y hy
   ·cases h
theorem b0X {sz:Nat}:∀ {rows:List (List D)},(∀r∈rows,r.length=sz)->a1S sz rows.length rows.flatten=rows
 | [],_=>rfl
 | r::rs,h=>by
   have hr:=h r (by simp)
   rw [List.length_cons,a1S,List.flatten_cons]
   rw [List.take_append_of_le_length (by omega),List.take_of_length_le (by omega),List.drop_append_of_le_length (by omega),List.drop_of_length_le (by omega),List.nil_append,b0X fun x hx=>h x (by simp [hx])]
theorem SN.frz {s:i8} {sz:Nat} {d:D} {rows rows':List (List D)} {n:Nat} (h:SN s sz d rows) (hr:∀r∈rows,r.length=sz) (hm:V5 (ice s.get n) rows=some rows') (hl:d=.lst sz rows->rows'=rows):∃d',ice s.get (n+1) d=some d'/\FL sz d' rows':=by
 rcases h with ⟨rfl,rfl⟩ | ⟨id,rfl,hg⟩ | rfl
 ·simp only [V5,Option.some.injEq] at hm
  exact ⟨.nils,rfl,.inl ⟨rfl,hm.symm⟩⟩
 ·have hrow:=(SN.row (s:=s) (.inr (.inl ⟨id,rfl,hg⟩)) hr).1
  obtain ⟨h1,h2⟩:=b2h hm
  refine ⟨.lst sz rows',?_,.inr rfl⟩
  simp only [ice,hrow,h1,Option.map_some]
  rw [<- h2,b0X (b3v hm hr)]
 ·exact ⟨.lst sz rows,rfl,.inr (by rw [hl rfl])⟩
theorem b1b {g:O7} {n:Nat}:∀ {rows:List (List D)},(∀r∈rows,r.all W5=true)->V5 (ice g (n+1)) rows=some rows
 | [],_=>rfl
 | r::rs,h=>by
   rw [V5,a5m (h r (by simp)),b1b fun x hx=>h x (by simp [hx])]
theorem SN.frz1 {s:i8} {sz:Nat} {d:D} {rows:List (List D)} {n:Nat} (h:SN s sz d rows) (hr:∀r∈rows,r.length=sz) (hs:∀r∈rows,r.all W5=true):∃d',ice s.get (n+2) d=some d'/\FL sz d' rows:=h.frz hr (b1b hs) fun _=>rfl
theorem a5G (l:List Nat):∀r∈Q0 l,r.all W5=true:=by intro r h;obtain ⟨b,_,rfl⟩:=List.mem_map.1 h;rfl
theorem b05 (l:List Bool):∀r∈P0 l,r.all W5=true:=by intro r h;obtain ⟨b,_,rfl⟩:=List.mem_map.1 h;rfl
theorem b4P (l:List ByteArray):∀r∈W9 l,r.all W5=true:=by intro r h;obtain ⟨b,_,rfl⟩:=List.mem_map.1 h;rfl
theorem b4G (l:List Ed):∀r∈U1 l,r.all W5=true:=by intro r h;obtain ⟨b,_,rfl⟩:=List.mem_map.1 h;rfl
theorem b4Z (l:List Ch):∀r∈a0d l,r.all W5=true:=by intro r h;obtain ⟨b,_,rfl⟩:=List.mem_map.1 h;rfl
theorem b8I (l:List Vr):∀r∈X2 l,r.all W5=true:=by intro r h;obtain ⟨b,_,rfl⟩:=List.mem_map.1 h;rfl
theorem M5.frz {s:i8} {p:Pr} {x:PrD} (h:M5 s p x) (n:Nat):∃x',M3 (ice s.get (n+2)) (j0 p x)=some (j0 p x')/\PrF p x':=by
 obtain ⟨dl,a1,b1⟩:=h.l.frz1 (n:=n) (a2q _) (a5G _)
 obtain ⟨dr,a2,b2⟩:=h.r.frz1 (n:=n) (a28 _) (b05 _)
 obtain ⟨de,a3,b3⟩:=h.e.frz1 (n:=n) (a4b _) (b4G _)
 obtain ⟨dn,a4,b4⟩:=h.n.frz1 (n:=n) (a6w _) (b4P _)
 obtain ⟨dv,a5,b5⟩:=h.v.frz1 (n:=n) (a2q _) (a5G _)
 refine ⟨⟨dl,dr,de,dn,dv⟩,?_,b1,b2,b3,b4,b5⟩
 simp only [j0,M3,ice,a1,a2,a3,a4,a5]
theorem a90 {s:i8} (n:Nat):∀ {ps:List (Pr×PrD)},(∀q∈ps,M5 s q.1 q.2)->∃ps',V5 (ice s.get (n+2)) (a0M ps)=some (a0M ps')/\ps'.map Prod.fst=ps.map Prod.fst/\∀q∈ps',PrF q.1 q.2
 | [],_=>⟨[],rfl,rfl,by simp⟩
 | q::qs,h=>by
   obtain ⟨x',h1,h2⟩:=(h q (by simp)).frz n
   obtain ⟨ps',h3,h4,h5⟩:=a90 n (ps:=qs) fun y hy=>h y (by simp [hy])
   refine ⟨(q.1,x')::ps',?_,by simp [h4],?_⟩
   ·simp only [a0M,List.map_cons] at h3 ⊢
    simp only [V5,h1,h3]
   ·intro y hy
    rcases List.mem_cons.1 hy with rfl | hy
    ·exact h2
    ·exact h5 y hy
theorem a9j.frz {s:i8} {m:MdX} {mo:Mo} {ps:List (Pr×PrD)} (h:a9j s m mo ps) (hn:m.dp≠.lst 8 (a0M ps)) (b:Bool):∃m' ps',ice s.get 20 (.tup [.agg (N2 m),.bool b])=some (.tup [.agg (N2 m'),.bool b])/\MoF m' mo ps':=by
 obtain ⟨dc,a1,b1⟩:=h.c.frz1 (n:=16) (a9p _) (b4Z _)
 obtain ⟨dv,a2,b2⟩:=h.v.frz1 (n:=16) (a6D _) (b8I _)
 obtain ⟨ds,a3,b3⟩:=h.sf.frz1 (n:=16) (a2q _) (a5G _)
 obtain ⟨ps',h1,h2,h3⟩:=a90 15 h.at'
 obtain ⟨dp,a4,b4⟩:=h.p.frz (n:=17) (b1Z _) h1 (fun e=>(hn e).elim)
 have a5:ice s.get 18 m.dt=some m.dt:=h.tr.fl.ice
 refine ⟨⟨m.dt,dc,dv,dp,ds,m.g,m.b⟩,ps',?_,⟨h.tr,b1,b2,b4,h2.trans h.eq,h3,b3,h.g,h.b⟩⟩
 have e1:ice s.get 18 (.int .i64 m.g)=some (.int .i64 m.g):=rfl
 have e2:ice s.get 18 (.bool m.b)=some (.bool m.b):=rfl
 have e3:M3 (ice s.get 18) (N2 m)=some (N2 ⟨m.dt,dc,dv,dp,ds,m.g,m.b⟩):=by
  simp only [N2,M3,a5,e1,a1,a2,a4,a3,e2]
 have e4:ice s.get 19 (.agg (N2 m))=some (.agg (N2 ⟨m.dt,dc,dv,dp,ds,m.g,m.b⟩)):=by
  simp only [ice,e3,Option.map_some]
 have e5:ice s.get 19 (.bool b)=some (.bool b):=rfl
 show (M3 (ice s.get 19) [.agg (N2 m),.bool b]).map D.tup=_
 simp only [M3,e4,e5,Option.map_some]
theorem MoF.fz {m:MdX} {mo:Mo} {ps:List (Pr×PrD)} (h:MoF m mo ps):Fz (.agg (N2 m)):=a5a fun d hd=>by
 simp only [N2,List.mem_cons,List.not_mem_nil,or_false] at hd
 rcases hd with rfl | rfl | rfl | rfl | rfl | rfl | rfl
 ·exact FL.ic h.tr.fl
 ·exact fun _ _=>rfl
 ·exact FL.ic h.c
 ·exact FL.ic h.v
 ·exact FL.ic h.p
 ·exact FL.ic h.sf
 ·exact fun _ _=>rfl
theorem MoF.ones {m:MdX} {mo:Mo} {ps:List (Pr×PrD)} (h:MoF m mo ps):q8 m.dt=true/\q8 m.dc=true/\q8 m.dv=true/\q8 m.dp=true/\q8 m.ds=true:=⟨FL.one h.tr.fl,h.c.one,h.v.one,h.p.one,h.sf.one⟩
theorem PrF.ones {p:Pr} {x:PrD} (h:PrF p x):q8 x.dl=true/\q8 x.dr=true/\q8 x.de=true/\q8 x.dn=true/\q8 x.dv=true:=⟨h.l.one,h.r.one,h.e.one,h.n.one,h.v.one⟩
theorem PrF.fz {p:Pr} {x:PrD} (h:PrF p x):Fz (.agg (j0 p x)):=a5a fun d hd=>by
 simp only [j0,List.mem_cons,List.not_mem_nil,or_false] at hd
 rcases hd with rfl | rfl | rfl | rfl | rfl | rfl | rfl | rfl
 ·exact fun _ _=>rfl
 ·exact fun _ _=>rfl
 ·exact FL.ic h.l
 ·exact fun _ _=>rfl
 ·exact FL.ic h.r
 ·exact FL.ic h.e
 ·exact FL.ic h.n
 ·exact FL.ic h.v
theorem MoF.plen {m:MdX} {mo:Mo} {ps:List (Pr×PrD)} (h:MoF m mo ps):ps.length=mo.procs.length:=by rw [<- h.eq,List.length_map]
theorem MoF.proc {m:MdX} {mo:Mo} {ps:List (Pr×PrD)} (h:MoF m mo ps) {i:Nat} (hi:i<mo.procs.length):∃x,PrF mo.procs[i] x/\∀k:IntKind,M1 8 m.dp (.int k (i:Int))=some (.fp (j0 mo.procs[i] x) 0):=by
 have hi':i<ps.length:=by rw [h.plen];exact hi
 have e:mo.procs[i]=ps[i].1:=by simp [<- h.eq]
 rw [e]
 refine ⟨ps[i].2,h.at' _ (List.getElem_mem hi'),fun k=>?_⟩
 rw [h.p.idx (by simpa using hi')]
 simp [a0M]
theorem MoF.lenP {m:MdX} {mo:Mo} {ps:List (Pr×PrD)} (h:MoF m mo ps):X4 false m.dp=some (.int .i64 (mo.procs.length:Int)):=by rw [h.p.len,b5c,h.plen]
theorem FLN.idx {d:D} {l:List Nat} (h:FL 1 d (Q0 l)) {i:Nat} (hi:i<l.length) {k:IntKind}:M1 1 d (.int k (i:Int))=some (.fp [.int .i64 (l[i]:Int)] 0):=by
 rw [h.idx (by simpa using hi)];simp [Q0]
theorem FLS.idx {d:D} {l:List ByteArray} (h:FL 1 d (W9 l)) {i:Nat} (hi:i<l.length) {k:IntKind}:M1 1 d (.int k (i:Int))=some (.fp [.str l[i]] 0):=by
 rw [h.idx (by simpa using hi)];simp [W9]
theorem FLB.idx {d:D} {l:List Bool} (h:FL 1 d (P0 l)) {i:Nat} (hi:i<l.length) {k:IntKind}:M1 1 d (.int k (i:Int))=some (.fp [.bool l[i]] 0):=by
 rw [h.idx (by simpa using hi)];simp [P0]
theorem FLE.idx {d:D} {l:List Ed} (h:FL 8 d (U1 l)) {i:Nat} (hi:i<l.length) {k:IntKind}:M1 8 d (.int k (i:Int))=some (.fp l[i].row 0):=by
 rw [h.idx (by simpa using hi)];simp [U1]
theorem FLC.idx {d:D} {l:List Ch} (h:FL 5 d (a0d l)) {i:Nat} (hi:i<l.length) {k:IntKind}:M1 5 d (.int k (i:Int))=some (.fp l[i].row 0):=by
 rw [h.idx (by simpa using hi)];simp [a0d]
theorem FLV.idx {d:D} {l:List Vr} (h:FL 3 d (X2 l)) {i:Nat} (hi:i<l.length) {k:IntKind}:M1 3 d (.int k (i:Int))=some (.fp l[i].row 0):=by
 rw [h.idx (by simpa using hi)];simp [X2]
end Go.V
namespace Go.V
def X6 (t:List Nd) (kind:Int):Nat->Int
 | 0=>0
 | i+1=>X6 t kind i+if (nd t i).kind=kind then a0K t kind i else 0
theorem a6N {t:List Nd} {kind:Int}:∀ {n:Nat},O0 t kind n<100->O0 t kind n=X6 t kind n
 | 0,_=>rfl
 | n+1,h=>by
   rw [X6]
   rw [O0] at h ⊢
   by_cases c:(nd t n).kind=kind
   ·by_cases d:O0 t kind n<100
    ·rw [if_pos ⟨d,c⟩,if_pos c,a6N d]
    ·rw [if_neg (by omega)] at h
     omega
   ·rw [if_neg (by omega)] at h ⊢
    rw [if_neg c,a6N h]
    omega
theorem b1h {t:List Nd} {kind B:Int} (hB:0<=B) (h:∀i,i<t.length->(nd t i).kind=kind->O0 t kind (i+1)<=B):∀ {n:Nat},n<=t.length->O0 t kind n<=B
 | 0,_=>by simpa [O0] using hB
 | n+1,hn=>by
   by_cases c:(nd t n).kind=kind
   ·exact h n (by omega) c
   ·rw [O0,if_neg (by omega)]
    exact b1h hB h (by omega)
theorem a7i {t:List Nd} {kind B:Int} (hB:0<=B) (hB2:B<100) (h:∀i,i<t.length->(nd t i).kind=kind->O0 t kind (i+1)<=B):X6 t kind t.length<=B:=by
 have:=b1h hB h (Nat.le_refl t.length)
 rw [a6N (by omega)] at this
 exact this
def a4z (t:List Nd) (kind:Int) (w:Nat->Nat) (ks:List Int):Int:=(ks.map fun k=>((w k.toNat:Nat):Int)).sum
theorem a5D {t:List Nd} {kind:Int} {w:Nat->Nat}:∀ {ks:List Int} {a n:Nat},W6 t ks a n->(∀ (k b:Nat),(k:Int)∈ks->Sub t k b->X6 t kind b=X6 t kind k+((w k:Nat):Int))->X6 t kind n=X6 t kind a+a4z t kind w ks
 | [],a,n,h,_=>by simp only [W6] at h;subst h;simp [a4z]
 | k::ks,a,n,h,hw=>by
   obtain ⟨rfl,b,h1,h2⟩:=h
   rw [a5D h2 fun k b hk hs=>hw k b (by simp [hk]) hs,hw a b (by simp) h1]
   simp only [a4z,List.map_cons,List.sum_cons,Int.toNat_natCast]
   omega
theorem a6i {t:List Nd} {kind:Int} {a:Nat}:∀ {b:Nat},a<=b->(∀j,a<=j->j<b->(nd t j).kind≠kind)->X6 t kind b=X6 t kind a
 | 0,h,_=>by
   obtain rfl:a=0:=by omega
   rfl
 | b+1,h,hn=>by
   by_cases e:a=b+1
   ·subst e;rfl
   ·rw [X6,if_neg (hn b (by omega) (by omega)),a6i (b:=b) (by omega) fun j h1 h2=>hn j h1 (by omega)]
    omega
theorem b1x {t:List Nd} (h:M8 t) {g:Nat}:∀ {ks:List Int} {a n:Nat},KF t g ks a n->n<=t.length->∀l,l<((ks.map Int.toNat).takeWhile fun k=>(nd t k).kind==2).length->∃hl:l<ks.length,ks[l].toNat=a+l
 | [],a,n,_,_,l,hl=>by simp at hl
 | z::zs,a,n,hk,hn,l,hl=>by
   obtain ⟨rfl,h1,b,h2,h3,h4,h5⟩:=hk.cons
   rw [List.map_cons,List.takeWhile_cons] at hl
   split at hl
   ·rename_i h2k
    have hk2:(nd t a).kind=2:=by simpa using h2k
    cases l with
    | zero=>exact ⟨by simp,by simp⟩
    | succ l =>
      obtain ⟨g',rfl,hkk⟩:=a2d h2
      rw [(h.ok.node a h1).none (by omega)] at hkk
      obtain rfl:=hkk.nil
      obtain ⟨i1,i2⟩:=b1x h h5 hn l (by simpa using hl)
      exact ⟨by simpa using i1,by simp only [List.getElem_cons_succ];omega⟩
   ·simp at hl
theorem b2G {t:List Nd} (h:M8 t) {k:Nat} (hk:k∈(nd t 0).ks) {l:Nat} (hl:l<N5 t (nd t k)):(nd t k).kid l=k+1+l:=by
 obtain ⟨k1,k2,b,b1,b2,b3,b4⟩:=h.item hk
 obtain ⟨i1,i2⟩:=b1x h b4 b3 l hl
 rw [b0V i1,i2]
theorem b5J {t:List Nd} (h:M8 t) (hT:a00 t) {k b:Nat} (hk:k∈(nd t 0).ks) (h3:(nd t k).kind=3) (hs:Sub t k b):X6 t 2 b=X6 t 2 k+((((nd t k).num 0).toNat*N5 t (nd t k):Nat):Int):=by
 have hc:=a8Q h hT hk h3
 have hit:=a38 h hk hs
 have hkl:k<t.length:=by have:=hs.lt;have:=hs.le;omega
 have hp:=a5N ((h.ok.node k hkl).proc h3)
 have hst:∀j,k<=j->j<b->a0K t 2 j=(nd t k).num 0:=fun j h1 h2=>by
  unfold a0K a1l
  rw [if_neg (by decide),hit j h1 h2,if_pos h3]
  omega
 have hkb:∀l,l<N5 t (nd t k)->k+1+l<b/\(nd t (k+1+l)).kind=2:=fun l hl=>by
  have hll:=a5q t (nd t k)
  have hl':l<(nd t k).ks.length:=by omega
  have e:=a5C hl hl'
  have e2:=b2G h hk hl
  rw [a3r hl',e2] at e
  have hm:k+1+l∈(nd t k).ks:=by rw [<- e2];exact Z3 (by rw [<- a1d];exact hl')
  obtain ⟨z,hz,ez⟩:=List.mem_map.1 hm
  have:=hs.down k (Nat.le_refl _) hs.lt z hz
  exact ⟨by omega,e⟩
 have pre:∀l,l<=N5 t (nd t k)->X6 t 2 (k+1+l)=X6 t 2 k+(nd t k).num 0*(l:Int):=by
  intro l
  induction l with
  | zero =>
    intro _
    show X6 t 2 (k+1)=_
    rw [X6,if_neg (by omega)]
    simp
  | succ l ih =>
    intro hl
    have hb:=hkb l (by omega)
    show X6 t 2 (k+1+l+1)=_
    rw [X6,if_pos hb.2,hst (k+1+l) (by omega) hb.1,ih (by omega),Int.natCast_succ,Int.mul_add]
    omega
 have hle:k+1+N5 t (nd t k)<=b:=by
  have:=hs.lt
  rcases Nat.eq_zero_or_pos (N5 t (nd t k)) with e | e
  ·omega
  ·have:=hkb (N5 t (nd t k)-1) (by omega)
   omega
 rw [a6i hle fun j j1 j2 e=>?_,pre _ (Nat.le_refl _)]
 ·rw [Int.natCast_mul,Int.toNat_of_nonneg (by omega)]
 ·have hjl:j<t.length:=by have:=hs.le;omega
  have hij:=hit j (by omega) j2
  rcases a8u h hjl e with v | ⟨p,p1,p2,p3⟩
  ·have:=a27 h (a49 h v)
   omega
  ·obtain ⟨q1,q2,c,c1,c2,c3,c4⟩:=h.item p1
   have hpm:j∈(nd t p).ks:=List.mem_of_mem_take p3
   have hsp:=(a2k 19 q2 c1).1
   obtain ⟨z,hz,ez⟩:=List.mem_map.1 hpm
   have hd:=hsp.down p (Nat.le_refl _) hsp.lt z hz
   have:=a38 h p1 hsp j (by omega) (by omega)
   obtain rfl:p=k:=by omega
   obtain ⟨l,hl,e2⟩:=List.getElem_of_mem p3
   have hl':l<N5 t (nd t p):=by simp at hl;omega
   rw [List.getElem_take,a3r (by simp at hl;omega),b2G h p1 hl'] at e2
   omega
def a3H (t:List Nd) (k:Nat):Nat:=if (nd t k).kind=2 then 1 else if (nd t k).kind=3 then ((nd t k).num 0).toNat*N5 t (nd t k) else 0
theorem b68 {t:List Nd} (h:M8 t) (hT:a00 t) {k b:Nat} (hk:k∈(nd t 0).ks) (hs:Sub t k b):X6 t 2 b=X6 t 2 k+((a3H t k:Nat):Int):=by
 unfold a3H
 have hkl:k<t.length:=by have:=hs.lt;have:=hs.le;omega
 by_cases c2:(nd t k).kind=2
 ·rw [if_pos c2]
  have hb:b=k+1:=by
   have:=hs.lt
   by_cases e:b=k+1
   ·exact e
   ·obtain ⟨p,p1,p2,p3⟩:=hs.up (k+1) (by omega) (by omega)
    have:=hs.down p p1 p2 _ p3
    obtain rfl:p=k:=by omega
    rw [(h.ok.node p hkl).none (by omega)] at p3
    simp at p3
  subst hb
  rw [X6,if_pos c2]
  unfold a0K a1l
  rw [a27 h (a49 h hk),if_neg (by decide),if_neg (by omega)]
  rfl
 rw [if_neg c2]
 by_cases c3:(nd t k).kind=3
 ·rw [if_pos c3]
  exact b5J h hT hk c3 hs
 rw [if_neg c3]
 rw [a6i (a:=k) (by have:=hs.lt;omega)]
 ·simp
 intro j j1 j2 e
 have hjl:j<t.length:=by have:=hs.le;omega
 have hij:=a38 h hk hs j j1 j2
 rcases a8u h hjl e with v | ⟨p,p1,p2,p3⟩
 ·have:=a27 h (a49 h v)
  obtain rfl:j=k:=by omega
  exact c2 e
 ·obtain ⟨q1,q2,c,e1,e2,e3,e4⟩:=h.item p1
  have hpm:j∈(nd t p).ks:=List.mem_of_mem_take p3
  have hsp:=(a2k 19 q2 e1).1
  obtain ⟨z,hz,ez⟩:=List.mem_map.1 hpm
  have hd:=hsp.down p (Nat.le_refl _) hsp.lt z hz
  have:=a38 h p1 hsp j (by omega) (by omega)
  obtain rfl:p=k:=by omega
  exact c3 p2
end Go.V
namespace Go.V
structure Org where
 k:Nat
 seen:Nat
 c:Nat
 nv:Nat
def pr1 (t:List Nd) (o:Org):Pr :=
 ⟨(nd t o.k).word 0,o.c,(List.range (N5 t (nd t o.k))).map (o.nv+·),2,[false,true],[],((gat t).vs.take o.seen).map Vr.name++(T8 t (nd t o.k)).map (fun y=>y.word 0),List.range o.seen++(List.range (N5 t (nd t o.k))).map (o.nv+·)⟩
def a2N (t:List Nd) (o:Org):Pr:=a1b (y0 t (chs t) (t.length+1)) o.k (pr1 t o) ((nd t o.k).ks.drop (N5 t (nd t o.k))) 0 1
def a4g (t:List Nd) (k seen nv n:Nat):List Org:=(List.range n).map fun c=>⟨k,seen,c,nv+c*N5 t (nd t k)⟩
structure Gc where
 seen:Nat
 nv:Nat
 l:List Org
def a2S (t:List Nd) (a:Gc) (k:Nat):Gc :=
 if (nd t k).kind=3 then ⟨a.seen,a.nv+((nd t k).num 0).toNat*N5 t (nd t k),a.l++a4g t k a.seen a.nv ((nd t k).num 0).toNat⟩
 else if (nd t k).kind=2 then ⟨a.seen+1,a.nv,a.l⟩ else a
def a0r (t:List Nd) (l:List Nat):Gc:=l.foldl (a2S t) ⟨0,(gat t).vs.length,[]⟩
def a2x (t:List Nd):List Org:=(a0r t (nd t 0).ks).l
theorem b8z {t:List Nd} {k seen c nv:Nat} {vs:List Vr} (h1:vs.length=nv) (h2:vs.take seen=(gat t).vs.take seen):a2p t (chs t) k seen c vs=a2N t ⟨k,seen,c,nv⟩:=by
 unfold a2p a2N pr0 pr1
 rw [h2,h1,a18]
theorem b1s {t:List Nd} {k seen nv:Nat} {a:List Vr×List Pr} (h1:a.1.length=nv) (h2:a.1.take seen=(gat t).vs.take seen) (h3:seen<=a.1.length):∀c,(U0 t (chs t) k seen c a).1.length=nv+c*N5 t (nd t k)/\(U0 t (chs t) k seen c a).2=a.2++(a4g t k seen nv c).map (a2N t)
 | 0=>by simp [U0,h1,a4g]
 | c+1=>by
   obtain ⟨i1,i2⟩:=b1s (k:=k) h1 h2 h3 c
   have h4:=(a9w (t:=t) (ch:=chs t) (k:=k) (c:=c) h3).1
   refine ⟨?_,?_⟩
   ·simp only [U0,List.length_append,List.length_map,a18,i1]
    rw [Nat.succ_mul];omega
   ·simp only [U0,i2]
    rw [b8z i1 (h4.trans h2)]
    simp [a4g,List.range_succ]
theorem b3a (t:List Nd) (l:List Nat) (k:Nat):a0r t (l++[k])=a2S t (a0r t l) k:=by simp [a0r]
structure GcR (t:List Nd) (b:Gb) (a:Gc):Prop where
 seen:b.seen=a.seen
 nv:b.vs.length=a.nv
 pre:∃m,b.vs=(gat t).vs++m
 ps:b.ps=a.l.map (a2N t)
theorem a8n (t:List Nd):∀ (n:Nat),n<=(nd t 0).ks.length->GcR t (pass2 t (chs t) (gat t).vs ((nd t 0).ks.take n)) (a0r t ((nd t 0).ks.take n))
 | 0,_=>⟨rfl,rfl,⟨[],by simp [pass2]⟩,rfl⟩
 | n+1,hn=>by
   have ih:=a8n t n (by omega)
   have htk:=b3H t (chs t) n
   have e:(nd t 0).ks.take (n+1)=(nd t 0).ks.take n++[(nd t 0).ks[n]]:=List.take_succ_eq_append_getElem (by omega)
   obtain ⟨m2,hm2⟩:=a7w t (chs t) (gat t).vs ((nd t 0).ks.take (n+1))
   rw [e] at hm2 ⊢
   rw [b0q] at hm2 ⊢
   have e3:a0r t ((nd t 0).ks.take n++[(nd t 0).ks[n]])=a2S t (a0r t ((nd t 0).ks.take n)) (nd t 0).ks[n]:=b3a t _ _
   rw [e3]
   generalize (nd t 0).ks[n]=k at *
   generalize pass2 t (chs t) (gat t).vs ((nd t 0).ks.take n)=b at *
   generalize a0r t ((nd t 0).ks.take n)=a at *
   obtain ⟨m,hm⟩:=ih.pre
   unfold Z0 a2S at *
   by_cases c3:(nd t k).kind=3
   ·rw [if_pos c3] at hm2
    rw [if_pos c3,if_pos c3]
    have hs:b.vs.take b.seen=(gat t).vs.take b.seen:=by rw [hm,List.take_append_of_le_length htk.2.2]
    obtain ⟨i1,i2⟩:=b1s (t:=t) (k:=k) (seen:=b.seen) (nv:=a.nv) (a:=(b.vs,b.ps)) ih.nv hs htk.2.1 ((nd t k).num 0).toNat
    refine ⟨ih.seen,i1,⟨m2,hm2⟩,?_⟩
    show (U0 t (chs t) k b.seen ((nd t k).num 0).toNat (b.vs,b.ps)).2=_
    rw [i2,List.map_append,<- ih.ps,ih.seen]
   ·rw [if_neg c3,if_neg c3]
    by_cases c2:(nd t k).kind=2
    ·rw [if_pos c2,if_pos c2]
     exact ⟨by simp [ih.seen],ih.nv,ih.pre,ih.ps⟩
    ·rw [if_neg c2,if_neg c2]
     exact ih
theorem a52 (t:List Nd):(gbt t).ps=(a2x t).map (a2N t)/\(gbt t).vs.length=(a0r t (nd t 0).ks).nv:=by
 have h:=a8n t (nd t 0).ks.length (Nat.le_refl _)
 rw [List.take_length] at h
 exact ⟨h.ps,h.nv⟩
structure a8P (t:List Nd) (nv:Nat) (o:Org):Prop where
 at':∃i,∃hi:i<(nd t 0).ks.length,(nd t 0).ks[i]=o.k/\o.seen=(pass1 t ((nd t 0).ks.take i)).vs.length
 kind:(nd t o.k).kind=3
 c:(o.c:Int)<(nd t o.k).num 0
 lo:(gat t).vs.length<=o.nv
 hi:o.nv+N5 t (nd t o.k)<=nv
theorem b2L (t:List Nd):∀n,n<=(nd t 0).ks.length->(gat t).vs.length<=(a0r t ((nd t 0).ks.take n)).nv/\(a0r t ((nd t 0).ks.take n)).seen=(pass1 t ((nd t 0).ks.take n)).vs.length/\∀o∈(a0r t ((nd t 0).ks.take n)).l,a8P t (a0r t ((nd t 0).ks.take n)).nv o
 | 0,_=>by simp [a0r,pass1]
 | n+1,hn=>by
   obtain ⟨i1,i2,i3⟩:=b2L t n (by omega)
   have hs:=a8n t (n+1) hn
   have hs1:=hs.seen
   rw [b2x] at hs1
   refine ⟨?_,hs1.symm,?_⟩
   ·obtain ⟨m,hm⟩:=hs.pre
    have:=hs.nv
    rw [hm,List.length_append] at this
    omega
   ·rw [List.take_succ_eq_append_getElem (by omega),b3a]
    intro o ho
    unfold a2S at ho ⊢
    by_cases c3:(nd t (nd t 0).ks[n]).kind=3
    ·rw [if_pos c3] at ho ⊢
     rcases List.mem_append.1 ho with ho | ho
     ·have:=i3 o ho
      exact ⟨this.at',this.kind,this.c,this.lo,by have:=this.hi;simp only;omega⟩
     ·obtain ⟨c,hc,rfl⟩:=List.mem_map.1 ho
      rw [List.mem_range] at hc
      refine ⟨⟨n,by omega,rfl,i2⟩,c3,by simp only;omega,by simp only;omega,?_⟩
      simp only
      have:(c+1)*N5 t (nd t (nd t 0).ks[n])<=((nd t (nd t 0).ks[n]).num 0).toNat*N5 t (nd t (nd t 0).ks[n]):=Nat.mul_le_mul_right _ (by omega)
      rw [Nat.succ_mul] at this
      omega
    ·rw [if_neg c3] at ho ⊢
     have key:∀ (g:Gc),g.nv=(a0r t ((nd t 0).ks.take n)).nv->g.l=(a0r t ((nd t 0).ks.take n)).l->o∈g.l->a8P t g.nv o:=fun g e1 e2 h=>by
      rw [e1];rw [e2] at h;exact i3 o h
     split at ho
     ·rename_i h2;rw [if_pos h2];exact key _ rfl rfl ho
     ·rename_i h2;rw [if_neg h2];exact key _ rfl rfl ho
theorem a6r {t:List Nd} {o:Org} (ho:o∈a2x t):a8P t (gbt t).vs.length o:=by
 have:=(b2L t (nd t 0).ks.length (Nat.le_refl _)).2.2
 rw [List.take_length] at this
 rw [(a52 t).2]
 exact this o ho
def a4A (t:List Nd) (k:Nat):Nat:=if (nd t k).kind=3 then ((nd t k).num 0).toNat else 0
theorem b2g (t:List Nd) (l:List Nat):(a0r t l).nv=(gat t).vs.length+(l.map fun k=>if (nd t k).kind=3 then ((nd t k).num 0).toNat*N5 t (nd t k) else 0).sum/\(a0r t l).l.length=(l.map (a4A t)).sum:=by
 have key:∀ (l:List Nat) (a:Gc),(l.foldl (a2S t) a).nv=a.nv+(l.map fun k=>if (nd t k).kind=3 then ((nd t k).num 0).toNat*N5 t (nd t k) else 0).sum/\(l.foldl (a2S t) a).l.length=a.l.length+(l.map (a4A t)).sum:=by
  intro l
  induction l with
  | nil=>intro a;simp
  | cons k l ih =>
    intro a
    rw [List.foldl_cons,(ih _).1,(ih _).2]
    unfold a2S
    simp only [List.map_cons,List.sum_cons,a4A]
    by_cases c3:(nd t k).kind=3
    ·simp only [c3,if_true,List.length_append,a4g,List.length_map,List.length_range]
     omega
    ·rw [if_neg c3,if_neg c3,if_neg c3]
     split<;>simp
 have:=key l ⟨0,(gat t).vs.length,[]⟩
 simpa [a0r] using this
theorem a8B (t:List Nd) (kind:Int) (w:Nat->Nat) (ks:List Int):a4z t kind w ks=((((ks.map Int.toNat).map w).sum:Nat):Int):=by
 unfold a4z
 induction ks with
 | nil=>rfl
 | cons k ks ih =>
   simp only [List.map_cons,List.sum_cons,ih]
   omega
theorem a7b {t:List Nd} (h:M8 t) {kind:Int} (hk:kind≠0):X6 t kind 1=0:=by
 show X6 t kind 0+_=0
 rw [if_neg (by rw [h.ok.root];omega)]
 rfl
theorem b1H {t:List Nd} (h:M8 t) {kind:Int} (hkd:kind=1∨kind=3) {k b:Nat} (hk:k∈(nd t 0).ks) (hs:Sub t k b):X6 t kind b=X6 t kind k+if (nd t k).kind=kind then a0K t kind k else 0:=by
 have hl:=hs.lt
 have hle:=hs.le
 rw [a6i (a:=k+1) (by omega)]
 ·rfl
 intro j j1 j2 e
 have hj:=a6Z h (j:=j) (by omega) (by omega)
 have h1:=a27 h (a49 h hj)
 have h2:=a38 h hk hs j (by omega) j2
 omega
theorem b5w {t:List Nd} (h:M8 t) (hT:a00 t):(gbt t).vs.length<=8:=by
 have h1:=a7i (t:=t) (kind:=2) (B:=8) (by decide) (by decide) fun i hi hk=>((hT.fine i hi).var hk).2.2.2
 rw [a5D (w:=a3H t) h.subs fun k b hk hs=>b68 h hT (a4t hk) hs,a7b h (by decide),a8B] at h1
 rw [(a52 t).2,(b2g t _).1]
 have e:(gat t).vs.length=((nd t 0).ks.map fun k=>if (nd t k).kind=2 then 1 else 0).sum:=by
  unfold gat
  rw [a2X]
  simp only [List.length_map]
  generalize (nd t 0).ks=l
  induction l with
  | nil=>rfl
  | cons k l ih =>
    by_cases c:(nd t k).kind=2
    ·rw [List.filter_cons_of_pos (by simpa using c)];simp only [List.length_cons,ih,List.map_cons,List.sum_cons,c,if_true];omega
    ·rw [List.filter_cons_of_neg (by simpa using c)];simp only [ih,List.map_cons,List.sum_cons,c,if_false];omega
 have e2:((nd t 0).ks.map (a3H t)).sum=((nd t 0).ks.map fun k=>if (nd t k).kind=2 then 1 else 0).sum+((nd t 0).ks.map fun k=>if (nd t k).kind=3 then ((nd t k).num 0).toNat*N5 t (nd t k) else 0).sum:=by
  generalize (nd t 0).ks=l
  induction l with
  | nil=>rfl
  | cons k l ih =>
    simp only [List.map_cons,List.sum_cons,ih,a3H]
    by_cases c:(nd t k).kind=2
    ·have c3:(nd t k).kind≠3:=by omega
     simp only [c,if_true]
     rw [if_neg (by decide)]
     omega
    ·simp only [c,if_false];omega
 have h1:((((nd t 0).ks.map (a3H t)).sum:Nat):Int)<=8:=by
  have e0:(nd t 0).ks=(nd t 0).kids.map Int.toNat:=rfl
  rw [e0];omega
 rw [e];omega
theorem b55 {t:List Nd} (h:M8 t) (hT:a00 t):(gbt t).ps.length<=4:=by
 have h1:=a7i (t:=t) (kind:=3) (B:=4) (by decide) (by decide) fun i hi hk=>((hT.fine i hi).proc hk).2
 rw [a5D (w:=a4A t) h.subs (fun k b hk hs=>by
  rw [b1H h (.inr rfl) (a4t hk) hs]
  unfold a4A
  by_cases c:(nd t k).kind=3
  ·have hc:=a8Q h hT (a4t hk) c
   rw [if_pos c,if_pos c]
   unfold a0K a1l
   rw [a27 h hk,if_neg (by decide),if_pos c]
   omega
  ·rw [if_neg c,if_neg c];rfl),a7b h (by decide),a8B] at h1
 rw [(a52 t).1,List.length_map]
 unfold a2x
 rw [(b2g t _).2]
 have e0:(nd t 0).ks=(nd t 0).kids.map Int.toNat:=rfl
 rw [e0];omega
theorem c04 {t:List Nd} (h:M8 t) (hT:a00 t):(gat t).ch.length<=3:=by
 have h1:=a7i (t:=t) (kind:=1) (B:=3) (by decide) (by decide) fun i hi hk=>((hT.fine i hi).chan hk).2.2.2.2
 rw [a5D (w:=fun k=>if (nd t k).kind=1 then 1 else 0) h.subs (fun k b hk hs=>by
  rw [b1H h (.inl rfl) (a4t hk) hs]
  by_cases c:(nd t k).kind=1
  ·rw [if_pos c,if_pos c];rfl
  ·rw [if_neg c,if_neg c];rfl),a7b h (by decide),a8B] at h1
 have e0:(nd t 0).ks=(nd t 0).kids.map Int.toNat:=rfl
 rw [<- e0] at h1
 unfold gat
 rw [a2X]
 simp only [List.length_map]
 have e:((nd t 0).ks.filter fun k=>(nd t k).kind==1).length=((nd t 0).ks.map fun k=>if (nd t k).kind=1 then 1 else 0).sum:=by
  generalize (nd t 0).ks=l
  induction l with
  | nil=>rfl
  | cons k l ih =>
    by_cases c:(nd t k).kind=1
    ·rw [List.filter_cons_of_pos (by simpa using c)];simp only [List.length_cons,ih,List.map_cons,List.sum_cons,c,if_true];omega
    ·rw [List.filter_cons_of_neg (by simpa using c)];simp only [ih,List.map_cons,List.sum_cons,c,if_false];omega
 rw [e];omega
end Go.V
namespace Go.V
structure b7Z (mo:Mo) (p:Pr):Prop where
 inv:W8 mo.tree mo.chans.length p
 same:p.names.length=p.vars.length
 var:∀v∈p.vars,v<mo.vars.length
 loc:∀v∈p.locals,v∈p.vars/\mo.globals<=v
 pl:p.places<=4000
 el:p.edges.length<=4000
 nl:p.names.length<=mo.vars.length
structure a46 (mo:Mo):Prop where
 tree:Y8 mo.tree
 nv:mo.vars.length<=8
 np:mo.procs.length<=4
 nc:mo.chans.length<=3
 gl:mo.globals<=mo.vars.length
 pr:∀p∈mo.procs,b7Z mo p
 sf:∀k∈mo.safe,k<mo.tree.length/\a19 (nd mo.tree k).kind
 sl:mo.safe.length<=800
theorem b1V (t:List Nd):∃m,(gbt t).vs=(gat t).vs++m:=a7w t (chs t) (gat t).vs (nd t 0).ks
theorem b0R {t:List Nd} {o:Org} (ho:o∈a2x t):∃vs:List Vr,vs.length=o.nv/\vs.take o.seen=(gat t).vs.take o.seen/\o.seen<=(gat t).vs.length/\pr1 t o=pr0 (nd t o.k) o.c o.seen vs (T8 t (nd t o.k)):=by
 have h:=a6r ho
 obtain ⟨m,hm⟩:=b1V t
 have hlo:=h.lo
 have hhi:=h.hi
 have hseen:o.seen<=(gat t).vs.length:=by
  obtain ⟨i,hi,_,e⟩:=h.at'
  have:=b5k t ((nd t 0).ks.take i) ((nd t 0).ks.drop i)
  rw [List.take_append_drop,<- e] at this
  exact this
 have e1:((gbt t).vs.take o.nv).length=o.nv:=by rw [List.length_take];omega
 have e2:((gbt t).vs.take o.nv).take o.seen=(gat t).vs.take o.seen:=by
  rw [List.take_take,Nat.min_eq_left (by omega),hm,List.take_append_of_le_length hseen]
 refine ⟨_,e1,e2,hseen,?_⟩
 unfold pr0 pr1
 rw [e2,e1,a18]
theorem b1B {t:List Nd} (h:M8 t) (hS:a11 t) {o:Org} (ho:o∈a2x t):∃b,U7 t 19 o.k=(b,true)/\Sub t o.k b/\o.k<t.length/\KF t 18 (nd t o.k).kids (o.k+1) b/\∀j,o.k<=j/\j<b->a6z t (gat t).ch.length (chs t) (pr1 t o).names (pr1 t o).vars j:=by
 have hok:=a6r ho
 obtain ⟨i,hi,e,hseen⟩:=hok.at'
 have hkm:o.k∈(nd t 0).ks:=e▸List.getElem_mem hi
 obtain ⟨k1,k2,b,b1,b2,b3,b4⟩:=h.item hkm
 have hsub:=(a2k 19 k2 b1).1
 obtain ⟨vs,v1,v2,v3,v4⟩:=b0R ho
 have hv:vs.take o.seen=(pass1 t ((nd t 0).ks.take i)).vs:=by
  rw [v2]
  obtain ⟨r,hr⟩:=b2C t ((nd t 0).ks.take i) ((nd t 0).ks.drop i)
  rw [List.take_append_drop] at hr
  have hg:(gat t).vs=(pass1 t ((nd t 0).ks.take i)).vs++r:=hr
  rw [hg,hseen,List.take_left]
 refine ⟨b,b1,hsub,k2,b4,?_⟩
 rw [v4]
 have:=hok.lo
 exact b0P h hS hi e hok.kind hsub hv (by omega)
theorem b2H {t:List Nd} (h:M8 t) (hS:a11 t) {o:Org} (ho:o∈a2x t):∀k∈(nd t o.k).ks.drop (N5 t (nd t o.k)),a09 t (gat t).ch.length (pr1 t o).names (pr1 t o).vars (y0 t (chs t) (t.length+1)) k/\StG t (y0 t (chs t) (t.length+1)) k:=by
 obtain ⟨b,b1,hsub,k2,_,hsg⟩:=b1B h hS ho
 have hok:=a6r ho
 have hpc:=a5N ((h.ok.node o.k k2).proc hok.kind)
 have hclo:∀j,j<t.length->(o.k<=j/\j<b)->∀k∈(nd t j).ks,o.k<=k/\k<b:=fun j _ hj k hk=>by
  obtain ⟨z,hz,rfl⟩:=List.mem_map.1 hk
  have:=hsub.down j hj.1 hj.2 z hz
  omega
 intro k hk
 have hst:=hpc.1 k hk
 have hkm:=List.mem_of_mem_drop hk
 have hkk:=h.ok.ks k2 k hkm
 have hPk:=hclo o.k k2 ⟨Nat.le_refl _,hsub.lt⟩ k hkm
 exact ⟨a5I h.ok hclo hsg (t.length+1) k hkk.2 hPk hst (by omega),a6k h.ok _ (t.length+1) k hkk.2 hst (by omega)⟩
theorem b6o {t:List Nd} (h:M8 t) (hS:a11 t) {o:Org} (ho:o∈a2x t):W8 t (gat t).ch.length (a2N t o)/\a0m (pr1 t o) (a2N t o):=by
 have:=b2H h hS ho
 exact a3i (fun k hk=>(this k hk).1) ⟨by simp [pr1],by simp [pr1],by simp [pr1]⟩ rfl rfl (by simp [pr1]) (by simp [pr1])
theorem c2i {t:List Nd} (h:M8 t) (hS:a11 t) {o:Org} (ho:o∈a2x t):Gw (pr1 t o) (a2N t o) 3300:=by
 have hk:=b2H h hS ho
 obtain ⟨b,b1,hsub,k2,hkf,_⟩:=b1B h hS ho
 obtain ⟨b',hb1,hkf'⟩:=hkf.drop (N5 t (nd t o.k))
 have:=a6X (node:=o.k) (p:=pr1 t o) (frm:=0) (to:=1) hkf' (st:=y0 t (chs t) (t.length+1)) (fun k hm=>(hk k (by rw [List.map_drop] at hm;exact hm)).2)
 rw [List.map_drop] at this
 have hle:=hsub.le
 have:=h.ok.le
 exact Gw.le ‹_› (by omega)
theorem b4c {t:List Nd} (h:M8 t) (hS:a11 t) (hT:a00 t):a46 (a3b t):=by
 have hg:(gat t).vs.length<=(gbt t).vs.length:=by
  obtain ⟨m,hm⟩:=b1V t
  rw [hm,List.length_append];omega
 refine ⟨h.ok,b5w h hT,b55 h hT,c04 h hT,hg,fun p hp=>?_,fun k hk=>?_,?_⟩
 ·have hp:p∈(gbt t).ps:=hp
  rw [(a52 t).1] at hp
  obtain ⟨o,ho,rfl⟩:=List.mem_map.1 hp
  have hok:=a6r ho
  obtain ⟨i1,g⟩:=b6o h hS ho
  have hw:=c2i h hS ho
  obtain ⟨vs,v1,v2,v3,v4⟩:=b0R ho
  have hhi:=hok.hi
  have hlo:=hok.lo
  refine ⟨i1,?_,?_,?_,?_,?_,?_⟩
  ·rw [g.names,g.vars]
   simp only [pr1,List.length_append,List.length_map,List.length_take,a18,List.length_range]
   omega
  ·rw [g.vars]
   intro v hv
   show v<(gbt t).vs.length
   simp only [pr1,List.mem_append,List.mem_range,List.mem_map] at hv
   rcases hv with hv | ⟨l,hl,rfl⟩<;>omega
  ·rw [g.vars,g.locals]
   intro v hv
   simp only [pr1,List.mem_append,List.mem_range,List.mem_map] at hv ⊢
   obtain ⟨l,hl,rfl⟩:=hv
   exact ⟨.inr ⟨l,hl,rfl⟩,by show (gat t).vs.length<=_;omega⟩
  ·have:=hw.pl;simp only [pr1] at this;omega
  ·have:=hw.el;simp only [pr1,List.length_nil] at this;omega
  ·rw [g.names]
   show _<=(gbt t).vs.length
   simp only [pr1,List.length_append,List.length_map,List.length_take,a18]
   omega
 ·have hk:k∈(gat t).sf:=hk
  unfold gat at hk
  rw [a2X] at hk
  simp only [List.mem_map,List.mem_filter,beq_iff_eq] at hk
  obtain ⟨j,⟨j1,j2⟩,rfl⟩:=hk
  obtain ⟨q1,q2,_⟩:=h.item j1
  have h1:=(h.ok.node j q2).one (.inl j2)
  exact ⟨(h.ok.ks q2 _ (Z3 (by omega))).2,h1.2⟩
 ·have h1:=(a8N t (nd t 0).ks).2.2
  have h2:=h.subs.length
  have h3:=h.ok.le
  rw [a1d] at h1
  show (gat t).sf.length<=800
  unfold gat
  omega
end Go.V
namespace Go.V
def idxB (l:List ByteArray) (w:ByteArray):Nat:=l.findIdx fun x=>decide (x=w)
end Go.V
namespace Go.V
def setF (l:List Nat):Nat:=l.foldl (fun a v=>a ||| 2 ^ v) 0
end Go.V
namespace Go.V
structure Stt where
 at':List Nat
 vars:List Int
 chans:List (List Int)
 hold:Int
 deriving DecidableEq
def doZ (op:Nat) (a b:Int) (w:Nat):Int:=match op with
 | 0=>S4 (a+b) w
 | 1=>S4 (a-b) w
 | 2=>S4 (a*b) w
 | 3=>if b=0 then 0 else S4 (a.tdiv b) w
 | _=>if b=0 then 0 else S4 (a.tmod b) w
def zAt (l:List Int) (i:Nat):Int:=l.getD i 0
def cAt (l:List (List Int)) (i:Nat):List Int:=l.getD i []
def nAt (l:List Nat) (i:Nat):Nat:=l.getD i 0
def X5 (l:List Ch) (i:Nat):Ch:=l.getD i default
theorem a9o {l:List (List Int)} {i:Nat} (h:i<l.length):cAt l i=l[i]:=by simp [cAt,List.getD,h]
theorem a6T {l:List Ch} {i:Nat} (h:i<l.length):X5 l i=l[i]:=by simp [X5,List.getD,h]
def a4X (b:Bool):Int:=if b then 1 else 0
def c0v (p:Pr) (w:ByteArray):Option Nat:=if idxB p.names w<p.names.length then some (p.vars.getD (idxB p.names w) 0) else none
def b8E (op a b:Int):Int×Bool :=
 if 7<=op/\b=0 then (0,false)
 else if op=0 then (a4X (decide (a≠0)||decide (b≠0)),true)
 else if op=1 then (a4X (decide (a≠0)&&decide (b≠0)),true)
 else if op=2 then (a4X (decide (a=b)),true)
 else if op=3 then (a4X (decide (a<b)),true)
 else (doZ (op-4).toNat a b 8,true)
def a2e (t:List Nd) (ch:List ByteArray) (look:ByteArray->Option Nat) (st:Stt):Nat->Nat->Int×Bool
 | 0,_=>(0,false)
 | n+1,k =>
   let x:=nd t k
   if x.kind=17 then (S4 (x.num 0) 8,true)
   else if x.kind=18 then match look (x.word 0) with
    | none=>(0,false)
    | some v=>(zAt st.vars v,true)
   else if x.kind=19 then (if idxB ch (x.word 0)<ch.length then (((cAt st.chans (idxB ch (x.word 0))).length:Int),true) else (0,false))
   else if x.kind=20 then (S4 (-(a2e t ch look st n (x.kid 0)).1) 8,(a2e t ch look st n (x.kid 0)).2)
   else if x.kind=21 then (a4X ((a2e t ch look st n (x.kid 0)).2&&decide ((a2e t ch look st n (x.kid 0)).1=0)),(a2e t ch look st n (x.kid 0)).2)
   else if x.kind=22 then
    if (a2e t ch look st n (x.kid 0)).2&&(a2e t ch look st n (x.kid 1)).2 then b8E (x.num 0) (a2e t ch look st n (x.kid 0)).1 (a2e t ch look st n (x.kid 1)).1 else (0,false)
   else (0,false)
def Mo.ch (mo:Mo):List ByteArray:=mo.chans.map Ch.name
def Mo.val (mo:Mo) (look:ByteArray->Option Nat) (st:Stt) (k:Nat):Int×Bool:=a2e mo.tree mo.ch look st (mo.tree.length+1) k
def Mo.ex (mo:Mo) (p:Pr) (st:Stt) (e:Ed) (z:Int):Int×Bool:=if 0<=e.expr then mo.val (c0v p) st e.expr.toNat else (z,true)
structure Mv where
 kind:Nat
 proc:Nat
 edge:Nat
 chan:Nat
 deriving DecidableEq,Inhabited
def Mv.row (v:Mv):List D:=[.int .i64 (v.kind:Int),.int .i64 (v.proc:Int),.int .i64 (v.edge:Int),.int .i64 (v.chan:Int)]
structure StD where
 da:D
 dv:D
 dc:D
def b0S (x:StD) (st:Stt):List D:=[x.da,x.dv,x.dc,.int .i64 st.hold]
structure StF (x:StD) (st:Stt):Prop where
 a:FL 1 x.da (Q0 st.at')
 v:FI x.dv st.vars
 c:∃ds:List D,FL 1 x.dc (ds.map fun d=>[d])/\ds.length=st.chans.length/\∀i (h:i<ds.length) (h':i<st.chans.length),FI ds[i] st.chans[i]
theorem StF.ones {x:StD} {st:Stt} (h:StF x st):q8 x.da=true/\q8 x.dv=true/\q8 x.dc=true:=by
 obtain ⟨ds,h1,_⟩:=h.c
 exact ⟨h.a.one,FL.one h.v,h1.one⟩
theorem StF.fz {x:StD} {st:Stt} (h:StF x st):Fz (.agg (b0S x st)):=a5a fun d hd=>by
 obtain ⟨ds,h1,_⟩:=h.c
 simp only [b0S,List.mem_cons,List.not_mem_nil,or_false] at hd
 rcases hd with rfl | rfl | rfl | rfl
 ·exact FL.ic h.a
 ·exact FL.ic h.v
 ·exact FL.ic h1
 ·exact fun _ _=>rfl
theorem StF.chan {x:StD} {st:Stt} (h:StF x st) {i:Nat} (hi:i<st.chans.length):∃d,FI d st.chans[i]/\∀k:IntKind,M1 1 x.dc (.int k (i:Int))=some (.fp [d] 0):=by
 obtain ⟨ds,h1,h2,h3⟩:=h.c
 have hi':i<ds.length:=by omega
 refine ⟨ds[i],h3 i hi' hi,fun k=>?_⟩
 rw [h1.idx (by simpa using hi')]
 simp
end Go.V
namespace Go.V
theorem a2F (l:List Nat):(bs l).size=l.length:=by simp [bs,ByteArray.size]
theorem b90 (a b:List Nat):bs a++bs b=bs (a++b):=by
 apply ByteArray.ext
 simp [bs]
theorem c0g {l:List Nat} {i:Nat} (h:i<l.length):(bs l)[i]?=some (UInt8.ofNat l[i]):=by
 rw [getElem?_pos (bs l) i (by rw [a2F];exact h)]
 simp [bs,ByteArray.getElem_eq_getElem_data]
theorem b1n (l:List Nat) (a b:Nat):(bs l).extract a b=bs ((l.take b).drop a):=by
 apply ByteArray.ext
 simp only [bs,ByteArray.data_extract,List.extract_toArray,List.extract_eq_take_drop]
 rw [List.map_drop,List.map_take,List.drop_take]
theorem a8Y {a b:List Nat} (ha:∀c∈a,c<256) (hb:∀c∈b,c<256) (h:bs a=bs b):a=b:=by
 have h1:a.map UInt8.ofNat=b.map UInt8.ofNat:=by
  have:=congrArg (fun x=>x.data.toList) h
  simpa [bs] using this
 have h2:=congrArg (List.map UInt8.toNat) h1
 rw [List.map_map,List.map_map] at h2
 have key:∀l:List Nat,(∀c∈l,c<256)->l.map (UInt8.toNat ∘ UInt8.ofNat)=l:=fun l hl=>by
  rw [List.map_congr_left (g:=id) fun c hc=>by
   simp only [Function.comp,id,UInt8.toNat_ofNat]
   exact Nat.mod_eq_of_lt (hl c hc)]
  simp
 rwa [key a ha,key b hb] at h2
theorem a3u {l:List Nat} {i:Nat} (h:i<l.length) (hc:∀c∈l,c<256) {k:IntKind}:a3B (.str (bs l)) (.int k (i:Int))=some (.int .u8 (l[i]:Int)):=by
 have hl:=hc _ (List.getElem_mem h)
 unfold a3B
 simp only [Int.toNat_natCast]
 rw [if_pos (by omega),c0g h]
 have e:(UInt8.ofNat l[i]).toNat=l[i]:=by rw [UInt8.toNat_ofNat'];exact Nat.mod_eq_of_lt hl
 simp only [Option.map_some,e]
theorem a05 {a b:List Nat} (h:a.length+b.length<2 ^ 62):a0g .add (bs a) (bs b)=some (.str (bs (a++b))):=by
 unfold a0g
 simp only [a2F]
 rw [if_pos h,b90]
structure Lx where
 kind:Nat
 txt:List Nat
 deriving Inhabited
def isL (c:Nat):Bool:=decide (65<=c)&&decide (c<=90)||decide (97<=c)&&decide (c<=122)
def isD (c:Nat):Bool:=decide (48<=c)&&decide (c<=57)
def a15 (c:Nat):Bool:=isL c||isD c||decide (c=95)
def hdN (l:List Nat):Nat:=l.headD 0
structure Lx.Ok (x:Lx):Prop where
 pos:0<x.txt.length
 lt:∀c∈x.txt,c<256
 hd:hdN x.txt≠47/\hdN x.txt≠61/\hdN x.txt≠38/\hdN x.txt≠124
 k:(x.kind=0/\isL (hdN x.txt)=true/\∀c∈x.txt,a15 c=true)∨(x.kind=1/\x.txt.length<=6/\∀c∈x.txt,isD c=true)∨(x.kind=2/\∃c,x.txt=[c]/\c∈[123,125,91,93,59])∨(x.kind=3/\x.txt=[32])
def M9 (l:List Lx):List Nat:=l.flatMap Lx.txt
def O8 (l:List Lx) (n:Nat):Nat:=(M9 (l.take n)).length
def T0 (l:List Lx) (n:Nat):Lx:=l.getD n default
structure b3e (l:List Lx):Prop where
 ok:∀x∈l,x.Ok
 nx:∀n,n+1<l.length->((T0 l n).kind=0->a15 (hdN (T0 l (n+1)).txt)=false)/\((T0 l n).kind=1->isD (hdN (T0 l (n+1)).txt)=false)
structure Tk where
 kind:Int
 txt:List Nat
 pos:Nat
 deriving Inhabited
def Tk.row (t:Tk):List D:=[.int .i64 t.kind,.str (bs t.txt),.int .i64 (t.pos:Int)]
def a0F (l:List Lx):Nat->List Tk
 | 0=>[]
 | n+1=>a0F l n++if (T0 l n).kind=3 then [] else [⟨((T0 l n).kind:Int),(T0 l n).txt,O8 l n⟩]
def a0Y (l:List Tk):List (List D):=l.map Tk.row
theorem a53 {l:List Lx} {n:Nat} (h:n<l.length):T0 l n=l[n]:=by simp [T0,List.getD,h]
theorem a6p {l:List Lx} {n:Nat} (h:n<l.length):T0 l n∈l:=by rw [a53 h];exact List.getElem_mem h
theorem a4Q {l:List Lx} {n:Nat} (h:n<l.length):O8 l (n+1)=O8 l n+(T0 l n).txt.length:=by
 unfold O8 M9
 rw [List.take_succ_eq_append_getElem h,List.flatMap_append,List.length_append,a53 h]
 simp
theorem a5V {l:List Lx}:O8 l l.length=(M9 l).length:=by unfold O8;rw [List.take_length]
theorem a73 {l:List Lx} {n:Nat} (h:n<=l.length):O8 l n<=(M9 l).length:=by
 rw [<- a5V]
 have:∀m,n+m<=l.length->O8 l n<=O8 l (n+m):=fun m=>by
  induction m with
  | zero=>intro _;exact Nat.le_refl _
  | succ m ih =>
    intro hm
    have:=ih (by omega)
    rw [show n+(m+1)=(n+m)+1 by omega,a4Q (by omega)]
    omega
 have:=this (l.length-n) (by omega)
 rwa [show n+(l.length-n)=l.length by omega] at this
theorem b3r {l:List Lx} {n:Nat} (h:n<l.length):M9 l=M9 (l.take n)++((T0 l n).txt++M9 (l.drop (n+1))):=by
 conv=>lhs;rw [<- List.take_append_drop n l,List.drop_eq_getElem_cons h]
 unfold M9
 rw [List.flatMap_append,List.flatMap_cons,a53 h]
theorem a7Y {l:List Lx} {n j:Nat} (h:n<l.length) (hj:j<(T0 l n).txt.length) (hl:O8 l n+j<(M9 l).length):(M9 l)[O8 l n+j]=(T0 l n).txt[j]:=by
 have e:=b3r h
 have:(M9 l)[O8 l n+j]?=some (T0 l n).txt[j]:=by
  rw [e,List.getElem?_append_right (by unfold O8;omega)]
  unfold O8
  rw [Nat.add_sub_cancel_left,List.getElem?_append_left hj,List.getElem?_eq_getElem hj]
 rw [List.getElem?_eq_getElem hl] at this
 exact Option.some.inj this
theorem a3E {l:List Nat} (h:0<l.length):hdN l=l[0]:=by
 unfold hdN
 cases l with
 | nil=>simp at h
 | cons a r=>rfl
theorem b5H {l:List Lx} (hk:∀x∈l,x.Ok) {n:Nat} (h:n+1<l.length) (hl:O8 l n+(T0 l n).txt.length<(M9 l).length):(M9 l)[O8 l n+(T0 l n).txt.length]=hdN (T0 l (n+1)).txt:=by
 have h1:=a4Q (l:=l) (n:=n) (by omega)
 have hp:=(hk _ (a6p h)).pos
 have:=a7Y (l:=l) (n:=n+1) (j:=0) h hp (by omega)
 simp only [Nat.add_zero] at this
 have e:(M9 l)[O8 l n+(T0 l n).txt.length]=(M9 l)[O8 l (n+1)]'(by omega):=by congr 1;omega
 rw [e,this]
 exact (a3E hp).symm
theorem b3X {l:List Lx} (hk:∀x∈l,x.Ok):∀c∈M9 l,c<256:=by
 intro c hc
 obtain ⟨x,hx,hc⟩:=List.mem_flatMap.1 hc
 exact (hk x hx).lt c hc
theorem b9W {l:List Lx} {n:Nat} (h:n<l.length):((M9 l).take (O8 l n+(T0 l n).txt.length)).drop (O8 l n)=(T0 l n).txt:=by
 have hs:=b3r h
 unfold O8
 generalize M9 (l.take n)=a at *
 rw [hs,<- List.append_assoc,List.take_append_of_le_length (by simp),List.take_of_length_le (by simp),List.drop_left]
theorem a7A {l:List Lx}:∀n,(a0F l n).length<=n
 | 0=>by simp [a0F]
 | n+1=>by
   have:=a7A (l:=l) n
   rw [a0F,List.length_append]
   split<;>simp<;>omega
theorem a4N (l:List Tk):∀r∈a0Y l,r.length=3:=by
 intro r hr
 obtain ⟨t,_,rfl⟩:=List.mem_map.1 hr
 rfl
theorem b5A (l:List Tk):∀r∈a0Y l,r.all W5=true:=by
 intro r hr
 obtain ⟨t,_,rfl⟩:=List.mem_map.1 hr
 rfl
@[simp] theorem c3b (l:List Tk):(a0Y l).length=l.length:=by simp [a0Y]
theorem a50 (a b:List Tk):a0Y (a++b)=a0Y a++a0Y b:=by simp [a0Y]
theorem b5u {x:Lx} (h:x.Ok):(x.kind=3↔hdN x.txt∈[32,9,13,10])/\(x.kind=3->hdN x.txt=32):=by
 rcases h.k with ⟨k,a,_⟩ | ⟨k,_,a⟩ | ⟨k,c,e,hc⟩ | ⟨k,e⟩
 ·unfold isL at a
  simp only [List.mem_cons,List.not_mem_nil,or_false]
  simp at a
  omega
 ·have:=a (hdN x.txt) (by rw [a3E h.pos];exact List.getElem_mem _)
  unfold isD at this
  simp only [List.mem_cons,List.not_mem_nil,or_false]
  simp at this
  omega
 ·have e2:hdN x.txt=c:=by rw [e];rfl
  simp only [List.mem_cons,List.not_mem_nil,or_false] at hc ⊢
  omega
 ·have e2:hdN x.txt=32:=by rw [e];rfl
  rw [e2]
  simp [k]
end Go.V
namespace Go.V
variable {σ:Nat->Nat} {l:List Nat} {c:Nat}
end Go.V
namespace Go.V
end Go.V
namespace Go.V
theorem a9C {α:Type} {P:List α->Prop} (h0:P []) (h1:∀l a,P l->P (l++[a])):∀l,P l:=by
 intro l
 have:∀r:List α,P r.reverse:=by
  intro r
  induction r with
  | nil=>exact h0
  | cons a r ih=>rw [List.reverse_cons];exact h1 _ _ ih
 have h:=this l.reverse
 rwa [List.reverse_reverse] at h
def a8i:Nat->List (Nat×Nat)->List Nat
 | _,[]=>[]
 | k,p::r=>if p=(0,0)/\0<k then k::a8i (k+1) r else a8i (k+1) r
structure Gr.WF (G:Gr):Prop where
 pos:G.nodes[0]?=some (0,0)
 nodes:∀ (n:Nat) (p:Nat×Nat),G.nodes[n]?=some p->p=(0,0)∨(2<=p.1/\p.1<p.2/\p.2<2*n)
 ins:G.ins=a8i 0 G.nodes
 known:∀ (p:Nat×Nat) (n:Nat),find p G.known=some n↔p≠(0,0)/\G.nodes[n]?=some p
theorem Gr.WF.len {G:Gr} (h:G.WF):0<G.nodes.length:=by
 have:=h.pos
 rcases Nat.eq_zero_or_pos G.nodes.length with h0 | h0
 ·rw [List.getElem?_eq_none (by omega)] at this;cases this
 ·exact h0
theorem Gr.WF.lt {G:Gr} (h:G.WF):∀p n,find p G.known=some n->n<G.nodes.length:=by
 intro p n hf
 have:=(h.known p n).1 hf
 rcases Nat.lt_or_ge n G.nodes.length with h1 | h1
 ·exact h1
 ·rw [List.getElem?_eq_none h1] at this;cases this.2
def evL (vs:List Bool) (e:Nat):Bool:=vs.getD (e / 2) false != (e % 2==1)
def a8k (m:List Bool) (st:List Bool×Nat) (p:Nat×Nat):List Bool×Nat :=
 if p=(0,0) then (if st.1.length=0 then (st.1++[false],st.2) else (st.1++[m.getD st.2 false],st.2+1))
 else (st.1++[evL st.1 p.1&&evL st.1 p.2],st.2)
def a5s (m:List Bool) (nodes:List (Nat×Nat)):List Bool×Nat:=nodes.foldl (a8k m) ([],0)
def vals (m:List Bool) (nodes:List (Nat×Nat)):List Bool:=(a5s m nodes).1
def Gr.ev (G:Gr) (m:List Bool) (e:Nat):Bool:=evL (vals m G.nodes) e
theorem c0W (m:List Bool) (l:List (Nat×Nat)) (p:Nat×Nat):a5s m (l++[p])=a8k m (a5s m l) p:=by simp [a5s,List.foldl_append]
theorem b11 (m:List Bool) (l:List (Nat×Nat)) (p:Nat×Nat):∃v,vals m (l++[p])=vals m l++[v]:=by
 simp only [vals,c0W,a8k]
 split
 ·split<;>exact ⟨_,rfl⟩
 ·exact ⟨_,rfl⟩
theorem b4x (m:List Bool) (l k:List (Nat×Nat)):∃t,vals m (l++k)=vals m l++t:=by
 induction k using a9C with
 | h0=>exact ⟨[],by simp⟩
 | h1 k p ih =>
   obtain ⟨t,ht⟩:=ih
   obtain ⟨v,hv⟩:=b11 m (l++k) p
   exact ⟨t++[v],by rw [<- List.append_assoc,hv,ht,List.append_assoc]⟩
theorem c0R (m:List Bool) (l:List (Nat×Nat)):(vals m l).length=l.length:=by
 induction l using a9C with
 | h0=>rfl
 | h1 l p ih =>
   obtain ⟨v,hv⟩:=b11 m l p
   rw [hv];simp [ih]
theorem b9t {l t:List Bool} {e:Nat} (h:e / 2<l.length):evL (l++t) e=evL l e:=by
 simp only [evL]
 congr 1
 simp [List.getD,List.getElem?_append_left h]
def Gr.Ext (G G':Gr):Prop:=∃l,G'.nodes=G.nodes++l
theorem Gr.Ext.refl (G:Gr):Gr.Ext G G:=⟨[],by simp⟩
theorem Gr.Ext.trans {A B C:Gr} (h:Gr.Ext A B) (k:Gr.Ext B C):Gr.Ext A C:=by
 obtain ⟨l,hl⟩:=h
 obtain ⟨r,hr⟩:=k
 exact ⟨l++r,by rw [hr,hl,List.append_assoc]⟩
theorem Gr.Ext.le {G G':Gr} (h:Gr.Ext G G'):G.nodes.length<=G'.nodes.length:=by
 obtain ⟨l,hl⟩:=h
 rw [hl];simp
theorem Gr.Ext.ev {G G':Gr} (h:Gr.Ext G G') {m:List Bool} {e:Nat} (he:e<2*G.nodes.length):G'.ev m e=G.ev m e:=by
 obtain ⟨l,hl⟩:=h
 obtain ⟨t,ht⟩:=b4x m G.nodes l
 simp only [Gr.ev,hl,ht]
 exact b9t (by rw [c0R];omega)
theorem Gr.Ext.get {G G':Gr} (h:Gr.Ext G G') {n:Nat} {p:Nat×Nat} (hp:G.nodes[n]?=some p):G'.nodes[n]?=some p:=by
 obtain ⟨l,hl⟩:=h
 rw [hl,List.getElem?_append_left,hp]
 rcases Nat.lt_or_ge n G.nodes.length with h1 | h1
 ·exact h1
 ·rw [List.getElem?_eq_none h1] at hp;cases hp
structure Gr.Ok (G G':Gr) (k:Nat):Prop where
 wf:G'.WF
 ext:Gr.Ext G G'
 len:G'.nodes.length<=G.nodes.length+k
 one:G.nodes.length=1->G'.nodes.length=1
 ins:G'.ins=G.ins
theorem Gr.Ok.refl {G:Gr} (h:G.WF):Gr.Ok G G 0:=⟨h,Gr.Ext.refl G,by omega,fun h=>h,rfl⟩
theorem Gr.Ok.trans {A B C:Gr} {j k:Nat} (h:Gr.Ok A B j) (l:Gr.Ok B C k):Gr.Ok A C (j+k):=⟨l.wf,h.ext.trans l.ext,by have:=h.len;have:=l.len;omega,fun e=>l.one (h.one e),l.ins.trans h.ins⟩
theorem Gr.Ok.weaken {A B:Gr} {j k:Nat} (h:Gr.Ok A B j) (l:j<=k):Gr.Ok A B k:=⟨h.wf,h.ext,by have:=h.len;omega,h.one,h.ins⟩
theorem Gr.and_again {G G':Gr} (h:G.WF) {a b:Nat} (hx:Gr.Ext (G.and a b).2 G') (hw:G'.WF):G'.and b a=((G.and a b).1,G'):=by
 unfold Gr.and at *
 rw [Nat.min_comm b a,Nat.max_comm b a]
 by_cases h1:min a b=0∨min a b=b2D (max a b)
 ·simp only [if_pos h1]
 ·by_cases h2:min a b=1∨min a b=max a b
  ·simp only [if_neg h1,if_pos h2]
  ·have hp:(min a b,max a b)≠(0,0):=by
    intro he
    simp only [Prod.mk.injEq] at he
    exact h1 (.inl he.1)
   simp only [if_neg h1,if_neg h2] at hx ⊢
   cases hf:find (min a b,max a b) G.known with
   | some n =>
     simp only [hf] at hx ⊢
     have hk:=(h.known _ _).1 hf
     rw [(hw.known _ _).2 ⟨hp,hx.get hk.2⟩]
   | none =>
     simp only [hf] at hx ⊢
     rw [(hw.known (min a b,max a b) G.nodes.length).2 ⟨hp,hx.get (by simp)⟩]
def Gr.new:Gr:=⟨[(0,0)],[],[]⟩
def Gr.Laid (G:Gr) (a b e:Nat):Prop:=∀G',Gr.Ext G G'->G'.WF->G'.and b a=(e,G')
theorem Gr.laid {G:Gr} (h:G.WF) (a b:Nat):Gr.Laid (G.and a b).2 a b (G.and a b).1:=fun _ hx hw=>Gr.and_again h hx hw
theorem Gr.Laid.mono {G G':Gr} {a b e:Nat} (h:Gr.Laid G a b e) (hx:Gr.Ext G G'):Gr.Laid G' a b e:=fun G'' hx' hw=>h G'' (hx.trans hx') hw
def RdF (s:i8) (ids:List Nat) (d:D) (l:List D):Prop:=Rd s d l/\∀id off n,d=.arr id off n 1->id∉ids
theorem RdF.fr {s s':i8} {ids ids':List Nat} {d:D} {l:List D} (h:RdF s ids d l) (hf:Fr ids s s') (hm:∀i∈ids',i∈ids∨s.next<=i):RdF s' ids' d l:=by
 obtain ⟨h1,h2⟩:=h
 have lt:∀id off n,d=.arr id off n 1->id<s.next:=by
  rintro id off n rfl
  rcases h1 with ⟨h,_⟩ | h | ⟨id',off',cs,h,hg,_⟩
  ·cases h
  ·cases h
  ·cases h;exact k4 hg
 refine ⟨h1.stay fun id off n hd=>hf.2 id (lt id off n hd) (h2 id off n hd),fun id off n hd hc=>?_⟩
 rcases hm id hc with h | h
 ·exact h2 id off n hd h
 ·have:=lt id off n hd;omega
theorem RdF.step {s s':i8} {g:Nat} {ids ids':List Nat} {G':Gr} {d:D} {l:List D} (h:RdF s ids d l) (hs:a1K s g ids s' G' ids'):RdF s' ids' d l:=h.fr hs.2.1 hs.2.2
theorem RdF.newer {s s':i8} {ids:List Nat} {d:D} {l:List D} (h:RdF s ids d l) (hf:Fr [] s s'):RdF s' ids d l:=h.fr (hf.weaken (by simp)) fun _ h=>.inl h
theorem RdF.of {s:i8} {d:D} {l:List D} {ids:List Nat} (h:∀s,Rd s d l):RdF s ids d l:=by
 refine ⟨h s,fun id off n he=>?_⟩
 subst he
 rcases h i8.empty with ⟨h,_⟩ | h | ⟨id',off',cs,h,hg,_⟩
 ·cases h
 ·cases h
 ·simp at hg
end Go.V
namespace Go.V
structure InW (V:List Bool) (ins:List Nat) (top i:Nat) (W:List Bool):Prop where
 len:W.length=top+1
 yes:∀n j,n<=top->j<i->ins[j]?=some n->W[n]?=V[n]?
 no:∀n,n<=top->(∀j,j<i->ins[j]?≠some n)->W[n]?=some false
theorem InW.zero {V:List Bool} {ins:List Nat} {top:Nat}:InW V ins top 0 (List.replicate (top+1) false) :=
 ⟨by simp,fun n j _ h=>by omega,fun n h _=>by rw [List.getElem?_replicate,if_pos (by omega)]⟩
theorem InW.set {V W:List Bool} {ins:List Nat} {top i n:Nat} {b:Bool} (h:InW V ins top i W) (hn:ins[i]?=some n) (ht:n<=top) (hv:V[n]?=some b):InW V ins top (i+1) (W.set n b):=by
 refine ⟨by simp [h.len],fun k j hk hj he=>?_,fun k hk hj=>?_⟩
 ·by_cases e:n=k
  ·subst e
   rw [List.getElem?_set_self (by have:=h.len;omega),hv]
  ·rw [List.getElem?_set_ne e]
   by_cases e2:j=i
   ·subst e2;rw [hn] at he;cases he;exact absurd rfl e
   ·exact h.yes k j hk (by omega) he
 ·have e:n≠k:=fun e=>hj i (by omega) (by rw [hn,e])
  rw [List.getElem?_set_ne e]
  exact h.no k hk fun j hj'=>hj j (by omega)
theorem InW.same {V W:List Bool} {ins:List Nat} {top i n:Nat} (h:InW V ins top i W) (hn:ins[i]?=some n) (ht:n<=top) (hv:V[n]?=some false) (hnew:∀j,j<i->ins[j]?≠some n):InW V ins top (i+1) W:=by
 refine ⟨h.len,fun k j hk hj he=>?_,fun k hk hj=>h.no k hk fun j hj'=>hj j (by omega)⟩
 by_cases e2:j=i
 ·subst e2;rw [hn] at he;cases he
  rw [hv];exact h.no _ ht hnew
 ·exact h.yes k j hk (by omega) he
theorem InW.all {V W:List Bool} {ins:List Nat} {top:Nat} (h:InW V ins top ins.length W) {n:Nat} (hn:n∈ins) (ht:n<=top):W[n]?=V[n]?:=by
 obtain ⟨j,hj,rfl⟩:=List.getElem_of_mem hn
 exact h.yes _ j ht hj (List.getElem?_eq_getElem hj)
end Go.V
namespace Go.V
theorem Sl.newer {s s':i8} {d:D} {l:List D} {ids:List Nat} (h:Sl s d l ids) (hf:Fr [] s s'):Sl s' d l ids:=h.stay hf (by simp)
end Go.V
namespace Go.V
def a0h:List (Nat×Nat)->List D
 | []=>[]
 | p::r=>.bool (decide (p=(0,0)))::.int .i64 (p.1:Int)::.int .i64 (p.2:Int)::a0h r
@[simp] theorem a6G:∀ (l:List (Nat×Nat)),(a0h l).length=l.length*3
 | []=>rfl
 | p::r=>by simp only [a0h,List.length_cons,a6G r];omega
theorem b07:∀ (l m:List (Nat×Nat)),a0h (l++m)=a0h l++a0h m
 | [],m=>rfl
 | p::r,m=>by simp [a0h,b07 r m]
theorem b2Y:∀ {l:List (Nat×Nat)} {i:Nat} (h:i<l.length),(a0h l)[i*3]?=some (.bool (decide (l[i]=(0,0))))/\(a0h l)[i*3+1]?=some (.int .i64 (l[i].1:Int))/\(a0h l)[i*3+2]?=some (.int .i64 (l[i].2:Int))
 | p::r,0,h=>by simp [a0h]
 | p::r,i+1,h=>by
   have ih:=b2Y (l:=r) (i:=i) (by simpa using h)
   rw [show (i+1)*3=i*3+1+1+1 by omega]
   simpa [a0h,Nat.add_right_comm] using ih
structure a1o (s:i8) (r:Nat) (N:List (Nat×Nat)) (dl:D) (ids:List Nat):Prop where
 obj:s.get r=some (.cells [dl])
 row:(dl=.nils/\N=[]/\ids=[r])∨∃id,dl=.arr id 0 N.length 3/\s.get id=some (.cells (a0h N))/\id≠r/\ids=[r,id]
theorem a1o.one {s:i8} {r:Nat} {N:List (Nat×Nat)} {dl:D} {ids:List Nat} (h:a1o s r N dl ids):q8 dl=true:=by
 rcases h.row with ⟨rfl,_⟩ | ⟨id,rfl,_⟩<;>rfl
theorem a1o.len {s:i8} {r:Nat} {N:List (Nat×Nat)} {dl:D} {ids:List Nat} (h:a1o s r N dl ids):X4 false dl=some (.int .i64 (N.length:Int)):=by
 rcases h.row with ⟨rfl,rfl,_⟩ | ⟨id,rfl,_⟩<;>rfl
theorem a1o.idx {s:i8} {r:Nat} {N:List (Nat×Nat)} {dl:D} {ids:List Nat} (h:a1o s r N dl ids) {i:Nat} (hi:i<N.length) :
 ∃id,M1 3 dl (.int .i64 (i:Int))=some (.ptr id (i*3))/\ldV s.get none (.ptr id (i*3))=some (.bool (decide (N[i]=(0,0))))/\ldV s.get none (.ptr id (i*3+1))=some (.int .i64 (N[i].1:Int))/\ldV s.get none (.ptr id (i*3+2))=some (.int .i64 (N[i].2:Int)) /\
  ldV s.get (some 3) (.ptr id (i*3))=some (.agg [.bool (decide (N[i]=(0,0))),.int .i64 (N[i].1:Int),.int .i64 (N[i].2:Int)]):=by
 rcases h.row with ⟨_,rfl,_⟩ | ⟨id,rfl,hg,_,_⟩
 ·simp at hi
 ·obtain ⟨h1,h2,h3⟩:=b2Y hi
  refine ⟨id,?_,?_,?_,?_,?_⟩
  ·rw [b1L rfl (by omega) (by omega)];simp
  ·simp only [ldV,hg,Y5,h1];rfl
  ·simp only [ldV,hg,Y5,h2];rfl
  ·simp only [ldV,hg,Y5,h3];rfl
  ·simp only [ldV,hg,Y5,a6G]
   rw [if_pos (by omega)]
   congr 2
   have hl:i*3+3<=(a0h N).length:=by rw [a6G];omega
   have e1:=List.getElem?_eq_some_iff.1 h1
   have e2:=List.getElem?_eq_some_iff.1 h2
   have e3:=List.getElem?_eq_some_iff.1 h3
   obtain ⟨q1,e1⟩:=e1
   obtain ⟨q2,e2⟩:=e2
   obtain ⟨q3,e3⟩:=e3
   rw [List.drop_eq_getElem_cons q1,List.drop_eq_getElem_cons q2,List.drop_eq_getElem_cons q3,e1,e2,e3]
   rfl
theorem a1o.lt {s:i8} {r:Nat} {N:List (Nat×Nat)} {dl:D} {ids:List Nat} (h:a1o s r N dl ids):∀i∈ids,i<s.next:=by
 rcases h.row with ⟨_,_,rfl⟩ | ⟨id,_,hg,_,rfl⟩
 ·intro i hi;simp at hi;subst hi;exact k4 h.obj
 ·intro i hi;simp at hi
  rcases hi with rfl | rfl
  ·exact k4 h.obj
  ·exact k4 hg
theorem a1o.stay {s s':i8} {r:Nat} {N:List (Nat×Nat)} {dl:D} {ids ids2:List Nat} (h:a1o s r N dl ids) (hf:Fr ids2 s s') (hd:∀i∈ids,i∉ids2):a1o s' r N dl ids:=by
 have hl:=h.lt
 rcases h.row with ⟨rfl,rfl,rfl⟩ | ⟨id,rfl,hg,hne,rfl⟩
 ·exact ⟨by rw [hf.2 r (hl r (by simp)) (hd r (by simp)),h.obj],.inl ⟨rfl,rfl,rfl⟩⟩
 ·exact ⟨by rw [hf.2 r (hl r (by simp)) (hd r (by simp)),h.obj],.inr ⟨id,rfl,by rw [hf.2 id (hl id (by simp)) (hd id (by simp)),hg],hne,rfl⟩⟩
theorem a1o.app {s:i8} {r:Nat} {N:List (Nat×Nat)} {dl:D} {ids:List Nat} (h:a1o s r N dl ids) (p:Nat×Nat) (hN:N.length<1000000) :
 ∃s' id',S9 3 24 dl (.arr s.next 0 1 3) (s.push (.cells [.bool (decide (p=(0,0))),.int .i64 (p.1:Int),.int .i64 (p.2:Int)]))=some (.arr id' 0 (N.length+1) 3,s')/\s'.get id'=some (.cells (a0h (N++[p])))/\s.next<=id'/\Fr ids s s'/\s'.get r=some (.cells [dl])/\r<s'.next:=by
 have hr:=k4 h.obj
 have hg2:(s.push (.cells [.bool (decide (p=(0,0))),.int .i64 (p.1:Int),.int .i64 (p.2:Int)])).get s.next=some (.cells [.bool (decide (p=(0,0))),.int .i64 (p.1:Int),.int .i64 (p.2:Int)]):=O4 rfl
 have b1:∀n,n<=1000000->n*24<=2 ^ 45/\n<=2 ^ 45:=fun n hn=>⟨Nat.le_trans (Nat.mul_le_mul_right _ hn) (by decide),Nat.le_trans hn (by decide)⟩
 rcases h.row with ⟨rfl,rfl,rfl⟩ | ⟨id,rfl,hg,hne,rfl⟩
 ·refine ⟨(s.push (.cells [.bool (decide (p=(0,0))),.int .i64 (p.1:Int),.int .i64 (p.2:Int)])).push (.cells (a0h [p])),s.next+1,?_,O4 (by simp),by omega,(Fr.push _).thenPush _,?_,by simp;omega⟩
  ·unfold S9
   simp only [U4,hg2,a1m,Z7,beq_self_eq_true]
   simp [a0h]
  ·rw [S6 (by simp;omega),S6 hr];exact h.obj
 ·have hl:=k4 hg
  refine ⟨((s.push (.cells [.bool (decide (p=(0,0))),.int .i64 (p.1:Int),.int .i64 (p.2:Int)])).set id none).push (.cells (a0h (N++[p]))),s.next+1,?_,O4 (by simp),by omega,((Fr.push _).thenSet _ (.inl (by simp))).thenPush _,?_,by simp;omega⟩
  ·have hg':(s.push (.cells [.bool (decide (p=(0,0))),.int .i64 (p.1:Int),.int .i64 (p.2:Int)])).get id=some (.cells (a0h N)):=by rw [S6 hl];exact hg
   have hb:=b1 (N.length+1) (by omega)
   unfold S9
   simp only [U4,hg2,a1m,Z7,beq_self_eq_true,hg',a6G,Nat.zero_add]
   simp [b07,a0h,hb.1,hb.2]
  ·rw [S6 (by simp;omega),O6 (fun e=>hne e.symm),S6 hr];exact h.obj
end Go.V
namespace Go.V
end Go.V
namespace Go.V
structure VI (s:i8) (ids:List Nat) (G:Gr) (d:D) (es:List Nat):Prop where
 rd:RdF s ids d (a1z es)
 lt:∀e∈es,e<2*G.nodes.length
theorem VI.step {s s':i8} {g:Nat} {ids ids':List Nat} {G G':Gr} {d:D} {es:List Nat} (h:VI s ids G d es) (hs:a1K s g ids s' G' ids') (hx:Gr.Ext G G'):VI s' ids' G' d es :=
 ⟨h.rd.step hs,fun e he=>by have:=h.lt e he;have:=hx.le;omega⟩
theorem VI.newer {s s':i8} {ids:List Nat} {G:Gr} {d:D} {es:List Nat} (h:VI s ids G d es) (hf:Fr [] s s'):VI s' ids G d es:=⟨h.rd.newer hf,h.lt⟩
theorem VI.of {s:i8} {ids:List Nat} {G:Gr} {id:Nat} {es:List Nat} {w:Nat} (h:s.get id=some (.cells (a1z es))) (hw:es.length=w) (hid:id∉ids) (hl:∀e∈es,e<2*G.nodes.length):VI s ids G (.arr id 0 w 1) es:=by
 subst hw
 refine ⟨⟨b6P h,fun id' off n he=>?_⟩,hl⟩
 cases he;exact hid
theorem a1K.nw {s s' s'':i8} {g:Nat} {ids ids':List Nat} {G':Gr} (h:a1K s g ids s' G' ids') (hf:Fr [] s' s''):a1K s g ids s'' G' ids' :=
 ⟨(h.1.newer hf).1,h.2.1.trans hf (by simp),h.2.2⟩
theorem Gr.Ok.get {G G':Gr} {k:Nat} (h:Gr.Ok G G' k) {m:List Bool} {e:Nat} (he:e<2*G.nodes.length):G'.ev m e=G.ev m e:=h.ext.ev he
end Go.V
namespace Go.V
theorem b16 {v w:Nat} (h:w<=v):(2:Int) ^ w<=2 ^ v:=by
 have:(2:Nat) ^ w<=2 ^ v:=Nat.pow_le_pow_right (by omega) h
 exact_mod_cast this
end Go.V
namespace Go.Proofs.Ytlaeblilmppodaa
open Go.V
set_option maxRecDepth 100000
set_option maxHeartbeats 4000000
theorem a6a {i n:Nat} (h:i<n) (hn:n<=maxLen):IntKind.i64.wrap ((i:Int)+1)=((i+1:Nat):Int):=by
 have:maxLen=9223372036854775807:=rfl
 rw [P1 (by omega) (by omega)];omega
def Iso (f:Nat) (l:List D) (r:D):Prop:=∃s1,Ev vfs f l i8.empty r s1
def a1I (f:Nat) (l:List D) (P:Bool->Prop):Prop:=∃b,Iso f l (.bool b)/\P b
theorem a2c {f:Nat} {l:List D} {P:Bool->Prop} (h:EvP vfs f l i8.empty fun d _=>∃b,d=.bool b/\P b):a1I f l P:=by
 obtain ⟨d,s',h,b,rfl,hp⟩:=h
 exact ⟨b,⟨s',h⟩,hp⟩
theorem a5P {f:Nat} {l:List D} {r:D} (h:EvP vfs f l i8.empty fun d _=>d=r):Iso f l r:=by
 obtain ⟨d,s',h,rfl⟩:=h
 exact ⟨s',h⟩
theorem N1 {pairs i t f args rest s Q} {env:Env} {l:List D} {r:D} (hr:Iso f l r) (hs:W5 r=true) (hl:env.evL args=l) (ha:M3 (V.ice s.get 20) l=some l)
 (h:WQ vfs pairs rest ((t,r)::env) s Q):WQ vfs pairs ((i,⟨some t,.m (.call .iso (.cst (.fn f [])) args),none⟩)::rest) env s Q:=by
 obtain ⟨s1,hr⟩:=hr
 exact a4K hr hs hl ha h
end Go.Proofs.Ytlaeblilmppodaa
namespace Go.Proofs.Ytlaeblilmppodaa
open Go.V
set_option maxRecDepth 100000
set_option maxHeartbeats 4000000
end Go.Proofs.Ytlaeblilmppodaa
namespace Go.Proofs.Ytlaeblilmppodaa
open Go.V
set_option maxRecDepth 100000
set_option maxHeartbeats 4000000
end Go.Proofs.Ytlaeblilmppodaa
namespace Go.Proofs.Ytlaeblilmppodaa
open Go.V
set_option maxRecDepth 100000
set_option maxHeartbeats 4000000
end Go.Proofs.Ytlaeblilmppodaa
namespace Go.Proofs.Ytlaeblilmppodaa
open Go.V
set_option maxRecDepth 100000
set_option maxHeartbeats 4000000
end Go.Proofs.Ytlaeblilmppodaa
namespace Go.Proofs.Ytlaeblilmppodaa
open Go.V
set_option maxRecDepth 100000
set_option maxHeartbeats 4000000
theorem b6i {d:D} {l:List ByteArray} (h:Rd i8.empty d (l.map .str)):FS d l:=by
 rcases h with ⟨rfl,h⟩ | rfl | ⟨id,off,cs,rfl,h,_⟩
 ·left;exact ⟨rfl,by simpa using h⟩
 ·right;simp
 ·simp at h
theorem a9F {s:i8} {d:D} {l:List ByteArray} {ids:List Nat} (h:Sl s d (l.map .str) ids):∃d',V.ice s.get 20 d=some d'/\FS d' l:=by
 obtain ⟨d',h1,h2⟩:=h.rd.ice (by simp [W5])
 exact ⟨d',h1,b6i h2⟩
theorem c1y {l:List ByteArray} {x:ByteArray} {i:Nat} (h:i<l.length):inB (l.take (i+1)) x=(inB (l.take i) x||decide (l[i]=x)):=by
 unfold inB
 rw [List.take_succ_eq_append_getElem h,List.any_append];simp
theorem a0q {d:D} {l:List ByteArray} {x:ByteArray} (hd:FS d l) (hl:l.length<=maxLen):Iso 120 [d,.str x] (.bool (inB l x)):=by
 refine a5P ?_
 have hlen:=FS.len hd
 refine N8 (vf:=a7Z) rfl ?_
 unfold a7Z;refine zE ?_
 try refine zW0 ?_
 refine a0l (Q:=M7 0 _) (fun n env s=>∃i:Nat,i<=l.length/\n=l.length-i/\inB (l.take i) x=false/\(env.get 0=d/\env.get 1=.str x/\env.get 5=.int .i64 (i:Int))) ?_ l.length _ _ ⟨0,by omega,rfl,by simp [inB],by simp [Env.get]⟩
 rintro n env s ⟨i,hi,rfl,hn,hE⟩
 by_cases c1:i<l.length
 ·have c1':((i:Int)<(l.length:Int))=True:=eq_true (by omega)
  have hs:=a6a c1 hl
  have hidx:=FS.idx hd c1 (k:=.i64)
  have ht:=c1y (x:=x) c1
  rw [hn] at ht
  by_cases c2:l[i]=x
  ·try refine zW (aN hE (aN hlen (aN c1' (aN hidx c2)))) ?_
   refine ⟨.inr trivial,_,rR,?_⟩
   have:inB l x=true:=by rw [a85];exact c2▸List.getElem_mem c1
   rw [this]
  ·rw [decide_eq_false c2] at ht
   try refine zW (aN hE (aN hlen (aN c1' (aN hidx (aN c2 hs))))) ?_
   exact ⟨l.length-(i+1),by omega,i+1,by omega,rfl,by rw [ht];rfl,(rG hE)⟩
 ·have c1':((i:Int)<(l.length:Int))=False:=eq_false (by omega)
  rw [List.take_of_length_le (by omega)] at hn
  try refine zW (aN hE (aN hlen c1')) ?_
  exact ⟨.inr trivial,_,rR,by rw [hn]⟩
theorem a7f {d:D} {t:List Nd} (hT:O1 d t) (hR:M8 t) {i:Nat} (hi:i<t.length):Iso 124 [d,.int .i64 (i:Int)] (.int .i64 (item t i:Int)):=by
 refine a5P ?_
 have hp:=hR.ok.pos
 have h0:=hT.at (z:=0) (by omega) (by omega) (k:=.i64)
 have x0:=hT.nd (i:=0) (by omega)
 have z0:(0:Int).toNat=0:=rfl
 rw [z0] at h0
 have o1:=FL.one x0.w
 have o2:=FL.one x0.n
 have o3:=FL.one x0.k
 have hlk:=FI.len x0.k
 refine N8 (vf:=a7W) rfl ?_
 unfold a7W;refine zE ?_
 try refine zW0 ?_
 refine a0l (Q:=M7 0 _) (fun n env s=>∃j out:Nat,j<=(nd t 0).kids.length/\n=(nd t 0).kids.length-j/\item t i=a1g ((nd t 0).kids.drop j) i out/\(env.get 0=d/\env.get 1=.int .i64 (i:Int)/\env.get 5=.int .i64 (out:Int)/\env.get 6=.int .i64 (j:Int))) ?_ (nd t 0).kids.length _ _ ⟨0,0,by omega,rfl,rfl,by simp [Env.get]⟩
 rintro n env s ⟨j,out,hj,rfl,hw,hE⟩
 by_cases c1:j<(nd t 0).kids.length
 ·have c1':((j:Int)<((nd t 0).kids.length:Int))=True:=eq_true (by omega)
  have hki:=FI.idx x0.k c1 (k:=.i64)
  have hs:=a6a c1 x0.kl
  have hkr:=hR.ok.kids 0 hp _ (List.getElem_mem c1)
  rw [List.drop_eq_getElem_cons c1] at hw
  unfold a1g at hw
  by_cases c2:(nd t 0).kids[j]<=(i:Int)
  ·rw [if_pos c2] at hw
   have hk:(((nd t 0).kids[j].toNat:Nat):Int)=(nd t 0).kids[j]:=Int.toNat_of_nonneg (by omega)
   try refine zW (aN hE (aN h0 (aN o1 (aN o2 (aN o3 (aN hlk (aN c1' (aN hki (aN c2 hs))))))))) ?_
   exact ⟨(nd t 0).kids.length-(j+1),by omega,j+1,_,by omega,rfl,hw,by simp only [Env.get,Nat.reduceEqDiff,↓reduceIte,hE,hk,and_self]⟩
  ·rw [if_neg c2] at hw
   try refine zW (aN hE (aN h0 (aN o1 (aN o2 (aN o3 (aN hlk (aN c1' (aN hki (aN c2 hs))))))))) ?_
   exact ⟨(nd t 0).kids.length-(j+1),by omega,j+1,_,by omega,rfl,hw,(rG hE)⟩
 ·have c1':((j:Int)<((nd t 0).kids.length:Int))=False:=eq_false (by omega)
  rw [List.drop_eq_nil_of_le (by omega)] at hw
  try refine zW (aN hE (aN h0 (aN o1 (aN o2 (aN o3 (aN hlk c1')))))) ?_
  exact ⟨.inr trivial,_,rR,by rw [hw];rfl⟩
theorem a8V (t:List Nd) (at':Nat) (kind:Int):∀n,(U5 t at' kind n).length<=n
 | 0=>Nat.le_refl _
 | n+1=>by
   have:=a8V t at' kind n
   rw [U5]
   split
   ·simp;exact this
   ·omega
def b3h (f:Nat) (l:List D) (x:List ByteArray):Prop:=∃s1 r d',Ev vfs f l i8.empty r s1/\V.ice s1.get 20 r=some d'/\FS d' x
theorem W4 {pairs i t f args rest s Q} {env:Env} {l:List D} {x:List ByteArray} (hr:b3h f l x) (hl:env.evL args=l) (ha:M3 (V.ice s.get 20) l=some l) (hp:pureL l=true)
 (h:∀d,FS d x->WQ vfs pairs rest ((t,d)::env) s Q):WQ vfs pairs ((i,⟨some t,.m (.call .iso (.cst (.fn f [])) args),none⟩)::rest) env s Q:=by
 obtain ⟨s1,r,d',h1,h2,h3⟩:=hr
 exact a3y hl ha h1 h2 (by rw [hp,Bool.or_true]) (h d' h3)
theorem W1 {d:D} {t:List Nd} (hT:O1 d t) (hR:M8 t) {i:Nat} (hi:i<t.length) {kind:Int} (hk:kind=1∨kind=2∨kind=3):b3h 119 [d,.int .i64 (i:Int),.int .i64 kind] (U5 t i kind i):=by
 have main:EvP vfs 119 [d,.int .i64 (i:Int),.int .i64 kind] i8.empty fun r s'=>∃ids,Sl s' r ((U5 t i kind i).map .str) ids:=by
  have hit:=a7f hT hR hi
  have hle:=hR.ok.le
  refine N8 (vf:=a7L) rfl ?_
  unfold a7L;refine zE ?_
  repeat first
  |(apply N1 hit rfl rfl (fz2 hT.fz u7))
  |refine zW0 ?_
  refine a0l (Q:=M7 0 _) (fun n env s=>∃ (j:Nat) (dn:D) (ids:List Nat),j<=i/\n=i-j/\Sl s dn ((U5 t i kind j).map .str) ids/\(env.get 0=d/\env.get 1=.int .i64 (i:Int)/\env.get 2=.int .i64 kind/\env.get 7=dn/\env.get 8=.int .i64 (item t i:Int)/\env.get 9=.int .i64 (j:Int))) ?_ i _ _ ⟨0,.nils,[],by omega,rfl,.inl ⟨rfl,rfl,rfl⟩,by simp [Env.get]⟩
  rintro n env s ⟨j,dn,ids,hj,rfl,hS,hE⟩
  have hnl:=a8V t i kind j
  by_cases c1:j<i
  ·have c1':((j:Int)<(i:Int))=True:=eq_true (by omega)
   have hs:IntKind.i64.wrap ((j:Int)+1)=((j+1:Nat):Int):=by rw [P1 (by omega) (by omega)];omega
   have hidx:=hT.at (z:=(j:Int)) (by omega) (by omega) (k:=.i64)
   rw [Int.toNat_natCast] at hidx
   have hx:=hT.nd (i:=j) (by omega)
   have o1:=FL.one hx.w
   have o2:=FL.one hx.n
   have o3:=FL.one hx.k
   have hnode:=hR.ok.node j (by omega)
   have hitj:=a7f hT hR (i:=j) (by omega)
   by_cases c2:(nd t j).kind=kind
   ·have c2':((nd t j).kind != kind)=false:=by rw [c2];simp
    have hwl:(nd t j).words.length=1:=by
     rw [hnode.wl,c2]
     rcases hk with rfl | rfl | rfl<;>rfl
    have hw0:M1 1 (nd t j).dw (.int .i64 0)=some (.fp [.str ((nd t j).word 0)] 0):=by
     rw [a1A (by omega)];exact FS.idx hx.w (i:=0) (by omega)
    obtain ⟨dn',hi1,hi2⟩:=a9F hS
    obtain ⟨s1,hin⟩:=a0q (x:=(nd t j).word 0) hi2 (by have:maxLen=9223372036854775807:=rfl;omega)
    obtain ⟨s',d',e1,e2,e3,e4⟩:=hS.push1 (.str ((nd t j).word 0)) (bytes:=16) (by decide) (by rw [List.length_map];omega)
    have hone:=hS.one
    by_cases b1:item t j=j
    ·have c3:item t j=j∨item t j=item t i:=.inl b1
     have b1':(item t j=j)=True:=eq_true b1
     cases hr:inB (U5 t i kind j) ((nd t j).word 0)
     ·rw [hr] at hin
      repeat first
      |(apply N1 hitj rfl;(focus (simp only [Env.evL,Env.ev,Env.get,Nat.reduceEqDiff,↓reduceIte,hE]));(focus exact fz2 hT.fz u7))
      |(refine a4K (l:=[dn,.str ((nd t j).word 0)]) hin rfl ?_ ?_ ?_;(focus (simp only [Env.evL,Env.ev,Env.get,Nat.reduceEqDiff,↓reduceIte,hE]));(focus (simp only [M3,hi1];rfl)))
      |(apply a72;(focus (simp only [Env.ev,Env.get,Nat.reduceEqDiff,↓reduceIte,hE];rfl));(focus rfl);(focus exact e1))
      |refine zW (aN hE (aN c1' (aN hidx (aN o1 (aN o2 (aN o3 (aN c2' (aN b1' (aN hw0 (aN hs hone)))))))))) ?_
      refine ⟨i-(j+1),by omega,j+1,d',[s.next+1],by omega,rfl,?_,(rG hE)⟩
      rw [U5,if_pos ⟨c2,c3,hr⟩,List.map_append]
      exact e2
     ·rw [hr] at hin
      repeat first
      |(apply N1 hitj rfl;(focus (simp only [Env.evL,Env.ev,Env.get,Nat.reduceEqDiff,↓reduceIte,hE]));(focus exact fz2 hT.fz u7))
      |(refine a4K (l:=[dn,.str ((nd t j).word 0)]) hin rfl ?_ ?_ ?_;(focus (simp only [Env.evL,Env.ev,Env.get,Nat.reduceEqDiff,↓reduceIte,hE]));(focus (simp only [M3,hi1];rfl)))
      |refine zW (aN hE (aN c1' (aN hidx (aN o1 (aN o2 (aN o3 (aN c2' (aN b1' (aN hw0 (aN hs hone)))))))))) ?_
      refine ⟨i-(j+1),by omega,j+1,dn,ids,by omega,rfl,?_,(rG hE)⟩
      rw [U5,if_neg (by rw [hr];simp)]
      exact hS
    ·have b1':(item t j=j)=False:=eq_false b1
     by_cases b2:item t j=item t i
     ·have b2':(item t j=item t i)=True:=eq_true b2
      have c3:item t j=j∨item t j=item t i:=.inr b2
      cases hr:inB (U5 t i kind j) ((nd t j).word 0)
      ·rw [hr] at hin
       repeat first
       |(apply N1 hitj rfl;(focus (simp only [Env.evL,Env.ev,Env.get,Nat.reduceEqDiff,↓reduceIte,hE]));(focus exact fz2 hT.fz u7))
       |(refine a4K (l:=[dn,.str ((nd t j).word 0)]) hin rfl ?_ ?_ ?_;(focus (simp only [Env.evL,Env.ev,Env.get,Nat.reduceEqDiff,↓reduceIte,hE]));(focus (simp only [M3,hi1];rfl)))
       |(apply a72;(focus (simp only [Env.ev,Env.get,Nat.reduceEqDiff,↓reduceIte,hE];rfl));(focus rfl);(focus exact e1))
       |refine zW (aN hE (aN c1' (aN hidx (aN o1 (aN o2 (aN o3 (aN c2' (aN b1' (aN b2' (aN hw0 (aN hs hone))))))))))) ?_
       refine ⟨i-(j+1),by omega,j+1,d',[s.next+1],by omega,rfl,?_,(rG hE)⟩
       rw [U5,if_pos ⟨c2,c3,hr⟩,List.map_append]
       exact e2
      ·rw [hr] at hin
       repeat first
       |(apply N1 hitj rfl;(focus (simp only [Env.evL,Env.ev,Env.get,Nat.reduceEqDiff,↓reduceIte,hE]));(focus exact fz2 hT.fz u7))
       |(refine a4K (l:=[dn,.str ((nd t j).word 0)]) hin rfl ?_ ?_ ?_;(focus (simp only [Env.evL,Env.ev,Env.get,Nat.reduceEqDiff,↓reduceIte,hE]));(focus (simp only [M3,hi1];rfl)))
       |refine zW (aN hE (aN c1' (aN hidx (aN o1 (aN o2 (aN o3 (aN c2' (aN b1' (aN b2' (aN hw0 (aN hs hone))))))))))) ?_
       refine ⟨i-(j+1),by omega,j+1,dn,ids,by omega,rfl,?_,(rG hE)⟩
       rw [U5,if_neg (by rw [hr];simp)]
       exact hS
     ·have b2':(item t j=item t i)=False:=eq_false b2
      repeat first
      |(apply N1 hitj rfl;(focus (simp only [Env.evL,Env.ev,Env.get,Nat.reduceEqDiff,↓reduceIte,hE]));(focus exact fz2 hT.fz u7))
      |refine zW (aN hE (aN c1' (aN hidx (aN o1 (aN o2 (aN o3 (aN c2' (aN b1' (aN b2' hs))))))))) ?_
      refine ⟨i-(j+1),by omega,j+1,dn,ids,by omega,rfl,?_,(rG hE)⟩
      rw [U5,if_neg fun h=>by rcases h.2.1 with h | h;exact b1 h;exact b2 h]
      exact hS
   ·have c2':((nd t j).kind != kind)=true:=by rw [bne_iff_ne];exact c2
    try refine zW (aN hE (aN c1' (aN hidx (aN o1 (aN o2 (aN o3 (aN c2' hs))))))) ?_
    refine ⟨i-(j+1),by omega,j+1,dn,ids,by omega,rfl,?_,(rG hE)⟩
    rw [U5,if_neg fun h=>c2 h.1]
    exact hS
  ·have c1':((j:Int)<(i:Int))=False:=eq_false (by omega)
   obtain rfl:j=i:=by omega
   try refine zW (aN hE c1') ?_
   exact ⟨.inr trivial,_,rR,ids,hS⟩
 obtain ⟨r,s',h,ids,hS⟩:=main
 obtain ⟨d',h1,h2⟩:=a9F hS
 exact ⟨s',r,d',h,h1,h2⟩
end Go.Proofs.Ytlaeblilmppodaa
namespace Go.Proofs.Ytlaeblilmppodaa
open Go.V
set_option maxRecDepth 100000
set_option maxHeartbeats 4000000
structure a1X (t:List Nd) (i:Nat):Prop where
 use:(nd t i).kind=6∨(nd t i).kind=18->a0p t 2 i ((nd t i).word 0)
 chan:(nd t i).kind=7∨(nd t i).kind=19∨(nd t i).kind=8->a0p t 1 i ((nd t i).word 0)
 recv:(nd t i).kind=8->a0p t 2 i ((nd t i).word 1)
 once:(nd t i).kind=1∨(nd t i).kind=2∨(nd t i).kind=3->¬ a0p t 1 i ((nd t i).word 0)/\¬ a0p t 2 i ((nd t i).word 0)/\¬ a0p t 3 i ((nd t i).word 0)
theorem a22 {t:List Nd} {i:Nat} {k:Int} {s:ByteArray}:inB (U5 t i k i) s=true↔a0p t k i s:=by rw [a85,b3j];rfl
theorem a1J {t:List Nd} {i:Nat} {k:Int} {s:ByteArray}:inB (U5 t i k i) s=false↔¬ a0p t k i s:=by rw [<- a22];simp
theorem a0x {t:List Nd} (hR:M8 t) {i:Nat} {k:Int} (hi:i<t.length):(U5 t i k i).length<=maxLen:=by
 have h1:=a8V t i k i
 have h2:=hR.ok.le
 have:maxLen=9223372036854775807:=rfl
 omega
theorem b4S {d:D} {t:List Nd} (hT:O1 d t) (hR:M8 t) {i:Nat} (hi:i<t.length) (hK:(nd t i).kind=1):a1I 103 [d,.int .i64 (i:Int)] fun b=>b=false->a1X t i:=by
 refine a2c ?_
 have hidx:=hT.at (z:=(i:Int)) (by omega) (by omega) (k:=.i64)
 rw [Int.toNat_natCast] at hidx
 have hx:=hT.nd hi
 have hnode:=hR.ok.node i hi
 have o1:=FL.one hx.w
 have o2:=FL.one hx.n
 have o3:=FL.one hx.k
 have hpu:∀n m:Int,pureL [d,.int .i64 n,.int .i64 m]=true:=fun n m=>by simp [pureL,U3,hT.fl.pure]
 have hwl:(nd t i).words.length=1:=by rw [hnode.wl,hK];rfl
 have w0:M1 1 (nd t i).dw (.int .i64 0)=some (.fp [.str ((nd t i).word 0)] 0):=by
  rw [a1A (by omega)];exact FS.idx hx.w (i:=0) (by omega)
 rw [hK] at hidx
 refine N8 (vf:=V7) rfl ?_
 unfold V7;refine zE ?_
 try refine zW (aN hidx (aN o1 (aN o2 o3))) ?_
 refine W4 (W1 hT hR hi (.inl rfl)) rfl (fz3 hT.fz u7 u7) (hpu _ _) ?_
 intro dc hdc
 try refine zW0 ?_
 refine W4 (W1 hT hR hi (.inr (.inl rfl))) rfl (fz3 hT.fz u7 u7) (hpu _ _) ?_
 intro dv hdv
 try refine zW0 ?_
 refine W4 (W1 hT hR hi (.inr (.inr rfl))) rfl (fz3 hT.fz u7 u7) (hpu _ _) ?_
 intro dp hdp
 have fc:=FL.fz hdc
 have fv:=FL.fz hdv
 have fp:=FL.fz hdp
 have hc:=a0q (x:=(nd t i).word 0) hdc (a0x hR hi)
 have hv:=a0q (x:=(nd t i).word 0) hdv (a0x hR hi)
 have hp:=a0q (x:=(nd t i).word 0) hdp (a0x hR hi)
 cases r1:inB (U5 t i 1 i) ((nd t i).word 0)
 ·rw [r1] at hc
  cases r2:inB (U5 t i 2 i) ((nd t i).word 0)
  ·rw [r2] at hv
   repeat first
   |(apply N1 hc rfl rfl (fz2 fc S8))
   |(apply N1 hv rfl rfl (fz2 fv S8))
   |(apply N1 hp rfl rfl (fz2 fp S8))
   |refine zW (aN o1 (aN o2 (aN o3 w0))) ?_
   exact ⟨.inr trivial,_,rR,_,rfl,fun h=>⟨fun e=>by omega,fun e=>by omega,fun e=>by omega,fun _=>⟨a1J.1 r1,a1J.1 r2,a1J.1 h⟩⟩⟩
  ·rw [r2] at hv
   repeat first
   |(apply N1 hc rfl rfl (fz2 fc S8))
   |(apply N1 hv rfl rfl (fz2 fv S8))
   |(apply N1 hp rfl rfl (fz2 fp S8))
   |refine zW (aN o1 (aN o2 (aN o3 w0))) ?_
   exact ⟨.inr trivial,_,rR,_,rfl,by simp⟩
 ·rw [r1] at hc
  repeat first
  |(apply N1 hc rfl rfl (fz2 fc S8))
  |(apply N1 hv rfl rfl (fz2 fv S8))
  |(apply N1 hp rfl rfl (fz2 fp S8))
  |refine zW (aN o1 (aN o2 (aN o3 w0))) ?_
  exact ⟨.inr trivial,_,rR,_,rfl,by simp⟩
theorem b8v {d:D} {t:List Nd} (hT:O1 d t) (hR:M8 t) {i:Nat} (hi:i<t.length) (hK:(nd t i).kind=2):a1I 103 [d,.int .i64 (i:Int)] fun b=>b=false->a1X t i:=by
 refine a2c ?_
 have hidx:=hT.at (z:=(i:Int)) (by omega) (by omega) (k:=.i64)
 rw [Int.toNat_natCast] at hidx
 have hx:=hT.nd hi
 have hnode:=hR.ok.node i hi
 have o1:=FL.one hx.w
 have o2:=FL.one hx.n
 have o3:=FL.one hx.k
 have hpu:∀n m:Int,pureL [d,.int .i64 n,.int .i64 m]=true:=fun n m=>by simp [pureL,U3,hT.fl.pure]
 have hwl:(nd t i).words.length=1:=by rw [hnode.wl,hK];rfl
 have w0:M1 1 (nd t i).dw (.int .i64 0)=some (.fp [.str ((nd t i).word 0)] 0):=by
  rw [a1A (by omega)];exact FS.idx hx.w (i:=0) (by omega)
 rw [hK] at hidx
 refine N8 (vf:=V7) rfl ?_
 unfold V7;refine zE ?_
 try refine zW (aN hidx (aN o1 (aN o2 o3))) ?_
 refine W4 (W1 hT hR hi (.inl rfl)) rfl (fz3 hT.fz u7 u7) (hpu _ _) ?_
 intro dc hdc
 try refine zW0 ?_
 refine W4 (W1 hT hR hi (.inr (.inl rfl))) rfl (fz3 hT.fz u7 u7) (hpu _ _) ?_
 intro dv hdv
 try refine zW0 ?_
 refine W4 (W1 hT hR hi (.inr (.inr rfl))) rfl (fz3 hT.fz u7 u7) (hpu _ _) ?_
 intro dp hdp
 have fc:=FL.fz hdc
 have fv:=FL.fz hdv
 have fp:=FL.fz hdp
 have hc:=a0q (x:=(nd t i).word 0) hdc (a0x hR hi)
 have hv:=a0q (x:=(nd t i).word 0) hdv (a0x hR hi)
 have hp:=a0q (x:=(nd t i).word 0) hdp (a0x hR hi)
 cases r1:inB (U5 t i 1 i) ((nd t i).word 0)
 ·rw [r1] at hc
  cases r2:inB (U5 t i 2 i) ((nd t i).word 0)
  ·rw [r2] at hv
   repeat first
   |(apply N1 hc rfl rfl (fz2 fc S8))
   |(apply N1 hv rfl rfl (fz2 fv S8))
   |(apply N1 hp rfl rfl (fz2 fp S8))
   |refine zW (aN o1 (aN o2 (aN o3 w0))) ?_
   exact ⟨.inr trivial,_,rR,_,rfl,fun h=>⟨fun e=>by omega,fun e=>by omega,fun e=>by omega,fun _=>⟨a1J.1 r1,a1J.1 r2,a1J.1 h⟩⟩⟩
  ·rw [r2] at hv
   repeat first
   |(apply N1 hc rfl rfl (fz2 fc S8))
   |(apply N1 hv rfl rfl (fz2 fv S8))
   |(apply N1 hp rfl rfl (fz2 fp S8))
   |refine zW (aN o1 (aN o2 (aN o3 w0))) ?_
   exact ⟨.inr trivial,_,rR,_,rfl,by simp⟩
 ·rw [r1] at hc
  repeat first
  |(apply N1 hc rfl rfl (fz2 fc S8))
  |(apply N1 hv rfl rfl (fz2 fv S8))
  |(apply N1 hp rfl rfl (fz2 fp S8))
  |refine zW (aN o1 (aN o2 (aN o3 w0))) ?_
  exact ⟨.inr trivial,_,rR,_,rfl,by simp⟩
theorem b5e {d:D} {t:List Nd} (hT:O1 d t) (hR:M8 t) {i:Nat} (hi:i<t.length) (hK:(nd t i).kind=3):a1I 103 [d,.int .i64 (i:Int)] fun b=>b=false->a1X t i:=by
 refine a2c ?_
 have hidx:=hT.at (z:=(i:Int)) (by omega) (by omega) (k:=.i64)
 rw [Int.toNat_natCast] at hidx
 have hx:=hT.nd hi
 have hnode:=hR.ok.node i hi
 have o1:=FL.one hx.w
 have o2:=FL.one hx.n
 have o3:=FL.one hx.k
 have hpu:∀n m:Int,pureL [d,.int .i64 n,.int .i64 m]=true:=fun n m=>by simp [pureL,U3,hT.fl.pure]
 have hwl:(nd t i).words.length=1:=by rw [hnode.wl,hK];rfl
 have w0:M1 1 (nd t i).dw (.int .i64 0)=some (.fp [.str ((nd t i).word 0)] 0):=by
  rw [a1A (by omega)];exact FS.idx hx.w (i:=0) (by omega)
 rw [hK] at hidx
 refine N8 (vf:=V7) rfl ?_
 unfold V7;refine zE ?_
 try refine zW (aN hidx (aN o1 (aN o2 o3))) ?_
 refine W4 (W1 hT hR hi (.inl rfl)) rfl (fz3 hT.fz u7 u7) (hpu _ _) ?_
 intro dc hdc
 try refine zW0 ?_
 refine W4 (W1 hT hR hi (.inr (.inl rfl))) rfl (fz3 hT.fz u7 u7) (hpu _ _) ?_
 intro dv hdv
 try refine zW0 ?_
 refine W4 (W1 hT hR hi (.inr (.inr rfl))) rfl (fz3 hT.fz u7 u7) (hpu _ _) ?_
 intro dp hdp
 have fc:=FL.fz hdc
 have fv:=FL.fz hdv
 have fp:=FL.fz hdp
 have hc:=a0q (x:=(nd t i).word 0) hdc (a0x hR hi)
 have hv:=a0q (x:=(nd t i).word 0) hdv (a0x hR hi)
 have hp:=a0q (x:=(nd t i).word 0) hdp (a0x hR hi)
 cases r1:inB (U5 t i 1 i) ((nd t i).word 0)
 ·rw [r1] at hc
  cases r2:inB (U5 t i 2 i) ((nd t i).word 0)
  ·rw [r2] at hv
   repeat first
   |(apply N1 hc rfl rfl (fz2 fc S8))
   |(apply N1 hv rfl rfl (fz2 fv S8))
   |(apply N1 hp rfl rfl (fz2 fp S8))
   |refine zW (aN o1 (aN o2 (aN o3 w0))) ?_
   exact ⟨.inr trivial,_,rR,_,rfl,fun h=>⟨fun e=>by omega,fun e=>by omega,fun e=>by omega,fun _=>⟨a1J.1 r1,a1J.1 r2,a1J.1 h⟩⟩⟩
  ·rw [r2] at hv
   repeat first
   |(apply N1 hc rfl rfl (fz2 fc S8))
   |(apply N1 hv rfl rfl (fz2 fv S8))
   |(apply N1 hp rfl rfl (fz2 fp S8))
   |refine zW (aN o1 (aN o2 (aN o3 w0))) ?_
   exact ⟨.inr trivial,_,rR,_,rfl,by simp⟩
 ·rw [r1] at hc
  repeat first
  |(apply N1 hc rfl rfl (fz2 fc S8))
  |(apply N1 hv rfl rfl (fz2 fv S8))
  |(apply N1 hp rfl rfl (fz2 fp S8))
  |refine zW (aN o1 (aN o2 (aN o3 w0))) ?_
  exact ⟨.inr trivial,_,rR,_,rfl,by simp⟩
theorem b9U {d:D} {t:List Nd} (hT:O1 d t) (hR:M8 t) {i:Nat} (hi:i<t.length) (hK:(nd t i).kind=6):a1I 103 [d,.int .i64 (i:Int)] fun b=>b=false->a1X t i:=by
 refine a2c ?_
 have hidx:=hT.at (z:=(i:Int)) (by omega) (by omega) (k:=.i64)
 rw [Int.toNat_natCast] at hidx
 have hx:=hT.nd hi
 have hnode:=hR.ok.node i hi
 have o1:=FL.one hx.w
 have o2:=FL.one hx.n
 have o3:=FL.one hx.k
 have hpu:∀n m:Int,pureL [d,.int .i64 n,.int .i64 m]=true:=fun n m=>by simp [pureL,U3,hT.fl.pure]
 have hwl:(nd t i).words.length=1:=by rw [hnode.wl,hK];rfl
 have w0:M1 1 (nd t i).dw (.int .i64 0)=some (.fp [.str ((nd t i).word 0)] 0):=by
  rw [a1A (by omega)];exact FS.idx hx.w (i:=0) (by omega)
 rw [hK] at hidx
 refine N8 (vf:=V7) rfl ?_
 unfold V7;refine zE ?_
 try refine zW (aN hidx (aN o1 (aN o2 o3))) ?_
 refine W4 (W1 hT hR hi (.inl rfl)) rfl (fz3 hT.fz u7 u7) (hpu _ _) ?_
 intro dc hdc
 try refine zW0 ?_
 refine W4 (W1 hT hR hi (.inr (.inl rfl))) rfl (fz3 hT.fz u7 u7) (hpu _ _) ?_
 intro dv hdv
 try refine zW0 ?_
 refine W4 (W1 hT hR hi (.inr (.inr rfl))) rfl (fz3 hT.fz u7 u7) (hpu _ _) ?_
 intro dp hdp
 have fc:=FL.fz hdc
 have fv:=FL.fz hdv
 have fp:=FL.fz hdp
 have hc:=a0q (x:=(nd t i).word 0) hdv (a0x hR hi)
 repeat first
 |(apply N1 hc rfl rfl (fz2 fv S8))
 |refine zW (aN o1 (aN o2 (aN o3 w0))) ?_
 exact ⟨.inr trivial,_,rR,_,rfl,fun h=>⟨fun _=>a22.1 (by simpa using h),fun e=>by omega,fun e=>by omega,fun e=>by omega⟩⟩
theorem c0E {d:D} {t:List Nd} (hT:O1 d t) (hR:M8 t) {i:Nat} (hi:i<t.length) (hK:(nd t i).kind=18):a1I 103 [d,.int .i64 (i:Int)] fun b=>b=false->a1X t i:=by
 refine a2c ?_
 have hidx:=hT.at (z:=(i:Int)) (by omega) (by omega) (k:=.i64)
 rw [Int.toNat_natCast] at hidx
 have hx:=hT.nd hi
 have hnode:=hR.ok.node i hi
 have o1:=FL.one hx.w
 have o2:=FL.one hx.n
 have o3:=FL.one hx.k
 have hpu:∀n m:Int,pureL [d,.int .i64 n,.int .i64 m]=true:=fun n m=>by simp [pureL,U3,hT.fl.pure]
 have hwl:(nd t i).words.length=1:=by rw [hnode.wl,hK];rfl
 have w0:M1 1 (nd t i).dw (.int .i64 0)=some (.fp [.str ((nd t i).word 0)] 0):=by
  rw [a1A (by omega)];exact FS.idx hx.w (i:=0) (by omega)
 rw [hK] at hidx
 refine N8 (vf:=V7) rfl ?_
 unfold V7;refine zE ?_
 try refine zW (aN hidx (aN o1 (aN o2 o3))) ?_
 refine W4 (W1 hT hR hi (.inl rfl)) rfl (fz3 hT.fz u7 u7) (hpu _ _) ?_
 intro dc hdc
 try refine zW0 ?_
 refine W4 (W1 hT hR hi (.inr (.inl rfl))) rfl (fz3 hT.fz u7 u7) (hpu _ _) ?_
 intro dv hdv
 try refine zW0 ?_
 refine W4 (W1 hT hR hi (.inr (.inr rfl))) rfl (fz3 hT.fz u7 u7) (hpu _ _) ?_
 intro dp hdp
 have fc:=FL.fz hdc
 have fv:=FL.fz hdv
 have fp:=FL.fz hdp
 have hc:=a0q (x:=(nd t i).word 0) hdv (a0x hR hi)
 repeat first
 |(apply N1 hc rfl rfl (fz2 fv S8))
 |refine zW (aN o1 (aN o2 (aN o3 w0))) ?_
 exact ⟨.inr trivial,_,rR,_,rfl,fun h=>⟨fun _=>a22.1 (by simpa using h),fun e=>by omega,fun e=>by omega,fun e=>by omega⟩⟩
theorem c2J {d:D} {t:List Nd} (hT:O1 d t) (hR:M8 t) {i:Nat} (hi:i<t.length) (hK:(nd t i).kind=7):a1I 103 [d,.int .i64 (i:Int)] fun b=>b=false->a1X t i:=by
 refine a2c ?_
 have hidx:=hT.at (z:=(i:Int)) (by omega) (by omega) (k:=.i64)
 rw [Int.toNat_natCast] at hidx
 have hx:=hT.nd hi
 have hnode:=hR.ok.node i hi
 have o1:=FL.one hx.w
 have o2:=FL.one hx.n
 have o3:=FL.one hx.k
 have hpu:∀n m:Int,pureL [d,.int .i64 n,.int .i64 m]=true:=fun n m=>by simp [pureL,U3,hT.fl.pure]
 have hwl:(nd t i).words.length=1:=by rw [hnode.wl,hK];rfl
 have w0:M1 1 (nd t i).dw (.int .i64 0)=some (.fp [.str ((nd t i).word 0)] 0):=by
  rw [a1A (by omega)];exact FS.idx hx.w (i:=0) (by omega)
 rw [hK] at hidx
 refine N8 (vf:=V7) rfl ?_
 unfold V7;refine zE ?_
 try refine zW (aN hidx (aN o1 (aN o2 o3))) ?_
 refine W4 (W1 hT hR hi (.inl rfl)) rfl (fz3 hT.fz u7 u7) (hpu _ _) ?_
 intro dc hdc
 try refine zW0 ?_
 refine W4 (W1 hT hR hi (.inr (.inl rfl))) rfl (fz3 hT.fz u7 u7) (hpu _ _) ?_
 intro dv hdv
 try refine zW0 ?_
 refine W4 (W1 hT hR hi (.inr (.inr rfl))) rfl (fz3 hT.fz u7 u7) (hpu _ _) ?_
 intro dp hdp
 have fc:=FL.fz hdc
 have fv:=FL.fz hdv
 have fp:=FL.fz hdp
 have hc:=a0q (x:=(nd t i).word 0) hdc (a0x hR hi)
 repeat first
 |(apply N1 hc rfl rfl (fz2 fc S8))
 |refine zW (aN o1 (aN o2 (aN o3 w0))) ?_
 exact ⟨.inr trivial,_,rR,_,rfl,fun h=>⟨fun e=>by omega,fun _=>a22.1 (by simpa using h),fun e=>by omega,fun e=>by omega⟩⟩
theorem c0q {d:D} {t:List Nd} (hT:O1 d t) (hR:M8 t) {i:Nat} (hi:i<t.length) (hK:(nd t i).kind=19):a1I 103 [d,.int .i64 (i:Int)] fun b=>b=false->a1X t i:=by
 refine a2c ?_
 have hidx:=hT.at (z:=(i:Int)) (by omega) (by omega) (k:=.i64)
 rw [Int.toNat_natCast] at hidx
 have hx:=hT.nd hi
 have hnode:=hR.ok.node i hi
 have o1:=FL.one hx.w
 have o2:=FL.one hx.n
 have o3:=FL.one hx.k
 have hpu:∀n m:Int,pureL [d,.int .i64 n,.int .i64 m]=true:=fun n m=>by simp [pureL,U3,hT.fl.pure]
 have hwl:(nd t i).words.length=1:=by rw [hnode.wl,hK];rfl
 have w0:M1 1 (nd t i).dw (.int .i64 0)=some (.fp [.str ((nd t i).word 0)] 0):=by
  rw [a1A (by omega)];exact FS.idx hx.w (i:=0) (by omega)
 rw [hK] at hidx
 refine N8 (vf:=V7) rfl ?_
 unfold V7;refine zE ?_
 try refine zW (aN hidx (aN o1 (aN o2 o3))) ?_
 refine W4 (W1 hT hR hi (.inl rfl)) rfl (fz3 hT.fz u7 u7) (hpu _ _) ?_
 intro dc hdc
 try refine zW0 ?_
 refine W4 (W1 hT hR hi (.inr (.inl rfl))) rfl (fz3 hT.fz u7 u7) (hpu _ _) ?_
 intro dv hdv
 try refine zW0 ?_
 refine W4 (W1 hT hR hi (.inr (.inr rfl))) rfl (fz3 hT.fz u7 u7) (hpu _ _) ?_
 intro dp hdp
 have fc:=FL.fz hdc
 have fv:=FL.fz hdv
 have fp:=FL.fz hdp
 have hc:=a0q (x:=(nd t i).word 0) hdc (a0x hR hi)
 repeat first
 |(apply N1 hc rfl rfl (fz2 fc S8))
 |refine zW (aN o1 (aN o2 (aN o3 w0))) ?_
 exact ⟨.inr trivial,_,rR,_,rfl,fun h=>⟨fun e=>by omega,fun _=>a22.1 (by simpa using h),fun e=>by omega,fun e=>by omega⟩⟩
theorem c0D {d:D} {t:List Nd} (hT:O1 d t) (hR:M8 t) {i:Nat} (hi:i<t.length) (hK:(nd t i).kind=8):a1I 103 [d,.int .i64 (i:Int)] fun b=>b=false->a1X t i:=by
 refine a2c ?_
 have hidx:=hT.at (z:=(i:Int)) (by omega) (by omega) (k:=.i64)
 rw [Int.toNat_natCast] at hidx
 have hx:=hT.nd hi
 have hnode:=hR.ok.node i hi
 have o1:=FL.one hx.w
 have o2:=FL.one hx.n
 have o3:=FL.one hx.k
 have hpu:∀n m:Int,pureL [d,.int .i64 n,.int .i64 m]=true:=fun n m=>by simp [pureL,U3,hT.fl.pure]
 have hwl:(nd t i).words.length=2:=by rw [hnode.wl,hK];rfl
 have w0:M1 1 (nd t i).dw (.int .i64 0)=some (.fp [.str ((nd t i).word 0)] 0):=by
  rw [a1A (by omega)];exact FS.idx hx.w (i:=0) (by omega)
 have w1:M1 1 (nd t i).dw (.int .i64 1)=some (.fp [.str ((nd t i).word 1)] 0):=by
  rw [a1A (by omega)];exact FS.idx hx.w (i:=1) (by omega)
 rw [hK] at hidx
 refine N8 (vf:=V7) rfl ?_
 unfold V7;refine zE ?_
 try refine zW (aN hidx (aN o1 (aN o2 o3))) ?_
 refine W4 (W1 hT hR hi (.inl rfl)) rfl (fz3 hT.fz u7 u7) (hpu _ _) ?_
 intro dc hdc
 try refine zW0 ?_
 refine W4 (W1 hT hR hi (.inr (.inl rfl))) rfl (fz3 hT.fz u7 u7) (hpu _ _) ?_
 intro dv hdv
 try refine zW0 ?_
 refine W4 (W1 hT hR hi (.inr (.inr rfl))) rfl (fz3 hT.fz u7 u7) (hpu _ _) ?_
 intro dp hdp
 have fc:=FL.fz hdc
 have fv:=FL.fz hdv
 have fp:=FL.fz hdp
 have hc:=a0q (x:=(nd t i).word 0) hdc (a0x hR hi)
 have hv:=a0q (x:=(nd t i).word 1) hdv (a0x hR hi)
 cases r1:inB (U5 t i 1 i) ((nd t i).word 0)
 ·rw [r1] at hc
  repeat first
  |(apply N1 hc rfl rfl (fz2 fc S8))
  |(apply N1 hv rfl rfl (fz2 fv S8))
  |refine zW (aN o1 (aN o2 (aN o3 (aN w0 w1)))) ?_
  exact ⟨.inr trivial,_,rR,_,rfl,by simp⟩
 ·rw [r1] at hc
  repeat first
  |(apply N1 hc rfl rfl (fz2 fc S8))
  |(apply N1 hv rfl rfl (fz2 fv S8))
  |refine zW (aN o1 (aN o2 (aN o3 (aN w0 w1)))) ?_
  exact ⟨.inr trivial,_,rR,_,rfl,fun h=>⟨fun e=>by omega,fun _=>a22.1 r1,fun _=>a22.1 (by simpa using h),fun e=>by omega⟩⟩
theorem c2N {d:D} {t:List Nd} (hT:O1 d t) (hR:M8 t) {i:Nat} (hi:i<t.length) (hK:(nd t i).kind≠1/\(nd t i).kind≠2/\(nd t i).kind≠3/\(nd t i).kind≠6/\(nd t i).kind≠18/\(nd t i).kind≠7/\(nd t i).kind≠19/\(nd t i).kind≠8):a1I 103 [d,.int .i64 (i:Int)] fun b=>b=false->a1X t i:=by
 refine a2c ?_
 have hidx:=hT.at (z:=(i:Int)) (by omega) (by omega) (k:=.i64)
 rw [Int.toNat_natCast] at hidx
 have hx:=hT.nd hi
 have hnode:=hR.ok.node i hi
 have o1:=FL.one hx.w
 have o2:=FL.one hx.n
 have o3:=FL.one hx.k
 have hpu:∀n m:Int,pureL [d,.int .i64 n,.int .i64 m]=true:=fun n m=>by simp [pureL,U3,hT.fl.pure]
 have n1:((nd t i).kind==1)=false:=by rw [beq_eq_false_iff_ne];omega
 have n2:((nd t i).kind==2)=false:=by rw [beq_eq_false_iff_ne];omega
 have n3:((nd t i).kind==3)=false:=by rw [beq_eq_false_iff_ne];omega
 have n6:((nd t i).kind==6)=false:=by rw [beq_eq_false_iff_ne];omega
 have n18:((nd t i).kind==18)=false:=by rw [beq_eq_false_iff_ne];omega
 have n7:((nd t i).kind==7)=false:=by rw [beq_eq_false_iff_ne];omega
 have n19:((nd t i).kind==19)=false:=by rw [beq_eq_false_iff_ne];omega
 have n8:((nd t i).kind==8)=false:=by rw [beq_eq_false_iff_ne];omega
 refine N8 (vf:=V7) rfl ?_
 unfold V7;refine zE ?_
 try refine zW (aN hidx (aN o1 (aN o2 o3))) ?_
 refine W4 (W1 hT hR hi (.inl rfl)) rfl (fz3 hT.fz u7 u7) (hpu _ _) ?_
 intro dc hdc
 try refine zW0 ?_
 refine W4 (W1 hT hR hi (.inr (.inl rfl))) rfl (fz3 hT.fz u7 u7) (hpu _ _) ?_
 intro dv hdv
 try refine zW0 ?_
 refine W4 (W1 hT hR hi (.inr (.inr rfl))) rfl (fz3 hT.fz u7 u7) (hpu _ _) ?_
 intro dp hdp
 have fc:=FL.fz hdc
 have fv:=FL.fz hdv
 have fp:=FL.fz hdp
 try refine zW (aN o1 (aN o2 (aN o3 (aN n1 (aN n2 (aN n3 (aN n6 (aN n18 (aN n7 (aN n19 n8)))))))))) ?_
 exact ⟨.inr trivial,_,rR,_,rfl,fun _=>⟨fun e=>by omega,fun e=>by omega,fun e=>by omega,fun e=>by omega⟩⟩
theorem b9J {d:D} {t:List Nd} (hT:O1 d t) (hR:M8 t) {i:Nat} (hi:i<t.length):a1I 103 [d,.int .i64 (i:Int)] fun b=>b=false->a1X t i:=by
 by_cases k1:(nd t i).kind=1
 ·exact b4S hT hR hi k1
 by_cases k2:(nd t i).kind=2
 ·exact b8v hT hR hi k2
 by_cases k3:(nd t i).kind=3
 ·exact b5e hT hR hi k3
 by_cases k6:(nd t i).kind=6
 ·exact b9U hT hR hi k6
 by_cases k18:(nd t i).kind=18
 ·exact c0E hT hR hi k18
 by_cases k7:(nd t i).kind=7
 ·exact c2J hT hR hi k7
 by_cases k19:(nd t i).kind=19
 ·exact c0q hT hR hi k19
 by_cases k8:(nd t i).kind=8
 ·exact c0D hT hR hi k8
 exact c2N hT hR hi ⟨k1,k2,k3,k6,k18,k7,k19,k8⟩
def a71 (f:Nat) (l:List D) (P:Prop):Prop:=∃ (e a:Int),Iso f l (.agg [.int .i64 e,.int .i64 a])/\(e=0->P)
theorem b1d {f:Nat} {l:List D} {P:Prop} (h:EvP vfs f l i8.empty fun d _=>∃ (e a:Int),d=.agg [.int .i64 e,.int .i64 a]/\(e=0->P)):a71 f l P:=by
 obtain ⟨d,s',h,e,a,rfl,hp⟩:=h
 exact ⟨e,a,⟨s',h⟩,hp⟩
theorem c0J {d:D} {t:List Nd} (hT:O1 d t) (hR:M8 t):a71 79 [d] (a11 t):=by
 refine b1d ?_
 have hlen:=hT.len
 have hle:=hR.ok.le
 refine N8 (vf:=a4u) rfl ?_
 unfold a4u;refine zE ?_
 try refine zW0 ?_
 refine a0l (Q:=M7 0 _) (fun n env s=>∃i:Nat,i<=t.length/\n=t.length-i/\(∀j,j<i->a1X t j)/\s.get 0=some (.cells [.int .i64 0,.int .i64 0])/\(env.get 0=d/\env.get 2=.ptr 0 0/\env.get 3=.int .i64 (i:Int))) ?_ t.length _ _ ⟨0,by omega,rfl,fun j h=>by omega,O4 rfl,by simp [Env.get,P5.at];rfl⟩
 rintro n env s ⟨i,hi,rfl,hall,hg,hE⟩
 have hgl:=k4 hg
 by_cases c1:i<t.length
 ·have c1':((i:Int)<(t.length:Int))=True:=eq_true (by omega)
  have hs:IntKind.i64.wrap ((i:Int)+1)=((i+1:Nat):Int):=by rw [P1 (by omega) (by omega)];omega
  have hidx:=hT.at (z:=(i:Int)) (by omega) (by omega) (k:=.i64)
  rw [Int.toNat_natCast] at hidx
  have hx:=hT.nd c1
  have o1:=FL.one hx.w
  have o2:=FL.one hx.n
  have o3:=FL.one hx.k
  obtain ⟨b,hb,hp⟩:=b9J hT hR c1
  cases b
  ·repeat first
   |(apply N1 hb rfl;(focus (simp only [Env.evL,Env.ev,Env.get,Nat.reduceEqDiff,↓reduceIte,hE]));(focus exact fz2 hT.fz u7))
   |refine zW (aN hE (aN hlen (aN c1' hs))) ?_
   refine ⟨t.length-(i+1),by omega,i+1,by omega,rfl,fun j h=>?_,hg,(rG hE)⟩
   by_cases e:j=i
   ·subst e;exact hp rfl
   ·exact hall j (by omega)
  ·repeat first
   |(apply N1 hb rfl;(focus (simp only [Env.evL,Env.ev,Env.get,Nat.reduceEqDiff,↓reduceIte,hE]));(focus exact fz2 hT.fz u7))
   |refine zW (aN hE (aN hlen (aN c1' (aN hidx (aN o1 (aN o2 (aN o3 hg))))))) ?_
   refine ⟨.inr trivial,_,?_,20,(nd t i).pos,rfl,by simp⟩
   simp only [S7,U6,V6,Env.get,Nat.reduceEqDiff,↓reduceIte,hE,P8 hgl]
   rfl
 ·have c1':((i:Int)<(t.length:Int))=False:=eq_false (by omega)
  try refine zW (aN hE (aN hlen (aN c1' hg))) ?_
  refine ⟨.inr trivial,_,?_,0,0,rfl,fun _=>?_⟩
  ·simp only [S7,U6,V6,Env.get,Nat.reduceEqDiff,↓reduceIte,hE,P8 hgl]
   rfl
  ·exact ⟨fun j h=>(hall j (by omega)).use,fun j h=>(hall j (by omega)).chan,fun j h=>(hall j (by omega)).recv,fun j h=>(hall j (by omega)).once⟩
end Go.Proofs.Ytlaeblilmppodaa
namespace Go.Proofs.Ytlaeblilmppodaa
open Go.V
set_option maxRecDepth 100000
set_option maxHeartbeats 4000000
theorem b16 {v w:Nat} (h:w<=v):(2:Int) ^ w<=2 ^ v:=by
 have:(2:Nat) ^ w<=2 ^ v:=Nat.pow_le_pow_right (by omega) h
 exact_mod_cast this
theorem b33 {n:Int} {w:Nat} (h:0<w):S4 n w=if 2 ^ (w-1)<=n % 2 ^ w then n % 2 ^ w-2 ^ w else n % 2 ^ w:=by
 have hp:=a4M h
 have p:=a4O w
 have h1:=Int.emod_nonneg n (b:=2 ^ w) (by omega)
 have h2:=Int.emod_lt_of_pos n p
 have e:S4 n w=S4 (n % 2 ^ w) w:=(b3g (by rw [Int.emod_emod_of_dvd _ (Int.dvd_refl _)])).symm
 rw [e]
 generalize n % 2 ^ w=r at *
 split
 ·rw [<- b3g (a:=r-2 ^ w) (b:=r) (by rw [Int.sub_emod,Int.emod_self];simp),a6B h (by omega) (by omega)]
 ·rw [a6B h (by omega) (by omega)]
theorem c2y {n m:Int} (h:0<m):(if n.tmod m<0 then n.tmod m+m else n.tmod m)=n % m:=by
 have h1:=Int.mul_tdiv_add_tmod n m
 have h2:=Int.tmod_lt_of_pos n h
 have h3:-m<n.tmod m:=by
  have:=Int.tmod_lt_of_pos (-n) h
  rw [Int.neg_tmod] at this
  omega
 have e:n % m=n.tmod m % m:=by
  conv=>lhs;rw [<- h1]
  rw [Int.add_comm,Int.add_mul_emod_self_left]
 rw [e]
 generalize n.tmod m=r at *
 split
 ·rw [<- Int.add_emod_right,Int.emod_eq_of_lt (by omega) (by omega)]
 ·rw [Int.emod_eq_of_lt (by omega) (by omega)]
theorem b1N {w:Nat} (h:w<=16):(2:Int) ^ w<=65536:=by
 have:=b16 (w:=w) (v:=16) h
 omega
theorem b82 {s:i8} {x n:Int} {w:Nat} (hn:(w:Int)=min (max n 1) 16) (hx:a2G x) :
 Ev vfs 45 [.int .i64 x,.int .i64 n] s (.int .i64 (S4 x w)) s:=by
 obtain ⟨hx1,hx2⟩:=hx
 have hw1:1<=w:=by omega
 have hwl:w<=16:=by omega
 have hp:=b1N hwl
 have hp0:=a4O w
 rw [b33 hw1]
 refine a7y (vf:=a9l) rfl ?_
 unfold a9l;refine zE ?_
 try refine zW0 ?_
 refine WP.mono (Q:=fun e env s'=>e=.normal/\s'=s/\(env.get 0=.int .i64 x/\env.get 1=.int .i64 (max n 1))) ?_ ?_
 ·by_cases h:n<1
  ·have b1:(n<1)=True:=eq_true h
   try refine zW b1 ?_
   exact ⟨trivial,trivial,by simp [Env.get];omega⟩
  ·have b1:(n<1)=False:=eq_false h
   try refine zW b1 ?_
   exact ⟨trivial,trivial,by simp [Env.get];omega⟩
 rintro e env s' ⟨rfl,rfl,hE⟩
 simp only [O5]
 try refine zW hE ?_
 refine WP.mono (Q:=fun e env s1=>e=.normal/\s1=s'/\(env.get 0=.int .i64 x/\env.get 1=.int .i64 (w:Int))) ?_ ?_
 ·by_cases h:16<max n 1
  ·have b1:(16<max n 1)=True:=eq_true h
   try refine zW (aN hE b1) ?_
   exact ⟨trivial,trivial,by simp [Env.get,hE];omega⟩
  ·have b1:(16<max n 1)=False:=eq_false h
   try refine zW (aN hE b1) ?_
   exact ⟨trivial,trivial,by simp [Env.get,hE];omega⟩
 clear hE
 rintro e env s1 ⟨rfl,rfl,hE⟩
 simp only [O5]
 try refine zW hE ?_
 refine a0l (fun k env s2=>∃ (i:Nat),i<=w/\k=w-i/\s2=s1/\(env.get 0=.int .i64 x/\env.get 1=.int .i64 (w:Int)/\env.get 5=.int .i64 (2 ^ i)/\env.get 6=.int .i64 (i:Int))) ?_ w _ _
  ⟨0,Nat.zero_le _,by omega,rfl,by simp [Env.get,hE]⟩
 clear hE
 rintro k env s2 ⟨i,hi,rfl,rfl,hE⟩
 by_cases hci:i<w
 ·have hci':(i:Int)<(w:Int):=by omega
  have hs:=(by rw [P1 (by omega) (by omega)];omega:IntKind.i64.wrap ((i:Int)+1)=((i+1:Nat):Int))
  have hpi:=b1N (w:=i) (by omega)
  have hpi0:=a4O i
  have hmul:IntKind.i64.wrap ((2:Int) ^ i*2)=2 ^ (i+1):=by rw [P1 (by omega) (by omega),Int.pow_succ]
  try refine zW (aN hE (aN hci' (aN hs hmul))) ?_
  exact ⟨w-(i+1),by omega,i+1,by omega,rfl,trivial,(rG hE)⟩
 ·have hci':¬ (i:Int)<(w:Int):=by omega
  obtain rfl:i=w:=by omega
  have hne:((2:Int) ^ i=0)=False:=eq_false (by omega)
  have hm:=c2y (n:=x) hp0
  have h1:=Int.emod_nonneg x (b:=2 ^ i) (by omega)
  have h2:=Int.emod_lt_of_pos x hp0
  have hh:=a4M (w:=i) (by omega)
  have hdiv:((2:Int) ^ i).tdiv 2=2 ^ (i-1):=by
   rw [Int.tdiv_eq_ediv_of_nonneg (by omega)];omega
  have hwd:IntKind.i64.wrap ((2:Int) ^ (i-1))=2 ^ (i-1):=P1 (by omega) (by omega)
  have hs2:IntKind.i64.wrap (x % 2 ^ i-2 ^ i)=x % 2 ^ i-2 ^ i:=P1 (by omega) (by omega)
  by_cases hneg:x.tmod (2 ^ i)<0
  ·rw [if_pos hneg] at hm
   have hadd:IntKind.i64.wrap (x.tmod (2 ^ i)+2 ^ i)=x % 2 ^ i:=by rw [hm];exact P1 (by omega) (by omega)
   by_cases hc:2 ^ (i-1)<=x % 2 ^ i
   ·try refine zW (aN hE (aN hci' (aN hne (aN hneg (aN hadd (aN hdiv (aN hwd (aN hc hs2)))))))) ?_
    exact ⟨.inr trivial,trivial,(by simp only [S7,U6,V6,Env.get,Nat.reduceEqDiff,↓reduceIte,hc]<;>rfl)⟩
   ·try refine zW (aN hE (aN hci' (aN hne (aN hneg (aN hadd (aN hdiv (aN hwd (aN hc hs2)))))))) ?_
    exact ⟨.inr trivial,trivial,(by simp only [S7,U6,V6,Env.get,Nat.reduceEqDiff,↓reduceIte,hc]<;>rfl)⟩
  ·rw [if_neg hneg] at hm
   have hneg:(x % 2 ^ i<0)=False:=eq_false (by omega)
   by_cases hc:2 ^ (i-1)<=x % 2 ^ i
   ·try refine zW (aN hE (aN hci' (aN hne (aN hneg (aN hm (aN hdiv (aN hwd (aN hc hs2)))))))) ?_
    exact ⟨.inr trivial,trivial,(by simp only [S7,U6,V6,Env.get,Nat.reduceEqDiff,↓reduceIte,hc]<;>rfl)⟩
   ·try refine zW (aN hE (aN hci' (aN hne (aN hneg (aN hm (aN hdiv (aN hwd (aN hc hs2)))))))) ?_
    exact ⟨.inr trivial,trivial,(by simp only [S7,U6,V6,Env.get,Nat.reduceEqDiff,↓reduceIte,hc]<;>rfl)⟩
theorem b0C {x n:Int} {w:Nat} (hn:(w:Int)=min (max n 1) 16) (hx:a2G x):Iso 45 [.int .i64 x,.int .i64 n] (.int .i64 (S4 x w)):=⟨_,b82 hn hx⟩
end Go.Proofs.Ytlaeblilmppodaa
namespace Go.Proofs.Ytlaeblilmppodaa
open Go.V
set_option maxRecDepth 100000
set_option maxHeartbeats 4000000
theorem a01 {x:Nd} (hx:x.Ok) {i:Nat} (h:i<x.nums.length):M1 1 x.dn (.int .i64 (i:Int))=some (.fp [.int .i64 (x.num i)] 0):=by rw [b0f h];exact FI.idx hx.n h
theorem b6e {d:D} {t:List Nd} (hT:O1 d t) (hR:M8 t) {i:Nat} (hi:i<t.length):Iso 121 [d,.int .i64 (i:Int)] (.int .i64 (a1l t i)):=by
 refine a5P ?_
 have hit:=a7f hT hR hi
 have hle:=a76 hR hi
 have hidx:=hT.at (z:=(item t i:Int)) (by omega) (by omega) (k:=.i64)
 rw [Int.toNat_natCast] at hidx
 have hx:=hT.nd (i:=item t i) (by omega)
 have o1:=FL.one hx.w
 have o2:=FL.one hx.n
 have o3:=FL.one hx.k
 unfold a1l
 by_cases c:(nd t (item t i)).kind=3
 ·have c':((nd t (item t i)).kind==3)=true:=by rw [c];rfl
  have hnl:(nd t (item t i)).nums.length=1:=by rw [(hR.ok.node _ (by omega)).nl,c];rfl
  have n0:=a01 hx (i:=0) (by omega)
  have z0:((0:Nat):Int)=0:=rfl
  rw [z0] at n0
  rw [if_pos c]
  refine N8 (vf:=a4k) rfl ?_
  unfold a4k;refine zE ?_
  repeat first
  |(apply N1 hit rfl rfl (fz2 hT.fz u7))
  |refine zW (aN hidx (aN o1 (aN o2 (aN o3 (aN c' n0))))) ?_
  exact ⟨.inr trivial,_,rR,rfl⟩
 ·have c':((nd t (item t i)).kind==3)=false:=by rw [beq_eq_false_iff_ne];exact c
  rw [if_neg c]
  refine N8 (vf:=a4k) rfl ?_
  unfold a4k;refine zE ?_
  repeat first
  |(apply N1 hit rfl rfl (fz2 hT.fz u7))
  |refine zW (aN hidx (aN o1 (aN o2 (aN o3 c')))) ?_
  exact ⟨.inr trivial,_,rR,rfl⟩
theorem a3Y {d:D} {t:List Nd} (hT:O1 d t) (hR:M8 t) {i:Nat} (hi:i<t.length) {kind:Int}:Iso 104 [d,.int .i64 (i:Int),.int .i64 kind] (.int .i64 (O0 t kind (i+1))):=by
 refine a5P ?_
 have hle:=hR.ok.le
 refine N8 (vf:=a8t) rfl ?_
 unfold a8t;refine zE ?_
 try refine zW0 ?_
 refine a0l (Q:=M7 0 _) (fun n env s=>∃j:Nat,j<=i+1/\n=i+1-j/\(env.get 0=d/\env.get 1=.int .i64 (i:Int)/\env.get 2=.int .i64 kind/\env.get 7=.int .i64 (O0 t kind j)/\env.get 8=.int .i64 (j:Int))) ?_ (i+1) _ _ ⟨0,by omega,rfl,by simp [Env.get,O0]⟩
 rintro n env s ⟨j,hj,rfl,hE⟩
 have hsi:=a8C hR (kind:=kind) (i:=j) (by omega)
 by_cases c1:j<=i
 ·have c1':((j:Int)<=(i:Int))=True:=eq_true (by omega)
  have hs:IntKind.i64.wrap ((j:Int)+1)=((j+1:Nat):Int):=by rw [P1 (by omega) (by omega)];omega
  by_cases c2:O0 t kind j<100
  ·have hidx:=hT.at (z:=(j:Int)) (by omega) (by omega) (k:=.i64)
   rw [Int.toNat_natCast] at hidx
   have hx:=hT.nd (i:=j) (by omega)
   have o1:=FL.one hx.w
   have o2:=FL.one hx.n
   have o3:=FL.one hx.k
   by_cases c3:(nd t j).kind=kind
   ·have c3':((nd t j).kind != kind)=false:=by rw [c3];simp
    have hst:O0 t kind (j+1)=O0 t kind j+a0K t kind j:=by rw [O0,if_pos ⟨c2,c3⟩]
    have hsr:=b3q hR (kind:=kind) (i:=j) (by omega)
    by_cases c4:kind=1
    ·have c4':(kind==1)=true:=by rw [c4];rfl
     have hw:IntKind.i64.wrap (O0 t kind j+1)=O0 t kind (j+1):=by rw [P1 (by omega) (by omega),hst,a0K,if_pos c4]
     try refine zW (aN hE (aN c1' (aN c2 (aN hidx (aN o1 (aN o2 (aN o3 (aN c3' (aN c4' (aN hw hs)))))))))) ?_
     exact ⟨i+1-(j+1),by omega,j+1,by omega,rfl,(rG hE)⟩
    ·have c4':(kind==1)=false:=by rw [beq_eq_false_iff_ne];exact c4
     have hc:=b6e hT hR (i:=j) (by omega)
     have hcr:=a95 hR (i:=j) (by omega)
     have hw:IntKind.i64.wrap (O0 t kind j+min (a1l t j) 100)=O0 t kind (j+1):=by rw [P1 (by omega) (by omega),hst,a0K,if_neg c4]
     repeat first
     |(apply N1 hc rfl;(focus (simp only [Env.evL,Env.ev,Env.get,Nat.reduceEqDiff,↓reduceIte,hE]));(focus exact fz2 hT.fz u7))
     |refine zW (aN hE (aN c1' (aN c2 (aN hidx (aN o1 (aN o2 (aN o3 (aN c3' (aN c4' (aN hw hs)))))))))) ?_
     exact ⟨i+1-(j+1),by omega,j+1,by omega,rfl,(rG hE)⟩
   ·have c3':((nd t j).kind != kind)=true:=by rw [bne_iff_ne];exact c3
    have hst:O0 t kind (j+1)=O0 t kind j:=by rw [O0,if_neg fun h=>c3 h.2]
    try refine zW (aN hE (aN c1' (aN c2 (aN hidx (aN o1 (aN o2 (aN o3 (aN c3' hs)))))))) ?_
    exact ⟨i+1-(j+1),by omega,j+1,by omega,rfl,by simp only [Env.get,Nat.reduceEqDiff,↓reduceIte,hE,hst,and_self]⟩
  ·have hb:=a9A (t:=t) (kind:=kind) (i:=j) (by omega) (j:=i+1) (by omega)
   try refine zW (aN hE (aN c1' c2)) ?_
   exact ⟨.inr trivial,_,rR,by rw [hb]⟩
 ·have c1':((j:Int)<=(i:Int))=False:=eq_false (by omega)
  obtain rfl:j=i+1:=by omega
  try refine zW (aN hE c1') ?_
  exact ⟨.inr trivial,_,rR,rfl⟩
theorem b2M {d:D} {t:List Nd} (hT:O1 d t) (hR:M8 t) {z:Int}:∀ (f a:Nat),a<t.length->t.length-a<f->a1I 105 [d,.int .i64 z,.int .i64 (a:Int)] fun _=>True
 | 0,a,_,h=>by omega
 | f+1,a,ha,hf=>by
   refine a2c ?_
   have hidx:=hT.at (z:=(a:Int)) (by omega) (by omega) (k:=.i64)
   rw [Int.toNat_natCast] at hidx
   have hx:=hT.nd ha
   have o1:=FL.one hx.w
   have o2:=FL.one hx.n
   have o3:=FL.one hx.k
   have hlk:=FI.len hx.k
   refine N8 (vf:=a7h) rfl ?_
   unfold a7h;refine zE ?_
   try refine zW0 ?_
   refine a0l (Q:=M7 0 _) (fun n env s=>∃j:Nat,j<=(nd t a).kids.length/\n=(nd t a).kids.length-j/\(env.get 0=d/\env.get 1=.int .i64 z/\env.get 2=.int .i64 (a:Int)/\env.get 7=.int .i64 (j:Int))) ?_ (nd t a).kids.length _ _ ⟨0,by omega,rfl,by simp [Env.get]⟩
   rintro n env s ⟨j,hj,rfl,hE⟩
   by_cases c1:j<(nd t a).kids.length
   ·have c1':((j:Int)<((nd t a).kids.length:Int))=True:=eq_true (by omega)
    have hki:=FI.idx hx.k c1 (k:=.i64)
    have hs:=a6a c1 hx.kl
    have hkr:=hR.ok.kids a ha _ (List.getElem_mem c1)
    obtain ⟨k,hk⟩:∃k:Nat,(nd t a).kids[j]=(k:Int):=⟨(nd t a).kids[j].toNat,by omega⟩
    rw [hk] at hki hkr
    obtain ⟨b,hb,_⟩:=b2M hT hR (z:=z) f k (by omega) (by omega)
    cases c2:((k:Int)==z)
    ·cases b
     ·repeat first
      |(apply N1 hb rfl;(focus (simp only [Env.evL,Env.ev,Env.get,Nat.reduceEqDiff,↓reduceIte,hE]));(focus exact fz3 hT.fz u7 u7))
      |refine zW (aN hE (aN hidx (aN o1 (aN o2 (aN o3 (aN hlk (aN c1' (aN hki (aN c2 hs))))))))) ?_
      exact ⟨(nd t a).kids.length-(j+1),by omega,j+1,by omega,rfl,(rG hE)⟩
     ·repeat first
      |(apply N1 hb rfl;(focus (simp only [Env.evL,Env.ev,Env.get,Nat.reduceEqDiff,↓reduceIte,hE]));(focus exact fz3 hT.fz u7 u7))
      |refine zW (aN hE (aN hidx (aN o1 (aN o2 (aN o3 (aN hlk (aN c1' (aN hki c2)))))))) ?_
      exact ⟨.inr trivial,_,rR,_,rfl,trivial⟩
    ·try refine zW (aN hE (aN hidx (aN o1 (aN o2 (aN o3 (aN hlk (aN c1' (aN hki c2)))))))) ?_
     exact ⟨.inr trivial,_,rR,_,rfl,trivial⟩
   ·have c1':((j:Int)<((nd t a).kids.length:Int))=False:=eq_false (by omega)
    try refine zW (aN hE (aN hidx (aN o1 (aN o2 (aN o3 (aN hlk c1')))))) ?_
    exact ⟨.inr trivial,_,rR,_,rfl,trivial⟩
end Go.Proofs.Ytlaeblilmppodaa
