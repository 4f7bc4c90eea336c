/- Texts one behind the other. -/
import Derived.Test.YtnjlhebkhjcagaaGreatZ1
import Derived.Laws.Strings
import Derived.Test.YtnjlhebkhjcagaaGreatVt
set_option linter.unusedSimpArgs false
set_option linter.unusedVariables false
namespace Go.V
theorem P1 {n:Int} (h1:-9223372036854775808<=n) (h2:n<9223372036854775808):IntKind.i64.wrap n=n:=IntWalk.i64_in n ⟨by omega,by omega⟩
def Fr (ids:List Nat) (s s':k4):Prop:=s.next<=s'.next/\∀i,i<s.next->i∉ids->s'.get i=s.get i
theorem Fr.refl (ids:List Nat) (s:k4):Fr ids s s:=⟨Nat.le_refl _,fun _ _ _=>rfl⟩
theorem Fr.trans {ids:List Nat} {ids':List Nat} {a b c:k4} (h:Fr ids a b) (k:Fr ids' b c) (hi:∀i∈ids',i∈ids∨a.next<=i):Fr ids a c:=by
 refine ⟨Nat.le_trans h.1 k.1,fun i hl hn=>?_⟩
 rw [k.2 i (Nat.lt_of_lt_of_le hl h.1) ?_,h.2 i hl hn]
 intro hc
 rcases hi i hc with h1 | h1
 ·exact hn h1
 ·omega
theorem Fr.push {ids:List Nat} {s:k4} (o:N4):Fr ids s (s.push o):=⟨by rw [k4.next_push];omega,fun i hl _=>by rw [k4.get_push,if_neg (by omega)]⟩
theorem Fr.set {ids:List Nat} {s:k4} {id:Nat} (o:Option N4) (h:id∈ids):Fr ids s (s.set id o):=⟨by rw [k4.next_set];omega,fun i hl hn=>by
 rw [k4.get_set,if_neg];rintro ⟨rfl,_⟩;exact hn h⟩
theorem Fr.thenPush {ids:List Nat} {a b:k4} (h:Fr ids a b) (o:N4):Fr ids a (b.push o):=h.trans (Fr.push (ids:=[]) o) (by simp)
theorem Fr.thenSet {ids:List Nat} {a b:k4} {id:Nat} (h:Fr ids a b) (o:Option N4) (hi:id∈ids∨a.next<=id):Fr ids a (b.set id o) :=
 h.trans (Fr.set (ids:=[id]) o (by simp)) (by simpa using hi)
theorem Fr.weaken {ids ids':List Nat} {a b:k4} (h:Fr ids a b) (hi:∀i∈ids,i∈ids'):Fr ids' a b:=⟨h.1,fun i hl hn=>h.2 i hl fun hc=>hn (hi i hc)⟩
theorem M1 {s:k4} {i:Nat} {o:N4} (h:s.get i=some o):i<s.next:=by
 unfold k4.get at h
 split at h
 ·assumption
 ·cases h
theorem S0 {s:k4} {o:N4} {i:Nat} (h:i<s.next):(s.push o).get i=s.get i:=by rw [k4.get_push,if_neg (by omega)]
theorem O1 {s:k4} {o:N4} {i:Nat} (h:i=s.next):(s.push o).get i=some o:=by rw [k4.get_push,if_pos h]
theorem O0 {s:k4} {o:Option N4} {i id:Nat} (h:i≠id):(s.set id o).get i=s.get i:=by rw [k4.get_set,if_neg (by rintro ⟨rfl,_⟩;exact h rfl)]
theorem P5 {s:k4} {o:Option N4} {i:Nat} (h:i<s.next):(s.set i o).get i=o:=by rw [k4.get_set,if_pos ⟨rfl,h⟩]
def U5 (l:List Nat):List D:=l.map fun (n:Nat)=>.int .i64 (n:Int)
def a0W (l:List Bool):List D:=l.map fun b=>.bool b
def b06:List (Nat×Nat)->List D
 | []=>[]
 | p::r=>.int .i64 (p.1:Int)::.int .i64 (p.2:Int)::b06 r
def kvs (l:List ((Nat×Nat)×Nat)):List (D×D):=l.map fun x=>(.agg [.int .i64 (x.1.1:Int),.int .i64 (x.1.2:Int)],.int .i64 (x.2:Int))
@[simp] theorem b2w (l:List Nat):(U5 l).length=l.length:=by simp [U5]
@[simp] theorem b3J (l:List Bool):(a0W l).length=l.length:=by simp [a0W]
def Rd (s:k4) (d:D) (l:List D):Prop :=
 (d=.nils/\l=[])∨d=.lst 1 (l.map fun x=>[x])∨∃id off cs,d=.arr id off l.length 1/\s.get id=some (.cells cs)/\off+l.length<=cs.length/\(cs.drop off).take l.length=l
theorem Rd.len {s:k4} {d:D} {l:List D} (h:Rd s d l):T8 false d=some (.int .i64 (l.length:Int)):=by
 rcases h with ⟨rfl,rfl⟩ | rfl | ⟨id,off,cs,rfl,_⟩<;>simp [T8]
theorem Rd.one {s:k4} {d:D} {l:List D} (h:Rd s d l):M4 d=true:=by
 rcases h with ⟨rfl,rfl⟩ | rfl | ⟨id,off,cs,rfl,_⟩<;>rfl
theorem Rd.idx {s:k4} {d:D} {l:List D} (h:Rd s d l) (ho:l.all M4=true) {i:Nat} (hi:i<l.length) {k:IntKind} {z:Int} (hz:z=(i:Int)):∃p,M8 1 d (.int k z)=some p/\ldV s.get none p=some l[i]:=by
 subst hz
 have ho':M4 l[i]=true:=by rw [List.all_eq_true] at ho;exact ho _ (List.getElem_mem hi)
 rcases h with ⟨rfl,rfl⟩ | rfl | ⟨id,off,cs,rfl,h1,h2,h3⟩
 ·simp at hi
 ·refine ⟨.fp [l[i]] 0,?_,?_⟩
  ·simp [M8,hi]
  ·simp [ldV,a0a,ho']
 ·refine ⟨.ptr id (off+i),?_,?_⟩
  ·simp only [M8]
   rw [if_pos (by refine ⟨trivial,?_,?_⟩<;>omega)]
   simp
  ·simp only [ldV,h1,a0a]
   have:cs[off+i]?=some l[i]:=by
    have e:l[i]?=some l[i]:=List.getElem?_eq_getElem hi
    rw [<- e]
    conv=>rhs;rw [<- h3]
    rw [List.getElem?_take_of_lt hi,List.getElem?_drop]
   rw [this]
   simp [ho']
theorem Rd.row {s:k4} {d:D} {l:List D} (h:Rd s d l):W4 s.get d=some l/\a1s d=some l.length/\a0n 1 d=true:=by
 rcases h with ⟨rfl,rfl⟩ | rfl | ⟨id,off,cs,rfl,h1,h2,h3⟩
 ·simp [W4,a1s,a0n]
 ·refine ⟨?_,by simp [a1s],by simp [a0n]⟩
  simp only [W4]
  congr 1
  induction l with
  | nil=>rfl
  | cons a l ih=>simp [ih]
 ·refine ⟨?_,by simp [a1s],by simp [a0n]⟩
  simp only [W4,h1,Nat.mul_one]
  rw [if_pos h2,h3]
theorem Rd.arr {s:k4} {id:Nat} {l:List D} (h:s.get id=some (.cells l)):Rd s (.arr id 0 l.length 1) l:=.inr (.inr ⟨id,0,l,rfl,h,by simp,by simp⟩)
theorem Rd.stay {s s':k4} {d:D} {l:List D} (h:Rd s d l) (hs:∀id off len,d=.arr id off len 1->s'.get id=s.get id):Rd s' d l:=by
 rcases h with h | h | ⟨id,off,cs,rfl,h1,h2,h3⟩
 ·exact .inl h
 ·exact .inr (.inl h)
 ·exact .inr (.inr ⟨id,off,cs,rfl,by rw [hs id off _ rfl,h1],h2,h3⟩)
theorem c4E (l:List Bool):(a0W l).all M4=true:=by simp [a0W,M4]
theorem Rd.idxB {s:k4} {d:D} {l:List Bool} (h:Rd s d (a0W l)) {i:Nat} (hi:i<l.length):∃p,M8 1 d (.int .i64 (i:Int))=some p/\ldV s.get none p=some (.bool l[i]):=by
 obtain ⟨p,h1,h2⟩:=h.idx (c4E l) (i:=i) (by simpa using hi) (k:=.i64) rfl
 exact ⟨p,h1,by rw [h2];simp [a0W]⟩
def Y2:D->Bool
 | .int _ _=>true
 | .bool _=>true
 | .str _=>true
 | _=>false
theorem a8Y {g:P0} {d:D} (h:Y2 d=true):∀n,ice g (n+1) d=some d:=by
 intro n
 cases d<;>first | rfl | (simp [Y2] at h)
theorem c4P {d:D} (h:Y2 d=true):Z6 d=true:=by cases d<;>first | rfl | (simp [Y2] at h)
theorem a5n {g:P0} {n:Nat}:∀ {l:List D},l.all Y2=true->M6 (ice g (n+1)) l=some l
 | [],_=>rfl
 | d::r,h=>by
   simp only [List.all_cons,Bool.and_eq_true] at h
   simp only [M6,a8Y h.1,a5n h.2]
theorem a6b:∀ (l:List D),a2a 1 l.length l=l.map fun x=>[x]
 | []=>rfl
 | d::r=>by simp [a2a,a6b r]
theorem Rd.ice {s:k4} {d:D} {l:List D} (h:Rd s d l) (hl:l.all Y2=true):∃d',ice s.get 20 d=some d'/\Rd k4.empty d' l:=by
 have hrow:=h.row.1
 rcases h with ⟨rfl,rfl⟩ | rfl | ⟨id,off,cs,rfl,h1,h2,h3⟩
 ·exact ⟨.nils,rfl,.inl ⟨rfl,rfl⟩⟩
 ·exact ⟨_,rfl,.inr (.inl rfl)⟩
 ·refine ⟨.lst 1 (l.map fun x=>[x]),?_,.inr (.inl rfl)⟩
  simp only [V.ice,hrow]
  rw [a5n hl]
  simp only [Option.map_some,a6b]
theorem a1T {fs:FuncId->Option t5} {pairs i t f args rest s Q} {env:Env} {l l':List D} {r:D} {s1:k4} (hr:Ev fs f l' k4.empty r s1) (hs:Y2 r=true) (hl:env.evL args=l) (ha:M6 (V.ice s.get 20) l=some l')
 (h:WQ fs pairs rest ((t,r)::env) s Q):WQ fs pairs ((i,⟨some t,.m (.call .iso (.cst (.fn f [])) args),none⟩)::rest) env s Q :=
 a2b hl ha hr (a8Y hs 19) (by rw [c4P hs];rfl) h
theorem c1d {fs:FuncId->Option t5} {n:Nat} {f:FuncId} {args:List D} {s:k4} {d:D} (h:(a34 fs n f args s).map Prod.fst=some d):∃s',Ev fs f args s d s':=by
 cases hv:a34 fs n f args s with
 | none=>rw [hv] at h;cases h
 | some r =>
   rw [hv] at h
   obtain ⟨d',s'⟩:=r
   simp at h
   subst h
   exact ⟨s',n,hv⟩
def Sl (s:k4) (d:D) (l:List D) (ids:List Nat):Prop :=
 (d=.nils/\l=[]/\ids=[])∨∃id,d=.arr id 0 l.length 1/\s.get id=some (.cells l)/\ids=[id]
theorem Sl.rd {s:k4} {d:D} {l:List D} {ids:List Nat} (h:Sl s d l ids):Rd s d l:=by
 rcases h with ⟨rfl,rfl,_⟩ | ⟨id,rfl,h,_⟩
 ·exact .inl ⟨rfl,rfl⟩
 ·exact Rd.arr h
theorem Sl.one {s:k4} {d:D} {l:List D} {ids:List Nat} (h:Sl s d l ids):M4 d=true:=h.rd.one
theorem Sl.lt {s:k4} {d:D} {l:List D} {ids:List Nat} (h:Sl s d l ids):∀i∈ids,i<s.next:=by
 rcases h with ⟨_,_,rfl⟩ | ⟨id,_,h,rfl⟩
 ·simp
 ·simpa using M1 h
theorem Sl.push {s:k4} {d:D} {l:List D} {ids:List Nat} {new:List D} {id2 bytes:Nat} (h:Sl s d l ids) (h3:s.get id2=some (.cells new)) (hne:new≠[]) (hb:bytes<=16) (hl:l.length+new.length<=2 ^ 40) :
 ∃s' d',S8 1 bytes d (.arr id2 0 new.length 1) s=some (d',s')/\Sl s' d' (l++new) [s.next]/\s'.next=s.next+1/\∀i,i∉ids->i<s.next->s'.get i=s.get i:=by
 have hn:new.length≠0:=by simpa using hne
 have b1:(l.length+new.length)*bytes<=2 ^ 45:=Nat.le_trans (Nat.mul_le_mul hl hb) (by decide)
 have b2:l.length+new.length<=2 ^ 45:=Nat.le_trans hl (by decide)
 have b3:bytes<=2 ^ 20:=Nat.le_trans hb (by decide)
 rcases h with ⟨rfl,rfl,rfl⟩ | ⟨id,rfl,h1,rfl⟩
 ·refine ⟨s.push (.cells new),.arr s.next 0 new.length 1,?_,.inr ⟨s.next,by simp,by simp [k4.get_push],rfl⟩,rfl,fun i _ hi=>by rw [k4.get_push,if_neg (by omega)]⟩
  unfold S8
  simp only [List.length_nil,Nat.zero_add] at b1 b2
  simp only [W4,h3,a1s,a0n,Nat.zero_add,Nat.mul_one,Nat.le_refl,if_true,List.drop_zero,beq_self_eq_true,b3,decide_true,Bool.and_self,and_self,hn,if_false,b1,b2,List.take_length]
 ·refine ⟨(s.set id none).push (.cells (l++new)),.arr s.next 0 (l.length+new.length) 1,?_,.inr ⟨s.next,by simp,by rw [k4.get_push,if_pos (by simp only [k4.next_set])],rfl⟩,rfl,fun i hi hl=>?_⟩
  ·unfold S8
   simp only [W4,h3,a1s,a0n,Nat.zero_add,Nat.mul_one,Nat.le_refl,if_true,List.drop_zero,beq_self_eq_true,b3,decide_true,Bool.and_self,h1,and_self,hn,if_false,b1,b2,List.take_length]
  ·simp only [List.mem_singleton] at hi
   rw [k4.get_push,if_neg (by simp only [k4.next_set];omega),k4.get_set,if_neg (by rintro ⟨rfl,_⟩;exact hi rfl)]
structure Gr where
 nodes:List (Nat×Nat)
 ins:List Nat
 known:List ((Nat×Nat)×Nat)
structure c0Y (s:k4) (g:Nat) (G:Gr) (nid mid:Nat) (dins:D) (iids:List Nat):Prop where
 obj:s.get g=some (.cells [.arr nid 0 G.nodes.length 2,dins,.map mid])
 nodes:s.get nid=some (.cells (b06 G.nodes))
 ins:Sl s dins (U5 G.ins) iids
 known:s.get mid=some (.map (kvs G.known))
 nd:(g::nid::mid::iids).Nodup
def GA (s:k4) (g:Nat) (G:Gr) (ids:List Nat):Prop:=∃nid mid dins iids,c0Y s g G nid mid dins iids/\ids=g::nid::mid::iids
def a1h (s:k4) (g:Nat) (ids:List Nat) (s':k4) (G':Gr) (ids':List Nat):Prop:=GA s' g G' ids'/\Fr ids s s'/\∀i∈ids',i∈ids∨s.next<=i
theorem a1h.trans {s s' s'':k4} {g:Nat} {ids ids' ids'':List Nat} {G' G'':Gr} (h:a1h s g ids s' G' ids') (k:a1h s' g ids' s'' G'' ids''):a1h s g ids s'' G'' ids'':=by
 refine ⟨k.1,h.2.1.trans k.2.1 h.2.2,fun i hi=>?_⟩
 rcases k.2.2 i hi with h1 | h1
 ·exact h.2.2 i h1
 ·exact .inr (Nat.le_trans h.2.1.1 h1)
theorem a1h.refl {s:k4} {g:Nat} {G:Gr} {ids:List Nat} (h:GA s g G ids):a1h s g ids s G ids:=⟨h,Fr.refl _ _,fun _ hi=>.inl hi⟩
theorem GA.stay' {s s':k4} {g:Nat} {G:Gr} {ids:List Nat} (h:GA s g G ids) (hs:∀i∈ids,i<s.next->s'.get i=s.get i):GA s' g G ids:=by
 obtain ⟨nid,mid,dins,iids,hg,rfl⟩:=h
 have k:∀i o,i∈g::nid::mid::iids->s.get i=some o->s'.get i=some o:=fun i o hi ho=>by rw [hs i hi (M1 ho),ho]
 refine ⟨nid,mid,dins,iids,⟨k _ _ (by simp) hg.obj,k _ _ (by simp) hg.nodes,?_,k _ _ (by simp) hg.known,hg.nd⟩,rfl⟩
 rcases hg.ins with h1 | ⟨id,h1,h2,rfl⟩
 ·exact .inl h1
 ·exact .inr ⟨id,h1,k _ _ (by simp) h2,rfl⟩
theorem GA.stay {s s':k4} {g:Nat} {G:Gr} {ids ids2:List Nat} (h:GA s g G ids) (hf:Fr ids2 s s') (hd:∀i∈ids,i∉ids2):GA s' g G ids:=h.stay' fun i hi hl=>hf.2 i hl (hd i hi)
theorem Sl.stay {s s':k4} {d:D} {l:List D} {ids ids2:List Nat} (h:Sl s d l ids) (hf:Fr ids2 s s') (hd:∀i∈ids,i∉ids2):Sl s' d l ids:=by
 rcases h with h1 | ⟨id,h1,h2,rfl⟩
 ·exact .inl h1
 ·exact .inr ⟨id,h1,by rw [hf.2 id (M1 h2) (hd id (by simp)),h2],rfl⟩
theorem GA.lt {s:k4} {g:Nat} {G:Gr} {ids:List Nat} (h:GA s g G ids):∀i∈ids,i<s.next:=by
 obtain ⟨nid,mid,dins,iids,hg,rfl⟩:=h
 intro i hi
 simp only [List.mem_cons] at hi
 rcases hi with rfl | rfl | rfl | hi
 ·exact M1 hg.obj
 ·exact M1 hg.nodes
 ·exact M1 hg.known
 ·exact hg.ins.lt i hi
theorem GA.pos {s:k4} {g:Nat} {G:Gr} {ids:List Nat} (h:GA s g G ids):∃nid dins mid,s.get g=some (.cells [.arr nid 0 G.nodes.length 2,dins,.map mid]):=by
 obtain ⟨nid,mid,dins,iids,hg,rfl⟩:=h
 exact ⟨nid,dins,mid,hg.obj⟩
theorem GA.push {s:k4} {g:Nat} {G:Gr} {ids:List Nat} (hG:GA s g G ids) (o:N4):GA (s.push o) g G ids:=hG.stay (ids2:=[]) (Fr.push _) (by simp)
theorem GA.newer {s s':k4} {g:Nat} {G:Gr} {ids:List Nat} (hG:GA s g G ids) (h:Fr [] s s'):a1h s g ids s' G ids:=⟨hG.stay h (by simp),h.weaken (by simp),fun _ h=>.inl h⟩
def b2F (e:Nat):Nat:=if e % 2=0 then e+1 else e-1
def Gr.own (G:Gr) (e:Int):Nat:=if e<0∨(G.nodes.length:Int)<=e.tdiv 2 then 0 else e.toNat
def Gr.add (G:Gr) (p:Nat×Nat):Gr:={ G with nodes:=G.nodes++[p] }
def find (k:Nat×Nat):List ((Nat×Nat)×Nat)->Option Nat
 | []=>none
 | (p,n)::r=>if k=p then some n else find k r
def Gr.and (G:Gr) (a b:Nat):Nat×Gr :=
 if min a b=0∨min a b=b2F (max a b) then (0,G)
 else if min a b=1∨min a b=max a b then (max a b,G)
 else match find (min a b,max a b) G.known with
  | some n=>(2*n,G)
  | none=>(2*G.nodes.length,{ nodes:=G.nodes++[(min a b,max a b)],ins:=G.ins,known:=G.known++[((min a b,max a b),G.nodes.length)] })
attribute [go_sem] S0 O1 O0 P5 P1
end Go.V
namespace Go.V
def FL (sz:Nat) (d:D) (rows:List (List D)):Prop:=(d=.nils/\rows=[])∨d=.lst sz rows
theorem FL.len {sz:Nat} {d:D} {rows:List (List D)} (h:FL sz d rows):T8 false d=some (.int .i64 (rows.length:Int)):=by
 rcases h with ⟨rfl,rfl⟩ | rfl<;>rfl
theorem FL.one {sz:Nat} {d:D} {rows:List (List D)} (h:FL sz d rows):M4 d=true:=by
 rcases h with ⟨rfl,rfl⟩ | rfl<;>rfl
theorem FL.pure {sz:Nat} {d:D} {rows:List (List D)} (h:FL sz d rows):U4 d=true:=by
 rcases h with ⟨rfl,rfl⟩ | rfl<;>rfl
theorem FL.ice {sz:Nat} {d:D} {rows:List (List D)} (h:FL sz d rows) {g:P0} {n:Nat}:ice g (n+1) d=some d:=by
 rcases h with ⟨rfl,rfl⟩ | rfl<;>rfl
theorem FL.idx {sz:Nat} {d:D} {rows:List (List D)} (h:FL sz d rows) {i:Nat} (hi:i<rows.length) {k:IntKind}:M8 sz d (.int k (i:Int))=some (.fp rows[i] 0):=by
 rcases h with ⟨rfl,rfl⟩ | rfl
 ·simp at hi
 ·simp [M8,hi]
theorem FL.cells {sz:Nat} {d:D} {rows:List (List D)} (h:FL sz d rows):cellsOf d=[d]:=by
 rcases h with ⟨rfl,rfl⟩ | rfl<;>rfl
def FS (d:D) (l:List ByteArray):Prop:=FL 1 d (l.map fun x=>[.str x])
def FI (d:D) (l:List Int):Prop:=FL 1 d (l.map fun n=>[.int .i64 n])
def FB (d:D) (l:List Bool):Prop:=FL 1 d (l.map fun b=>[.bool b])
theorem FS.len {d:D} {l:List ByteArray} (h:FS d l):T8 false d=some (.int .i64 (l.length:Int)):=by rw [FL.len h,List.length_map]
theorem FI.len {d:D} {l:List Int} (h:FI d l):T8 false d=some (.int .i64 (l.length:Int)):=by rw [FL.len h,List.length_map]
theorem FB.len {d:D} {l:List Bool} (h:FB d l):T8 false d=some (.int .i64 (l.length:Int)):=by rw [FL.len h,List.length_map]
theorem FS.idx {d:D} {l:List ByteArray} (h:FS d l) {i:Nat} (hi:i<l.length) {k:IntKind}:M8 1 d (.int k (i:Int))=some (.fp [.str l[i]] 0):=by
 rw [FL.idx h (by simpa using hi)];simp
theorem FI.idx {d:D} {l:List Int} (h:FI d l) {i:Nat} (hi:i<l.length) {k:IntKind}:M8 1 d (.int k (i:Int))=some (.fp [.int .i64 l[i]] 0):=by
 rw [FL.idx h (by simpa using hi)];simp
theorem FB.idx {d:D} {l:List Bool} (h:FB d l) {i:Nat} (hi:i<l.length) {k:IntKind}:M8 1 d (.int k (i:Int))=some (.fp [.bool l[i]] 0):=by
 rw [FL.idx h (by simpa using hi)];simp
theorem FL.drop {sz:Nat} {d:D} {rows:List (List D)} (h:FL sz d rows) {n:Nat} (hn:n<=rows.length) {k:IntKind}:∃d',a0S (some sz) d (some (.int k (n:Int))) none=some d'/\FL sz d' (rows.drop n):=by
 rcases h with ⟨rfl,rfl⟩ | rfl
 ·obtain rfl:n=0:=by simpa using hn
  exact ⟨.nils,by simp [a0S,a0f],.inl ⟨rfl,rfl⟩⟩
 ·exact ⟨_,by simp [a0S,a0f,hn],.inr rfl⟩
theorem FL.take {sz:Nat} {d:D} {rows:List (List D)} (h:FL sz d rows) {n:Nat} (hn:n<=rows.length) {k:IntKind}:∃d',a0S (some sz) d none (some (.int k (n:Int)))=some d'/\FL sz d' (rows.take n):=by
 rcases h with ⟨rfl,rfl⟩ | rfl
 ·obtain rfl:n=0:=by simpa using hn
  exact ⟨.nils,by simp [a0S,a0f],.inl ⟨rfl,rfl⟩⟩
 ·exact ⟨_,by simp [a0S,a0f,hn],.inr rfl⟩
theorem c4i {a b:ByteArray}:(a.toList==b.toList)=decide (a=b):=by
 rw [Bool.eq_iff_iff,beq_iff_eq,decide_eq_true_eq]
 constructor
 ·intro h
  rw [ByteArray.toList_eq,ByteArray.toList_eq] at h
  cases a;cases b
  simp at h
  rw [h]
 ·rintro rfl;rfl
theorem c0I {a b:ByteArray}:a60 .eql a b=some (.bool (decide (a=b))):=by rw [<- c4i];rfl
attribute [go_sem] c0I
end Go.V
namespace Go.V
theorem a6T {α β:Type} {f:α->β} {P:α->Prop}:∀ {xs:List β},(∀x∈xs,∃a,x=f a/\P a)->∃aa:List α,xs=aa.map f/\∀a∈aa,P a
 | [],_=>⟨[],rfl,by simp⟩
 | x::r,h=>by
   obtain ⟨a,rfl,ha⟩:=h x (by simp)
   obtain ⟨aa,rfl,has⟩:=a6T (xs:=r) fun x hx=>h x (by simp [hx])
   exact ⟨a::aa,rfl,by simpa using ⟨ha,has⟩⟩
def a1C (n:Int):Prop:=-9223372036854775808<=n/\n<9223372036854775808
theorem b3G {n:Int} (h:(Lit.int .i64 n).wf=true):a1C n:=by
 simp only [Lit.wf,Bool.and_eq_true,decide_eq_true_eq] at h
 have h1:IntKind.i64.min=-9223372036854775808:=rfl
 have h2:IntKind.i64.max=9223372036854775807:=rfl
 rw [h1,h2] at h
 exact ⟨h.1,by omega⟩
def Ty.act:Ty:=.slice 4 (.struct [.int .i64,.int .i64,.int .i64,.int .i64])
theorem Sl.push1 {s:k4} {d:D} {l:List D} {ids:List Nat} (h:Sl s d l ids) (x:D) {bytes:Nat} (hb:bytes<=16) (hl:l.length<2 ^ 40) :
 ∃s' d',S8 1 bytes d (.arr s.next 0 1 1) (s.push (.cells [x]))=some (d',s')/\Sl s' d' (l++[x]) [s.next+1]/\s'.next=s.next+2/\Fr ids s s':=by
 have h':Sl (s.push (.cells [x])) d l ids:=h.stay (ids2:=[]) (Fr.push _) (by simp)
 obtain ⟨s',d',e1,e2,e3,e4⟩:=h'.push (new:=[x]) (id2:=s.next) (bytes:=bytes) (O1 rfl) (by simp) hb (by simp;omega)
 refine ⟨s',d',e1,e2,e3,by rw [e3,k4.next_push];omega,fun i hi hn=>?_⟩
 rw [e4 i hn (by simp only [k4.next_push];omega),S0 hi]
section
variable {fs:FuncId->Option t5}
theorem b3V {l:List D} {n:Nat} {x:D} (h:n<l.length):a2o l n [x]=l.set n x:=by
 simp only [a2o,List.length_singleton]
 rw [List.set_eq_take_append_cons_drop,if_pos h]
 simp
theorem a6D {i a v rest s Q} {env:Env} {id n:Nat} {l:List D} {x:D} (hg:s.get id=some (.cells l)) (hn:n<l.length) (ho:M4 x=true) (ha:env.ev a=.ptr id n) (hv:env.ev v=x)
 (h:WQ fs [] rest env (s.set id (some (.cells (l.set n x)))) Q):WQ fs [] ((i,⟨none,.w 1 a v,none⟩)::rest) env s Q:=by
 refine a6S (id:=id) (ob:=.cells (l.set n x)) ?_ h
 simp only [evW,ha,hg,hv,b3g ho,List.length_singleton,List.all_cons,List.all_nil,ho]
 rw [if_pos ⟨trivial,by omega,rfl,by omega⟩,b3V hn]
theorem b1W (l:List Nat) (n k:Nat):(U5 l).set n (.int .i64 (k:Int))=U5 (l.set n k):=by simp [U5,List.map_set]
end
theorem c3D {s:k4} {id:Nat} {l:List Nat} (h:s.get id=some (.cells (U5 l))):Rd s (.arr id 0 l.length 1) (U5 l):=by
 have:=Rd.arr h
 rwa [b2w] at this
end Go.V
namespace Go.V
structure Nd where
 kind:Int
 dw:D
 dn:D
 dk:D
 pos:Int
 words:List ByteArray
 nums:List Int
 kids:List Int
 deriving Inhabited
def Nd.row (x:Nd):List D:=[.int .i64 x.kind,x.dw,x.dn,x.dk,.int .i64 x.pos]
structure Nd.Ok (x:Nd):Prop where
 w:FS x.dw x.words
 n:FI x.dn x.nums
 k:FI x.dk x.kids
 ki:a1C x.kind
 wl:x.words.length<=maxLen
 nl:x.nums.length<=maxLen
 kl:x.kids.length<=maxLen
 ni:∀n∈x.nums,a1C n
 ii:∀n∈x.kids,a1C n
structure N2 (d:D) (t:List Nd):Prop where
 fl:FL 5 d (t.map Nd.row)
 ok:∀x∈t,x.Ok
 le:t.length<=maxLen
theorem N2.len {d:D} {t:List Nd} (h:N2 d t):T8 false d=some (.int .i64 (t.length:Int)):=by rw [h.fl.len,List.length_map]
theorem N2.idx {d:D} {t:List Nd} (h:N2 d t) {i:Nat} (hi:i<t.length) {k:IntKind}:M8 5 d (.int k (i:Int))=some (.fp [.int .i64 t[i].kind,t[i].dw,t[i].dn,t[i].dk,.int .i64 t[i].pos] 0):=by
 rw [h.fl.idx (by simpa using hi)];simp [Nd.row]
theorem N2.get {d:D} {t:List Nd} (h:N2 d t) {i:Nat} (hi:i<t.length):t[i].Ok:=h.ok _ (List.getElem_mem hi)
def Ty.node:Ty:=.struct [.int .i64,.slice 1 .str,.slice 1 (.int .i64),.slice 1 (.int .i64),.int .i64]
def Ty.tree:Ty:=.slice 5 Ty.node
theorem c2U {a:List D} (h:W2 (.slice 1 .str) a):∃d l,a=[d]/\FS d l/\l.length<=maxLen:=by
 simp only [W2] at h
 rcases h with rfl | ⟨xs,rfl,hl,hx⟩
 ·exact ⟨.nils,[],rfl,.inl ⟨rfl,rfl⟩,by simp⟩
 ·obtain ⟨l,rfl,_⟩:=a6T (f:=fun (b:ByteArray)=>[D.str b]) (P:=fun _=>True) (xs:=xs) (fun x hm=>by
   obtain ⟨b,hb,_⟩:=hx x hm
   exact ⟨b,hb,trivial⟩)
  exact ⟨_,l,rfl,.inr rfl,by simpa using hl⟩
theorem a9Y {a:List D} (h:W2 (.slice 1 (.int .i64)) a):∃d l,a=[d]/\FI d l/\l.length<=maxLen/\∀n∈l,a1C n:=by
 simp only [W2] at h
 rcases h with rfl | ⟨xs,rfl,hl,hx⟩
 ·exact ⟨.nils,[],rfl,.inl ⟨rfl,rfl⟩,by simp,by simp⟩
 ·obtain ⟨l,rfl,hi⟩:=a6T (f:=fun (n:Int)=>[D.int .i64 n]) (P:=fun n=>a1C n) (xs:=xs) (fun x hm=>by
   obtain ⟨n,hn,w⟩:=hx x hm
   exact ⟨n,hn,b3G w⟩)
  exact ⟨_,l,rfl,.inr rfl,by simpa using hl,hi⟩
theorem b61 {a:List D} (h:W2 Ty.node a):∃x:Nd,a=x.row/\x.Ok:=by
 simp only [Ty.node,W2,HasTs] at h
 obtain ⟨a1,b1,rfl,⟨n1,rfl,w1⟩,a2,b2,rfl,h2,a3,b3,rfl,h3,a4,b4,rfl,h4,a5,b5,rfl,⟨n5,rfl,w5⟩,rfl⟩:=h
 obtain ⟨dw,lw,rfl,fw,lwl⟩:=c2U (by simpa only [W2] using h2)
 obtain ⟨dn,ln,rfl,fn,lnl,lni⟩:=a9Y (by simpa only [W2] using h3)
 obtain ⟨dk,lk,rfl,fk,lkl,lki⟩:=a9Y (by simpa only [W2] using h4)
 exact ⟨⟨n1,dw,dn,dk,n5,lw,ln,lk⟩,rfl,fw,fn,fk,b3G w1,lwl,lnl,lkl,lni,lki⟩
theorem b8f {d:D} (h:a4a Ty.tree d):∃t,N2 d t:=by
 have h:W2 Ty.tree [d]:=h
 rw [Ty.tree,W2] at h
 rcases h with h | ⟨xs,h,hl,hx⟩
 ·simp at h
  subst h
  exact ⟨[],.inl ⟨rfl,rfl⟩,by simp,by simp⟩
 ·simp at h
  subst h
  obtain ⟨t,rfl,hi⟩:=a6T (f:=Nd.row) (P:=Nd.Ok) (xs:=xs) fun x hm=>b61 (hx x hm)
  exact ⟨t,.inr rfl,hi,by simpa using hl⟩
theorem b50 {d:D} (h:a4a (.slice 1 (.int .i64)) d):∃l,FI d l/\l.length<=maxLen/\∀n∈l,a1C n:=by
 obtain ⟨d',l,e,h⟩:=a9Y (a:=[d]) h
 simp at e
 subst e
 exact ⟨l,h⟩
end Go.V
namespace Go.V
structure Ch where
 name:ByteArray
 room:Int
 width:Int
 lossy:Bool
 copying:Bool
 deriving Inhabited
structure Vr where
 name:ByteArray
 width:Int
 value:Int
 deriving Inhabited
structure Ed where
 frm:Nat
 to:Nat
 act:Nat
 expr:Int
 var:Int
 chan:Int
 keep:Bool
 node:Nat
 deriving Inhabited
structure Pr where
 name:ByteArray
 copy:Nat
 locals:List Nat
 places:Nat
 rest:List Bool
 edges:List Ed
 names:List ByteArray
 vars:List Nat
 deriving Inhabited
def Ch.row (c:Ch):List D:=[.str c.name,.int .i64 c.room,.int .i64 c.width,.bool c.lossy,.bool c.copying]
def Vr.row (v:Vr):List D:=[.str v.name,.int .i64 v.width,.int .i64 v.value]
def Ed.row (e:Ed):List D:=[.int .i64 (e.frm:Int),.int .i64 (e.to:Int),.int .i64 (e.act:Int),.int .i64 e.expr,.int .i64 e.var,.int .i64 e.chan,.bool e.keep,.int .i64 (e.node:Int)]
def Pr.put (p:Pr) (frm to act:Nat) (node:Nat) (expr v c:Int):Pr:={ p with edges:=p.edges++[⟨frm,to,act,expr,v,c,false,node⟩] }
def Pr.place (p:Pr):Pr:={ p with places:=p.places+1,rest:=p.rest++[false] }
def Pr.idle (p:Pr) (n:Nat) (is:Int):Pr:=if is=1 then { p with rest:=p.rest.set n true } else p
def a0o (l:List ByteArray) (s:ByteArray):Nat:=if l.findIdx (fun x=>decide (x=s))<l.length then l.findIdx (fun x=>decide (x=s)) else 0
def inB (l:List ByteArray) (s:ByteArray):Bool:=l.any fun x=>decide (x=s)
theorem a9z {l:List ByteArray} {s:ByteArray}:inB l s=true↔s∈l:=by
 unfold inB
 rw [List.any_eq_true]
 constructor
 ·rintro ⟨x,hx,h⟩
  rw [decide_eq_true_eq] at h
  exact h▸hx
 ·intro h
  exact ⟨s,h,by simp⟩
def nd (t:List Nd) (i:Nat):Nd:=t.getD i default
def Nd.kid (x:Nd) (i:Nat):Nat:=(x.kids.getD i 0).toNat
def Nd.ks (x:Nd):List Nat:=x.kids.map Int.toNat
def Nd.word (x:Nd) (i:Nat):ByteArray:=x.words.getD i default
def Nd.num (x:Nd) (i:Nat):Int:=x.nums.getD i 0
def a1A (st:Pr->Nat->Nat->Nat->Pr) (node:Nat):Pr->List Nat->Nat->Nat->Pr
 | p,[],frm,to=>p.put frm to 0 node (-1) (-1) (-1)
 | p,[k],frm,to=>st p k frm to
 | p,k::k'::ks,frm,to=>a1A st node (st p.place k frm p.places) (k'::ks) p.places to
def W1 (t:List Nd) (st:Pr->Nat->Nat->Nat->Pr) (p:Pr) (b frm to:Nat):Pr:=a1A st b p (nd t b).ks frm to
def a4Y (t:List Nd) (b:Nat):Bool:=match (nd t b).ks with
 | []=>false
 | k::_=>(nd t k).kind==12
def Y7 (t:List Nd) (st:Pr->Nat->Nat->Nat->Pr) (frm to:Nat):Pr->List Nat->Pr
 | p,[]=>p
 | p,k::ks=>Y7 t st frm to (if a4Y t k then W1 t st (p.place.put frm p.places 0 k (-1) (-1) (-1)) k p.places to else W1 t st p k frm to) ks
def a0C (n to:Nat) (l:List Ed):List Ed:=l.take n++(l.drop n).map fun e=>{ e with keep:=e.to != to&&e.to != 1 }
def M5 (t:List Nd) (ch:List ByteArray):Nat->Pr->Nat->Nat->Nat->Pr
 | 0,p,_,_,_=>p
 | f+1,p,at',frm,to =>
   let n:=nd t at'
   let st:=M5 t ch f
   if n.kind=6 then p.put frm to 1 at' (n.kid 0) (p.vars.getD (a0o p.names (n.word 0)) 0:Nat) (-1)
   else if n.kind=7 then p.put frm to 2 at' (n.kid 0) (-1) (a0o ch (n.word 0):Nat)
   else if n.kind=8 then (p.idle frm (n.num 0)).put frm to 3 at' (-1) (p.vars.getD (a0o p.names (n.word 1)) 0:Nat) (a0o ch (n.word 0):Nat)
   else if n.kind=9 then (p.idle frm (n.num 0)).put frm to 4 at' (n.kid 0) (-1) (-1)
   else if n.kind=10 then Y7 t st frm to (p.idle frm (n.num 0)) n.ks
   else if n.kind=11 then
    let p1:=W1 t st (p.place.put frm p.places 4 at' (n.kid 0) (-1) (-1)) (n.kid 1) p.places to
    if n.kids.length=2 then p1.put frm to 5 at' (n.kid 0) (-1) (-1)
    else W1 t st (p1.place.put frm p1.places 5 at' (n.kid 0) (-1) (-1)) (n.kid 2) p1.places to
   else if n.kind=12 then W1 t st ((p.place.put frm p.places 4 at' (n.kid 0) (-1) (-1)).put frm to 5 at' (n.kid 0) (-1) (-1)) (n.kid 1) p.places frm
   else if n.kind=13 then
    let p1:=W1 t st p (n.kid 0) frm to
    { p1 with edges:=a0C p.edges.length to p1.edges }
   else if n.kind=15 then p.put frm 1 0 at' (-1) (-1) (-1)
   else p.put frm to 0 at' (-1) (-1) (-1)
end Go.V
namespace Go.V
def a0J (k:Int):Prop:=17<=k/\k<=22
def a1Y (k:Int):Prop:=6<=k/\k<=15
def Z3 (k:Int):Nat:=if k=8 then 2 else if k=1∨k=2∨k=3∨k=6∨k=7∨k=18∨k=19 then 1 else 0
def Z0 (k:Int):Nat:=if k=1 then 4 else if k=2 then 2 else if k=3∨k=8∨k=9∨k=10∨k=17∨k=22 then 1 else 0
structure a6c (t:List Nd) (x:Nd):Prop where
 kr:0<=x.kind/\x.kind<=22
 wl:x.words.length=Z3 x.kind
 nl:x.nums.length=Z0 x.kind
 prog:x.kind=0->∀k∈x.ks,1<=(nd t k).kind/\(nd t k).kind<=5
 chan:x.kind=1->0<=x.num 0/\0<=x.num 1/\0<=x.num 2/\x.num 2<=1/\0<=x.num 3/\x.num 3<=1
 var:x.kind=2->-999999<=x.num 1/\x.num 1<=999999
 proc:x.kind=3->∃v,v<=x.ks.length/\(∀k∈x.ks.take v,(nd t k).kind=2)/\∀k∈x.ks.drop v,a1Y (nd t k).kind
 copies:x.kind=3->0<=x.num 0/\x.num 0<=999999
 one:x.kind=4∨x.kind=6∨x.kind=7∨x.kind=9∨x.kind=20∨x.kind=21->x.kids.length=1/\a0J (nd t (x.kid 0)).kind
 none:x.kind=1∨x.kind=2∨x.kind=5∨x.kind=8∨x.kind=14∨x.kind=15∨x.kind=17∨x.kind=18∨x.kind=19->x.kids=[]
 choose:x.kind=10->1<=x.kids.length/\∀k∈x.ks,(nd t k).kind=16
 cond:x.kind=11->(x.kids.length=2∨x.kids.length=3)/\a0J (nd t (x.kid 0)).kind/\(nd t (x.kid 1)).kind=16/\(x.kids.length=3->(nd t (x.kid 2)).kind=16)
 loop:x.kind=12->x.kids.length=2/\a0J (nd t (x.kid 0)).kind/\(nd t (x.kid 1)).kind=16
 atom:x.kind=13->x.kids.length=1/\(nd t (x.kid 0)).kind=16
 block:x.kind=16->∀k∈x.ks,a1Y (nd t k).kind
 bin:x.kind=22->x.kids.length=2/\a0J (nd t (x.kid 0)).kind/\a0J (nd t (x.kid 1)).kind/\0<=x.num 0/\x.num 0<=8
 flag:x.kind=8∨x.kind=9∨x.kind=10->0<=x.num 0/\x.num 0<=1
 lit:x.kind=17->0<=x.num 0/\x.num 0<=999999
structure X7 (t:List Nd):Prop where
 pos:0<t.length
 le:t.length<=800
 root:(nd t 0).kind=0
 kids:∀i,i<t.length->∀k∈(nd t i).kids,(i:Int)<k/\k<(t.length:Int)
 node:∀i,i<t.length->a6c t (nd t i)
theorem b09 {t:List Nd} {i:Nat} (h:i<t.length):nd t i=t[i]:=by simp [nd,List.getD,h]
theorem X7.ks {t:List Nd} (h:X7 t) {i:Nat} (hi:i<t.length):∀k∈(nd t i).ks,i<k/\k<t.length:=by
 intro k hk
 obtain ⟨z,hz,rfl⟩:=List.mem_map.1 hk
 have:=h.kids i hi z hz
 omega
theorem V4 {x:Nd} {i:Nat} (h:i<x.kids.length):x.kid i∈x.ks:=by
 unfold Nd.kid Nd.ks
 simp only [List.getD,List.getElem?_eq_getElem h,Option.getD_some]
 exact List.mem_map_of_mem (List.getElem_mem h)
theorem a0u (x:Nd):x.ks.length=x.kids.length:=by simp [Nd.ks]
structure a2Q (t:List Nd) (nch pl:Nat) (vars:List Nat) (e:Ed):Prop where
 f:e.frm<pl
 to:e.to<pl
 act:e.act<=5
 ex0:e.act=0∨e.act=3->e.expr=-1
 ex1:e.act=1∨e.act=2∨e.act=4∨e.act=5->∃n:Nat,e.expr=(n:Int)/\n<t.length/\a0J (nd t n).kind
 v1:e.act=1∨e.act=3->∃n∈vars,e.var=((n:Nat):Int)
 v0:e.act=0∨e.act=2∨e.act=4∨e.act=5->e.var=-1
 c1:e.act=2∨e.act=3->∃n:Nat,e.chan=(n:Int)/\n<nch
 c0:e.act=0∨e.act=1∨e.act=4∨e.act=5->e.chan=-1
theorem a2Q.mono {t:List Nd} {nch pl pl':Nat} {vars:List Nat} {e:Ed} (h:a2Q t nch pl vars e) (hp:pl<=pl'):a2Q t nch pl' vars e :=
 ⟨by have:=h.f;omega,by have:=h.to;omega,h.act,h.ex0,h.ex1,h.v1,h.v0,h.c1,h.c0⟩
structure W8 (t:List Nd) (nch:Nat) (p:Pr):Prop where
 two:2<=p.places
 rest:p.rest.length=p.places
 ed:∀e∈p.edges,a2Q t nch p.places p.vars e
structure a0E (p q:Pr):Prop where
 name:q.name=p.name
 copy:q.copy=p.copy
 locals:q.locals=p.locals
 names:q.names=p.names
 vars:q.vars=p.vars
 places:p.places<=q.places
 edges:∃l,q.edges=p.edges++l
theorem a0E.refl (p:Pr):a0E p p:=⟨rfl,rfl,rfl,rfl,rfl,Nat.le_refl _,[],by simp⟩
theorem a0E.trans {p q r:Pr} (h:a0E p q) (k:a0E q r):a0E p r:=by
 obtain ⟨l,hl⟩:=h.edges
 obtain ⟨m,hm⟩:=k.edges
 exact ⟨k.name.trans h.name,k.copy.trans h.copy,k.locals.trans h.locals,k.names.trans h.names,k.vars.trans h.vars,Nat.le_trans h.places k.places,l++m,by rw [hm,hl,List.append_assoc]⟩
theorem a0V (p:Pr) (frm to act node:Nat) (expr v c:Int):a0E p (p.put frm to act node expr v c):=⟨rfl,rfl,rfl,rfl,rfl,Nat.le_refl _,_,rfl⟩
theorem a2D (p:Pr):a0E p p.place:=⟨rfl,rfl,rfl,rfl,rfl,Nat.le_succ _,[],by simp [Pr.place]⟩
theorem b4p (p:Pr) (n:Nat) (is:Int):a0E p (p.idle n is):=by
 unfold Pr.idle
 split
 ·exact ⟨rfl,rfl,rfl,rfl,rfl,Nat.le_refl _,[],by simp⟩
 ·exact a0E.refl p
theorem a55 (p:Pr) (n:Nat) (is:Int):(p.idle n is).places=p.places/\(p.idle n is).edges=p.edges/\(p.idle n is).vars=p.vars/\(p.idle n is).names=p.names:=by
 unfold Pr.idle;split<;>exact ⟨rfl,rfl,rfl,rfl⟩
theorem a0T {t:List Nd} {nch:Nat} {p:Pr} {frm to act node:Nat} {expr v c:Int} (h:W8 t nch p) (he:a2Q t nch p.places p.vars ⟨frm,to,act,expr,v,c,false,node⟩):W8 t nch (p.put frm to act node expr v c):=by
 refine ⟨h.two,h.rest,fun e hm=>?_⟩
 rcases List.mem_append.1 hm with hm | hm
 ·exact h.ed e hm
 ·simp at hm;subst hm;exact he
theorem a2d {t:List Nd} {nch:Nat} {p:Pr} (h:W8 t nch p):W8 t nch p.place :=
 ⟨by have:=h.two;simp [Pr.place];omega,by simp [Pr.place,h.rest],fun e hm=>(h.ed e hm).mono (Nat.le_succ _)⟩
theorem b39 {t:List Nd} {nch:Nat} {p:Pr} {n:Nat} {is:Int} (h:W8 t nch p):W8 t nch (p.idle n is):=by
 unfold Pr.idle
 split
 ·exact ⟨h.two,by simp [h.rest],h.ed⟩
 ·exact h
theorem a5C {t:List Nd} {nch pl:Nat} {vars:List Nat} {frm to node:Nat} (hf:frm<pl) (ht:to<pl):a2Q t nch pl vars ⟨frm,to,0,-1,-1,-1,false,node⟩ :=
 ⟨hf,ht,by simp,by simp,by simp,by simp,by simp,by simp,by simp⟩
theorem a2B {t:List Nd} {nch pl:Nat} {vars:List Nat} {frm to node n:Nat} {a:Nat} (ha:a=4∨a=5) (hf:frm<pl) (ht:to<pl) (hn:n<t.length) (hk:a0J (nd t n).kind):a2Q t nch pl vars ⟨frm,to,a,(n:Int),-1,-1,false,node⟩:=by
 refine ⟨hf,ht,?_,?_,fun _=>⟨n,rfl,hn,hk⟩,?_,fun _=>rfl,?_,fun _=>rfl⟩<;>simp<;>omega
def a1l (t:List Nd) (nch:Nat) (names:List ByteArray) (vars:List Nat) (st:Pr->Nat->Nat->Nat->Pr) (k:Nat):Prop :=
 ∀p frm to,W8 t nch p->p.names=names->p.vars=vars->frm<p.places->to<p.places->W8 t nch (st p k frm to)/\a0E p (st p k frm to)
theorem a3q {t:List Nd} {nch:Nat} {names:List ByteArray} {vars:List Nat} {st:Pr->Nat->Nat->Nat->Pr} {node:Nat}:∀ {ks:List Nat} {p:Pr} {frm to:Nat},(∀k∈ks,a1l t nch names vars st k) ->
 W8 t nch p->p.names=names->p.vars=vars->frm<p.places->to<p.places->W8 t nch (a1A st node p ks frm to)/\a0E p (a1A st node p ks frm to)
 | [],p,frm,to,_,h,hn,hv,hf,ht=>⟨a0T h (a5C hf ht),a0V _ _ _ _ _ _ _ _⟩
 | [k],p,frm,to,hs,h,hn,hv,hf,ht=>hs k (by simp) p frm to h hn hv hf ht
 | k::k'::ks,p,frm,to,hs,h,hn,hv,hf,ht=>by
   have h1:=hs k (by simp) p.place frm p.places (a2d h) hn hv (Nat.lt_succ_of_lt hf) (Nat.lt_succ_self _)
   have g1:=(a2D p).trans h1.2
   have:=h1.2.places
   have:p.place.places=p.places+1:=rfl
   have h2:=a3q (node:=node) (ks:=k'::ks) (p:=st p.place k frm p.places) (frm:=p.places) (to:=to) (fun x hx=>hs x (by simp only [List.mem_cons] at hx ⊢;right;exact hx)) h1.1 (g1.names.trans hn) (g1.vars.trans hv) (by omega) (by omega)
   exact ⟨h2.1,g1.trans h2.2⟩
theorem b26 {t:List Nd} {nch:Nat} {names:List ByteArray} {vars:List Nat} {st:Pr->Nat->Nat->Nat->Pr} {frm to:Nat}:∀ {ks:List Nat} {p:Pr},(∀b∈ks,∀k∈(nd t b).ks,a1l t nch names vars st k) ->
 W8 t nch p->p.names=names->p.vars=vars->frm<p.places->to<p.places->W8 t nch (Y7 t st frm to p ks)/\a0E p (Y7 t st frm to p ks)
 | [],p,_,h,_,_,_,_=>⟨h,a0E.refl p⟩
 | k::ks,p,hs,h,hn,hv,hf,ht=>by
   have key:∀q,W8 t nch q->a0E p q->W8 t nch (Y7 t st frm to q ks)/\a0E p (Y7 t st frm to q ks):=fun q hq gq=>by
    have:=gq.places
    have:=b26 (ks:=ks) (p:=q) (frm:=frm) (to:=to) (fun b hb=>hs b (by simp [hb])) hq (gq.names.trans hn) (gq.vars.trans hv) (by omega) (by omega)
    exact ⟨this.1,gq.trans this.2⟩
   have hk:=hs k (by simp)
   unfold Y7
   split
   ·have h1:=a0T (node:=k) (a2d h) (a5C (frm:=frm) (to:=p.places) (Nat.lt_succ_of_lt hf) (Nat.lt_succ_self _))
    have g1:=(a2D p).trans (a0V p.place frm p.places 0 k (-1) (-1) (-1))
    have:=a3q (node:=k) (frm:=p.places) (to:=to) hk h1 hn hv (Nat.lt_succ_self _) (Nat.lt_succ_of_lt ht)
    exact key _ this.1 (g1.trans this.2)
   ·have:=a3q (node:=k) (frm:=frm) (to:=to) hk h hn hv hf ht
    exact key _ this.1 this.2
theorem a3x {t:List Nd} {nch:Nat} {names:List ByteArray} {vars:List Nat} {st:Pr->Nat->Nat->Nat->Pr} {b:Nat} {p:Pr} {frm to:Nat} (hs:∀k∈(nd t b).ks,a1l t nch names vars st k)
 (h:W8 t nch p) (hn:p.names=names) (hv:p.vars=vars) (hf:frm<p.places) (ht:to<p.places):W8 t nch (W1 t st p b frm to)/\a0E p (W1 t st p b frm to):=a3q hs h hn hv hf ht
structure a5Z (t:List Nd) (nch:Nat) (ch names:List ByteArray) (vars:List Nat) (k:Nat):Prop where
 same:names.length=vars.length
 chs:ch.length=nch
 v:(nd t k).kind=6∨(nd t k).kind=8->0<names.length
 c:(nd t k).kind=7∨(nd t k).kind=8->0<ch.length
theorem a6s {l:List ByteArray} {s:ByteArray} (h:0<l.length):a0o l s<l.length:=by
 unfold a0o;split<;>assumption
theorem c26 {l:List Nat} {i:Nat} (h:i<l.length):l.getD i 0∈l:=by simp [List.getD,h]
theorem b9Z {n to:Nat} {l:List Ed} {e:Ed} (h:e∈a0C n to l):∃e'∈l,∃b,e={ e' with keep:=b }:=by
 rcases List.mem_append.1 h with h | h
 ·exact ⟨e,List.mem_of_mem_take h,e.keep,rfl⟩
 ·obtain ⟨e',h',rfl⟩:=List.mem_map.1 h
  exact ⟨e',List.mem_of_mem_drop h',_,rfl⟩
theorem a6i {t:List Nd} (ht:X7 t) {nch:Nat} {ch names:List ByteArray} {vars:List Nat} {P:Nat->Prop} (hc:∀j,j<t.length->P j->∀k∈(nd t j).ks,P k) (hs:∀k,P k->a5Z t nch ch names vars k):∀ (f k:Nat),k<t.length->P k->a1Y (nd t k).kind->t.length-k<f->a1l t nch names vars (M5 t ch f) k
 | 0,k,_,_,_,hf=>by omega
 | f+1,k,hk,hP,hst,hf=>by
   intro p frm to h hn hv hfr hto
   have hno:=ht.node k hk
   have hks:=ht.ks hk
   have hS:=hs k hP
   have bl:∀b∈(nd t k).ks,(nd t b).kind=16->∀x∈(nd t b).ks,a1l t nch names vars (M5 t ch f) x:=fun b hb hb16 x hx=>by
    have h1:=hks b hb
    have h2:=ht.ks h1.2 x hx
    exact a6i ht hc hs f x h2.2 (hc b h1.2 (hc k hk hP b hb) x hx) ((ht.node b h1.2).block hb16 x hx) (by omega)
   have hvar:0<names.length->∀s,∃n∈p.vars,((p.vars.getD (a0o p.names s) 0:Nat):Int)=((n:Nat):Int):=fun hp s=>by
    refine ⟨_,c26 ?_,rfl⟩
    rw [hv,hn,<- hS.same]
    exact a6s hp
   have hch:0<ch.length->∀s,∃n:Nat,((a0o ch s:Nat):Int)=(n:Int)/\n<nch:=fun hp s=>⟨_,rfl,by rw [<- hS.chs];exact a6s hp⟩
   have hex:1<=(nd t k).kids.length->a0J (nd t ((nd t k).kid 0)).kind->∃n:Nat,(((nd t k).kid 0:Nat):Int)=(n:Int)/\n<t.length/\a0J (nd t n).kind:=fun h1 h2=>⟨_,rfl,(hks _ (V4 h1)).2,h2⟩
   have ip:=a55 p frm ((nd t k).num 0)
   have gi:=b4p p frm ((nd t k).num 0)
   have ii:=b39 (n:=frm) (is:=(nd t k).num 0) h
   unfold M5
   simp only
   have hp2:=h.two
   by_cases c6:(nd t k).kind=6
   ·rw [if_pos c6]
    have h1:=hno.one (by omega)
    refine ⟨a0T h ⟨hfr,hto,by simp,by simp,fun _=>hex (by omega) h1.2,fun _=>hvar (hS.v (by omega)) _,by simp,by simp,fun _=>rfl⟩,a0V _ _ _ _ _ _ _ _⟩
   rw [if_neg c6]
   by_cases c7:(nd t k).kind=7
   ·rw [if_pos c7]
    have h1:=hno.one (by omega)
    refine ⟨a0T h ⟨hfr,hto,by simp,by simp,fun _=>hex (by omega) h1.2,by simp,fun _=>rfl,fun _=>hch (hS.c (by omega)) _,by simp⟩,a0V _ _ _ _ _ _ _ _⟩
   rw [if_neg c7]
   by_cases c8:(nd t k).kind=8
   ·rw [if_pos c8]
    refine ⟨a0T ii ⟨by rw [ip.1];exact hfr,by rw [ip.1];exact hto,by simp,fun _=>rfl,by simp,fun _=>by rw [ip.2.2.1];exact hvar (hS.v (by omega)) _,by simp,fun _=>hch (hS.c (by omega)) _,by simp⟩,gi.trans (a0V _ _ _ _ _ _ _ _)⟩
   rw [if_neg c8]
   by_cases c9:(nd t k).kind=9
   ·rw [if_pos c9]
    have h1:=hno.one (by omega)
    exact ⟨a0T ii (a2B (.inl rfl) (by rw [ip.1];exact hfr) (by rw [ip.1];exact hto) (hks _ (V4 (by omega))).2 h1.2),gi.trans (a0V _ _ _ _ _ _ _ _)⟩
   rw [if_neg c9]
   by_cases c10:(nd t k).kind=10
   ·rw [if_pos c10]
    have h1:=hno.choose c10
    have:=b26 (frm:=frm) (to:=to) (fun b hb=>bl b hb (h1.2 b hb)) ii (ip.2.2.2.trans hn) (ip.2.2.1.trans hv) (by rw [ip.1];exact hfr) (by rw [ip.1];exact hto)
    exact ⟨this.1,gi.trans this.2⟩
   rw [if_neg c10]
   by_cases c11:(nd t k).kind=11
   ·rw [if_pos c11]
    obtain ⟨l1,l2,l3,l4⟩:=hno.cond c11
    have k0:=(hks _ (V4 (i:=0) (by omega))).2
    have m1:=V4 (x:=nd t k) (i:=1) (by omega)
    have i1:=a0T (node:=k) (a2d h) (a2B (.inl rfl) (frm:=frm) (to:=p.places) (Nat.lt_succ_of_lt hfr) (Nat.lt_succ_self _) k0 l2)
    have g1:=(a2D p).trans (a0V p.place frm p.places 4 k ((nd t k).kid 0:Nat) (-1) (-1))
    have s1:=a3x (b:=(nd t k).kid 1) (frm:=p.places) (to:=to) (bl _ m1 l3) i1 hn hv (Nat.lt_succ_self _) (Nat.lt_succ_of_lt hto)
    generalize W1 t (M5 t ch f) (p.place.put frm p.places 4 k ((nd t k).kid 0:Nat) (-1) (-1)) ((nd t k).kid 1) p.places to=q at *
    have g2:=g1.trans s1.2
    have:=g2.places
    split
    ·exact ⟨a0T s1.1 (a2B (.inr rfl) (by omega) (by omega) k0 l2),g2.trans (a0V _ _ _ _ _ _ _ _)⟩
    ·have l3':(nd t k).kids.length=3:=by omega
     have m2:=V4 (x:=nd t k) (i:=2) (by omega)
     have hpl:q.place.places=q.places+1:=rfl
     have i2:=a0T (node:=k) (a2d s1.1) (a2B (.inr rfl) (frm:=frm) (to:=q.places) (by omega) (Nat.lt_succ_self _) k0 l2)
     have g3:=(g2.trans (a2D _)).trans (a0V _ frm q.places 5 k ((nd t k).kid 0:Nat) (-1) (-1))
     have s2:=a3x (b:=(nd t k).kid 2) (frm:=q.places) (to:=to) (bl _ m2 (l4 l3')) i2 (g3.names.trans hn) (g3.vars.trans hv) (Nat.lt_succ_self _) (by show to<q.places+1;omega)
     exact ⟨s2.1,g3.trans s2.2⟩
   rw [if_neg c11]
   by_cases c12:(nd t k).kind=12
   ·rw [if_pos c12]
    obtain ⟨l1,l2,l3⟩:=hno.loop c12
    have k0:=(hks _ (V4 (i:=0) (by omega))).2
    have m1:=V4 (x:=nd t k) (i:=1) (by omega)
    have i1:=a0T (node:=k) (a2d h) (a2B (.inl rfl) (frm:=frm) (to:=p.places) (Nat.lt_succ_of_lt hfr) (Nat.lt_succ_self _) k0 l2)
    have i2:=a0T (node:=k) i1 (a2B (.inr rfl) (frm:=frm) (to:=to) (Nat.lt_succ_of_lt hfr) (Nat.lt_succ_of_lt hto) k0 l2)
    have g1:=((a2D p).trans (a0V p.place frm p.places 4 k ((nd t k).kid 0:Nat) (-1) (-1))).trans (a0V _ frm to 5 k ((nd t k).kid 0:Nat) (-1) (-1))
    have s1:=a3q (node:=(nd t k).kid 1) (frm:=p.places) (to:=frm) (bl _ m1 l3) i2 hn hv (Nat.lt_succ_self _) (Nat.lt_succ_of_lt hfr)
    exact ⟨s1.1,g1.trans s1.2⟩
   rw [if_neg c12]
   by_cases c13:(nd t k).kind=13
   ·rw [if_pos c13]
    obtain ⟨l1,l2⟩:=hno.atom c13
    have m0:=V4 (x:=nd t k) (i:=0) (by omega)
    have s1:=a3q (node:=(nd t k).kid 0) (frm:=frm) (to:=to) (bl _ m0 l2) h hn hv hfr hto
    obtain ⟨l,hl⟩:=s1.2.edges
    refine ⟨⟨s1.1.two,s1.1.rest,fun e he=>?_⟩,⟨s1.2.name,s1.2.copy,s1.2.locals,s1.2.names,s1.2.vars,s1.2.places,l.map fun e=>{ e with keep:=e.to != to&&e.to != 1 },?_⟩⟩
    ·obtain ⟨e',h',b,rfl⟩:=b9Z he
     have:=s1.1.ed e' h'
     exact ⟨this.f,this.to,this.act,this.ex0,this.ex1,this.v1,this.v0,this.c1,this.c0⟩
    ·show a0C _ _ (W1 t (M5 t ch f) p ((nd t k).kid 0) frm to).edges=p.edges++l.map fun e=>{ e with keep:=e.to != to&&e.to != 1 }
     unfold a0C W1
     rw [hl,List.take_left,List.drop_left]
   rw [if_neg c13]
   by_cases c15:(nd t k).kind=15
   ·rw [if_pos c15]
    exact ⟨a0T h (a5C hfr (by omega)),a0V _ _ _ _ _ _ _ _⟩
   rw [if_neg c15]
   exact ⟨a0T h (a5C hfr hto),a0V _ _ _ _ _ _ _ _⟩
end Go.V
namespace Go.V
def a1Q (w:Nat->Nat×Bool) (len:Nat):List Int->Nat->Nat×Bool
 | [],next=>(next,true)
 | k::ks,next=>if k≠(next:Int)∨len<=next then (next,false) else if (w next).2 then a1Q w len ks (w next).1 else ((w next).1,false)
def S4 (t:List Nd):Nat->Nat->Nat×Bool
 | 0,i=>(i,false)
 | f+1,i=>a1Q (S4 t f) t.length (nd t i).kids (i+1)
structure Sub (t:List Nd) (i n:Nat):Prop where
 lt:i<n
 le:n<=t.length
 down:∀j,i<=j->j<n->∀k∈(nd t j).kids,(j:Int)<k/\k<(n:Int)
 up:∀j,i<j->j<n->∃p,i<=p/\p<n/\(j:Int)∈(nd t p).kids
def Y5 (t:List Nd):List Int->Nat->Nat->Prop
 | [],a,n=>a=n
 | k::ks,a,n=>k=(a:Int)/\∃b,Sub t a b/\Y5 t ks b n
theorem Y5.le {t:List Nd}:∀ {ks:List Int} {a n:Nat},Y5 t ks a n->a<=n
 | [],a,n,h=>Nat.le_of_eq h
 | k::ks,a,n,h=>by
   obtain ⟨_,b,h1,h2⟩:=h
   have:=h1.lt
   have:=h2.le
   omega
theorem Y5.down {t:List Nd}:∀ {ks:List Int} {a n:Nat},Y5 t ks a n->∀j,a<=j->j<n->∀k∈(nd t j).kids,(j:Int)<k/\k<(n:Int)
 | [],a,n,h,j,h1,h2=>by simp only [Y5] at h;omega
 | k::ks,a,n,h,j,h1,h2=>by
   obtain ⟨_,b,h3,h4⟩:=h
   have:=h4.le
   by_cases hj:j<b
   ·intro x hx
    have:=h3.down j h1 hj x hx
    omega
   ·exact h4.down j (by omega) h2
theorem Y5.up {t:List Nd}:∀ {ks:List Int} {a n:Nat},Y5 t ks a n->∀j,a<=j->j<n->(j:Int)∈ks∨∃p,a<=p/\p<n/\(j:Int)∈(nd t p).kids
 | [],a,n,h,j,h1,h2=>by simp only [Y5] at h;omega
 | k::ks,a,n,h,j,h1,h2=>by
   obtain ⟨rfl,b,h3,h4⟩:=h
   have:=h4.le
   have:=h3.lt
   by_cases hj:j<b
   ·by_cases ha:j=a
    ·subst ha;exact .inl (by simp)
    ·obtain ⟨p,p1,p2,p3⟩:=h3.up j (by omega) hj
     exact .inr ⟨p,p1,by omega,p3⟩
   ·rcases h4.up j (by omega) h2 with h | ⟨p,p1,p2,p3⟩
    ·exact .inl (by simp [h])
    ·exact .inr ⟨p,by omega,p2,p3⟩
theorem Y5.mem {t:List Nd}:∀ {ks:List Int} {a n:Nat},Y5 t ks a n->∀k∈ks,(a:Int)<=k/\k<(n:Int)
 | [],a,n,h=>by simp
 | k::ks,a,n,h=>by
   obtain ⟨rfl,b,h3,h4⟩:=h
   have:=h4.le
   have:=h3.lt
   intro x hx
   rcases List.mem_cons.1 hx with rfl | hx
   ·omega
   ·have:=h4.mem x hx
    omega
theorem c1g {t:List Nd} {i n:Nat} (h:Y5 t (nd t i).kids (i+1) n) (hn:n<=t.length):Sub t i n:=by
 have hl:=h.le
 refine ⟨by omega,hn,fun j h1 h2=>?_,fun j h1 h2=>?_⟩
 ·by_cases hj:j=i
  ·subst hj
   intro k hk
   have:=h.mem k hk
   omega
  ·exact h.down j (by omega) h2
 ·rcases h.up j (by omega) h2 with h | ⟨p,p1,p2,p3⟩
  ·exact ⟨i,by omega,by omega,h⟩
  ·exact ⟨p,by omega,p2,p3⟩
theorem b4b {t:List Nd} {w:Nat->Nat×Bool} (hw:∀i n,i<t.length->w i=(n,true)->Sub t i n):∀ {ks:List Int} {next n:Nat},next<=t.length->a1Q w t.length ks next=(n,true)->Y5 t ks next n/\n<=t.length
 | [],next,n,hl,h=>by
   simp only [a1Q,Prod.mk.injEq,and_true] at h
   subst h
   exact ⟨rfl,hl⟩
 | k::ks,next,n,hl,h=>by
   unfold a1Q at h
   split at h
   ·simp at h
   ·rename_i hc
    split at h
    ·rename_i ht
     have hk:k=(next:Int)/\next<t.length:=by omega
     have a:=hw next (w next).1 hk.2 (by rw [<- ht])
     obtain ⟨b1,b2⟩:=b4b hw a.le h
     exact ⟨⟨hk.1,_,a,b1⟩,b2⟩
    ·simp at h
theorem a2x {t:List Nd}:∀ (f:Nat) {i n:Nat},i<t.length->S4 t f i=(n,true)->Sub t i n/\Y5 t (nd t i).kids (i+1) n
 | 0,i,n,_,h=>by simp [S4] at h
 | f+1,i,n,hi,h=>by
   obtain ⟨a1,a2⟩:=b4b (fun i n hi h=>(a2x f hi h).1) (by omega) h
   exact ⟨c1g a1 a2,a1⟩
theorem b2Y {t:List Nd} {w:Nat->Nat×Bool} (hw:∀i,i<t.length->(w i).1<=t.length):∀ {ks:List Int} {next:Nat},next<=t.length->(a1Q w t.length ks next).1<=t.length
 | [],next,h=>h
 | k::ks,next,h=>by
   unfold a1Q
   split
   ·exact h
   ·rename_i hc
    split
    ·exact b2Y hw (hw next (by omega))
    ·exact hw next (by omega)
theorem b4u {t:List Nd}:∀ (f:Nat) {i:Nat},i<t.length->(S4 t f i).1<=t.length
 | 0,i,h=>Nat.le_of_lt h
 | f+1,i,h=>b2Y (fun i hi=>b4u f hi) (by omega)
end Go.V
namespace Go.V
structure N5 (t:List Nd):Prop where
 ok:X7 t
 subs:Y5 t (nd t 0).kids 1 t.length
 walk:S4 t 20 0=(t.length,true)
def a1o:List Int->Nat->Nat->Nat
 | [],_,out=>out
 | k::ks,i,out=>a1o ks i (if k<=(i:Int) then k.toNat else out)
def item (t:List Nd) (i:Nat):Nat:=a1o (nd t 0).kids i 0
theorem a6P {ks:List Int} {i out:Nat} (h:∀k∈ks,(i:Int)<k):a1o ks i out=out:=by
 induction ks generalizing out with
 | nil=>rfl
 | cons k ks ih =>
   have:=h k (by simp)
   unfold a1o
   rw [if_neg (by omega)]
   exact ih fun x hx=>h x (by simp [hx])
theorem b0g {t:List Nd}:∀ {ks:List Int} {a n i out:Nat},Y5 t ks a n->a<=i->i<n->∃b,(a1o ks i out:Int)∈ks/\Sub t (a1o ks i out) b/\a1o ks i out<=i/\i<b
 | [],a,n,i,out,h,h1,h2=>by simp only [Y5] at h;omega
 | k::ks,a,n,i,out,h,h1,h2=>by
   obtain ⟨rfl,b,h3,h4⟩:=h
   unfold a1o
   rw [if_pos (by omega)]
   by_cases hb:i<b
   ·rw [a6P fun x hx=>by have:=h4.mem x hx;omega]
    exact ⟨b,by simp,by simpa using h3,by simpa using h1,hb⟩
   ·obtain ⟨c,c1,c2,c3,c4⟩:=b0g (out:=(a:Int).toNat) h4 (by omega) h2
    exact ⟨c,List.mem_cons_of_mem _ c1,c2,c3,c4⟩
theorem b93 {t:List Nd} (h:N5 t) {i:Nat} (h1:1<=i) (h2:i<t.length):∃b,(item t i:Int)∈(nd t 0).kids/\Sub t (item t i) b/\item t i<=i/\i<b:=b0g h.subs h1 h2
theorem a3i {t:List Nd} (h:N5 t) {x:Nat} (hx:(x:Int)∈(nd t 0).kids):item t x=x:=by
 have hm:=h.subs.mem _ hx
 have key:∀ {ks:List Int} {a n out:Nat},Y5 t ks a n->(x:Int)∈ks->a1o ks x out=x:=by
  intro ks
  induction ks with
  | nil=>intro a n out _ hx;simp at hx
  | cons k ks ih =>
    intro a n out hs hx
    obtain ⟨rfl,b,h3,h4⟩:=hs
    unfold a1o
    rcases List.mem_cons.1 hx with hx | hx
    ·rw [if_pos (by omega),a6P fun y hy=>by have:=h4.mem y hy;have:=h3.lt;omega]
     omega
    ·exact ih h4 hx
 exact key h.subs hx
theorem b1y {t:List Nd} (h:N5 t) {x i:Nat} (hx:(x:Int)∈(nd t 0).kids):∃b,Sub t x b/\b<=t.length/\∀i,x<=i->i<b->item t i=x:=by
 have key:∀ {ks:List Int} {a n:Nat},Y5 t ks a n->(x:Int)∈ks->∃b,Sub t x b/\b<=n/\∀i out,x<=i->i<b->a1o ks i out=x:=by
  intro ks
  induction ks with
  | nil=>intro a n _ hx;simp at hx
  | cons k ks ih =>
    intro a n hs hx
    obtain ⟨rfl,b,h3,h4⟩:=hs
    have hl:=h4.le
    rcases List.mem_cons.1 hx with hx | hx
    ·obtain rfl:x=a:=by omega
     refine ⟨b,h3,hl,fun i out h1 h2=>?_⟩
     unfold a1o
     rw [if_pos (by omega),a6P fun y hy=>by have:=h4.mem y hy;omega]
     omega
    ·obtain ⟨c,c1,c2,c3⟩:=ih h4 hx
     exact ⟨c,c1,c2,fun i out h1 h2=>c3 i _ h1 h2⟩
 obtain ⟨b,b1,b2,b3⟩:=key h.subs hx
 exact ⟨b,b1,b2,fun i h1 h2=>b3 i 0 h1 h2⟩
def a0Y (t:List Nd) (kind:Int) (at':Nat) (s:ByteArray):Prop:=∃i,i<at'/\(nd t i).kind=kind/\(item t i=i∨item t i=item t at')/\(nd t i).word 0=s
def V3 (t:List Nd) (at':Nat) (kind:Int):Nat->List ByteArray
 | 0=>[]
 | i+1=>if (nd t i).kind=kind/\(item t i=i∨item t i=item t at')/\inB (V3 t at' kind i) ((nd t i).word 0)=false then V3 t at' kind i++[(nd t i).word 0] else V3 t at' kind i
theorem b1Q {t:List Nd} {at':Nat} {kind:Int} {s:ByteArray}:∀ {n:Nat},s∈V3 t at' kind n↔∃i,i<n/\(nd t i).kind=kind/\(item t i=i∨item t i=item t at')/\(nd t i).word 0=s
 | 0=>by simp [V3]
 | n+1=>by
   have ih:=b1Q (t:=t) (at':=at') (kind:=kind) (s:=s) (n:=n)
   rw [V3]
   split
   ·rename_i hc
    rw [List.mem_append,ih]
    constructor
    ·rintro (⟨i,h1,h2⟩ | h)
     ·exact ⟨i,by omega,h2⟩
     ·simp at h
      exact ⟨n,by omega,hc.1,hc.2.1,h.symm⟩
    ·rintro ⟨i,h1,h2,h3,h4⟩
     by_cases hi:i=n
     ·subst hi;right;simp [h4]
     ·exact .inl ⟨i,by omega,h2,h3,h4⟩
   ·rename_i hc
    rw [ih]
    constructor
    ·rintro ⟨i,h1,h2⟩
     exact ⟨i,by omega,h2⟩
    ·rintro ⟨i,h1,h2,h3,h4⟩
     by_cases hi:i=n
     ·subst hi
      have:(nd t i).word 0∈V3 t at' kind i:=by
       rw [<- a9z]
       cases h:inB (V3 t at' kind i) ((nd t i).word 0)
       ·exact (hc ⟨h2,h3,h⟩).elim
       ·rfl
      rw [h4] at this
      obtain ⟨j,j1,j2⟩:=ih.1 this
      exact ⟨j,j1,j2⟩
     ·exact ⟨i,by omega,h2,h3,h4⟩
structure a1j (t:List Nd):Prop where
 use:∀i,i<t.length->(nd t i).kind=6∨(nd t i).kind=18->a0Y t 2 i ((nd t i).word 0)
 chan:∀i,i<t.length->(nd t i).kind=7∨(nd t i).kind=19∨(nd t i).kind=8->a0Y t 1 i ((nd t i).word 0)
 recv:∀i,i<t.length->(nd t i).kind=8->a0Y t 2 i ((nd t i).word 1)
 once:∀i,i<t.length->(nd t i).kind=1∨(nd t i).kind=2∨(nd t i).kind=3->¬ a0Y t 1 i ((nd t i).word 0)/\¬ a0Y t 2 i ((nd t i).word 0)/\¬ a0Y t 3 i ((nd t i).word 0)
end Go.V
namespace Go.Proofs.YtnjlhebkhjcagaaGreat
open Go.V
set_option maxRecDepth 100000
set_option maxHeartbeats 4000000
theorem a1X {i n:Nat} (h:i<n) (hn:n<=maxLen):IntKind.i64.wrap ((i:Int)+1)=((i+1:Nat):Int):=by
 have:maxLen=9223372036854775807:=rfl
 rw [P1 (by omega) (by omega)];omega
def Iso (f:Nat) (l:List D) (r:D):Prop:=∃s1,Ev vfs f l k4.empty r s1
def P4 (f:Nat) (l:List D) (P:Bool->Prop):Prop:=∃b,Iso f l (.bool b)/\P b
theorem R7 {f:Nat} {l:List D} {P:Bool->Prop} (h:EvP vfs f l k4.empty fun d _=>∃b,d=.bool b/\P b):P4 f l P:=by
 obtain ⟨d,s',h,b,rfl,hp⟩:=h
 exact ⟨b,⟨s',h⟩,hp⟩
theorem a1W {f:Nat} {l:List D} {r:D} (h:EvP vfs f l k4.empty fun d _=>d=r):Iso f l r:=by
 obtain ⟨d,s',h,rfl⟩:=h
 exact ⟨s',h⟩
theorem t4 {pairs i t f args rest s Q} {env:Env} {l:List D} {r:D} (hr:Iso f l r) (hs:Y2 r=true) (hl:env.evL args=l) (ha:M6 (V.ice s.get 20) l=some l)
 (h:WQ vfs pairs rest ((t,r)::env) s Q):WQ vfs pairs ((i,⟨some t,.m (.call .iso (.cst (.fn f [])) args),none⟩)::rest) env s Q:=by
 obtain ⟨s1,hr⟩:=hr
 exact a1T hr hs hl ha h
theorem b3y {n:Int}:P4 78 [.int .u8 n] fun _=>True:=by
 refine R7 ?_
 by_cases c1:65<=n<;>by_cases c2:n<=90<;>by_cases c3:97<=n<;>by_cases c4:n<=122
 all_goals
  refine M3 (vf:=a8Q) rfl ?_
  unfold a8Q;refine zE ?_
  try refine zW (aN c1 (aN c2 (aN c3 c4))) ?_
  exact ⟨.inr trivial,_,rR,_,rfl,trivial⟩
theorem c4x {n:Int}:P4 80 [.int .u8 n] fun _=>True:=by
 refine R7 ?_
 by_cases c1:48<=n<;>by_cases c2:n<=57
 all_goals
  refine M3 (vf:=a78) rfl ?_
  unfold a78;refine zE ?_
  try refine zW (aN c1 c2) ?_
  exact ⟨.inr trivial,_,rR,_,rfl,trivial⟩
theorem b5G {n:Int}:P4 79 [.int .u8 n] fun _=>True:=by
 refine R7 ?_
 obtain ⟨b1,h1,_⟩:=b3y (n:=n)
 obtain ⟨b2,h2,_⟩:=c4x (n:=n)
 cases b1<;>cases b2<;>by_cases c1:(n==95)=true
 all_goals
  refine M3 (vf:=a9F) rfl ?_
  unfold a9F;refine zE ?_
  repeat first
  |(apply t4 h1 rfl rfl rfl)
  |(apply t4 h2 rfl rfl rfl)
  |refine zW c1 ?_
  exact ⟨.inr trivial,_,rR,_,rfl,trivial⟩
theorem b6x {s:k4} {id n:Nat} {cs:List D} (h:s.get id=some (.cells cs)) (hn:cs.length=n):Rd s (.arr id 0 n 1) cs:=by subst hn;exact Rd.arr h
theorem b9c {x:ByteArray}:P4 120 [.str x] fun _=>True:=by
 refine R7 ?_
 refine M3 (vf:=a9H) rfl ?_
 unfold a9H;refine zE ?_
 try refine zW0 ?_
 refine U2 (Q:=M9 0 _) (fun n env s=>∃ (i:Nat) (cs:List D),i<=21/\n=21-i/\s.get 0=some (.cells cs)/\cs.length=21/\(∀c∈cs,∃y,c=.str y)/\(env.get 0=.str x/\env.get 3=.arr 0 0 21 1/\env.get 4=.int .i64 (i:Int))) ?_ 21 _ _
  ⟨0,_,by omega,rfl,O1 rfl,rfl,by simp,by simp [Env.get,O2.at];rfl⟩
 rintro n env s ⟨i,cs,hi,rfl,hg,hl,hc,hE⟩
 have l21:((21:Nat):Int)=21:=rfl
 by_cases h:i<21
 ·have c1:((i:Int)<21)=True:=eq_true (by omega)
  have hs:IntKind.i64.wrap ((i:Int)+1)=((i+1:Nat):Int):=by rw [P1 (by omega) (by omega)];omega
  have ho:cs.all M4=true:=by
   rw [List.all_eq_true]
   intro c hm
   obtain ⟨y,rfl⟩:=hc c hm
   rfl
  obtain ⟨p,p1,p2⟩:=(b6x hg hl).idx ho (i:=i) (by omega) (k:=.i64) rfl
  obtain ⟨y,hy⟩:=hc cs[i] (List.getElem_mem _)
  rw [hy] at p2
  by_cases c2:y=x
  ·try refine zW (aN hE (aN l21 (aN c1 (aN p1 (aN p2 c2))))) ?_
   exact ⟨.inr trivial,_,rR,_,rfl,trivial⟩
  ·try refine zW (aN hE (aN l21 (aN c1 (aN p1 (aN p2 (aN c2 hs)))))) ?_
   exact ⟨21-(i+1),by omega,i+1,cs,by omega,rfl,hg,hl,hc,(rG hE)⟩
 ·have c1:((i:Int)<21)=False:=eq_false (by omega)
  try refine zW (aN hE (aN l21 c1)) ?_
  exact ⟨.inr trivial,_,rR,_,rfl,trivial⟩
theorem b1k {x:ByteArray} {i:Nat} (h:i<x.size):∃v,a5i (.str x) (.int .i64 (i:Int))=some (.int .u8 v):=by
 refine ⟨(x[i]).toNat,?_⟩
 have:x[i]?=some x[i]:=by simp [h]
 simp [a5i,this]
theorem c4C {x:ByteArray}:P4 116 [.str x] fun _=>True:=by
 refine R7 ?_
 by_cases c1:x.size=0
 ·have c1':((x.size:Int)==0)=true:=by rw [c1];rfl
  refine M3 (vf:=a2j) rfl ?_
  unfold a2j;refine zE ?_
  try refine zW c1' ?_
  exact ⟨.inr trivial,_,rR,_,rfl,trivial⟩
 have c1':((x.size:Int)==0)=false:=by rw [beq_eq_false_iff_ne];omega
 by_cases c2:12<x.size
 ·have c2':((12:Int)<(x.size:Int))=True:=eq_true (by omega)
  refine M3 (vf:=a2j) rfl ?_
  unfold a2j;refine zE ?_
  try refine zW (aN c1' c2') ?_
  exact ⟨.inr trivial,_,rR,_,rfl,trivial⟩
 have c2':((12:Int)<(x.size:Int))=False:=eq_false (by omega)
 obtain ⟨v,hv⟩:=b1k (x:=x) (i:=0) (by omega)
 obtain ⟨b1,h1,_⟩:=b3y (n:=v)
 have z0:((0:Nat):Int)=0:=rfl
 rw [z0] at hv
 cases b1
 ·refine M3 (vf:=a2j) rfl ?_
  unfold a2j;refine zE ?_
  repeat first
  |(apply t4 h1 rfl rfl rfl)
  |refine zW (aN c1' (aN c2' hv)) ?_
  exact ⟨.inr trivial,_,rR,_,rfl,trivial⟩
 obtain ⟨b2,h2,_⟩:=b9c (x:=x)
 cases b2
 ·refine M3 (vf:=a2j) rfl ?_
  unfold a2j;refine zE ?_
  repeat first
  |(apply t4 h1 rfl rfl rfl)
  |(apply t4 h2 rfl rfl rfl)
  |refine zW (aN c1' (aN c2' hv)) ?_
  refine U2 (Q:=M9 0 _) (fun n env s=>∃i:Nat,i<=x.size/\n=x.size-i/\(env.get 0=.str x/\env.get 3=.int .i64 (i:Int))) ?_ x.size _ _ ⟨0,by omega,rfl,by simp [Env.get]⟩
  rintro n env s ⟨i,hi,rfl,hE⟩
  by_cases c3:i<x.size
  ·have c3':((i:Int)<(x.size:Int))=True:=eq_true (by omega)
   have hs:IntKind.i64.wrap ((i:Int)+1)=((i+1:Nat):Int):=by rw [P1 (by omega) (by omega)];omega
   obtain ⟨v,hv⟩:=b1k (x:=x) (i:=i) (by omega)
   obtain ⟨b3,h3,_⟩:=b5G (n:=v)
   cases b3
   ·repeat first
    |(apply t4 h3 rfl rfl rfl)
    |refine zW (aN hE (aN c3' hv)) ?_
    exact ⟨.inr trivial,_,rR,_,rfl,trivial⟩
   ·repeat first
    |(apply t4 h3 rfl rfl rfl)
    |refine zW (aN hE (aN c3' (aN hv hs))) ?_
    exact ⟨x.size-(i+1),by omega,i+1,by omega,rfl,(rG hE)⟩
  ·have c3':((i:Int)<(x.size:Int))=False:=eq_false (by omega)
   try refine zW (aN hE c3') ?_
   exact ⟨.inr trivial,_,rR,_,rfl,trivial⟩
 ·refine M3 (vf:=a2j) rfl ?_
  unfold a2j;refine zE ?_
  repeat first
  |(apply t4 h1 rfl rfl rfl)
  |(apply t4 h2 rfl rfl rfl)
  |refine zW (aN c1' (aN c2' hv)) ?_
  exact ⟨.inr trivial,_,rR,_,rfl,trivial⟩
end Go.Proofs.YtnjlhebkhjcagaaGreat
namespace Go.V
def Fz (d:D):Prop:=∀g n,ice g (n+3) d=some d
theorem t2 {k:IntKind} {n:Int}:Fz (.int k n):=fun _ _=>rfl
theorem U1 {x:ByteArray}:Fz (.str x):=fun _ _=>rfl
theorem FL.fz {sz:Nat} {d:D} {rows:List (List D)} (h:FL sz d rows):Fz d:=fun _ _=>h.ice
theorem N2.fz {d:D} {t:List Nd} (h:N2 d t):Fz d:=h.fl.fz
theorem b3T {f:D->Option D}:∀ {l:List D},(∀d∈l,f d=some d)->M6 f l=some l
 | [],_=>rfl
 | d::r,h=>by
   rw [M6,h d (by simp),b3T fun x hx=>h x (by simp [hx])]
theorem fz1 {g:P0} {a:D} (ha:Fz a):M6 (V.ice g 20) [a]=some [a]:=by simp only [M6,ha g 17]
theorem fz2 {g:P0} {a b:D} (ha:Fz a) (hb:Fz b):M6 (V.ice g 20) [a,b]=some [a,b]:=by simp only [M6,ha g 17,hb g 17]
theorem fz3 {g:P0} {a b c:D} (ha:Fz a) (hb:Fz b) (hc:Fz c):M6 (V.ice g 20) [a,b,c]=some [a,b,c]:=by simp only [M6,ha g 17,hb g 17,hc g 17]
theorem fz5 {g:P0} {a b c d e:D} (ha:Fz a) (hb:Fz b) (hc:Fz c) (hd:Fz d) (he:Fz e):M6 (V.ice g 20) [a,b,c,d,e]=some [a,b,c,d,e]:=by simp only [M6,ha g 17,hb g 17,hc g 17,hd g 17,he g 17]
theorem a5x {l:List D} (h:∀d∈l,∀g n,ice g (n+2) d=some d):Fz (.agg l):=fun g n=>by
 show (M6 (V.ice g (n+2)) l).map D.agg=some (D.agg l)
 rw [b3T fun d hd=>h d hd g n]
 rfl
theorem FL.ic {sz:Nat} {d:D} {rows:List (List D)} (h:FL sz d rows):∀g n,V.ice g (n+2) d=some d:=fun _ _=>h.ice
theorem Nd.Ok.fz {x:Nd} (h:x.Ok):Fz (.agg x.row):=a5x fun d hd=>by
 simp only [Nd.row,List.mem_cons,List.not_mem_nil,or_false] at hd
 rcases hd with rfl | rfl | rfl | rfl | rfl
 ·exact fun _ _=>rfl
 ·exact FL.ic h.w
 ·exact FL.ic h.n
 ·exact FL.ic h.k
 ·exact fun _ _=>rfl
theorem a3B {x:Nd} {i:Nat} (h:i<x.kids.length):x.kid i=x.kids[i].toNat:=by simp [Nd.kid,List.getD,h]
theorem a3k {x:Nd} {i:Nat} (h:i<x.nums.length):x.num i=x.nums[i]:=by simp [Nd.num,List.getD,h]
theorem a2i {x:Nd} {i:Nat} (h:i<x.words.length):x.word i=x.words[i]:=by simp [Nd.word,List.getD,h]
theorem N2.at {d:D} {t:List Nd} (h:N2 d t) {z:Int} (h0:0<=z) (hl:z<(t.length:Int)) {k:IntKind}:M8 5 d (.int k z)=some (.fp [.int .i64 (nd t z.toNat).kind,(nd t z.toNat).dw,(nd t z.toNat).dn,(nd t z.toNat).dk,.int .i64 (nd t z.toNat).pos] 0):=by
 have hz:((z.toNat:Nat):Int)=z:=Int.toNat_of_nonneg h0
 have:=h.idx (i:=z.toNat) (by omega) (k:=k)
 rw [hz,<- b09 (by omega)] at this
 exact this
theorem N2.nd {d:D} {t:List Nd} (h:N2 d t) {i:Nat} (hi:i<t.length):(V.nd t i).Ok:=by rw [b09 hi];exact h.get hi
end Go.V
namespace Go.Proofs.YtnjlhebkhjcagaaGreat
open Go.V
set_option maxRecDepth 100000
set_option maxHeartbeats 4000000
def inR (k a b:Int):Bool:=decide (a<=k)&&decide (k<=b)
theorem a9M {k a b:Int}:inR k a b=true↔a<=k/\k<=b:=by simp [inR]
theorem a6N {k a b:Int}:Iso 93 [.int .i64 k,.int .i64 a,.int .i64 b] (.bool (inR k a b)):=by
 refine a1W ?_
 unfold inR
 by_cases c:a<=k
 ·refine M3 (vf:=a5B) rfl ?_
  unfold a5B;refine zE ?_
  try refine zW c ?_
  exact ⟨.inr trivial,_,rR,by simp [c]⟩
 ·refine M3 (vf:=a5B) rfl ?_
  unfold a5B;refine zE ?_
  try refine zW c ?_
  exact ⟨.inr trivial,_,rR,by simp [c]⟩
theorem a76 {d:D} {t:List Nd} {x:Nd} {i:Nat} (hT:N2 d t) (hx:x.Ok) (hi:i<x.kids.length) (h0:0<=x.kids[i]) (hl:x.kids[i]<(t.length:Int)):Iso 94 [d,.agg x.row,.int .i64 (i:Int)] (.int .i64 (nd t (x.kid i)).kind):=by
 refine a1W ?_
 have h1:=FI.idx hx.k hi (k:=.i64)
 have h2:=hT.at h0 hl (k:=.i64)
 have o1:=FL.one hx.w
 have o2:=FL.one hx.n
 have o3:=FL.one hx.k
 rw [a3B hi]
 unfold Nd.row
 refine M3 (vf:=a8c) rfl ?_
 unfold a8c;refine zE ?_
 try refine zW (aN h1 (aN h2 (aN o1 (aN o2 o3)))) ?_
 exact ⟨.inr trivial,_,rR,rfl⟩
theorem Z8 {x:Nd} (hx:x.Ok) {c:Int}:P4 90 [.agg x.row,.int .i64 c] fun b=>b=true->(x.words.length:Int)=c:=by
 refine R7 ?_
 have o1:=FL.one hx.w
 have o2:=FL.one hx.n
 have o3:=FL.one hx.k
 have hlen:=FS.len hx.w
 unfold Nd.row
 refine M3 (vf:=a8K) rfl ?_
 unfold a8K;refine zE ?_
 try refine zW (aN o1 (aN o2 o3)) ?_
 refine U2 (Q:=M9 0 _) (fun n env s=>∃i:Nat,i<=x.words.length/\n=x.words.length-i/\s.get 0=some (.cells [.int .i64 x.kind,x.dw,x.dn,x.dk,.int .i64 x.pos])/\(env.get 1=.int .i64 c/\env.get 2=.ptr 0 0/\env.get 5=.int .i64 (i:Int))) ?_ x.words.length _ _ ⟨0,by omega,rfl,O1 rfl,by simp [Env.get,O2.at];rfl⟩
 rintro n env s ⟨i,hi,rfl,hg,hE⟩
 by_cases c3:i<x.words.length
 ·have c3':((i:Int)<(x.words.length:Int))=True:=eq_true (by omega)
  have hs:=a1X c3 hx.wl
  have hidx:=FS.idx hx.w c3 (k:=.i64)
  obtain ⟨b,hb,_⟩:=c4C (x:=x.words[i])
  cases b
  ·repeat first
   |(apply t4 hb rfl rfl rfl)
   |refine zW (aN hE (aN hg (aN o1 (aN o2 (aN o3 (aN hlen (aN c3' hidx))))))) ?_
   exact ⟨.inr trivial,_,rR,_,rfl,by simp⟩
  ·repeat first
   |(apply t4 hb rfl rfl rfl)
   |refine zW (aN hE (aN hg (aN o1 (aN o2 (aN o3 (aN hlen (aN c3' (aN hidx hs)))))))) ?_
   exact ⟨x.words.length-(i+1),by omega,i+1,by omega,rfl,hg,(rG hE)⟩
 ·have c3':((i:Int)<(x.words.length:Int))=False:=eq_false (by omega)
  try refine zW (aN hE (aN hg (aN o1 (aN o2 (aN o3 (aN hlen c3')))))) ?_
  exact ⟨.inr trivial,_,rR,_,rfl,by simp⟩
theorem a0e {x:Nd} (hx:x.Ok) {c m:Int}:P4 91 [.agg x.row,.int .i64 c,.int .i64 m] fun b=>b=true->(x.nums.length:Int)=c/\∀n∈x.nums,0<=n/\n<=m:=by
 refine R7 ?_
 have o1:=FL.one hx.w
 have o2:=FL.one hx.n
 have o3:=FL.one hx.k
 have hlen:=FI.len hx.n
 unfold Nd.row
 refine M3 (vf:=a73) rfl ?_
 unfold a73;refine zE ?_
 try refine zW (aN o1 (aN o2 o3)) ?_
 refine U2 (Q:=M9 0 _) (fun n env s=>∃i:Nat,i<=x.nums.length/\n=x.nums.length-i/\(∀j (hj:j<x.nums.length),j<i->0<=x.nums[j]/\x.nums[j]<=m)/\s.get 0=some (.cells [.int .i64 x.kind,x.dw,x.dn,x.dk,.int .i64 x.pos])/\(env.get 1=.int .i64 c/\env.get 2=.int .i64 m/\env.get 3=.ptr 0 0/\env.get 7=.int .i64 (i:Int))) ?_ x.nums.length _ _ ⟨0,by omega,rfl,fun j _ h=>by omega,O1 rfl,by simp [Env.get,O2.at];rfl⟩
 rintro n env s ⟨i,hi,rfl,hall,hg,hE⟩
 by_cases c3:i<x.nums.length
 ·have c3':((i:Int)<(x.nums.length:Int))=True:=eq_true (by omega)
  have hs:=a1X c3 hx.nl
  have hidx:=FI.idx hx.n c3 (k:=.i64)
  by_cases d1:x.nums[i]<0
  ·try refine zW (aN hE (aN hg (aN o1 (aN o2 (aN o3 (aN hlen (aN c3' (aN hidx d1)))))))) ?_
   exact ⟨.inr trivial,_,rR,_,rfl,by simp⟩
  ·by_cases d2:m<x.nums[i]
   ·try refine zW (aN hE (aN hg (aN o1 (aN o2 (aN o3 (aN hlen (aN c3' (aN hidx (aN d1 d2))))))))) ?_
    exact ⟨.inr trivial,_,rR,_,rfl,by simp⟩
   ·try refine zW (aN hE (aN hg (aN o1 (aN o2 (aN o3 (aN hlen (aN c3' (aN hidx (aN d1 (aN d2 hs)))))))))) ?_
    refine ⟨x.nums.length-(i+1),by omega,i+1,by omega,rfl,fun j hj hji=>?_,hg,(rG hE)⟩
    by_cases e:j=i
    ·subst e;omega
    ·exact hall j hj (by omega)
 ·have c3':((i:Int)<(x.nums.length:Int))=False:=eq_false (by omega)
  try refine zW (aN hE (aN hg (aN o1 (aN o2 (aN o3 (aN hlen c3')))))) ?_
  refine ⟨.inr trivial,_,rR,_,rfl,fun h=>⟨by simpa using h,fun n hn=>?_⟩⟩
  obtain ⟨j,hj,rfl⟩:=List.getElem_of_mem hn
  exact hall j hj (by omega)
def X6 (t:List Nd) (x:Nd):Prop:=∀k∈x.kids,0<=k/\k<(t.length:Int)
theorem a8e {d:D} {t:List Nd} {x:Nd} (hT:N2 d t) (hx:x.Ok) (hk:X6 t x) {f:Nat} {a b:Int}:P4 92 [d,.agg x.row,.int .i64 (f:Int),.int .i64 a,.int .i64 b] fun r=>r=true->∀i,f<=i->i<x.kids.length->a<=(nd t (x.kid i)).kind/\(nd t (x.kid i)).kind<=b:=by
 refine R7 ?_
 have o1:=FL.one hx.w
 have o2:=FL.one hx.n
 have o3:=FL.one hx.k
 have hlen:=FI.len hx.k
 have hz:=hx.fz
 unfold Nd.row
 refine M3 (vf:=a7O) rfl ?_
 unfold a7O;refine zE ?_
 try refine zW (aN o1 (aN o2 o3)) ?_
 refine U2 (Q:=M9 0 _) (fun n env s=>∃i:Nat,f<=i/\n=x.kids.length-i/\(∀j,f<=j->j<i->j<x.kids.length->a<=(nd t (x.kid j)).kind/\(nd t (x.kid j)).kind<=b)/\s.get 0=some (.cells [.int .i64 x.kind,x.dw,x.dn,x.dk,.int .i64 x.pos])/\(env.get 0=d/\env.get 3=.int .i64 a/\env.get 4=.int .i64 b/\env.get 6=.ptr 0 0/\env.get 11=.int .i64 (i:Int))) ?_ (x.kids.length-f) _ _ ⟨f,by omega,rfl,fun j _ h=>by omega,O1 rfl,by simp [Env.get,O2.at];rfl⟩
 rintro n env s ⟨i,hi,rfl,hall,hg,hE⟩
 by_cases c3:i<x.kids.length
 ·have c3':((i:Int)<(x.kids.length:Int))=True:=eq_true (by omega)
  have hs:=a1X c3 hx.kl
  have hki:=hk _ (List.getElem_mem c3)
  have h1:=a76 hT hx c3 hki.1 hki.2
  unfold Nd.row at h1
  have h2:=a6N (k:=(nd t (x.kid i)).kind) (a:=a) (b:=b)
  cases hr:inR (nd t (x.kid i)).kind a b
  ·rw [hr] at h2
   repeat first
   |(apply t4 h1 rfl;(focus (simp only [Env.evL,Env.ev,Env.get,Nat.reduceEqDiff,↓reduceIte,hE]));(focus exact fz3 hT.fz hz t2))
   |(apply t4 h2 rfl;(focus (simp only [Env.evL,Env.ev,Env.get,Nat.reduceEqDiff,↓reduceIte,hE]));(focus rfl))
   |refine zW (aN hE (aN hg (aN o1 (aN o2 (aN o3 (aN hlen c3')))))) ?_
   exact ⟨.inr trivial,_,rR,_,rfl,by simp⟩
  ·rw [hr] at h2
   repeat first
   |(apply t4 h1 rfl;(focus (simp only [Env.evL,Env.ev,Env.get,Nat.reduceEqDiff,↓reduceIte,hE]));(focus exact fz3 hT.fz hz t2))
   |(apply t4 h2 rfl;(focus (simp only [Env.evL,Env.ev,Env.get,Nat.reduceEqDiff,↓reduceIte,hE]));(focus rfl))
   |refine zW (aN hE (aN hg (aN o1 (aN o2 (aN o3 (aN hlen (aN c3' hs))))))) ?_
   refine ⟨x.kids.length-(i+1),by omega,i+1,by omega,rfl,fun j h1 h2 h3=>?_,hg,(rG hE)⟩
   by_cases e:j=i
   ·subst e;exact a9M.1 hr
   ·exact hall j h1 (by omega) h3
 ·have c3':((i:Int)<(x.kids.length:Int))=False:=eq_false (by omega)
  try refine zW (aN hE (aN hg (aN o1 (aN o2 (aN o3 (aN hlen c3')))))) ?_
  exact ⟨.inr trivial,_,rR,_,rfl,fun _ j h1 h2=>hall j h1 (by omega) h2⟩
end Go.Proofs.YtnjlhebkhjcagaaGreat
namespace Go.Proofs.YtnjlhebkhjcagaaGreat
open Go.V
set_option maxRecDepth 100000
set_option maxHeartbeats 4000000
theorem a16 {d:D} {t:List Nd} {x:Nd} (hT:N2 d t) (hx:x.Ok) (hk:X6 t x) {f l m:Nat} (hf:f<=2) (hl:l<=1) (hm:m<=800):P4 95 [d,.agg x.row,.int .i64 (f:Int),.int .i64 (l:Int),.int .i64 (m:Int)] fun r=>r=true->f+l<=x.kids.length/\x.kids.length<=f+m/\∀i,i<x.kids.length->(i<f->17<=(nd t (x.kid i)).kind/\(nd t (x.kid i)).kind<=22)/\(f<=i->(nd t (x.kid i)).kind=16):=by
 refine R7 ?_
 have o1:=FL.one hx.w
 have o2:=FL.one hx.n
 have o3:=FL.one hx.k
 have hlen:=FI.len hx.k
 have hz:=hx.fz
 have e1:IntKind.i64.wrap ((f:Int)+(l:Int))=((f+l:Nat):Int):=by rw [P1 (by omega) (by omega)];omega
 have e2:IntKind.i64.wrap ((f:Int)+(m:Int))=((f+m:Nat):Int):=by rw [P1 (by omega) (by omega)];omega
 unfold Nd.row
 refine M3 (vf:=a7q) rfl ?_
 unfold a7q;refine zE ?_
 try refine zW (aN o1 (aN o2 (aN o3 hlen))) ?_
 refine U2 (Q:=M9 0 _) (fun n env s=>∃i:Nat,i<=x.kids.length/\n=x.kids.length-i/\(∀j,j<i->(j<f->17<=(nd t (x.kid j)).kind/\(nd t (x.kid j)).kind<=22)/\(f<=j->(nd t (x.kid j)).kind=16))/\s.get 0=some (.cells [.int .i64 x.kind,x.dw,x.dn,x.dk,.int .i64 x.pos])/\(env.get 0=d/\env.get 2=.int .i64 (f:Int)/\env.get 3=.int .i64 (l:Int)/\env.get 4=.int .i64 (m:Int)/\env.get 6=.ptr 0 0/\env.get 11=.int .i64 (x.kids.length:Int)/\env.get 12=.int .i64 (i:Int))) ?_ x.kids.length _ _ ⟨0,by omega,rfl,fun j h=>by omega,O1 rfl,by simp [Env.get,O2.at];rfl⟩
 rintro n env s ⟨i,hi,rfl,hall,hg,hE⟩
 by_cases c3:i<x.kids.length
 ·have c3':((i:Int)<(x.kids.length:Int))=True:=eq_true (by omega)
  have hs:=a1X c3 hx.kl
  have hki:=hk _ (List.getElem_mem c3)
  have h1:=a76 hT hx c3 hki.1 hki.2
  unfold Nd.row at h1
  have h2:=a6N (k:=(nd t (x.kid i)).kind) (a:=17) (b:=22)
  by_cases c4:i<f
  ·have c4':((i:Int)<(f:Int))=True:=eq_true (by omega)
   have c5':((f:Int)<=(i:Int))=False:=eq_false (by omega)
   cases hr:inR (nd t (x.kid i)).kind 17 22
   ·rw [hr] at h2
    repeat first
    |(apply t4 h1 rfl;(focus (simp only [Env.evL,Env.ev,Env.get,Nat.reduceEqDiff,↓reduceIte,hE]));(focus exact fz3 hT.fz hz t2))
    |(apply t4 h2 rfl;(focus (simp only [Env.evL,Env.ev,Env.get,Nat.reduceEqDiff,↓reduceIte,hE]));(focus rfl))
    |refine zW (aN hE (aN hg (aN o1 (aN o2 (aN o3 (aN hlen (aN c3' (aN c4' c5')))))))) ?_
    exact ⟨.inr trivial,_,rR,_,rfl,by simp⟩
   ·rw [hr] at h2
    repeat first
    |(apply t4 h1 rfl;(focus (simp only [Env.evL,Env.ev,Env.get,Nat.reduceEqDiff,↓reduceIte,hE]));(focus exact fz3 hT.fz hz t2))
    |(apply t4 h2 rfl;(focus (simp only [Env.evL,Env.ev,Env.get,Nat.reduceEqDiff,↓reduceIte,hE]));(focus rfl))
    |refine zW (aN hE (aN hg (aN o1 (aN o2 (aN o3 (aN hlen (aN c3' (aN c4' (aN c5' hs))))))))) ?_
    refine ⟨x.kids.length-(i+1),by omega,i+1,by omega,rfl,fun j h=>?_,hg,(rG hE)⟩
    by_cases e:j=i
    ·subst e;exact ⟨fun _=>a9M.1 hr,fun h=>by omega⟩
    ·exact hall j (by omega)
  ·have c4':((i:Int)<(f:Int))=False:=eq_false (by omega)
   have c5':((f:Int)<=(i:Int))=True:=eq_true (by omega)
   by_cases c6:(nd t (x.kid i)).kind=16
   ·have c6':((nd t (x.kid i)).kind != 16)=false:=by rw [c6];rfl
    repeat first
    |(apply t4 h1 rfl;(focus (simp only [Env.evL,Env.ev,Env.get,Nat.reduceEqDiff,↓reduceIte,hE]));(focus exact fz3 hT.fz hz t2))
    |(apply t4 h2 rfl;(focus (simp only [Env.evL,Env.ev,Env.get,Nat.reduceEqDiff,↓reduceIte,hE]));(focus rfl))
    |refine zW (aN hE (aN hg (aN o1 (aN o2 (aN o3 (aN hlen (aN c3' (aN c4' (aN c5' (aN c6' hs)))))))))) ?_
    refine ⟨x.kids.length-(i+1),by omega,i+1,by omega,rfl,fun j h=>?_,hg,(rG hE)⟩
    by_cases e:j=i
    ·subst e;exact ⟨fun h=>by omega,fun _=>c6⟩
    ·exact hall j (by omega)
   ·have c6':((nd t (x.kid i)).kind != 16)=true:=by rw [bne_iff_ne];exact c6
    repeat first
    |(apply t4 h1 rfl;(focus (simp only [Env.evL,Env.ev,Env.get,Nat.reduceEqDiff,↓reduceIte,hE]));(focus exact fz3 hT.fz hz t2))
    |(apply t4 h2 rfl;(focus (simp only [Env.evL,Env.ev,Env.get,Nat.reduceEqDiff,↓reduceIte,hE]));(focus rfl))
    |refine zW (aN hE (aN hg (aN o1 (aN o2 (aN o3 (aN hlen (aN c3' (aN c4' (aN c5' c6'))))))))) ?_
    exact ⟨.inr trivial,_,rR,_,rfl,by simp⟩
 ·have c3':((i:Int)<(x.kids.length:Int))=False:=eq_false (by omega)
  by_cases c7:f+l<=x.kids.length
  ·have c7':(((f+l:Nat):Int)<=(x.kids.length:Int))=True:=eq_true (by omega)
   by_cases c8:x.kids.length<=f+m
   ·have c8':((x.kids.length:Int)<=((f+m:Nat):Int))=True:=eq_true (by omega)
    try refine zW (aN hE (aN hg (aN o1 (aN o2 (aN o3 (aN hlen (aN c3' (aN e1 (aN e2 (aN c7' c8')))))))))) ?_
    exact ⟨.inr trivial,_,rR,_,rfl,fun _=>⟨c7,c8,fun j h=>hall j (by omega)⟩⟩
   ·have c8':((x.kids.length:Int)<=((f+m:Nat):Int))=False:=eq_false (by omega)
    try refine zW (aN hE (aN hg (aN o1 (aN o2 (aN o3 (aN hlen (aN c3' (aN e1 (aN e2 (aN c7' c8')))))))))) ?_
    exact ⟨.inr trivial,_,rR,_,rfl,by simp⟩
  ·have c7':(((f+l:Nat):Int)<=(x.kids.length:Int))=False:=eq_false (by omega)
   try refine zW (aN hE (aN hg (aN o1 (aN o2 (aN o3 (aN hlen (aN c3' (aN e1 (aN e2 c7'))))))))) ?_
   exact ⟨.inr trivial,_,rR,_,rfl,by simp⟩
theorem c3w {d:D} {t:List Nd} {x:Nd} (hT:N2 d t) (hx:x.Ok) (hk:X6 t x) (hK:x.kind=0):P4 61 [d,.agg x.row] fun b=>b=true->(x.words.length:Int)=0/\((x.nums.length:Int)=0/\∀n∈x.nums,0<=n/\n<=0)/\∀i,0<=i->i<x.kids.length->1<=(nd t (x.kid i)).kind/\(nd t (x.kid i)).kind<=5:=by
 refine R7 ?_
 have o1:=FL.one hx.w
 have o2:=FL.one hx.n
 have o3:=FL.one hx.k
 have hlen:=FI.len hx.k
 have hz:=hx.fz
 have hrow:x.row=[.int .i64 0,x.dw,x.dn,x.dk,.int .i64 x.pos]:=by unfold Nd.row;rw [hK]
 obtain ⟨b1,h1,p1⟩:=Z8 hx (c:=0)
 obtain ⟨b2,h2,p2⟩:=a0e hx (c:=0) (m:=0)
 obtain ⟨b3,h3,p3⟩:=a8e hT hx hk (f:=0) (a:=1) (b:=5)
 rw [hrow] at h1 h2 hz h3 ⊢
 cases b1<;>cases b2
 all_goals
  refine M3 (vf:=N7) rfl ?_
  unfold N7;refine zE ?_
  repeat first
  |(apply t4 h1 rfl rfl (fz2 hz t2))
  |(apply t4 h2 rfl rfl (fz3 hz t2 t2))
  |(apply t4 h3 rfl rfl (fz5 hT.fz hz t2 t2 t2))
  |refine zW (aN o1 (aN o2 (aN o3 hlen))) ?_
  first
   | exact ⟨.inr trivial,_,rR,_,rfl,fun h=>⟨p1 rfl,p2 rfl,p3 h⟩⟩
   | exact ⟨.inr trivial,_,rR,_,rfl,by simp⟩
theorem b9T {d:D} {t:List Nd} {x:Nd} (hT:N2 d t) (hx:x.Ok) (hk:X6 t x) (hK:x.kind=4):P4 61 [d,.agg x.row] fun b=>b=true->(x.words.length:Int)=0/\((x.nums.length:Int)=0/\∀n∈x.nums,0<=n/\n<=0)/\1<=x.kids.length/\x.kids.length<=1/\∀i,i<x.kids.length->(i<1->17<=(nd t (x.kid i)).kind/\(nd t (x.kid i)).kind<=22)/\(1<=i->(nd t (x.kid i)).kind=16):=by
 refine R7 ?_
 have o1:=FL.one hx.w
 have o2:=FL.one hx.n
 have o3:=FL.one hx.k
 have hlen:=FI.len hx.k
 have hz:=hx.fz
 have hrow:x.row=[.int .i64 4,x.dw,x.dn,x.dk,.int .i64 x.pos]:=by unfold Nd.row;rw [hK]
 obtain ⟨b1,h1,p1⟩:=Z8 hx (c:=0)
 obtain ⟨b2,h2,p2⟩:=a0e hx (c:=0) (m:=0)
 obtain ⟨b3,h3,p3⟩:=a16 hT hx hk (f:=1) (l:=0) (m:=0) (by omega) (by omega) (by omega)
 rw [hrow] at h1 h2 hz h3 ⊢
 cases b1<;>cases b2
 all_goals
  refine M3 (vf:=N7) rfl ?_
  unfold N7;refine zE ?_
  repeat first
  |(apply t4 h1 rfl rfl (fz2 hz t2))
  |(apply t4 h2 rfl rfl (fz3 hz t2 t2))
  |(apply t4 h3 rfl rfl (fz5 hT.fz hz t2 t2 t2))
  |refine zW (aN o1 (aN o2 (aN o3 hlen))) ?_
  first
   | exact ⟨.inr trivial,_,rR,_,rfl,fun h=>⟨p1 rfl,p2 rfl,p3 h⟩⟩
   | exact ⟨.inr trivial,_,rR,_,rfl,by simp⟩
theorem b4H {d:D} {t:List Nd} {x:Nd} (hT:N2 d t) (hx:x.Ok) (hk:X6 t x) (hK:x.kind=5):P4 61 [d,.agg x.row] fun b=>b=true->(x.words.length:Int)=0/\((x.nums.length:Int)=0/\∀n∈x.nums,0<=n/\n<=0)/\x.kids=[]:=by
 refine R7 ?_
 have o1:=FL.one hx.w
 have o2:=FL.one hx.n
 have o3:=FL.one hx.k
 have hlen:=FI.len hx.k
 have hz:=hx.fz
 have hrow:x.row=[.int .i64 5,x.dw,x.dn,x.dk,.int .i64 x.pos]:=by unfold Nd.row;rw [hK]
 obtain ⟨b1,h1,p1⟩:=Z8 hx (c:=0)
 obtain ⟨b2,h2,p2⟩:=a0e hx (c:=0) (m:=0)
 rw [hrow] at h1 h2 hz ⊢
 have hz0:((x.kids.length:Int)==0)=decide (x.kids=[]):=by
  rw [Bool.eq_iff_iff,beq_iff_eq,decide_eq_true_eq,<- List.length_eq_zero_iff];omega
 cases b1<;>cases b2
 all_goals
  refine M3 (vf:=N7) rfl ?_
  unfold N7;refine zE ?_
  repeat first
  |(apply t4 h1 rfl rfl (fz2 hz t2))
  |(apply t4 h2 rfl rfl (fz3 hz t2 t2))
  |refine zW (aN o1 (aN o2 (aN o3 (aN hlen hz0)))) ?_
  first
   | exact ⟨.inr trivial,_,rR,_,rfl,fun h=>⟨p1 rfl,p2 rfl,of_decide_eq_true h⟩⟩
   | exact ⟨.inr trivial,_,rR,_,rfl,by simp⟩
theorem c0O {d:D} {t:List Nd} {x:Nd} (hT:N2 d t) (hx:x.Ok) (hk:X6 t x) (hK:x.kind=6):P4 61 [d,.agg x.row] fun b=>b=true->(x.words.length:Int)=1/\((x.nums.length:Int)=0/\∀n∈x.nums,0<=n/\n<=0)/\1<=x.kids.length/\x.kids.length<=1/\∀i,i<x.kids.length->(i<1->17<=(nd t (x.kid i)).kind/\(nd t (x.kid i)).kind<=22)/\(1<=i->(nd t (x.kid i)).kind=16):=by
 refine R7 ?_
 have o1:=FL.one hx.w
 have o2:=FL.one hx.n
 have o3:=FL.one hx.k
 have hlen:=FI.len hx.k
 have hz:=hx.fz
 have hrow:x.row=[.int .i64 6,x.dw,x.dn,x.dk,.int .i64 x.pos]:=by unfold Nd.row;rw [hK]
 obtain ⟨b1,h1,p1⟩:=Z8 hx (c:=1)
 obtain ⟨b2,h2,p2⟩:=a0e hx (c:=0) (m:=0)
 obtain ⟨b3,h3,p3⟩:=a16 hT hx hk (f:=1) (l:=0) (m:=0) (by omega) (by omega) (by omega)
 rw [hrow] at h1 h2 hz h3 ⊢
 cases b1<;>cases b2
 all_goals
  refine M3 (vf:=N7) rfl ?_
  unfold N7;refine zE ?_
  repeat first
  |(apply t4 h1 rfl rfl (fz2 hz t2))
  |(apply t4 h2 rfl rfl (fz3 hz t2 t2))
  |(apply t4 h3 rfl rfl (fz5 hT.fz hz t2 t2 t2))
  |refine zW (aN o1 (aN o2 (aN o3 hlen))) ?_
  first
   | exact ⟨.inr trivial,_,rR,_,rfl,fun h=>⟨p1 rfl,p2 rfl,p3 h⟩⟩
   | exact ⟨.inr trivial,_,rR,_,rfl,by simp⟩
theorem c3l {d:D} {t:List Nd} {x:Nd} (hT:N2 d t) (hx:x.Ok) (hk:X6 t x) (hK:x.kind=7):P4 61 [d,.agg x.row] fun b=>b=true->(x.words.length:Int)=1/\((x.nums.length:Int)=0/\∀n∈x.nums,0<=n/\n<=0)/\1<=x.kids.length/\x.kids.length<=1/\∀i,i<x.kids.length->(i<1->17<=(nd t (x.kid i)).kind/\(nd t (x.kid i)).kind<=22)/\(1<=i->(nd t (x.kid i)).kind=16):=by
 refine R7 ?_
 have o1:=FL.one hx.w
 have o2:=FL.one hx.n
 have o3:=FL.one hx.k
 have hlen:=FI.len hx.k
 have hz:=hx.fz
 have hrow:x.row=[.int .i64 7,x.dw,x.dn,x.dk,.int .i64 x.pos]:=by unfold Nd.row;rw [hK]
 obtain ⟨b1,h1,p1⟩:=Z8 hx (c:=1)
 obtain ⟨b2,h2,p2⟩:=a0e hx (c:=0) (m:=0)
 obtain ⟨b3,h3,p3⟩:=a16 hT hx hk (f:=1) (l:=0) (m:=0) (by omega) (by omega) (by omega)
 rw [hrow] at h1 h2 hz h3 ⊢
 cases b1<;>cases b2
 all_goals
  refine M3 (vf:=N7) rfl ?_
  unfold N7;refine zE ?_
  repeat first
  |(apply t4 h1 rfl rfl (fz2 hz t2))
  |(apply t4 h2 rfl rfl (fz3 hz t2 t2))
  |(apply t4 h3 rfl rfl (fz5 hT.fz hz t2 t2 t2))
  |refine zW (aN o1 (aN o2 (aN o3 hlen))) ?_
  first
   | exact ⟨.inr trivial,_,rR,_,rfl,fun h=>⟨p1 rfl,p2 rfl,p3 h⟩⟩
   | exact ⟨.inr trivial,_,rR,_,rfl,by simp⟩
theorem b8T {d:D} {t:List Nd} {x:Nd} (hT:N2 d t) (hx:x.Ok) (hk:X6 t x) (hK:x.kind=8):P4 61 [d,.agg x.row] fun b=>b=true->(x.words.length:Int)=2/\((x.nums.length:Int)=1/\∀n∈x.nums,0<=n/\n<=1)/\x.kids=[]:=by
 refine R7 ?_
 have o1:=FL.one hx.w
 have o2:=FL.one hx.n
 have o3:=FL.one hx.k
 have hlen:=FI.len hx.k
 have hz:=hx.fz
 have hrow:x.row=[.int .i64 8,x.dw,x.dn,x.dk,.int .i64 x.pos]:=by unfold Nd.row;rw [hK]
 obtain ⟨b1,h1,p1⟩:=Z8 hx (c:=2)
 obtain ⟨b2,h2,p2⟩:=a0e hx (c:=1) (m:=1)
 rw [hrow] at h1 h2 hz ⊢
 have hz0:((x.kids.length:Int)==0)=decide (x.kids=[]):=by
  rw [Bool.eq_iff_iff,beq_iff_eq,decide_eq_true_eq,<- List.length_eq_zero_iff];omega
 cases b1<;>cases b2
 all_goals
  refine M3 (vf:=N7) rfl ?_
  unfold N7;refine zE ?_
  repeat first
  |(apply t4 h1 rfl rfl (fz2 hz t2))
  |(apply t4 h2 rfl rfl (fz3 hz t2 t2))
  |refine zW (aN o1 (aN o2 (aN o3 (aN hlen hz0)))) ?_
  first
   | exact ⟨.inr trivial,_,rR,_,rfl,fun h=>⟨p1 rfl,p2 rfl,of_decide_eq_true h⟩⟩
   | exact ⟨.inr trivial,_,rR,_,rfl,by simp⟩
theorem c1C {d:D} {t:List Nd} {x:Nd} (hT:N2 d t) (hx:x.Ok) (hk:X6 t x) (hK:x.kind=9):P4 61 [d,.agg x.row] fun b=>b=true->(x.words.length:Int)=0/\((x.nums.length:Int)=1/\∀n∈x.nums,0<=n/\n<=1)/\1<=x.kids.length/\x.kids.length<=1/\∀i,i<x.kids.length->(i<1->17<=(nd t (x.kid i)).kind/\(nd t (x.kid i)).kind<=22)/\(1<=i->(nd t (x.kid i)).kind=16):=by
 refine R7 ?_
 have o1:=FL.one hx.w
 have o2:=FL.one hx.n
 have o3:=FL.one hx.k
 have hlen:=FI.len hx.k
 have hz:=hx.fz
 have hrow:x.row=[.int .i64 9,x.dw,x.dn,x.dk,.int .i64 x.pos]:=by unfold Nd.row;rw [hK]
 obtain ⟨b1,h1,p1⟩:=Z8 hx (c:=0)
 obtain ⟨b2,h2,p2⟩:=a0e hx (c:=1) (m:=1)
 obtain ⟨b3,h3,p3⟩:=a16 hT hx hk (f:=1) (l:=0) (m:=0) (by omega) (by omega) (by omega)
 rw [hrow] at h1 h2 hz h3 ⊢
 cases b1<;>cases b2
 all_goals
  refine M3 (vf:=N7) rfl ?_
  unfold N7;refine zE ?_
  repeat first
  |(apply t4 h1 rfl rfl (fz2 hz t2))
  |(apply t4 h2 rfl rfl (fz3 hz t2 t2))
  |(apply t4 h3 rfl rfl (fz5 hT.fz hz t2 t2 t2))
  |refine zW (aN o1 (aN o2 (aN o3 hlen))) ?_
  first
   | exact ⟨.inr trivial,_,rR,_,rfl,fun h=>⟨p1 rfl,p2 rfl,p3 h⟩⟩
   | exact ⟨.inr trivial,_,rR,_,rfl,by simp⟩
theorem c1L {d:D} {t:List Nd} {x:Nd} (hT:N2 d t) (hx:x.Ok) (hk:X6 t x) (hK:x.kind=10):P4 61 [d,.agg x.row] fun b=>b=true->(x.words.length:Int)=0/\((x.nums.length:Int)=1/\∀n∈x.nums,0<=n/\n<=1)/\1<=x.kids.length/\x.kids.length<=800/\∀i,i<x.kids.length->(i<0->17<=(nd t (x.kid i)).kind/\(nd t (x.kid i)).kind<=22)/\(0<=i->(nd t (x.kid i)).kind=16):=by
 refine R7 ?_
 have o1:=FL.one hx.w
 have o2:=FL.one hx.n
 have o3:=FL.one hx.k
 have hlen:=FI.len hx.k
 have hz:=hx.fz
 have hrow:x.row=[.int .i64 10,x.dw,x.dn,x.dk,.int .i64 x.pos]:=by unfold Nd.row;rw [hK]
 obtain ⟨b1,h1,p1⟩:=Z8 hx (c:=0)
 obtain ⟨b2,h2,p2⟩:=a0e hx (c:=1) (m:=1)
 obtain ⟨b3,h3,p3⟩:=a16 hT hx hk (f:=0) (l:=1) (m:=800) (by omega) (by omega) (by omega)
 rw [hrow] at h1 h2 hz h3 ⊢
 cases b1<;>cases b2
 all_goals
  refine M3 (vf:=N7) rfl ?_
  unfold N7;refine zE ?_
  repeat first
  |(apply t4 h1 rfl rfl (fz2 hz t2))
  |(apply t4 h2 rfl rfl (fz3 hz t2 t2))
  |(apply t4 h3 rfl rfl (fz5 hT.fz hz t2 t2 t2))
  |refine zW (aN o1 (aN o2 (aN o3 hlen))) ?_
  first
   | exact ⟨.inr trivial,_,rR,_,rfl,fun h=>⟨p1 rfl,p2 rfl,p3 h⟩⟩
   | exact ⟨.inr trivial,_,rR,_,rfl,by simp⟩
theorem c0H {d:D} {t:List Nd} {x:Nd} (hT:N2 d t) (hx:x.Ok) (hk:X6 t x) (hK:x.kind=11):P4 61 [d,.agg x.row] fun b=>b=true->(x.words.length:Int)=0/\((x.nums.length:Int)=0/\∀n∈x.nums,0<=n/\n<=0)/\2<=x.kids.length/\x.kids.length<=3/\∀i,i<x.kids.length->(i<1->17<=(nd t (x.kid i)).kind/\(nd t (x.kid i)).kind<=22)/\(1<=i->(nd t (x.kid i)).kind=16):=by
 refine R7 ?_
 have o1:=FL.one hx.w
 have o2:=FL.one hx.n
 have o3:=FL.one hx.k
 have hlen:=FI.len hx.k
 have hz:=hx.fz
 have hrow:x.row=[.int .i64 11,x.dw,x.dn,x.dk,.int .i64 x.pos]:=by unfold Nd.row;rw [hK]
 obtain ⟨b1,h1,p1⟩:=Z8 hx (c:=0)
 obtain ⟨b2,h2,p2⟩:=a0e hx (c:=0) (m:=0)
 obtain ⟨b3,h3,p3⟩:=a16 hT hx hk (f:=1) (l:=1) (m:=2) (by omega) (by omega) (by omega)
 rw [hrow] at h1 h2 hz h3 ⊢
 cases b1<;>cases b2
 all_goals
  refine M3 (vf:=N7) rfl ?_
  unfold N7;refine zE ?_
  repeat first
  |(apply t4 h1 rfl rfl (fz2 hz t2))
  |(apply t4 h2 rfl rfl (fz3 hz t2 t2))
  |(apply t4 h3 rfl rfl (fz5 hT.fz hz t2 t2 t2))
  |refine zW (aN o1 (aN o2 (aN o3 hlen))) ?_
  first
   | exact ⟨.inr trivial,_,rR,_,rfl,fun h=>⟨p1 rfl,p2 rfl,p3 h⟩⟩
   | exact ⟨.inr trivial,_,rR,_,rfl,by simp⟩
theorem b6m {d:D} {t:List Nd} {x:Nd} (hT:N2 d t) (hx:x.Ok) (hk:X6 t x) (hK:x.kind=12):P4 61 [d,.agg x.row] fun b=>b=true->(x.words.length:Int)=0/\((x.nums.length:Int)=0/\∀n∈x.nums,0<=n/\n<=0)/\2<=x.kids.length/\x.kids.length<=2/\∀i,i<x.kids.length->(i<1->17<=(nd t (x.kid i)).kind/\(nd t (x.kid i)).kind<=22)/\(1<=i->(nd t (x.kid i)).kind=16):=by
 refine R7 ?_
 have o1:=FL.one hx.w
 have o2:=FL.one hx.n
 have o3:=FL.one hx.k
 have hlen:=FI.len hx.k
 have hz:=hx.fz
 have hrow:x.row=[.int .i64 12,x.dw,x.dn,x.dk,.int .i64 x.pos]:=by unfold Nd.row;rw [hK]
 obtain ⟨b1,h1,p1⟩:=Z8 hx (c:=0)
 obtain ⟨b2,h2,p2⟩:=a0e hx (c:=0) (m:=0)
 obtain ⟨b3,h3,p3⟩:=a16 hT hx hk (f:=1) (l:=1) (m:=1) (by omega) (by omega) (by omega)
 rw [hrow] at h1 h2 hz h3 ⊢
 cases b1<;>cases b2
 all_goals
  refine M3 (vf:=N7) rfl ?_
  unfold N7;refine zE ?_
  repeat first
  |(apply t4 h1 rfl rfl (fz2 hz t2))
  |(apply t4 h2 rfl rfl (fz3 hz t2 t2))
  |(apply t4 h3 rfl rfl (fz5 hT.fz hz t2 t2 t2))
  |refine zW (aN o1 (aN o2 (aN o3 hlen))) ?_
  first
   | exact ⟨.inr trivial,_,rR,_,rfl,fun h=>⟨p1 rfl,p2 rfl,p3 h⟩⟩
   | exact ⟨.inr trivial,_,rR,_,rfl,by simp⟩
theorem c1T {d:D} {t:List Nd} {x:Nd} (hT:N2 d t) (hx:x.Ok) (hk:X6 t x) (hK:x.kind=13):P4 61 [d,.agg x.row] fun b=>b=true->(x.words.length:Int)=0/\((x.nums.length:Int)=0/\∀n∈x.nums,0<=n/\n<=0)/\1<=x.kids.length/\x.kids.length<=1/\∀i,i<x.kids.length->(i<0->17<=(nd t (x.kid i)).kind/\(nd t (x.kid i)).kind<=22)/\(0<=i->(nd t (x.kid i)).kind=16):=by
 refine R7 ?_
 have o1:=FL.one hx.w
 have o2:=FL.one hx.n
 have o3:=FL.one hx.k
 have hlen:=FI.len hx.k
 have hz:=hx.fz
 have hrow:x.row=[.int .i64 13,x.dw,x.dn,x.dk,.int .i64 x.pos]:=by unfold Nd.row;rw [hK]
 obtain ⟨b1,h1,p1⟩:=Z8 hx (c:=0)
 obtain ⟨b2,h2,p2⟩:=a0e hx (c:=0) (m:=0)
 obtain ⟨b3,h3,p3⟩:=a16 hT hx hk (f:=0) (l:=1) (m:=1) (by omega) (by omega) (by omega)
 rw [hrow] at h1 h2 hz h3 ⊢
 cases b1<;>cases b2
 all_goals
  refine M3 (vf:=N7) rfl ?_
  unfold N7;refine zE ?_
  repeat first
  |(apply t4 h1 rfl rfl (fz2 hz t2))
  |(apply t4 h2 rfl rfl (fz3 hz t2 t2))
  |(apply t4 h3 rfl rfl (fz5 hT.fz hz t2 t2 t2))
  |refine zW (aN o1 (aN o2 (aN o3 hlen))) ?_
  first
   | exact ⟨.inr trivial,_,rR,_,rfl,fun h=>⟨p1 rfl,p2 rfl,p3 h⟩⟩
   | exact ⟨.inr trivial,_,rR,_,rfl,by simp⟩
theorem c3J {d:D} {t:List Nd} {x:Nd} (hT:N2 d t) (hx:x.Ok) (hk:X6 t x) (hK:x.kind=14):P4 61 [d,.agg x.row] fun b=>b=true->(x.words.length:Int)=0/\((x.nums.length:Int)=0/\∀n∈x.nums,0<=n/\n<=0)/\x.kids=[]:=by
 refine R7 ?_
 have o1:=FL.one hx.w
 have o2:=FL.one hx.n
 have o3:=FL.one hx.k
 have hlen:=FI.len hx.k
 have hz:=hx.fz
 have hrow:x.row=[.int .i64 14,x.dw,x.dn,x.dk,.int .i64 x.pos]:=by unfold Nd.row;rw [hK]
 obtain ⟨b1,h1,p1⟩:=Z8 hx (c:=0)
 obtain ⟨b2,h2,p2⟩:=a0e hx (c:=0) (m:=0)
 rw [hrow] at h1 h2 hz ⊢
 have hz0:((x.kids.length:Int)==0)=decide (x.kids=[]):=by
  rw [Bool.eq_iff_iff,beq_iff_eq,decide_eq_true_eq,<- List.length_eq_zero_iff];omega
 cases b1<;>cases b2
 all_goals
  refine M3 (vf:=N7) rfl ?_
  unfold N7;refine zE ?_
  repeat first
  |(apply t4 h1 rfl rfl (fz2 hz t2))
  |(apply t4 h2 rfl rfl (fz3 hz t2 t2))
  |refine zW (aN o1 (aN o2 (aN o3 (aN hlen hz0)))) ?_
  first
   | exact ⟨.inr trivial,_,rR,_,rfl,fun h=>⟨p1 rfl,p2 rfl,of_decide_eq_true h⟩⟩
   | exact ⟨.inr trivial,_,rR,_,rfl,by simp⟩
theorem c46 {d:D} {t:List Nd} {x:Nd} (hT:N2 d t) (hx:x.Ok) (hk:X6 t x) (hK:x.kind=15):P4 61 [d,.agg x.row] fun b=>b=true->(x.words.length:Int)=0/\((x.nums.length:Int)=0/\∀n∈x.nums,0<=n/\n<=0)/\x.kids=[]:=by
 refine R7 ?_
 have o1:=FL.one hx.w
 have o2:=FL.one hx.n
 have o3:=FL.one hx.k
 have hlen:=FI.len hx.k
 have hz:=hx.fz
 have hrow:x.row=[.int .i64 15,x.dw,x.dn,x.dk,.int .i64 x.pos]:=by unfold Nd.row;rw [hK]
 obtain ⟨b1,h1,p1⟩:=Z8 hx (c:=0)
 obtain ⟨b2,h2,p2⟩:=a0e hx (c:=0) (m:=0)
 rw [hrow] at h1 h2 hz ⊢
 have hz0:((x.kids.length:Int)==0)=decide (x.kids=[]):=by
  rw [Bool.eq_iff_iff,beq_iff_eq,decide_eq_true_eq,<- List.length_eq_zero_iff];omega
 cases b1<;>cases b2
 all_goals
  refine M3 (vf:=N7) rfl ?_
  unfold N7;refine zE ?_
  repeat first
  |(apply t4 h1 rfl rfl (fz2 hz t2))
  |(apply t4 h2 rfl rfl (fz3 hz t2 t2))
  |refine zW (aN o1 (aN o2 (aN o3 (aN hlen hz0)))) ?_
  first
   | exact ⟨.inr trivial,_,rR,_,rfl,fun h=>⟨p1 rfl,p2 rfl,of_decide_eq_true h⟩⟩
   | exact ⟨.inr trivial,_,rR,_,rfl,by simp⟩
theorem b4W {d:D} {t:List Nd} {x:Nd} (hT:N2 d t) (hx:x.Ok) (hk:X6 t x) (hK:x.kind=16):P4 61 [d,.agg x.row] fun b=>b=true->(x.words.length:Int)=0/\((x.nums.length:Int)=0/\∀n∈x.nums,0<=n/\n<=0)/\∀i,0<=i->i<x.kids.length->6<=(nd t (x.kid i)).kind/\(nd t (x.kid i)).kind<=15:=by
 refine R7 ?_
 have o1:=FL.one hx.w
 have o2:=FL.one hx.n
 have o3:=FL.one hx.k
 have hlen:=FI.len hx.k
 have hz:=hx.fz
 have hrow:x.row=[.int .i64 16,x.dw,x.dn,x.dk,.int .i64 x.pos]:=by unfold Nd.row;rw [hK]
 obtain ⟨b1,h1,p1⟩:=Z8 hx (c:=0)
 obtain ⟨b2,h2,p2⟩:=a0e hx (c:=0) (m:=0)
 obtain ⟨b3,h3,p3⟩:=a8e hT hx hk (f:=0) (a:=6) (b:=15)
 rw [hrow] at h1 h2 hz h3 ⊢
 cases b1<;>cases b2
 all_goals
  refine M3 (vf:=N7) rfl ?_
  unfold N7;refine zE ?_
  repeat first
  |(apply t4 h1 rfl rfl (fz2 hz t2))
  |(apply t4 h2 rfl rfl (fz3 hz t2 t2))
  |(apply t4 h3 rfl rfl (fz5 hT.fz hz t2 t2 t2))
  |refine zW (aN o1 (aN o2 (aN o3 hlen))) ?_
  first
   | exact ⟨.inr trivial,_,rR,_,rfl,fun h=>⟨p1 rfl,p2 rfl,p3 h⟩⟩
   | exact ⟨.inr trivial,_,rR,_,rfl,by simp⟩
theorem c3F {d:D} {t:List Nd} {x:Nd} (hT:N2 d t) (hx:x.Ok) (hk:X6 t x) (hK:x.kind=17):P4 61 [d,.agg x.row] fun b=>b=true->(x.words.length:Int)=0/\((x.nums.length:Int)=1/\∀n∈x.nums,0<=n/\n<=999999)/\x.kids=[]:=by
 refine R7 ?_
 have o1:=FL.one hx.w
 have o2:=FL.one hx.n
 have o3:=FL.one hx.k
 have hlen:=FI.len hx.k
 have hz:=hx.fz
 have hrow:x.row=[.int .i64 17,x.dw,x.dn,x.dk,.int .i64 x.pos]:=by unfold Nd.row;rw [hK]
 obtain ⟨b1,h1,p1⟩:=Z8 hx (c:=0)
 obtain ⟨b2,h2,p2⟩:=a0e hx (c:=1) (m:=999999)
 rw [hrow] at h1 h2 hz ⊢
 have hz0:((x.kids.length:Int)==0)=decide (x.kids=[]):=by
  rw [Bool.eq_iff_iff,beq_iff_eq,decide_eq_true_eq,<- List.length_eq_zero_iff];omega
 cases b1<;>cases b2
 all_goals
  refine M3 (vf:=N7) rfl ?_
  unfold N7;refine zE ?_
  repeat first
  |(apply t4 h1 rfl rfl (fz2 hz t2))
  |(apply t4 h2 rfl rfl (fz3 hz t2 t2))
  |refine zW (aN o1 (aN o2 (aN o3 (aN hlen hz0)))) ?_
  first
   | exact ⟨.inr trivial,_,rR,_,rfl,fun h=>⟨p1 rfl,p2 rfl,of_decide_eq_true h⟩⟩
   | exact ⟨.inr trivial,_,rR,_,rfl,by simp⟩
theorem b8W {d:D} {t:List Nd} {x:Nd} (hT:N2 d t) (hx:x.Ok) (hk:X6 t x) (hK:x.kind=18):P4 61 [d,.agg x.row] fun b=>b=true->(x.words.length:Int)=1/\((x.nums.length:Int)=0/\∀n∈x.nums,0<=n/\n<=0)/\x.kids=[]:=by
 refine R7 ?_
 have o1:=FL.one hx.w
 have o2:=FL.one hx.n
 have o3:=FL.one hx.k
 have hlen:=FI.len hx.k
 have hz:=hx.fz
 have hrow:x.row=[.int .i64 18,x.dw,x.dn,x.dk,.int .i64 x.pos]:=by unfold Nd.row;rw [hK]
 obtain ⟨b1,h1,p1⟩:=Z8 hx (c:=1)
 obtain ⟨b2,h2,p2⟩:=a0e hx (c:=0) (m:=0)
 rw [hrow] at h1 h2 hz ⊢
 have hz0:((x.kids.length:Int)==0)=decide (x.kids=[]):=by
  rw [Bool.eq_iff_iff,beq_iff_eq,decide_eq_true_eq,<- List.length_eq_zero_iff];omega
 cases b1<;>cases b2
 all_goals
  refine M3 (vf:=N7) rfl ?_
  unfold N7;refine zE ?_
  repeat first
  |(apply t4 h1 rfl rfl (fz2 hz t2))
  |(apply t4 h2 rfl rfl (fz3 hz t2 t2))
  |refine zW (aN o1 (aN o2 (aN o3 (aN hlen hz0)))) ?_
  first
   | exact ⟨.inr trivial,_,rR,_,rfl,fun h=>⟨p1 rfl,p2 rfl,of_decide_eq_true h⟩⟩
   | exact ⟨.inr trivial,_,rR,_,rfl,by simp⟩
theorem c21 {d:D} {t:List Nd} {x:Nd} (hT:N2 d t) (hx:x.Ok) (hk:X6 t x) (hK:x.kind=19):P4 61 [d,.agg x.row] fun b=>b=true->(x.words.length:Int)=1/\((x.nums.length:Int)=0/\∀n∈x.nums,0<=n/\n<=0)/\x.kids=[]:=by
 refine R7 ?_
 have o1:=FL.one hx.w
 have o2:=FL.one hx.n
 have o3:=FL.one hx.k
 have hlen:=FI.len hx.k
 have hz:=hx.fz
 have hrow:x.row=[.int .i64 19,x.dw,x.dn,x.dk,.int .i64 x.pos]:=by unfold Nd.row;rw [hK]
 obtain ⟨b1,h1,p1⟩:=Z8 hx (c:=1)
 obtain ⟨b2,h2,p2⟩:=a0e hx (c:=0) (m:=0)
 rw [hrow] at h1 h2 hz ⊢
 have hz0:((x.kids.length:Int)==0)=decide (x.kids=[]):=by
  rw [Bool.eq_iff_iff,beq_iff_eq,decide_eq_true_eq,<- List.length_eq_zero_iff];omega
 cases b1<;>cases b2
 all_goals
  refine M3 (vf:=N7) rfl ?_
  unfold N7;refine zE ?_
  repeat first
  |(apply t4 h1 rfl rfl (fz2 hz t2))
  |(apply t4 h2 rfl rfl (fz3 hz t2 t2))
  |refine zW (aN o1 (aN o2 (aN o3 (aN hlen hz0)))) ?_
  first
   | exact ⟨.inr trivial,_,rR,_,rfl,fun h=>⟨p1 rfl,p2 rfl,of_decide_eq_true h⟩⟩
   | exact ⟨.inr trivial,_,rR,_,rfl,by simp⟩
theorem b6E {d:D} {t:List Nd} {x:Nd} (hT:N2 d t) (hx:x.Ok) (hk:X6 t x) (hK:x.kind=20):P4 61 [d,.agg x.row] fun b=>b=true->(x.words.length:Int)=0/\((x.nums.length:Int)=0/\∀n∈x.nums,0<=n/\n<=0)/\1<=x.kids.length/\x.kids.length<=1/\∀i,i<x.kids.length->(i<1->17<=(nd t (x.kid i)).kind/\(nd t (x.kid i)).kind<=22)/\(1<=i->(nd t (x.kid i)).kind=16):=by
 refine R7 ?_
 have o1:=FL.one hx.w
 have o2:=FL.one hx.n
 have o3:=FL.one hx.k
 have hlen:=FI.len hx.k
 have hz:=hx.fz
 have hrow:x.row=[.int .i64 20,x.dw,x.dn,x.dk,.int .i64 x.pos]:=by unfold Nd.row;rw [hK]
 obtain ⟨b1,h1,p1⟩:=Z8 hx (c:=0)
 obtain ⟨b2,h2,p2⟩:=a0e hx (c:=0) (m:=0)
 obtain ⟨b3,h3,p3⟩:=a16 hT hx hk (f:=1) (l:=0) (m:=0) (by omega) (by omega) (by omega)
 rw [hrow] at h1 h2 hz h3 ⊢
 cases b1<;>cases b2
 all_goals
  refine M3 (vf:=N7) rfl ?_
  unfold N7;refine zE ?_
  repeat first
  |(apply t4 h1 rfl rfl (fz2 hz t2))
  |(apply t4 h2 rfl rfl (fz3 hz t2 t2))
  |(apply t4 h3 rfl rfl (fz5 hT.fz hz t2 t2 t2))
  |refine zW (aN o1 (aN o2 (aN o3 hlen))) ?_
  first
   | exact ⟨.inr trivial,_,rR,_,rfl,fun h=>⟨p1 rfl,p2 rfl,p3 h⟩⟩
   | exact ⟨.inr trivial,_,rR,_,rfl,by simp⟩
theorem c1D {d:D} {t:List Nd} {x:Nd} (hT:N2 d t) (hx:x.Ok) (hk:X6 t x) (hK:x.kind=21):P4 61 [d,.agg x.row] fun b=>b=true->(x.words.length:Int)=0/\((x.nums.length:Int)=0/\∀n∈x.nums,0<=n/\n<=0)/\1<=x.kids.length/\x.kids.length<=1/\∀i,i<x.kids.length->(i<1->17<=(nd t (x.kid i)).kind/\(nd t (x.kid i)).kind<=22)/\(1<=i->(nd t (x.kid i)).kind=16):=by
 refine R7 ?_
 have o1:=FL.one hx.w
 have o2:=FL.one hx.n
 have o3:=FL.one hx.k
 have hlen:=FI.len hx.k
 have hz:=hx.fz
 have hrow:x.row=[.int .i64 21,x.dw,x.dn,x.dk,.int .i64 x.pos]:=by unfold Nd.row;rw [hK]
 obtain ⟨b1,h1,p1⟩:=Z8 hx (c:=0)
 obtain ⟨b2,h2,p2⟩:=a0e hx (c:=0) (m:=0)
 obtain ⟨b3,h3,p3⟩:=a16 hT hx hk (f:=1) (l:=0) (m:=0) (by omega) (by omega) (by omega)
 rw [hrow] at h1 h2 hz h3 ⊢
 cases b1<;>cases b2
 all_goals
  refine M3 (vf:=N7) rfl ?_
  unfold N7;refine zE ?_
  repeat first
  |(apply t4 h1 rfl rfl (fz2 hz t2))
  |(apply t4 h2 rfl rfl (fz3 hz t2 t2))
  |(apply t4 h3 rfl rfl (fz5 hT.fz hz t2 t2 t2))
  |refine zW (aN o1 (aN o2 (aN o3 hlen))) ?_
  first
   | exact ⟨.inr trivial,_,rR,_,rfl,fun h=>⟨p1 rfl,p2 rfl,p3 h⟩⟩
   | exact ⟨.inr trivial,_,rR,_,rfl,by simp⟩
theorem b8y {d:D} {t:List Nd} {x:Nd} (hT:N2 d t) (hx:x.Ok) (hk:X6 t x) (hK:x.kind=22):P4 61 [d,.agg x.row] fun b=>b=true->(x.words.length:Int)=0/\((x.nums.length:Int)=1/\∀n∈x.nums,0<=n/\n<=8)/\2<=x.kids.length/\x.kids.length<=2/\∀i,i<x.kids.length->(i<2->17<=(nd t (x.kid i)).kind/\(nd t (x.kid i)).kind<=22)/\(2<=i->(nd t (x.kid i)).kind=16):=by
 refine R7 ?_
 have o1:=FL.one hx.w
 have o2:=FL.one hx.n
 have o3:=FL.one hx.k
 have hlen:=FI.len hx.k
 have hz:=hx.fz
 have hrow:x.row=[.int .i64 22,x.dw,x.dn,x.dk,.int .i64 x.pos]:=by unfold Nd.row;rw [hK]
 obtain ⟨b1,h1,p1⟩:=Z8 hx (c:=0)
 obtain ⟨b2,h2,p2⟩:=a0e hx (c:=1) (m:=8)
 obtain ⟨b3,h3,p3⟩:=a16 hT hx hk (f:=2) (l:=0) (m:=0) (by omega) (by omega) (by omega)
 rw [hrow] at h1 h2 hz h3 ⊢
 cases b1<;>cases b2
 all_goals
  refine M3 (vf:=N7) rfl ?_
  unfold N7;refine zE ?_
  repeat first
  |(apply t4 h1 rfl rfl (fz2 hz t2))
  |(apply t4 h2 rfl rfl (fz3 hz t2 t2))
  |(apply t4 h3 rfl rfl (fz5 hT.fz hz t2 t2 t2))
  |refine zW (aN o1 (aN o2 (aN o3 hlen))) ?_
  first
   | exact ⟨.inr trivial,_,rR,_,rfl,fun h=>⟨p1 rfl,p2 rfl,p3 h⟩⟩
   | exact ⟨.inr trivial,_,rR,_,rfl,by simp⟩
end Go.Proofs.YtnjlhebkhjcagaaGreat
namespace Go.Proofs.YtnjlhebkhjcagaaGreat
open Go.V
set_option maxRecDepth 100000
set_option maxHeartbeats 4000000
theorem b2p {x:Nd}:((x.kids.length:Int)==0)=decide (x.kids=[]):=by
 rw [Bool.eq_iff_iff,beq_iff_eq,decide_eq_true_eq,<- List.length_eq_zero_iff];omega
theorem c4Q {d:D} {t:List Nd} {x:Nd} (hT:N2 d t) (hx:x.Ok) (hk:X6 t x) (hK:x.kind=1):P4 61 [d,.agg x.row] fun b=>b=true->(x.words.length:Int)=1/\((x.nums.length:Int)=4/\∀n∈x.nums,0<=n/\n<=999999)/\x.num 2<=1/\x.num 3<=1/\x.kids=[]:=by
 refine R7 ?_
 have o1:=FL.one hx.w
 have o2:=FL.one hx.n
 have o3:=FL.one hx.k
 have hlen:=FI.len hx.k
 have hz:=hx.fz
 have hrow:x.row=[.int .i64 1,x.dw,x.dn,x.dk,.int .i64 x.pos]:=by unfold Nd.row;rw [hK]
 have hz0:=b2p (x:=x)
 obtain ⟨b1,h1,p1⟩:=Z8 hx (c:=1)
 obtain ⟨b2,h2,p2⟩:=a0e hx (c:=4) (m:=999999)
 rw [hrow] at h1 h2 hz ⊢
 cases b1
 ·refine M3 (vf:=N7) rfl ?_
  unfold N7;refine zE ?_
  repeat first
  |(apply t4 h1 rfl rfl (fz2 hz t2))
  |(apply t4 h2 rfl rfl (fz3 hz t2 t2))
  |refine zW (aN o1 (aN o2 (aN o3 hlen))) ?_
  exact ⟨.inr trivial,_,rR,_,rfl,by simp⟩
 cases b2
 ·refine M3 (vf:=N7) rfl ?_
  unfold N7;refine zE ?_
  repeat first
  |(apply t4 h1 rfl rfl (fz2 hz t2))
  |(apply t4 h2 rfl rfl (fz3 hz t2 t2))
  |refine zW (aN o1 (aN o2 (aN o3 hlen))) ?_
  exact ⟨.inr trivial,_,rR,_,rfl,by simp⟩
 have q2:=p2 rfl
 have l4:x.nums.length=4:=by omega
 have i2:M8 1 x.dn (.int .i64 2)=some (.fp [.int .i64 (x.num 2)] 0):=by rw [a3k (by omega)];exact FI.idx hx.n (i:=2) (by omega)
 have i3:M8 1 x.dn (.int .i64 3)=some (.fp [.int .i64 (x.num 3)] 0):=by rw [a3k (by omega)];exact FI.idx hx.n (i:=3) (by omega)
 by_cases c2:x.num 2<=1
 ·by_cases c3:x.num 3<=1
  ·refine M3 (vf:=N7) rfl ?_
   unfold N7;refine zE ?_
   repeat first
   |(apply t4 h1 rfl rfl (fz2 hz t2))
   |(apply t4 h2 rfl rfl (fz3 hz t2 t2))
   |refine zW (aN o1 (aN o2 (aN o3 (aN hlen (aN i2 (aN i3 (aN c2 (aN c3 hz0)))))))) ?_
   exact ⟨.inr trivial,_,rR,_,rfl,fun h=>⟨p1 rfl,q2,c2,c3,by simpa using h⟩⟩
  ·refine M3 (vf:=N7) rfl ?_
   unfold N7;refine zE ?_
   repeat first
   |(apply t4 h1 rfl rfl (fz2 hz t2))
   |(apply t4 h2 rfl rfl (fz3 hz t2 t2))
   |refine zW (aN o1 (aN o2 (aN o3 (aN hlen (aN i2 (aN i3 (aN c2 (aN c3 hz0)))))))) ?_
   exact ⟨.inr trivial,_,rR,_,rfl,by simp⟩
 ·refine M3 (vf:=N7) rfl ?_
  unfold N7;refine zE ?_
  repeat first
  |(apply t4 h1 rfl rfl (fz2 hz t2))
  |(apply t4 h2 rfl rfl (fz3 hz t2 t2))
  |refine zW (aN o1 (aN o2 (aN o3 (aN hlen (aN i2 (aN i3 (aN c2 hz0))))))) ?_
  exact ⟨.inr trivial,_,rR,_,rfl,by simp⟩
theorem c18 {d:D} {t:List Nd} {x:Nd} (hT:N2 d t) (hx:x.Ok) (hk:X6 t x) (hK:x.kind=2):P4 61 [d,.agg x.row] fun b=>b=true->(x.words.length:Int)=1/\x.nums.length=2/\-999999<=x.num 1/\x.num 1<=999999/\x.kids=[]:=by
 refine R7 ?_
 have o1:=FL.one hx.w
 have o2:=FL.one hx.n
 have o3:=FL.one hx.k
 have hlen:=FI.len hx.k
 have hlen2:=FI.len hx.n
 have hz:=hx.fz
 have hrow:x.row=[.int .i64 2,x.dw,x.dn,x.dk,.int .i64 x.pos]:=by unfold Nd.row;rw [hK]
 have hz0:=b2p (x:=x)
 obtain ⟨b1,h1,p1⟩:=Z8 hx (c:=1)
 rw [hrow] at h1 hz ⊢
 cases b1
 ·refine M3 (vf:=N7) rfl ?_
  unfold N7;refine zE ?_
  repeat first
  |(apply t4 h1 rfl rfl (fz2 hz t2))
  |refine zW (aN o1 (aN o2 (aN o3 hlen))) ?_
  exact ⟨.inr trivial,_,rR,_,rfl,by simp⟩
 by_cases l2:x.nums.length=2
 ·have l2':((x.nums.length:Int)==2)=true:=by rw [l2];rfl
  have i0:M8 1 x.dn (.int .i64 0)=some (.fp [.int .i64 (x.num 0)] 0):=by rw [a3k (by omega)];exact FI.idx hx.n (i:=0) (by omega)
  have i1:M8 1 x.dn (.int .i64 1)=some (.fp [.int .i64 (x.num 1)] 0):=by rw [a3k (by omega)];exact FI.idx hx.n (i:=1) (by omega)
  have g0:=a6N (k:=x.num 0) (a:=0) (b:=999999)
  have g1:=a6N (k:=x.num 1) (a:=-999999) (b:=999999)
  cases r0:inR (x.num 0) 0 999999
  ·rw [r0] at g0
   refine M3 (vf:=N7) rfl ?_
   unfold N7;refine zE ?_
   repeat first
   |(apply t4 h1 rfl rfl (fz2 hz t2))
   |(apply t4 g0 rfl rfl rfl)
   |(apply t4 g1 rfl rfl rfl)
   |refine zW (aN o1 (aN o2 (aN o3 (aN hlen (aN hlen2 (aN l2' (aN i0 (aN i1 hz0)))))))) ?_
   exact ⟨.inr trivial,_,rR,_,rfl,by simp⟩
  ·rw [r0] at g0
   cases r1:inR (x.num 1) (-999999) 999999
   ·rw [r1] at g1
    refine M3 (vf:=N7) rfl ?_
    unfold N7;refine zE ?_
    repeat first
    |(apply t4 h1 rfl rfl (fz2 hz t2))
    |(apply t4 g0 rfl rfl rfl)
    |(apply t4 g1 rfl rfl rfl)
    |refine zW (aN o1 (aN o2 (aN o3 (aN hlen (aN hlen2 (aN l2' (aN i0 (aN i1 hz0)))))))) ?_
    exact ⟨.inr trivial,_,rR,_,rfl,by simp⟩
   ·rw [r1] at g1
    have r1:=a9M.1 r1
    refine M3 (vf:=N7) rfl ?_
    unfold N7;refine zE ?_
    repeat first
    |(apply t4 h1 rfl rfl (fz2 hz t2))
    |(apply t4 g0 rfl rfl rfl)
    |(apply t4 g1 rfl rfl rfl)
    |refine zW (aN o1 (aN o2 (aN o3 (aN hlen (aN hlen2 (aN l2' (aN i0 (aN i1 hz0)))))))) ?_
    exact ⟨.inr trivial,_,rR,_,rfl,fun h=>⟨p1 rfl,l2,r1.1,r1.2,by simpa using h⟩⟩
 ·have l2':((x.nums.length:Int)==2)=false:=by rw [beq_eq_false_iff_ne];omega
  refine M3 (vf:=N7) rfl ?_
  unfold N7;refine zE ?_
  repeat first
  |(apply t4 h1 rfl rfl (fz2 hz t2))
  |refine zW (aN o1 (aN o2 (aN o3 (aN hlen (aN hlen2 (aN l2' hz0)))))) ?_
  exact ⟨.inr trivial,_,rR,_,rfl,by simp⟩
theorem c39 {d:D} {t:List Nd} {x:Nd} (hT:N2 d t) (hx:x.Ok) (hk:X6 t x) (hK:x.kind=3):P4 61 [d,.agg x.row] fun b=>b=true->(x.words.length:Int)=1/\((x.nums.length:Int)=1/\∀n∈x.nums,0<=n/\n<=999999)/\∃v,v<=x.kids.length/\(∀i,i<v->(nd t (x.kid i)).kind=2)/\∀i,v<=i->i<x.kids.length->6<=(nd t (x.kid i)).kind/\(nd t (x.kid i)).kind<=15:=by
 refine R7 ?_
 have o1:=FL.one hx.w
 have o2:=FL.one hx.n
 have o3:=FL.one hx.k
 have hlen:=FI.len hx.k
 have hz:=hx.fz
 have hrow:x.row=[.int .i64 3,x.dw,x.dn,x.dk,.int .i64 x.pos]:=by unfold Nd.row;rw [hK]
 obtain ⟨b1,h1,p1⟩:=Z8 hx (c:=1)
 obtain ⟨b2,h2,p2⟩:=a0e hx (c:=1) (m:=999999)
 rw [hrow] at h1 h2 hz ⊢
 refine M3 (vf:=N7) rfl ?_
 unfold N7;refine zE ?_
 try refine zW (aN o1 (aN o2 (aN o3 hlen))) ?_
 refine U2 (Q:=M9 1 _) (fun n env s=>∃i:Nat,i<=x.kids.length/\n=x.kids.length-i/\(∀j,j<i->(nd t (x.kid j)).kind=2)/\s.get 0=some (.cells [.int .i64 3,x.dw,x.dn,x.dk,.int .i64 x.pos])/\(env.get 0=d/\env.get 3=.ptr 0 0/\env.get 5=.int .i64 (x.kids.length:Int)/\env.get 6=.int .i64 (i:Int))) ?_ x.kids.length _ _ ⟨0,by omega,rfl,fun j h=>by omega,O1 rfl,by simp [Env.get,O2.at];rfl⟩
 rintro n env s ⟨i,hi,rfl,hall,hg,hE⟩
 have fin:∀ (env:Env) (s:k4),s.get 0=some (.cells [.int .i64 3,x.dw,x.dn,x.dk,.int .i64 x.pos])->(env.get 0=d/\env.get 3=.ptr 0 0/\env.get 6=.int .i64 (i:Int))->True:=fun _ _ _ _=>trivial
 obtain ⟨b3,h3,p3⟩:=a8e hT hx hk (f:=i) (a:=6) (b:=15)
 rw [hrow] at h3
 by_cases c3:i<x.kids.length
 ·have c3':((i:Int)<(x.kids.length:Int))=True:=eq_true (by omega)
  have hs:=a1X c3 hx.kl
  have hki:=hk _ (List.getElem_mem c3)
  have h4:=a76 hT hx c3 hki.1 hki.2
  rw [hrow] at h4
  by_cases c4:(nd t (x.kid i)).kind=2
  ·have c4':((nd t (x.kid i)).kind==2)=true:=by rw [c4];rfl
   repeat first
   |(apply t4 h4 rfl;(focus (simp only [Env.evL,Env.ev,Env.get,Nat.reduceEqDiff,↓reduceIte,hE]));(focus exact fz3 hT.fz hz t2))
   |refine zW (aN hE (aN hg (aN o1 (aN o2 (aN o3 (aN hlen (aN c3' (aN c4' hs)))))))) ?_
   refine ⟨x.kids.length-(i+1),by omega,i+1,by omega,rfl,fun j h=>?_,hg,(rG hE)⟩
   by_cases e:j=i
   ·subst e;exact c4
   ·exact hall j (by omega)
  ·have c4':((nd t (x.kid i)).kind==2)=false:=by rw [beq_eq_false_iff_ne];exact c4
   cases b1
   ·repeat first
    |(apply t4 h4 rfl;(focus (simp only [Env.evL,Env.ev,Env.get,Nat.reduceEqDiff,↓reduceIte,hE]));(focus exact fz3 hT.fz hz t2))
    |(apply t4 h1 rfl rfl (fz2 hz t2))
    |refine zW (aN hE (aN hg (aN o1 (aN o2 (aN o3 (aN hlen (aN c3' c4'))))))) ?_
    exact ⟨.inr trivial,_,rR,_,rfl,by simp⟩
   cases b2
   ·repeat first
    |(apply t4 h4 rfl;(focus (simp only [Env.evL,Env.ev,Env.get,Nat.reduceEqDiff,↓reduceIte,hE]));(focus exact fz3 hT.fz hz t2))
    |(apply t4 h1 rfl rfl (fz2 hz t2))
    |(apply t4 h2 rfl rfl (fz3 hz t2 t2))
    |refine zW (aN hE (aN hg (aN o1 (aN o2 (aN o3 (aN hlen (aN c3' c4'))))))) ?_
    exact ⟨.inr trivial,_,rR,_,rfl,by simp⟩
   repeat first
   |(apply t4 h4 rfl;(focus (simp only [Env.evL,Env.ev,Env.get,Nat.reduceEqDiff,↓reduceIte,hE]));(focus exact fz3 hT.fz hz t2))
   |(apply t4 h1 rfl rfl (fz2 hz t2))
   |(apply t4 h2 rfl rfl (fz3 hz t2 t2))
   |(apply t4 h3 rfl;(focus (simp only [Env.evL,Env.ev,Env.get,Nat.reduceEqDiff,↓reduceIte,hE]));(focus exact fz5 hT.fz hz t2 t2 t2))
   |refine zW (aN hE (aN hg (aN o1 (aN o2 (aN o3 (aN hlen (aN c3' c4'))))))) ?_
   exact ⟨.inr trivial,_,rR,_,rfl,fun h=>⟨p1 rfl,p2 rfl,i,hi,hall,p3 h⟩⟩
 ·have c3':((i:Int)<(x.kids.length:Int))=False:=eq_false (by omega)
  cases b1
  ·repeat first
   |(apply t4 h1 rfl rfl (fz2 hz t2))
   |refine zW (aN hE (aN hg (aN o1 (aN o2 (aN o3 (aN hlen c3')))))) ?_
   exact ⟨.inr trivial,_,rR,_,rfl,by simp⟩
  cases b2
  ·repeat first
   |(apply t4 h1 rfl rfl (fz2 hz t2))
   |(apply t4 h2 rfl rfl (fz3 hz t2 t2))
   |refine zW (aN hE (aN hg (aN o1 (aN o2 (aN o3 (aN hlen c3')))))) ?_
   exact ⟨.inr trivial,_,rR,_,rfl,by simp⟩
  repeat first
  |(apply t4 h1 rfl rfl (fz2 hz t2))
  |(apply t4 h2 rfl rfl (fz3 hz t2 t2))
  |(apply t4 h3 rfl;(focus (simp only [Env.evL,Env.ev,Env.get,Nat.reduceEqDiff,↓reduceIte,hE]));(focus exact fz5 hT.fz hz t2 t2 t2))
  |refine zW (aN hE (aN hg (aN o1 (aN o2 (aN o3 (aN hlen c3')))))) ?_
  exact ⟨.inr trivial,_,rR,_,rfl,fun h=>⟨p1 rfl,p2 rfl,i,hi,hall,p3 h⟩⟩
theorem b6g {d:D} {t:List Nd} {x:Nd} (hT:N2 d t) (hx:x.Ok) (hK:x.kind<0∨22<x.kind):P4 61 [d,.agg x.row] fun b=>b=false:=by
 refine R7 ?_
 have o1:=FL.one hx.w
 have o2:=FL.one hx.n
 have o3:=FL.one hx.k
 have hlen:=FI.len hx.k
 have ne:∀c:Int,0<=c->c<=22->(x.kind==c)=false:=fun c h1 h2=>by rw [beq_eq_false_iff_ne];omega
 have n0:=ne 0 (by omega) (by omega)
 have n1:=ne 1 (by omega) (by omega)
 have n2:=ne 2 (by omega) (by omega)
 have n3:=ne 3 (by omega) (by omega)
 have n4:=ne 4 (by omega) (by omega)
 have n5:=ne 5 (by omega) (by omega)
 have n6:=ne 6 (by omega) (by omega)
 have n7:=ne 7 (by omega) (by omega)
 have n8:=ne 8 (by omega) (by omega)
 have n9:=ne 9 (by omega) (by omega)
 have n10:=ne 10 (by omega) (by omega)
 have n11:=ne 11 (by omega) (by omega)
 have n12:=ne 12 (by omega) (by omega)
 have n13:=ne 13 (by omega) (by omega)
 have n14:=ne 14 (by omega) (by omega)
 have n15:=ne 15 (by omega) (by omega)
 have n16:=ne 16 (by omega) (by omega)
 have n17:=ne 17 (by omega) (by omega)
 have n18:=ne 18 (by omega) (by omega)
 have n19:=ne 19 (by omega) (by omega)
 have n20:=ne 20 (by omega) (by omega)
 have n21:=ne 21 (by omega) (by omega)
 have n22:=ne 22 (by omega) (by omega)
 unfold Nd.row
 refine M3 (vf:=N7) rfl ?_
 unfold N7;refine zE ?_
 try refine zW (aN o1 (aN o2 (aN o3 (aN hlen (aN n0 (aN n1 (aN n2 (aN n3 (aN n4 (aN n5 (aN n6 (aN n7 (aN n8 (aN n9 (aN n10 (aN n11 (aN n12 (aN n13 (aN n14 (aN n15 (aN n16 (aN n17 (aN n18 (aN n19 (aN n20 (aN n21 n22)))))))))))))))))))))))))) ?_
 exact ⟨.inr trivial,_,rR,_,rfl,rfl⟩
end Go.Proofs.YtnjlhebkhjcagaaGreat
namespace Go.Proofs.YtnjlhebkhjcagaaGreat
open Go.V
set_option maxRecDepth 100000
set_option maxHeartbeats 4000000
theorem a2h {x:Nd} {i:Nat} {m:Int} (h:i<x.nums.length) (ha:∀n∈x.nums,0<=n/\n<=m):0<=x.num i/\x.num i<=m:=by
 rw [a3k h];exact ha _ (List.getElem_mem h)
theorem b3v {t:List Nd} {x:Nd} {a b:Int} (h:∀i,0<=i->i<x.kids.length->a<=(nd t (x.kid i)).kind/\(nd t (x.kid i)).kind<=b):∀k∈x.ks,a<=(nd t k).kind/\(nd t k).kind<=b:=by
 intro k hk
 obtain ⟨i,hi,rfl⟩:=List.getElem_of_mem hk
 rw [a0u] at hi
 have:=h i (Nat.zero_le _) hi
 rw [a3B hi] at this
 simpa [Nd.ks] using this
theorem b62 {t:List Nd} {x:Nd} (h:∀i,i<x.kids.length->(nd t (x.kid i)).kind=16):∀k∈x.ks,(nd t k).kind=16:=by
 intro k hk
 obtain ⟨i,hi,rfl⟩:=List.getElem_of_mem hk
 rw [a0u] at hi
 have:=h i hi
 rw [a3B hi] at this
 simpa [Nd.ks] using this
theorem c0i {t:List Nd} {x:Nd} {v:Nat} (h:∀i,i<v->(nd t (x.kid i)).kind=2):∀k∈x.ks.take v,(nd t k).kind=2:=by
 intro k hk
 obtain ⟨i,hi,rfl⟩:=List.getElem_of_mem hk
 have h1:i<v/\i<x.kids.length:=by
  rw [List.length_take,a0u] at hi
  omega
 have:=h i h1.1
 rw [a3B h1.2] at this
 simpa [Nd.ks] using this
theorem b5q {t:List Nd} {x:Nd} {v:Nat} (h:∀i,v<=i->i<x.kids.length->6<=(nd t (x.kid i)).kind/\(nd t (x.kid i)).kind<=15):∀k∈x.ks.drop v,a1Y (nd t k).kind:=by
 intro k hk
 obtain ⟨i,hi,rfl⟩:=List.getElem_of_mem hk
 rw [List.length_drop,a0u] at hi
 have:=h (v+i) (by omega) (by omega)
 rw [a3B (by omega)] at this
 simpa [Nd.ks,a1Y] using this
theorem b8L {d:D} {t:List Nd} {x:Nd} (hT:N2 d t) (hx:x.Ok) (hk:X6 t x):P4 61 [d,.agg x.row] fun b=>b=true->a6c t x:=by
 by_cases hr:x.kind<0∨22<x.kind
 ·obtain ⟨b,h,rfl⟩:=b6g hT hx hr
  exact ⟨false,h,by simp⟩
 have cs:x.kind=0∨x.kind=1∨x.kind=2∨x.kind=3∨x.kind=4∨x.kind=5∨x.kind=6∨x.kind=7∨x.kind=8∨x.kind=9∨x.kind=10∨x.kind=11∨x.kind=12∨x.kind=13∨x.kind=14∨x.kind=15∨x.kind=16∨x.kind=17∨x.kind=18∨x.kind=19∨x.kind=20∨x.kind=21∨x.kind=22:=by omega
 rcases cs with hK | hK | hK | hK | hK | hK | hK | hK | hK | hK | hK | hK | hK | hK | hK | hK | hK | hK | hK | hK | hK | hK | hK
 ·obtain ⟨b,h,p⟩:=c3w hT hx hk hK
  refine ⟨b,h,fun hb=>?_⟩
  obtain ⟨w,n,r⟩:=p hb
  exact ⟨by omega,by rw [hK,show Z3 0=0 from rfl];omega,by rw [hK,show Z0 0=0 from rfl];omega,fun _=>b3v r,fun e=>by omega,fun e=>by omega,fun e=>by omega,fun e=>by omega,fun e=>by omega,fun e=>by omega,fun e=>by omega,fun e=>by omega,fun e=>by omega,fun e=>by omega,fun e=>by omega,fun e=>by omega,fun e=>by omega,fun e=>by omega⟩
 ·obtain ⟨b,h,p⟩:=c4Q hT hx hk hK
  refine ⟨b,h,fun hb=>?_⟩
  obtain ⟨w,n,r⟩:=p hb
  exact ⟨by omega,by rw [hK,show Z3 1=1 from rfl];omega,by rw [hK,show Z0 1=4 from rfl];omega,fun e=>by omega,fun _=>⟨(a2h (by omega) n.2).1,(a2h (by omega) n.2).1,(a2h (by omega) n.2).1,r.1,(a2h (by omega) n.2).1,r.2.1⟩,fun e=>by omega,fun e=>by omega,fun e=>by omega,fun e=>by omega,fun _=>r.2.2,fun e=>by omega,fun e=>by omega,fun e=>by omega,fun e=>by omega,fun e=>by omega,fun e=>by omega,fun e=>by omega,fun e=>by omega⟩
 ·obtain ⟨b,h,p⟩:=c18 hT hx hk hK
  refine ⟨b,h,fun hb=>?_⟩
  obtain ⟨w,n,r⟩:=p hb
  exact ⟨by omega,by rw [hK,show Z3 2=1 from rfl];omega,by rw [hK,show Z0 2=2 from rfl];omega,fun e=>by omega,fun e=>by omega,fun _=>⟨r.1,r.2.1⟩,fun e=>by omega,fun e=>by omega,fun e=>by omega,fun _=>r.2.2,fun e=>by omega,fun e=>by omega,fun e=>by omega,fun e=>by omega,fun e=>by omega,fun e=>by omega,fun e=>by omega,fun e=>by omega⟩
 ·obtain ⟨b,h,p⟩:=c39 hT hx hk hK
  refine ⟨b,h,fun hb=>?_⟩
  obtain ⟨w,n,r⟩:=p hb
  exact ⟨by omega,by rw [hK,show Z3 3=1 from rfl];omega,by rw [hK,show Z0 3=1 from rfl];omega,fun e=>by omega,fun e=>by omega,fun e=>by omega,fun _=>by obtain ⟨v,v1,v2,v3⟩:=r;exact ⟨v,by rw [a0u];exact v1,c0i v2,b5q v3⟩,fun _=>a2h (by omega) n.2,fun e=>by omega,fun e=>by omega,fun e=>by omega,fun e=>by omega,fun e=>by omega,fun e=>by omega,fun e=>by omega,fun e=>by omega,fun e=>by omega,fun e=>by omega⟩
 ·obtain ⟨b,h,p⟩:=b9T hT hx hk hK
  refine ⟨b,h,fun hb=>?_⟩
  obtain ⟨w,n,r⟩:=p hb
  exact ⟨by omega,by rw [hK,show Z3 4=0 from rfl];omega,by rw [hK,show Z0 4=0 from rfl];omega,fun e=>by omega,fun e=>by omega,fun e=>by omega,fun e=>by omega,fun e=>by omega,fun _=>⟨by omega,(r.2.2 0 (by omega)).1 (by omega)⟩,fun e=>by omega,fun e=>by omega,fun e=>by omega,fun e=>by omega,fun e=>by omega,fun e=>by omega,fun e=>by omega,fun e=>by omega,fun e=>by omega⟩
 ·obtain ⟨b,h,p⟩:=b4H hT hx hk hK
  refine ⟨b,h,fun hb=>?_⟩
  obtain ⟨w,n,r⟩:=p hb
  exact ⟨by omega,by rw [hK,show Z3 5=0 from rfl];omega,by rw [hK,show Z0 5=0 from rfl];omega,fun e=>by omega,fun e=>by omega,fun e=>by omega,fun e=>by omega,fun e=>by omega,fun e=>by omega,fun _=>r,fun e=>by omega,fun e=>by omega,fun e=>by omega,fun e=>by omega,fun e=>by omega,fun e=>by omega,fun e=>by omega,fun e=>by omega⟩
 ·obtain ⟨b,h,p⟩:=c0O hT hx hk hK
  refine ⟨b,h,fun hb=>?_⟩
  obtain ⟨w,n,r⟩:=p hb
  exact ⟨by omega,by rw [hK,show Z3 6=1 from rfl];omega,by rw [hK,show Z0 6=0 from rfl];omega,fun e=>by omega,fun e=>by omega,fun e=>by omega,fun e=>by omega,fun e=>by omega,fun _=>⟨by omega,(r.2.2 0 (by omega)).1 (by omega)⟩,fun e=>by omega,fun e=>by omega,fun e=>by omega,fun e=>by omega,fun e=>by omega,fun e=>by omega,fun e=>by omega,fun e=>by omega,fun e=>by omega⟩
 ·obtain ⟨b,h,p⟩:=c3l hT hx hk hK
  refine ⟨b,h,fun hb=>?_⟩
  obtain ⟨w,n,r⟩:=p hb
  exact ⟨by omega,by rw [hK,show Z3 7=1 from rfl];omega,by rw [hK,show Z0 7=0 from rfl];omega,fun e=>by omega,fun e=>by omega,fun e=>by omega,fun e=>by omega,fun e=>by omega,fun _=>⟨by omega,(r.2.2 0 (by omega)).1 (by omega)⟩,fun e=>by omega,fun e=>by omega,fun e=>by omega,fun e=>by omega,fun e=>by omega,fun e=>by omega,fun e=>by omega,fun e=>by omega,fun e=>by omega⟩
 ·obtain ⟨b,h,p⟩:=b8T hT hx hk hK
  refine ⟨b,h,fun hb=>?_⟩
  obtain ⟨w,n,r⟩:=p hb
  exact ⟨by omega,by rw [hK,show Z3 8=2 from rfl];omega,by rw [hK,show Z0 8=1 from rfl];omega,fun e=>by omega,fun e=>by omega,fun e=>by omega,fun e=>by omega,fun e=>by omega,fun e=>by omega,fun _=>r,fun e=>by omega,fun e=>by omega,fun e=>by omega,fun e=>by omega,fun e=>by omega,fun e=>by omega,fun _=>a2h (by omega) n.2,fun e=>by omega⟩
 ·obtain ⟨b,h,p⟩:=c1C hT hx hk hK
  refine ⟨b,h,fun hb=>?_⟩
  obtain ⟨w,n,r⟩:=p hb
  exact ⟨by omega,by rw [hK,show Z3 9=0 from rfl];omega,by rw [hK,show Z0 9=1 from rfl];omega,fun e=>by omega,fun e=>by omega,fun e=>by omega,fun e=>by omega,fun e=>by omega,fun _=>⟨by omega,(r.2.2 0 (by omega)).1 (by omega)⟩,fun e=>by omega,fun e=>by omega,fun e=>by omega,fun e=>by omega,fun e=>by omega,fun e=>by omega,fun e=>by omega,fun _=>a2h (by omega) n.2,fun e=>by omega⟩
 ·obtain ⟨b,h,p⟩:=c1L hT hx hk hK
  refine ⟨b,h,fun hb=>?_⟩
  obtain ⟨w,n,r⟩:=p hb
  exact ⟨by omega,by rw [hK,show Z3 10=0 from rfl];omega,by rw [hK,show Z0 10=1 from rfl];omega,fun e=>by omega,fun e=>by omega,fun e=>by omega,fun e=>by omega,fun e=>by omega,fun e=>by omega,fun e=>by omega,fun _=>⟨by omega,b62 fun i hi=>(r.2.2 i hi).2 (by omega)⟩,fun e=>by omega,fun e=>by omega,fun e=>by omega,fun e=>by omega,fun e=>by omega,fun _=>a2h (by omega) n.2,fun e=>by omega⟩
 ·obtain ⟨b,h,p⟩:=c0H hT hx hk hK
  refine ⟨b,h,fun hb=>?_⟩
  obtain ⟨w,n,r⟩:=p hb
  exact ⟨by omega,by rw [hK,show Z3 11=0 from rfl];omega,by rw [hK,show Z0 11=0 from rfl];omega,fun e=>by omega,fun e=>by omega,fun e=>by omega,fun e=>by omega,fun e=>by omega,fun e=>by omega,fun e=>by omega,fun e=>by omega,fun _=>⟨by omega,(r.2.2 0 (by omega)).1 (by omega),(r.2.2 1 (by omega)).2 (by omega),fun h3=>(r.2.2 2 (by omega)).2 (by omega)⟩,fun e=>by omega,fun e=>by omega,fun e=>by omega,fun e=>by omega,fun e=>by omega,fun e=>by omega⟩
 ·obtain ⟨b,h,p⟩:=b6m hT hx hk hK
  refine ⟨b,h,fun hb=>?_⟩
  obtain ⟨w,n,r⟩:=p hb
  exact ⟨by omega,by rw [hK,show Z3 12=0 from rfl];omega,by rw [hK,show Z0 12=0 from rfl];omega,fun e=>by omega,fun e=>by omega,fun e=>by omega,fun e=>by omega,fun e=>by omega,fun e=>by omega,fun e=>by omega,fun e=>by omega,fun e=>by omega,fun _=>⟨by omega,(r.2.2 0 (by omega)).1 (by omega),(r.2.2 1 (by omega)).2 (by omega)⟩,fun e=>by omega,fun e=>by omega,fun e=>by omega,fun e=>by omega,fun e=>by omega⟩
 ·obtain ⟨b,h,p⟩:=c1T hT hx hk hK
  refine ⟨b,h,fun hb=>?_⟩
  obtain ⟨w,n,r⟩:=p hb
  exact ⟨by omega,by rw [hK,show Z3 13=0 from rfl];omega,by rw [hK,show Z0 13=0 from rfl];omega,fun e=>by omega,fun e=>by omega,fun e=>by omega,fun e=>by omega,fun e=>by omega,fun e=>by omega,fun e=>by omega,fun e=>by omega,fun e=>by omega,fun e=>by omega,fun _=>⟨by omega,(r.2.2 0 (by omega)).2 (by omega)⟩,fun e=>by omega,fun e=>by omega,fun e=>by omega,fun e=>by omega⟩
 ·obtain ⟨b,h,p⟩:=c3J hT hx hk hK
  refine ⟨b,h,fun hb=>?_⟩
  obtain ⟨w,n,r⟩:=p hb
  exact ⟨by omega,by rw [hK,show Z3 14=0 from rfl];omega,by rw [hK,show Z0 14=0 from rfl];omega,fun e=>by omega,fun e=>by omega,fun e=>by omega,fun e=>by omega,fun e=>by omega,fun e=>by omega,fun _=>r,fun e=>by omega,fun e=>by omega,fun e=>by omega,fun e=>by omega,fun e=>by omega,fun e=>by omega,fun e=>by omega,fun e=>by omega⟩
 ·obtain ⟨b,h,p⟩:=c46 hT hx hk hK
  refine ⟨b,h,fun hb=>?_⟩
  obtain ⟨w,n,r⟩:=p hb
  exact ⟨by omega,by rw [hK,show Z3 15=0 from rfl];omega,by rw [hK,show Z0 15=0 from rfl];omega,fun e=>by omega,fun e=>by omega,fun e=>by omega,fun e=>by omega,fun e=>by omega,fun e=>by omega,fun _=>r,fun e=>by omega,fun e=>by omega,fun e=>by omega,fun e=>by omega,fun e=>by omega,fun e=>by omega,fun e=>by omega,fun e=>by omega⟩
 ·obtain ⟨b,h,p⟩:=b4W hT hx hk hK
  refine ⟨b,h,fun hb=>?_⟩
  obtain ⟨w,n,r⟩:=p hb
  exact ⟨by omega,by rw [hK,show Z3 16=0 from rfl];omega,by rw [hK,show Z0 16=0 from rfl];omega,fun e=>by omega,fun e=>by omega,fun e=>by omega,fun e=>by omega,fun e=>by omega,fun e=>by omega,fun e=>by omega,fun e=>by omega,fun e=>by omega,fun e=>by omega,fun e=>by omega,fun _=>b3v r,fun e=>by omega,fun e=>by omega,fun e=>by omega⟩
 ·obtain ⟨b,h,p⟩:=c3F hT hx hk hK
  refine ⟨b,h,fun hb=>?_⟩
  obtain ⟨w,n,r⟩:=p hb
  exact ⟨by omega,by rw [hK,show Z3 17=0 from rfl];omega,by rw [hK,show Z0 17=1 from rfl];omega,fun e=>by omega,fun e=>by omega,fun e=>by omega,fun e=>by omega,fun e=>by omega,fun e=>by omega,fun _=>r,fun e=>by omega,fun e=>by omega,fun e=>by omega,fun e=>by omega,fun e=>by omega,fun e=>by omega,fun e=>by omega,fun _=>a2h (by omega) n.2⟩
 ·obtain ⟨b,h,p⟩:=b8W hT hx hk hK
  refine ⟨b,h,fun hb=>?_⟩
  obtain ⟨w,n,r⟩:=p hb
  exact ⟨by omega,by rw [hK,show Z3 18=1 from rfl];omega,by rw [hK,show Z0 18=0 from rfl];omega,fun e=>by omega,fun e=>by omega,fun e=>by omega,fun e=>by omega,fun e=>by omega,fun e=>by omega,fun _=>r,fun e=>by omega,fun e=>by omega,fun e=>by omega,fun e=>by omega,fun e=>by omega,fun e=>by omega,fun e=>by omega,fun e=>by omega⟩
 ·obtain ⟨b,h,p⟩:=c21 hT hx hk hK
  refine ⟨b,h,fun hb=>?_⟩
  obtain ⟨w,n,r⟩:=p hb
  exact ⟨by omega,by rw [hK,show Z3 19=1 from rfl];omega,by rw [hK,show Z0 19=0 from rfl];omega,fun e=>by omega,fun e=>by omega,fun e=>by omega,fun e=>by omega,fun e=>by omega,fun e=>by omega,fun _=>r,fun e=>by omega,fun e=>by omega,fun e=>by omega,fun e=>by omega,fun e=>by omega,fun e=>by omega,fun e=>by omega,fun e=>by omega⟩
 ·obtain ⟨b,h,p⟩:=b6E hT hx hk hK
  refine ⟨b,h,fun hb=>?_⟩
  obtain ⟨w,n,r⟩:=p hb
  exact ⟨by omega,by rw [hK,show Z3 20=0 from rfl];omega,by rw [hK,show Z0 20=0 from rfl];omega,fun e=>by omega,fun e=>by omega,fun e=>by omega,fun e=>by omega,fun e=>by omega,fun _=>⟨by omega,(r.2.2 0 (by omega)).1 (by omega)⟩,fun e=>by omega,fun e=>by omega,fun e=>by omega,fun e=>by omega,fun e=>by omega,fun e=>by omega,fun e=>by omega,fun e=>by omega,fun e=>by omega⟩
 ·obtain ⟨b,h,p⟩:=c1D hT hx hk hK
  refine ⟨b,h,fun hb=>?_⟩
  obtain ⟨w,n,r⟩:=p hb
  exact ⟨by omega,by rw [hK,show Z3 21=0 from rfl];omega,by rw [hK,show Z0 21=0 from rfl];omega,fun e=>by omega,fun e=>by omega,fun e=>by omega,fun e=>by omega,fun e=>by omega,fun _=>⟨by omega,(r.2.2 0 (by omega)).1 (by omega)⟩,fun e=>by omega,fun e=>by omega,fun e=>by omega,fun e=>by omega,fun e=>by omega,fun e=>by omega,fun e=>by omega,fun e=>by omega,fun e=>by omega⟩
 ·obtain ⟨b,h,p⟩:=b8y hT hx hk hK
  refine ⟨b,h,fun hb=>?_⟩
  obtain ⟨w,n,r⟩:=p hb
  exact ⟨by omega,by rw [hK,show Z3 22=0 from rfl];omega,by rw [hK,show Z0 22=1 from rfl];omega,fun e=>by omega,fun e=>by omega,fun e=>by omega,fun e=>by omega,fun e=>by omega,fun e=>by omega,fun e=>by omega,fun e=>by omega,fun e=>by omega,fun e=>by omega,fun e=>by omega,fun e=>by omega,fun _=>⟨by omega,(r.2.2 0 (by omega)).1 (by omega),(r.2.2 1 (by omega)).1 (by omega),(a2h (by omega) n.2).1,(a2h (by omega) n.2).2⟩,fun e=>by omega,fun e=>by omega⟩
theorem b0C {d:D} {t:List Nd} (hT:N2 d t) (hl:t.length<=800):∀ (f i:Nat),f<=20->i<t.length->Iso 60 [d,.int .i64 (i:Int),.int .i64 ((21-f:Nat):Int)] (.tup [.int .i64 ((S4 t f i).1:Int),.bool (S4 t f i).2])
 | 0,i,_,hi=>by
   refine a1W ?_
   have e:(((21-0:Nat)):Int)=21:=rfl
   rw [e]
   refine M3 (vf:=a5j) rfl ?_
   unfold a5j;refine zE ?_
   try refine zW0 ?_
   exact ⟨.inr trivial,_,rR,rfl⟩
 | f+1,i,hf,hi=>by
   refine a1W ?_
   have hidx:=hT.at (z:=(i:Int)) (by omega) (by omega) (k:=.i64)
   rw [Int.toNat_natCast] at hidx
   have hx:=hT.nd hi
   have o1:=FL.one hx.w
   have o2:=FL.one hx.n
   have o3:=FL.one hx.k
   have hlk:=FI.len hx.k
   have hlen:=hT.len
   have e1:((20:Int)<((21-(f+1):Nat):Int))=False:=eq_false (by omega)
   have e2:IntKind.i64.wrap ((i:Int)+1)=((i+1:Nat):Int):=by rw [P1 (by omega) (by omega)];omega
   have e3:IntKind.i64.wrap (((21-(f+1):Nat):Int)+1)=((21-f:Nat):Int):=by rw [P1 (by omega) (by omega)];omega
   have key:∀ (n:Nat) (P:Nat×Bool),S4 t (f+1) i=P->True:=fun _ _ _=>trivial
   refine M3 (vf:=a5j) rfl ?_
   unfold a5j;refine zE ?_
   try refine zW (aN e1 e2) ?_
   refine U2 (Q:=M9 0 _) (fun n env s=>∃j next:Nat,j<=(nd t i).kids.length/\n=(nd t i).kids.length-j/\next<=t.length/\S4 t (f+1) i=a1Q (S4 t f) t.length ((nd t i).kids.drop j) next/\(env.get 0=d/\env.get 1=.int .i64 (i:Int)/\env.get 2=.int .i64 ((21-(f+1):Nat):Int)/\env.get 8=.int .i64 (next:Int)/\env.get 9=.int .i64 (j:Int))) ?_ (nd t i).kids.length _ _ ⟨0,i+1,by omega,rfl,by omega,rfl,by simp [Env.get]⟩
   rintro n env s ⟨j,next,hj,rfl,hn,hw,hE⟩
   by_cases c1:j<(nd t i).kids.length
   ·have c1':((j:Int)<((nd t i).kids.length:Int))=True:=eq_true (by omega)
    have hki:=FI.idx hx.k c1 (k:=.i64)
    have hs:=a1X c1 hx.kl
    rw [List.drop_eq_getElem_cons c1] at hw
    unfold a1Q at hw
    by_cases c2:(nd t i).kids[j]=(next:Int)
    ·have c2':((nd t i).kids[j] != (next:Int))=false:=by rw [c2];simp
     by_cases c3:next<t.length
     ·have c3':((t.length:Int)<=(next:Int))=False:=eq_false (by omega)
      rw [if_neg (by omega)] at hw
      have hrec:=b0C hT hl f next (by omega) c3
      obtain ⟨s1,hrec⟩:=hrec
      have hwl:=b4u f c3
      cases hb:(S4 t f next).2
      ·rw [hb] at hrec hw
       rw [if_neg (by simp)] at hw
       repeat first
       |(refine a2b (l:=[d,.int .i64 (next:Int),.int .i64 ((21-f:Nat):Int)]) ?_ (fz3 hT.fz t2 t2) hrec rfl rfl ?_;(focus (simp only [Env.evL,Env.ev,Env.get,Nat.reduceEqDiff,↓reduceIte,hE])))
       |refine zW (aN hE (aN e1 (aN hidx (aN o1 (aN o2 (aN o3 (aN hlk (aN hlen (aN c1' (aN hki (aN c2' (aN c3' e3)))))))))))) ?_
       exact ⟨.inr trivial,_,rR,by rw [hw]⟩
      ·rw [hb] at hrec hw
       rw [if_pos rfl] at hw
       repeat first
       |(refine a2b (l:=[d,.int .i64 (next:Int),.int .i64 ((21-f:Nat):Int)]) ?_ (fz3 hT.fz t2 t2) hrec rfl rfl ?_;(focus (simp only [Env.evL,Env.ev,Env.get,Nat.reduceEqDiff,↓reduceIte,hE])))
       |refine zW (aN hE (aN e1 (aN hidx (aN o1 (aN o2 (aN o3 (aN hlk (aN hlen (aN c1' (aN hki (aN c2' (aN c3' (aN e3 hs))))))))))))) ?_
       exact ⟨(nd t i).kids.length-(j+1),by omega,j+1,(S4 t f next).1,by omega,rfl,hwl,hw,(rG hE)⟩
     ·have c3':((t.length:Int)<=(next:Int))=True:=eq_true (by omega)
      rw [if_pos (by omega)] at hw
      try refine zW (aN hE (aN e1 (aN hidx (aN o1 (aN o2 (aN o3 (aN hlk (aN hlen (aN c1' (aN hki (aN c2' c3'))))))))))) ?_
      exact ⟨.inr trivial,_,rR,by rw [hw]⟩
    ·have c2':((nd t i).kids[j] != (next:Int))=true:=by rw [bne_iff_ne];exact c2
     rw [if_pos (by omega)] at hw
     try refine zW (aN hE (aN e1 (aN hidx (aN o1 (aN o2 (aN o3 (aN hlk (aN hlen (aN c1' (aN hki c2')))))))))) ?_
     exact ⟨.inr trivial,_,rR,by rw [hw]⟩
   ·have c1':((j:Int)<((nd t i).kids.length:Int))=False:=eq_false (by omega)
    rw [List.drop_eq_nil_of_le (by omega)] at hw
    try refine zW (aN hE (aN e1 (aN hidx (aN o1 (aN o2 (aN o3 (aN hlk (aN hlen c1')))))))) ?_
    exact ⟨.inr trivial,_,rR,by rw [hw];rfl⟩
theorem c2n {d:D} {t:List Nd} (hT:N2 d t):P4 35 [d] fun _=>True:=by
 refine R7 ?_
 have hlen:=hT.len
 refine M3 (vf:=a8U) rfl ?_
 unfold a8U;refine zE ?_
 try refine zW hlen ?_
 refine U2 (Q:=M9 0 _) (fun n env s=>∃ (i:Nat) (m:Int),i<=t.length/\n=t.length-i/\(env.get 0=d/\env.get 3=.int .i64 m/\env.get 4=.int .i64 (i:Int))) ?_ t.length _ _ ⟨0,_,by omega,rfl,by simp [Env.get];rfl⟩
 rintro n env s ⟨i,m,hi,rfl,hE⟩
 by_cases c1:i<t.length
 ·have c1':((i:Int)<(t.length:Int))=True:=eq_true (by omega)
  have hs:=a1X c1 hT.le
  have hidx:=hT.at (z:=(i:Int)) (by omega) (by omega) (k:=.i64)
  rw [Int.toNat_natCast] at hidx
  have hx:=hT.nd c1
  have o1:=FL.one hx.w
  have o2:=FL.one hx.n
  have o3:=FL.one hx.k
  have l1:=FS.len hx.w
  have l2:=FI.len hx.n
  have l3:=FI.len hx.k
  by_cases c2:m<=1500
  ·try refine zW (aN hE (aN hlen (aN c1' (aN c2 (aN hidx (aN o1 (aN o2 (aN o3 (aN l1 (aN l2 (aN l3 hs))))))))))) ?_
   exact ⟨t.length-(i+1),by omega,i+1,_,by omega,rfl,by simp only [Env.get,Nat.reduceEqDiff,↓reduceIte,hE,and_self,true_and,and_true];rfl⟩
  ·try refine zW (aN hE (aN hlen (aN c1' c2))) ?_
   exact ⟨.inr trivial,_,rR,_,rfl,trivial⟩
 ·have c1':((i:Int)<(t.length:Int))=False:=eq_false (by omega)
  try refine zW (aN hE (aN hlen c1')) ?_
  exact ⟨.inr trivial,_,rR,_,rfl,trivial⟩
theorem c1m {d:D} {t:List Nd} (hT:N2 d t):P4 36 [d] fun b=>b=true->N5 t:=by
 refine R7 ?_
 have hlen:=hT.len
 by_cases c1:t.length=0
 ·have c1':((t.length:Int)==0)=true:=by rw [c1];rfl
  refine M3 (vf:=a1y) rfl ?_
  unfold a1y;refine zE ?_
  try refine zW (aN hlen c1') ?_
  exact ⟨.inr trivial,_,rR,_,rfl,by simp⟩
 have c1':((t.length:Int)==0)=false:=by rw [beq_eq_false_iff_ne];omega
 by_cases c2:800<t.length
 ·have c2':((800:Int)<(t.length:Int))=True:=eq_true (by omega)
  refine M3 (vf:=a1y) rfl ?_
  unfold a1y;refine zE ?_
  try refine zW (aN hlen (aN c1' c2')) ?_
  exact ⟨.inr trivial,_,rR,_,rfl,by simp⟩
 have c2':((800:Int)<(t.length:Int))=False:=eq_false (by omega)
 have h0:=hT.at (z:=0) (by omega) (by omega) (k:=.i64)
 have x0:=hT.nd (i:=0) (by omega)
 have z0:(0:Int).toNat=0:=rfl
 rw [z0] at h0
 have o1:=FL.one x0.w
 have o2:=FL.one x0.n
 have o3:=FL.one x0.k
 by_cases c3:(nd t 0).kind=0
 ·have c3':((nd t 0).kind != 0)=false:=by rw [c3];rfl
  obtain ⟨s1,hw⟩:=b0C hT (by omega) 20 0 (by omega) (by omega)
  have e21:((21-20:Nat):Int)=1:=rfl
  have e00:((0:Nat):Int)=0:=rfl
  rw [e21,e00] at hw
  cases hb:(S4 t 20 0).2
  ·rw [hb] at hw
   refine M3 (vf:=a1y) rfl ?_
   unfold a1y;refine zE ?_
   repeat first
   |(refine a2b (l:=[d,.int .i64 0,.int .i64 1]) rfl (fz3 hT.fz t2 t2) hw rfl rfl ?_)
   |refine zW (aN hlen (aN c1' (aN c2' (aN h0 (aN o1 (aN o2 (aN o3 c3'))))))) ?_
   exact ⟨.inr trivial,_,rR,_,rfl,by simp⟩
  ·rw [hb] at hw
   by_cases c4:(S4 t 20 0).1=t.length
   ·have c4':(((S4 t 20 0).1:Int) != (t.length:Int))=false:=by rw [c4];simp
    have hfull:S4 t 20 0=(t.length,true):=by rw [<- c4,<- hb]
    obtain ⟨hsub,hsubs⟩:=a2x 20 (by omega) hfull
    have hbe:∀i,i<t.length->∀k∈(nd t i).kids,(i:Int)<k/\k<(t.length:Int):=fun i hi k hk=>hsub.down i (by omega) hi k hk
    refine M3 (vf:=a1y) rfl ?_
    unfold a1y;refine zE ?_
    repeat first
    |(refine a2b (l:=[d,.int .i64 0,.int .i64 1]) rfl (fz3 hT.fz t2 t2) hw rfl rfl ?_)
    |refine zW (aN hlen (aN c1' (aN c2' (aN h0 (aN o1 (aN o2 (aN o3 (aN c3' c4')))))))) ?_
    refine U2 (Q:=M9 0 _) (fun n env s=>∃i:Nat,i<=t.length/\n=t.length-i/\(∀j,j<i->a6c t (nd t j))/\(env.get 0=d/\env.get 5=.int .i64 (i:Int))) ?_ t.length _ _ ⟨0,by omega,rfl,fun j h=>by omega,by simp [Env.get]⟩
    rintro n env s ⟨i,hi,rfl,hall,hE⟩
    by_cases c5:i<t.length
    ·have c5':((i:Int)<(t.length:Int))=True:=eq_true (by omega)
     have hs:=a1X c5 hT.le
     have hidx:=hT.at (z:=(i:Int)) (by omega) (by omega) (k:=.i64)
     rw [Int.toNat_natCast] at hidx
     have hx:=hT.nd c5
     have p1:=FL.one hx.w
     have p2:=FL.one hx.n
     have p3:=FL.one hx.k
     obtain ⟨b,hn,hp⟩:=b8L hT hx (fun k hk=>by have:=hbe i c5 k hk;omega)
     have hz:=hx.fz
     unfold Nd.row at hn hz
     cases b
     ·repeat first
      |(apply t4 hn rfl;(focus (simp only [Env.evL,Env.ev,Env.get,Nat.reduceEqDiff,↓reduceIte,hE]));(focus exact fz2 hT.fz hz))
      |refine zW (aN hE (aN hlen (aN c5' (aN hidx (aN p1 (aN p2 p3)))))) ?_
      exact ⟨.inr trivial,_,rR,_,rfl,by simp⟩
     ·repeat first
      |(apply t4 hn rfl;(focus (simp only [Env.evL,Env.ev,Env.get,Nat.reduceEqDiff,↓reduceIte,hE]));(focus exact fz2 hT.fz hz))
      |refine zW (aN hE (aN hlen (aN c5' (aN hidx (aN p1 (aN p2 (aN p3 hs))))))) ?_
      refine ⟨t.length-(i+1),by omega,i+1,by omega,rfl,fun j h=>?_,(rG hE)⟩
      by_cases e:j=i
      ·subst e;exact hp rfl
      ·exact hall j (by omega)
    ·have c5':((i:Int)<(t.length:Int))=False:=eq_false (by omega)
     try refine zW (aN hE (aN hlen c5')) ?_
     exact ⟨.inr trivial,_,rR,_,rfl,fun _=>⟨⟨by omega,by omega,c3,hbe,fun j h=>hall j (by omega)⟩,hsubs,hfull⟩⟩
   ·have c4':(((S4 t 20 0).1:Int) != (t.length:Int))=true:=by rw [bne_iff_ne];omega
    refine M3 (vf:=a1y) rfl ?_
    unfold a1y;refine zE ?_
    repeat first
    |(refine a2b (l:=[d,.int .i64 0,.int .i64 1]) rfl (fz3 hT.fz t2 t2) hw rfl rfl ?_)
    |refine zW (aN hlen (aN c1' (aN c2' (aN h0 (aN o1 (aN o2 (aN o3 (aN c3' c4')))))))) ?_
    exact ⟨.inr trivial,_,rR,_,rfl,by simp⟩
 ·have c3':((nd t 0).kind != 0)=true:=by rw [bne_iff_ne];exact c3
  refine M3 (vf:=a1y) rfl ?_
  unfold a1y;refine zE ?_
  try refine zW (aN hlen (aN c1' (aN c2' (aN h0 (aN o1 (aN o2 (aN o3 c3'))))))) ?_
  exact ⟨.inr trivial,_,rR,_,rfl,by simp⟩
end Go.Proofs.YtnjlhebkhjcagaaGreat
namespace Go.Proofs.YtnjlhebkhjcagaaGreat
open Go.V
set_option maxRecDepth 100000
set_option maxHeartbeats 4000000
theorem c2Q {d:D} {l:List ByteArray} (h:Rd k4.empty d (l.map .str)):FS d l:=by
 rcases h with ⟨rfl,h⟩ | rfl | ⟨id,off,cs,rfl,h,_⟩
 ·left;exact ⟨rfl,by simpa using h⟩
 ·right;simp
 ·simp at h
theorem b3L {s:k4} {d:D} {l:List ByteArray} {ids:List Nat} (h:Sl s d (l.map .str) ids):∃d',V.ice s.get 20 d=some d'/\FS d' l:=by
 obtain ⟨d',h1,h2⟩:=h.rd.ice (by simp [Y2])
 exact ⟨d',h1,c2Q h2⟩
theorem c4Y {l:List ByteArray} {x:ByteArray} {i:Nat} (h:i<l.length):inB (l.take (i+1)) x=(inB (l.take i) x||decide (l[i]=x)):=by
 unfold inB
 rw [List.take_succ_eq_append_getElem h,List.any_append];simp
theorem a09 {d:D} {l:List ByteArray} {x:ByteArray} (hd:FS d l) (hl:l.length<=maxLen):Iso 127 [d,.str x] (.bool (inB l x)):=by
 refine a1W ?_
 have hlen:=FS.len hd
 refine M3 (vf:=a9E) rfl ?_
 unfold a9E;refine zE ?_
 try refine zW0 ?_
 refine U2 (Q:=M9 0 _) (fun n env s=>∃i:Nat,i<=l.length/\n=l.length-i/\inB (l.take i) x=false/\(env.get 0=d/\env.get 1=.str x/\env.get 5=.int .i64 (i:Int))) ?_ l.length _ _ ⟨0,by omega,rfl,by simp [inB],by simp [Env.get]⟩
 rintro n env s ⟨i,hi,rfl,hn,hE⟩
 by_cases c1:i<l.length
 ·have c1':((i:Int)<(l.length:Int))=True:=eq_true (by omega)
  have hs:=a1X c1 hl
  have hidx:=FS.idx hd c1 (k:=.i64)
  have ht:=c4Y (x:=x) c1
  rw [hn] at ht
  by_cases c2:l[i]=x
  ·try refine zW (aN hE (aN hlen (aN c1' (aN hidx c2)))) ?_
   refine ⟨.inr trivial,_,rR,?_⟩
   have:inB l x=true:=by rw [a9z];exact c2▸List.getElem_mem c1
   rw [this]
  ·rw [decide_eq_false c2] at ht
   try refine zW (aN hE (aN hlen (aN c1' (aN hidx (aN c2 hs))))) ?_
   exact ⟨l.length-(i+1),by omega,i+1,by omega,rfl,by rw [ht];rfl,(rG hE)⟩
 ·have c1':((i:Int)<(l.length:Int))=False:=eq_false (by omega)
  rw [List.take_of_length_le (by omega)] at hn
  try refine zW (aN hE (aN hlen c1')) ?_
  exact ⟨.inr trivial,_,rR,by rw [hn]⟩
theorem a9N {d:D} {t:List Nd} (hT:N2 d t) (hR:N5 t) {i:Nat} (hi:i<t.length):Iso 140 [d,.int .i64 (i:Int)] (.int .i64 (item t i:Int)):=by
 refine a1W ?_
 have hp:=hR.ok.pos
 have h0:=hT.at (z:=0) (by omega) (by omega) (k:=.i64)
 have x0:=hT.nd (i:=0) (by omega)
 have z0:(0:Int).toNat=0:=rfl
 rw [z0] at h0
 have o1:=FL.one x0.w
 have o2:=FL.one x0.n
 have o3:=FL.one x0.k
 have hlk:=FI.len x0.k
 refine M3 (vf:=a8Z) rfl ?_
 unfold a8Z;refine zE ?_
 try refine zW0 ?_
 refine U2 (Q:=M9 0 _) (fun n env s=>∃j out:Nat,j<=(nd t 0).kids.length/\n=(nd t 0).kids.length-j/\item t i=a1o ((nd t 0).kids.drop j) i out/\(env.get 0=d/\env.get 1=.int .i64 (i:Int)/\env.get 5=.int .i64 (out:Int)/\env.get 6=.int .i64 (j:Int))) ?_ (nd t 0).kids.length _ _ ⟨0,0,by omega,rfl,rfl,by simp [Env.get]⟩
 rintro n env s ⟨j,out,hj,rfl,hw,hE⟩
 by_cases c1:j<(nd t 0).kids.length
 ·have c1':((j:Int)<((nd t 0).kids.length:Int))=True:=eq_true (by omega)
  have hki:=FI.idx x0.k c1 (k:=.i64)
  have hs:=a1X c1 x0.kl
  have hkr:=hR.ok.kids 0 hp _ (List.getElem_mem c1)
  rw [List.drop_eq_getElem_cons c1] at hw
  unfold a1o at hw
  by_cases c2:(nd t 0).kids[j]<=(i:Int)
  ·rw [if_pos c2] at hw
   have hk:(((nd t 0).kids[j].toNat:Nat):Int)=(nd t 0).kids[j]:=Int.toNat_of_nonneg (by omega)
   try refine zW (aN hE (aN h0 (aN o1 (aN o2 (aN o3 (aN hlk (aN c1' (aN hki (aN c2 hs))))))))) ?_
   exact ⟨(nd t 0).kids.length-(j+1),by omega,j+1,_,by omega,rfl,hw,by simp only [Env.get,Nat.reduceEqDiff,↓reduceIte,hE,hk,and_self]⟩
  ·rw [if_neg c2] at hw
   try refine zW (aN hE (aN h0 (aN o1 (aN o2 (aN o3 (aN hlk (aN c1' (aN hki (aN c2 hs))))))))) ?_
   exact ⟨(nd t 0).kids.length-(j+1),by omega,j+1,_,by omega,rfl,hw,(rG hE)⟩
 ·have c1':((j:Int)<((nd t 0).kids.length:Int))=False:=eq_false (by omega)
  rw [List.drop_eq_nil_of_le (by omega)] at hw
  try refine zW (aN hE (aN h0 (aN o1 (aN o2 (aN o3 (aN hlk c1')))))) ?_
  exact ⟨.inr trivial,_,rR,by rw [hw];rfl⟩
theorem a7E (t:List Nd) (at':Nat) (kind:Int):∀n,(V3 t at' kind n).length<=n
 | 0=>Nat.le_refl _
 | n+1=>by
   have:=a7E t at' kind n
   rw [V3]
   split
   ·simp;exact this
   ·omega
def b35 (f:Nat) (l:List D) (x:List ByteArray):Prop:=∃s1 r d',Ev vfs f l k4.empty r s1/\V.ice s1.get 20 r=some d'/\FS d' x
theorem W9 {pairs i t f args rest s Q} {env:Env} {l:List D} {x:List ByteArray} (hr:b35 f l x) (hl:env.evL args=l) (ha:M6 (V.ice s.get 20) l=some l) (hp:pureL l=true)
 (h:∀d,FS d x->WQ vfs pairs rest ((t,d)::env) s Q):WQ vfs pairs ((i,⟨some t,.m (.call .iso (.cst (.fn f [])) args),none⟩)::rest) env s Q:=by
 obtain ⟨s1,r,d',h1,h2,h3⟩:=hr
 exact a2b hl ha h1 h2 (by rw [hp,Bool.or_true]) (h d' h3)
theorem X1 {d:D} {t:List Nd} (hT:N2 d t) (hR:N5 t) {i:Nat} (hi:i<t.length) {kind:Int} (hk:kind=1∨kind=2∨kind=3):b35 126 [d,.int .i64 (i:Int),.int .i64 kind] (V3 t i kind i):=by
 have main:EvP vfs 126 [d,.int .i64 (i:Int),.int .i64 kind] k4.empty fun r s'=>∃ids,Sl s' r ((V3 t i kind i).map .str) ids:=by
  have hit:=a9N hT hR hi
  have hle:=hR.ok.le
  refine M3 (vf:=a81) rfl ?_
  unfold a81;refine zE ?_
  repeat first
  |(apply t4 hit rfl rfl (fz2 hT.fz t2))
  |refine zW0 ?_
  refine U2 (Q:=M9 0 _) (fun n env s=>∃ (j:Nat) (dn:D) (ids:List Nat),j<=i/\n=i-j/\Sl s dn ((V3 t i kind j).map .str) ids/\(env.get 0=d/\env.get 1=.int .i64 (i:Int)/\env.get 2=.int .i64 kind/\env.get 7=dn/\env.get 8=.int .i64 (item t i:Int)/\env.get 9=.int .i64 (j:Int))) ?_ i _ _ ⟨0,.nils,[],by omega,rfl,.inl ⟨rfl,rfl,rfl⟩,by simp [Env.get]⟩
  rintro n env s ⟨j,dn,ids,hj,rfl,hS,hE⟩
  have hnl:=a7E t i kind j
  by_cases c1:j<i
  ·have c1':((j:Int)<(i:Int))=True:=eq_true (by omega)
   have hs:IntKind.i64.wrap ((j:Int)+1)=((j+1:Nat):Int):=by rw [P1 (by omega) (by omega)];omega
   have hidx:=hT.at (z:=(j:Int)) (by omega) (by omega) (k:=.i64)
   rw [Int.toNat_natCast] at hidx
   have hx:=hT.nd (i:=j) (by omega)
   have o1:=FL.one hx.w
   have o2:=FL.one hx.n
   have o3:=FL.one hx.k
   have hnode:=hR.ok.node j (by omega)
   have hitj:=a9N hT hR (i:=j) (by omega)
   by_cases c2:(nd t j).kind=kind
   ·have c2':((nd t j).kind != kind)=false:=by rw [c2];simp
    have hwl:(nd t j).words.length=1:=by
     rw [hnode.wl,c2]
     rcases hk with rfl | rfl | rfl<;>rfl
    have hw0:M8 1 (nd t j).dw (.int .i64 0)=some (.fp [.str ((nd t j).word 0)] 0):=by
     rw [a2i (by omega)];exact FS.idx hx.w (i:=0) (by omega)
    obtain ⟨dn',hi1,hi2⟩:=b3L hS
    obtain ⟨s1,hin⟩:=a09 (x:=(nd t j).word 0) hi2 (by have:maxLen=9223372036854775807:=rfl;omega)
    obtain ⟨s',d',e1,e2,e3,e4⟩:=hS.push1 (.str ((nd t j).word 0)) (bytes:=16) (by decide) (by rw [List.length_map];omega)
    have hone:=hS.one
    by_cases b1:item t j=j
    ·have c3:item t j=j∨item t j=item t i:=.inl b1
     have b1':(item t j=j)=True:=eq_true b1
     cases hr:inB (V3 t i kind j) ((nd t j).word 0)
     ·rw [hr] at hin
      repeat first
      |(apply t4 hitj rfl;(focus (simp only [Env.evL,Env.ev,Env.get,Nat.reduceEqDiff,↓reduceIte,hE]));(focus exact fz2 hT.fz t2))
      |(refine a1T (l:=[dn,.str ((nd t j).word 0)]) hin rfl ?_ ?_ ?_;(focus (simp only [Env.evL,Env.ev,Env.get,Nat.reduceEqDiff,↓reduceIte,hE]));(focus (simp only [M6,hi1];rfl)))
      |(apply a7C;(focus (simp only [Env.ev,Env.get,Nat.reduceEqDiff,↓reduceIte,hE];rfl));(focus rfl);(focus exact e1))
      |refine zW (aN hE (aN c1' (aN hidx (aN o1 (aN o2 (aN o3 (aN c2' (aN b1' (aN hw0 (aN hs hone)))))))))) ?_
      refine ⟨i-(j+1),by omega,j+1,d',[s.next+1],by omega,rfl,?_,(rG hE)⟩
      rw [V3,if_pos ⟨c2,c3,hr⟩,List.map_append]
      exact e2
     ·rw [hr] at hin
      repeat first
      |(apply t4 hitj rfl;(focus (simp only [Env.evL,Env.ev,Env.get,Nat.reduceEqDiff,↓reduceIte,hE]));(focus exact fz2 hT.fz t2))
      |(refine a1T (l:=[dn,.str ((nd t j).word 0)]) hin rfl ?_ ?_ ?_;(focus (simp only [Env.evL,Env.ev,Env.get,Nat.reduceEqDiff,↓reduceIte,hE]));(focus (simp only [M6,hi1];rfl)))
      |refine zW (aN hE (aN c1' (aN hidx (aN o1 (aN o2 (aN o3 (aN c2' (aN b1' (aN hw0 (aN hs hone)))))))))) ?_
      refine ⟨i-(j+1),by omega,j+1,dn,ids,by omega,rfl,?_,(rG hE)⟩
      rw [V3,if_neg (by rw [hr];simp)]
      exact hS
    ·have b1':(item t j=j)=False:=eq_false b1
     by_cases b2:item t j=item t i
     ·have b2':(item t j=item t i)=True:=eq_true b2
      have c3:item t j=j∨item t j=item t i:=.inr b2
      cases hr:inB (V3 t i kind j) ((nd t j).word 0)
      ·rw [hr] at hin
       repeat first
       |(apply t4 hitj rfl;(focus (simp only [Env.evL,Env.ev,Env.get,Nat.reduceEqDiff,↓reduceIte,hE]));(focus exact fz2 hT.fz t2))
       |(refine a1T (l:=[dn,.str ((nd t j).word 0)]) hin rfl ?_ ?_ ?_;(focus (simp only [Env.evL,Env.ev,Env.get,Nat.reduceEqDiff,↓reduceIte,hE]));(focus (simp only [M6,hi1];rfl)))
       |(apply a7C;(focus (simp only [Env.ev,Env.get,Nat.reduceEqDiff,↓reduceIte,hE];rfl));(focus rfl);(focus exact e1))
       |refine zW (aN hE (aN c1' (aN hidx (aN o1 (aN o2 (aN o3 (aN c2' (aN b1' (aN b2' (aN hw0 (aN hs hone))))))))))) ?_
       refine ⟨i-(j+1),by omega,j+1,d',[s.next+1],by omega,rfl,?_,(rG hE)⟩
       rw [V3,if_pos ⟨c2,c3,hr⟩,List.map_append]
       exact e2
      ·rw [hr] at hin
       repeat first
       |(apply t4 hitj rfl;(focus (simp only [Env.evL,Env.ev,Env.get,Nat.reduceEqDiff,↓reduceIte,hE]));(focus exact fz2 hT.fz t2))
       |(refine a1T (l:=[dn,.str ((nd t j).word 0)]) hin rfl ?_ ?_ ?_;(focus (simp only [Env.evL,Env.ev,Env.get,Nat.reduceEqDiff,↓reduceIte,hE]));(focus (simp only [M6,hi1];rfl)))
       |refine zW (aN hE (aN c1' (aN hidx (aN o1 (aN o2 (aN o3 (aN c2' (aN b1' (aN b2' (aN hw0 (aN hs hone))))))))))) ?_
       refine ⟨i-(j+1),by omega,j+1,dn,ids,by omega,rfl,?_,(rG hE)⟩
       rw [V3,if_neg (by rw [hr];simp)]
       exact hS
     ·have b2':(item t j=item t i)=False:=eq_false b2
      repeat first
      |(apply t4 hitj rfl;(focus (simp only [Env.evL,Env.ev,Env.get,Nat.reduceEqDiff,↓reduceIte,hE]));(focus exact fz2 hT.fz t2))
      |refine zW (aN hE (aN c1' (aN hidx (aN o1 (aN o2 (aN o3 (aN c2' (aN b1' (aN b2' hs))))))))) ?_
      refine ⟨i-(j+1),by omega,j+1,dn,ids,by omega,rfl,?_,(rG hE)⟩
      rw [V3,if_neg fun h=>by rcases h.2.1 with h | h;exact b1 h;exact b2 h]
      exact hS
   ·have c2':((nd t j).kind != kind)=true:=by rw [bne_iff_ne];exact c2
    try refine zW (aN hE (aN c1' (aN hidx (aN o1 (aN o2 (aN o3 (aN c2' hs))))))) ?_
    refine ⟨i-(j+1),by omega,j+1,dn,ids,by omega,rfl,?_,(rG hE)⟩
    rw [V3,if_neg fun h=>c2 h.1]
    exact hS
  ·have c1':((j:Int)<(i:Int))=False:=eq_false (by omega)
   obtain rfl:j=i:=by omega
   try refine zW (aN hE c1') ?_
   exact ⟨.inr trivial,_,rR,ids,hS⟩
 obtain ⟨r,s',h,ids,hS⟩:=main
 obtain ⟨d',h1,h2⟩:=b3L hS
 exact ⟨s',r,d',h,h1,h2⟩
end Go.Proofs.YtnjlhebkhjcagaaGreat
namespace Go.Proofs.YtnjlhebkhjcagaaGreat
open Go.V
set_option maxRecDepth 100000
set_option maxHeartbeats 4000000
structure a18 (t:List Nd) (i:Nat):Prop where
 use:(nd t i).kind=6∨(nd t i).kind=18->a0Y t 2 i ((nd t i).word 0)
 chan:(nd t i).kind=7∨(nd t i).kind=19∨(nd t i).kind=8->a0Y t 1 i ((nd t i).word 0)
 recv:(nd t i).kind=8->a0Y t 2 i ((nd t i).word 1)
 once:(nd t i).kind=1∨(nd t i).kind=2∨(nd t i).kind=3->¬ a0Y t 1 i ((nd t i).word 0)/\¬ a0Y t 2 i ((nd t i).word 0)/\¬ a0Y t 3 i ((nd t i).word 0)
theorem a3s {t:List Nd} {i:Nat} {k:Int} {s:ByteArray}:inB (V3 t i k i) s=true↔a0Y t k i s:=by rw [a9z,b1Q];rfl
theorem a2R {t:List Nd} {i:Nat} {k:Int} {s:ByteArray}:inB (V3 t i k i) s=false↔¬ a0Y t k i s:=by rw [<- a3s];simp
theorem a1g {t:List Nd} (hR:N5 t) {i:Nat} {k:Int} (hi:i<t.length):(V3 t i k i).length<=maxLen:=by
 have h1:=a7E t i k i
 have h2:=hR.ok.le
 have:maxLen=9223372036854775807:=rfl
 omega
theorem b5w {d:D} {t:List Nd} (hT:N2 d t) (hR:N5 t) {i:Nat} (hi:i<t.length) (hK:(nd t i).kind=1):P4 109 [d,.int .i64 (i:Int)] fun b=>b=false->a18 t i:=by
 refine R7 ?_
 have hidx:=hT.at (z:=(i:Int)) (by omega) (by omega) (k:=.i64)
 rw [Int.toNat_natCast] at hidx
 have hx:=hT.nd hi
 have hnode:=hR.ok.node i hi
 have o1:=FL.one hx.w
 have o2:=FL.one hx.n
 have o3:=FL.one hx.k
 have hpu:∀n m:Int,pureL [d,.int .i64 n,.int .i64 m]=true:=fun n m=>by simp [pureL,U4,hT.fl.pure]
 have hwl:(nd t i).words.length=1:=by rw [hnode.wl,hK];rfl
 have w0:M8 1 (nd t i).dw (.int .i64 0)=some (.fp [.str ((nd t i).word 0)] 0):=by
  rw [a2i (by omega)];exact FS.idx hx.w (i:=0) (by omega)
 rw [hK] at hidx
 refine M3 (vf:=a0A) rfl ?_
 unfold a0A;refine zE ?_
 try refine zW (aN hidx (aN o1 (aN o2 o3))) ?_
 refine W9 (X1 hT hR hi (.inl rfl)) rfl (fz3 hT.fz t2 t2) (hpu _ _) ?_
 intro dc hdc
 try refine zW0 ?_
 refine W9 (X1 hT hR hi (.inr (.inl rfl))) rfl (fz3 hT.fz t2 t2) (hpu _ _) ?_
 intro dv hdv
 try refine zW0 ?_
 refine W9 (X1 hT hR hi (.inr (.inr rfl))) rfl (fz3 hT.fz t2 t2) (hpu _ _) ?_
 intro dp hdp
 have fc:=FL.fz hdc
 have fv:=FL.fz hdv
 have fp:=FL.fz hdp
 have hc:=a09 (x:=(nd t i).word 0) hdc (a1g hR hi)
 have hv:=a09 (x:=(nd t i).word 0) hdv (a1g hR hi)
 have hp:=a09 (x:=(nd t i).word 0) hdp (a1g hR hi)
 cases r1:inB (V3 t i 1 i) ((nd t i).word 0)
 ·rw [r1] at hc
  cases r2:inB (V3 t i 2 i) ((nd t i).word 0)
  ·rw [r2] at hv
   repeat first
   |(apply t4 hc rfl rfl (fz2 fc U1))
   |(apply t4 hv rfl rfl (fz2 fv U1))
   |(apply t4 hp rfl rfl (fz2 fp U1))
   |refine zW (aN o1 (aN o2 (aN o3 w0))) ?_
   exact ⟨.inr trivial,_,rR,_,rfl,fun h=>⟨fun e=>by omega,fun e=>by omega,fun e=>by omega,fun _=>⟨a2R.1 r1,a2R.1 r2,a2R.1 h⟩⟩⟩
  ·rw [r2] at hv
   repeat first
   |(apply t4 hc rfl rfl (fz2 fc U1))
   |(apply t4 hv rfl rfl (fz2 fv U1))
   |(apply t4 hp rfl rfl (fz2 fp U1))
   |refine zW (aN o1 (aN o2 (aN o3 w0))) ?_
   exact ⟨.inr trivial,_,rR,_,rfl,by simp⟩
 ·rw [r1] at hc
  repeat first
  |(apply t4 hc rfl rfl (fz2 fc U1))
  |(apply t4 hv rfl rfl (fz2 fv U1))
  |(apply t4 hp rfl rfl (fz2 fp U1))
  |refine zW (aN o1 (aN o2 (aN o3 w0))) ?_
  exact ⟨.inr trivial,_,rR,_,rfl,by simp⟩
theorem c0X {d:D} {t:List Nd} (hT:N2 d t) (hR:N5 t) {i:Nat} (hi:i<t.length) (hK:(nd t i).kind=2):P4 109 [d,.int .i64 (i:Int)] fun b=>b=false->a18 t i:=by
 refine R7 ?_
 have hidx:=hT.at (z:=(i:Int)) (by omega) (by omega) (k:=.i64)
 rw [Int.toNat_natCast] at hidx
 have hx:=hT.nd hi
 have hnode:=hR.ok.node i hi
 have o1:=FL.one hx.w
 have o2:=FL.one hx.n
 have o3:=FL.one hx.k
 have hpu:∀n m:Int,pureL [d,.int .i64 n,.int .i64 m]=true:=fun n m=>by simp [pureL,U4,hT.fl.pure]
 have hwl:(nd t i).words.length=1:=by rw [hnode.wl,hK];rfl
 have w0:M8 1 (nd t i).dw (.int .i64 0)=some (.fp [.str ((nd t i).word 0)] 0):=by
  rw [a2i (by omega)];exact FS.idx hx.w (i:=0) (by omega)
 rw [hK] at hidx
 refine M3 (vf:=a0A) rfl ?_
 unfold a0A;refine zE ?_
 try refine zW (aN hidx (aN o1 (aN o2 o3))) ?_
 refine W9 (X1 hT hR hi (.inl rfl)) rfl (fz3 hT.fz t2 t2) (hpu _ _) ?_
 intro dc hdc
 try refine zW0 ?_
 refine W9 (X1 hT hR hi (.inr (.inl rfl))) rfl (fz3 hT.fz t2 t2) (hpu _ _) ?_
 intro dv hdv
 try refine zW0 ?_
 refine W9 (X1 hT hR hi (.inr (.inr rfl))) rfl (fz3 hT.fz t2 t2) (hpu _ _) ?_
 intro dp hdp
 have fc:=FL.fz hdc
 have fv:=FL.fz hdv
 have fp:=FL.fz hdp
 have hc:=a09 (x:=(nd t i).word 0) hdc (a1g hR hi)
 have hv:=a09 (x:=(nd t i).word 0) hdv (a1g hR hi)
 have hp:=a09 (x:=(nd t i).word 0) hdp (a1g hR hi)
 cases r1:inB (V3 t i 1 i) ((nd t i).word 0)
 ·rw [r1] at hc
  cases r2:inB (V3 t i 2 i) ((nd t i).word 0)
  ·rw [r2] at hv
   repeat first
   |(apply t4 hc rfl rfl (fz2 fc U1))
   |(apply t4 hv rfl rfl (fz2 fv U1))
   |(apply t4 hp rfl rfl (fz2 fp U1))
   |refine zW (aN o1 (aN o2 (aN o3 w0))) ?_
   exact ⟨.inr trivial,_,rR,_,rfl,fun h=>⟨fun e=>by omega,fun e=>by omega,fun e=>by omega,fun _=>⟨a2R.1 r1,a2R.1 r2,a2R.1 h⟩⟩⟩
  ·rw [r2] at hv
   repeat first
   |(apply t4 hc rfl rfl (fz2 fc U1))
   |(apply t4 hv rfl rfl (fz2 fv U1))
   |(apply t4 hp rfl rfl (fz2 fp U1))
   |refine zW (aN o1 (aN o2 (aN o3 w0))) ?_
   exact ⟨.inr trivial,_,rR,_,rfl,by simp⟩
 ·rw [r1] at hc
  repeat first
  |(apply t4 hc rfl rfl (fz2 fc U1))
  |(apply t4 hv rfl rfl (fz2 fv U1))
  |(apply t4 hp rfl rfl (fz2 fp U1))
  |refine zW (aN o1 (aN o2 (aN o3 w0))) ?_
  exact ⟨.inr trivial,_,rR,_,rfl,by simp⟩
theorem c3d {d:D} {t:List Nd} (hT:N2 d t) (hR:N5 t) {i:Nat} (hi:i<t.length) (hK:(nd t i).kind=3):P4 109 [d,.int .i64 (i:Int)] fun b=>b=false->a18 t i:=by
 refine R7 ?_
 have hidx:=hT.at (z:=(i:Int)) (by omega) (by omega) (k:=.i64)
 rw [Int.toNat_natCast] at hidx
 have hx:=hT.nd hi
 have hnode:=hR.ok.node i hi
 have o1:=FL.one hx.w
 have o2:=FL.one hx.n
 have o3:=FL.one hx.k
 have hpu:∀n m:Int,pureL [d,.int .i64 n,.int .i64 m]=true:=fun n m=>by simp [pureL,U4,hT.fl.pure]
 have hwl:(nd t i).words.length=1:=by rw [hnode.wl,hK];rfl
 have w0:M8 1 (nd t i).dw (.int .i64 0)=some (.fp [.str ((nd t i).word 0)] 0):=by
  rw [a2i (by omega)];exact FS.idx hx.w (i:=0) (by omega)
 rw [hK] at hidx
 refine M3 (vf:=a0A) rfl ?_
 unfold a0A;refine zE ?_
 try refine zW (aN hidx (aN o1 (aN o2 o3))) ?_
 refine W9 (X1 hT hR hi (.inl rfl)) rfl (fz3 hT.fz t2 t2) (hpu _ _) ?_
 intro dc hdc
 try refine zW0 ?_
 refine W9 (X1 hT hR hi (.inr (.inl rfl))) rfl (fz3 hT.fz t2 t2) (hpu _ _) ?_
 intro dv hdv
 try refine zW0 ?_
 refine W9 (X1 hT hR hi (.inr (.inr rfl))) rfl (fz3 hT.fz t2 t2) (hpu _ _) ?_
 intro dp hdp
 have fc:=FL.fz hdc
 have fv:=FL.fz hdv
 have fp:=FL.fz hdp
 have hc:=a09 (x:=(nd t i).word 0) hdc (a1g hR hi)
 have hv:=a09 (x:=(nd t i).word 0) hdv (a1g hR hi)
 have hp:=a09 (x:=(nd t i).word 0) hdp (a1g hR hi)
 cases r1:inB (V3 t i 1 i) ((nd t i).word 0)
 ·rw [r1] at hc
  cases r2:inB (V3 t i 2 i) ((nd t i).word 0)
  ·rw [r2] at hv
   repeat first
   |(apply t4 hc rfl rfl (fz2 fc U1))
   |(apply t4 hv rfl rfl (fz2 fv U1))
   |(apply t4 hp rfl rfl (fz2 fp U1))
   |refine zW (aN o1 (aN o2 (aN o3 w0))) ?_
   exact ⟨.inr trivial,_,rR,_,rfl,fun h=>⟨fun e=>by omega,fun e=>by omega,fun e=>by omega,fun _=>⟨a2R.1 r1,a2R.1 r2,a2R.1 h⟩⟩⟩
  ·rw [r2] at hv
   repeat first
   |(apply t4 hc rfl rfl (fz2 fc U1))
   |(apply t4 hv rfl rfl (fz2 fv U1))
   |(apply t4 hp rfl rfl (fz2 fp U1))
   |refine zW (aN o1 (aN o2 (aN o3 w0))) ?_
   exact ⟨.inr trivial,_,rR,_,rfl,by simp⟩
 ·rw [r1] at hc
  repeat first
  |(apply t4 hc rfl rfl (fz2 fc U1))
  |(apply t4 hv rfl rfl (fz2 fv U1))
  |(apply t4 hp rfl rfl (fz2 fp U1))
  |refine zW (aN o1 (aN o2 (aN o3 w0))) ?_
  exact ⟨.inr trivial,_,rR,_,rfl,by simp⟩
theorem b4U {d:D} {t:List Nd} (hT:N2 d t) (hR:N5 t) {i:Nat} (hi:i<t.length) (hK:(nd t i).kind=6):P4 109 [d,.int .i64 (i:Int)] fun b=>b=false->a18 t i:=by
 refine R7 ?_
 have hidx:=hT.at (z:=(i:Int)) (by omega) (by omega) (k:=.i64)
 rw [Int.toNat_natCast] at hidx
 have hx:=hT.nd hi
 have hnode:=hR.ok.node i hi
 have o1:=FL.one hx.w
 have o2:=FL.one hx.n
 have o3:=FL.one hx.k
 have hpu:∀n m:Int,pureL [d,.int .i64 n,.int .i64 m]=true:=fun n m=>by simp [pureL,U4,hT.fl.pure]
 have hwl:(nd t i).words.length=1:=by rw [hnode.wl,hK];rfl
 have w0:M8 1 (nd t i).dw (.int .i64 0)=some (.fp [.str ((nd t i).word 0)] 0):=by
  rw [a2i (by omega)];exact FS.idx hx.w (i:=0) (by omega)
 rw [hK] at hidx
 refine M3 (vf:=a0A) rfl ?_
 unfold a0A;refine zE ?_
 try refine zW (aN hidx (aN o1 (aN o2 o3))) ?_
 refine W9 (X1 hT hR hi (.inl rfl)) rfl (fz3 hT.fz t2 t2) (hpu _ _) ?_
 intro dc hdc
 try refine zW0 ?_
 refine W9 (X1 hT hR hi (.inr (.inl rfl))) rfl (fz3 hT.fz t2 t2) (hpu _ _) ?_
 intro dv hdv
 try refine zW0 ?_
 refine W9 (X1 hT hR hi (.inr (.inr rfl))) rfl (fz3 hT.fz t2 t2) (hpu _ _) ?_
 intro dp hdp
 have fc:=FL.fz hdc
 have fv:=FL.fz hdv
 have fp:=FL.fz hdp
 have hc:=a09 (x:=(nd t i).word 0) hdv (a1g hR hi)
 repeat first
 |(apply t4 hc rfl rfl (fz2 fv U1))
 |refine zW (aN o1 (aN o2 (aN o3 w0))) ?_
 exact ⟨.inr trivial,_,rR,_,rfl,fun h=>⟨fun _=>a3s.1 (by simpa using h),fun e=>by omega,fun e=>by omega,fun e=>by omega⟩⟩
theorem b7B {d:D} {t:List Nd} (hT:N2 d t) (hR:N5 t) {i:Nat} (hi:i<t.length) (hK:(nd t i).kind=18):P4 109 [d,.int .i64 (i:Int)] fun b=>b=false->a18 t i:=by
 refine R7 ?_
 have hidx:=hT.at (z:=(i:Int)) (by omega) (by omega) (k:=.i64)
 rw [Int.toNat_natCast] at hidx
 have hx:=hT.nd hi
 have hnode:=hR.ok.node i hi
 have o1:=FL.one hx.w
 have o2:=FL.one hx.n
 have o3:=FL.one hx.k
 have hpu:∀n m:Int,pureL [d,.int .i64 n,.int .i64 m]=true:=fun n m=>by simp [pureL,U4,hT.fl.pure]
 have hwl:(nd t i).words.length=1:=by rw [hnode.wl,hK];rfl
 have w0:M8 1 (nd t i).dw (.int .i64 0)=some (.fp [.str ((nd t i).word 0)] 0):=by
  rw [a2i (by omega)];exact FS.idx hx.w (i:=0) (by omega)
 rw [hK] at hidx
 refine M3 (vf:=a0A) rfl ?_
 unfold a0A;refine zE ?_
 try refine zW (aN hidx (aN o1 (aN o2 o3))) ?_
 refine W9 (X1 hT hR hi (.inl rfl)) rfl (fz3 hT.fz t2 t2) (hpu _ _) ?_
 intro dc hdc
 try refine zW0 ?_
 refine W9 (X1 hT hR hi (.inr (.inl rfl))) rfl (fz3 hT.fz t2 t2) (hpu _ _) ?_
 intro dv hdv
 try refine zW0 ?_
 refine W9 (X1 hT hR hi (.inr (.inr rfl))) rfl (fz3 hT.fz t2 t2) (hpu _ _) ?_
 intro dp hdp
 have fc:=FL.fz hdc
 have fv:=FL.fz hdv
 have fp:=FL.fz hdp
 have hc:=a09 (x:=(nd t i).word 0) hdv (a1g hR hi)
 repeat first
 |(apply t4 hc rfl rfl (fz2 fv U1))
 |refine zW (aN o1 (aN o2 (aN o3 w0))) ?_
 exact ⟨.inr trivial,_,rR,_,rfl,fun h=>⟨fun _=>a3s.1 (by simpa using h),fun e=>by omega,fun e=>by omega,fun e=>by omega⟩⟩
theorem b4x {d:D} {t:List Nd} (hT:N2 d t) (hR:N5 t) {i:Nat} (hi:i<t.length) (hK:(nd t i).kind=7):P4 109 [d,.int .i64 (i:Int)] fun b=>b=false->a18 t i:=by
 refine R7 ?_
 have hidx:=hT.at (z:=(i:Int)) (by omega) (by omega) (k:=.i64)
 rw [Int.toNat_natCast] at hidx
 have hx:=hT.nd hi
 have hnode:=hR.ok.node i hi
 have o1:=FL.one hx.w
 have o2:=FL.one hx.n
 have o3:=FL.one hx.k
 have hpu:∀n m:Int,pureL [d,.int .i64 n,.int .i64 m]=true:=fun n m=>by simp [pureL,U4,hT.fl.pure]
 have hwl:(nd t i).words.length=1:=by rw [hnode.wl,hK];rfl
 have w0:M8 1 (nd t i).dw (.int .i64 0)=some (.fp [.str ((nd t i).word 0)] 0):=by
  rw [a2i (by omega)];exact FS.idx hx.w (i:=0) (by omega)
 rw [hK] at hidx
 refine M3 (vf:=a0A) rfl ?_
 unfold a0A;refine zE ?_
 try refine zW (aN hidx (aN o1 (aN o2 o3))) ?_
 refine W9 (X1 hT hR hi (.inl rfl)) rfl (fz3 hT.fz t2 t2) (hpu _ _) ?_
 intro dc hdc
 try refine zW0 ?_
 refine W9 (X1 hT hR hi (.inr (.inl rfl))) rfl (fz3 hT.fz t2 t2) (hpu _ _) ?_
 intro dv hdv
 try refine zW0 ?_
 refine W9 (X1 hT hR hi (.inr (.inr rfl))) rfl (fz3 hT.fz t2 t2) (hpu _ _) ?_
 intro dp hdp
 have fc:=FL.fz hdc
 have fv:=FL.fz hdv
 have fp:=FL.fz hdp
 have hc:=a09 (x:=(nd t i).word 0) hdc (a1g hR hi)
 repeat first
 |(apply t4 hc rfl rfl (fz2 fc U1))
 |refine zW (aN o1 (aN o2 (aN o3 w0))) ?_
 exact ⟨.inr trivial,_,rR,_,rfl,fun h=>⟨fun e=>by omega,fun _=>a3s.1 (by simpa using h),fun e=>by omega,fun e=>by omega⟩⟩
theorem b6S {d:D} {t:List Nd} (hT:N2 d t) (hR:N5 t) {i:Nat} (hi:i<t.length) (hK:(nd t i).kind=19):P4 109 [d,.int .i64 (i:Int)] fun b=>b=false->a18 t i:=by
 refine R7 ?_
 have hidx:=hT.at (z:=(i:Int)) (by omega) (by omega) (k:=.i64)
 rw [Int.toNat_natCast] at hidx
 have hx:=hT.nd hi
 have hnode:=hR.ok.node i hi
 have o1:=FL.one hx.w
 have o2:=FL.one hx.n
 have o3:=FL.one hx.k
 have hpu:∀n m:Int,pureL [d,.int .i64 n,.int .i64 m]=true:=fun n m=>by simp [pureL,U4,hT.fl.pure]
 have hwl:(nd t i).words.length=1:=by rw [hnode.wl,hK];rfl
 have w0:M8 1 (nd t i).dw (.int .i64 0)=some (.fp [.str ((nd t i).word 0)] 0):=by
  rw [a2i (by omega)];exact FS.idx hx.w (i:=0) (by omega)
 rw [hK] at hidx
 refine M3 (vf:=a0A) rfl ?_
 unfold a0A;refine zE ?_
 try refine zW (aN hidx (aN o1 (aN o2 o3))) ?_
 refine W9 (X1 hT hR hi (.inl rfl)) rfl (fz3 hT.fz t2 t2) (hpu _ _) ?_
 intro dc hdc
 try refine zW0 ?_
 refine W9 (X1 hT hR hi (.inr (.inl rfl))) rfl (fz3 hT.fz t2 t2) (hpu _ _) ?_
 intro dv hdv
 try refine zW0 ?_
 refine W9 (X1 hT hR hi (.inr (.inr rfl))) rfl (fz3 hT.fz t2 t2) (hpu _ _) ?_
 intro dp hdp
 have fc:=FL.fz hdc
 have fv:=FL.fz hdv
 have fp:=FL.fz hdp
 have hc:=a09 (x:=(nd t i).word 0) hdc (a1g hR hi)
 repeat first
 |(apply t4 hc rfl rfl (fz2 fc U1))
 |refine zW (aN o1 (aN o2 (aN o3 w0))) ?_
 exact ⟨.inr trivial,_,rR,_,rfl,fun h=>⟨fun e=>by omega,fun _=>a3s.1 (by simpa using h),fun e=>by omega,fun e=>by omega⟩⟩
theorem b82 {d:D} {t:List Nd} (hT:N2 d t) (hR:N5 t) {i:Nat} (hi:i<t.length) (hK:(nd t i).kind=8):P4 109 [d,.int .i64 (i:Int)] fun b=>b=false->a18 t i:=by
 refine R7 ?_
 have hidx:=hT.at (z:=(i:Int)) (by omega) (by omega) (k:=.i64)
 rw [Int.toNat_natCast] at hidx
 have hx:=hT.nd hi
 have hnode:=hR.ok.node i hi
 have o1:=FL.one hx.w
 have o2:=FL.one hx.n
 have o3:=FL.one hx.k
 have hpu:∀n m:Int,pureL [d,.int .i64 n,.int .i64 m]=true:=fun n m=>by simp [pureL,U4,hT.fl.pure]
 have hwl:(nd t i).words.length=2:=by rw [hnode.wl,hK];rfl
 have w0:M8 1 (nd t i).dw (.int .i64 0)=some (.fp [.str ((nd t i).word 0)] 0):=by
  rw [a2i (by omega)];exact FS.idx hx.w (i:=0) (by omega)
 have w1:M8 1 (nd t i).dw (.int .i64 1)=some (.fp [.str ((nd t i).word 1)] 0):=by
  rw [a2i (by omega)];exact FS.idx hx.w (i:=1) (by omega)
 rw [hK] at hidx
 refine M3 (vf:=a0A) rfl ?_
 unfold a0A;refine zE ?_
 try refine zW (aN hidx (aN o1 (aN o2 o3))) ?_
 refine W9 (X1 hT hR hi (.inl rfl)) rfl (fz3 hT.fz t2 t2) (hpu _ _) ?_
 intro dc hdc
 try refine zW0 ?_
 refine W9 (X1 hT hR hi (.inr (.inl rfl))) rfl (fz3 hT.fz t2 t2) (hpu _ _) ?_
 intro dv hdv
 try refine zW0 ?_
 refine W9 (X1 hT hR hi (.inr (.inr rfl))) rfl (fz3 hT.fz t2 t2) (hpu _ _) ?_
 intro dp hdp
 have fc:=FL.fz hdc
 have fv:=FL.fz hdv
 have fp:=FL.fz hdp
 have hc:=a09 (x:=(nd t i).word 0) hdc (a1g hR hi)
 have hv:=a09 (x:=(nd t i).word 1) hdv (a1g hR hi)
 cases r1:inB (V3 t i 1 i) ((nd t i).word 0)
 ·rw [r1] at hc
  repeat first
  |(apply t4 hc rfl rfl (fz2 fc U1))
  |(apply t4 hv rfl rfl (fz2 fv U1))
  |refine zW (aN o1 (aN o2 (aN o3 (aN w0 w1)))) ?_
  exact ⟨.inr trivial,_,rR,_,rfl,by simp⟩
 ·rw [r1] at hc
  repeat first
  |(apply t4 hc rfl rfl (fz2 fc U1))
  |(apply t4 hv rfl rfl (fz2 fv U1))
  |refine zW (aN o1 (aN o2 (aN o3 (aN w0 w1)))) ?_
  exact ⟨.inr trivial,_,rR,_,rfl,fun h=>⟨fun e=>by omega,fun _=>a3s.1 r1,fun _=>a3s.1 (by simpa using h),fun e=>by omega⟩⟩
theorem b5z {d:D} {t:List Nd} (hT:N2 d t) (hR:N5 t) {i:Nat} (hi:i<t.length) (hK:(nd t i).kind≠1/\(nd t i).kind≠2/\(nd t i).kind≠3/\(nd t i).kind≠6/\(nd t i).kind≠18/\(nd t i).kind≠7/\(nd t i).kind≠19/\(nd t i).kind≠8):P4 109 [d,.int .i64 (i:Int)] fun b=>b=false->a18 t i:=by
 refine R7 ?_
 have hidx:=hT.at (z:=(i:Int)) (by omega) (by omega) (k:=.i64)
 rw [Int.toNat_natCast] at hidx
 have hx:=hT.nd hi
 have hnode:=hR.ok.node i hi
 have o1:=FL.one hx.w
 have o2:=FL.one hx.n
 have o3:=FL.one hx.k
 have hpu:∀n m:Int,pureL [d,.int .i64 n,.int .i64 m]=true:=fun n m=>by simp [pureL,U4,hT.fl.pure]
 have n1:((nd t i).kind==1)=false:=by rw [beq_eq_false_iff_ne];omega
 have n2:((nd t i).kind==2)=false:=by rw [beq_eq_false_iff_ne];omega
 have n3:((nd t i).kind==3)=false:=by rw [beq_eq_false_iff_ne];omega
 have n6:((nd t i).kind==6)=false:=by rw [beq_eq_false_iff_ne];omega
 have n18:((nd t i).kind==18)=false:=by rw [beq_eq_false_iff_ne];omega
 have n7:((nd t i).kind==7)=false:=by rw [beq_eq_false_iff_ne];omega
 have n19:((nd t i).kind==19)=false:=by rw [beq_eq_false_iff_ne];omega
 have n8:((nd t i).kind==8)=false:=by rw [beq_eq_false_iff_ne];omega
 refine M3 (vf:=a0A) rfl ?_
 unfold a0A;refine zE ?_
 try refine zW (aN hidx (aN o1 (aN o2 o3))) ?_
 refine W9 (X1 hT hR hi (.inl rfl)) rfl (fz3 hT.fz t2 t2) (hpu _ _) ?_
 intro dc hdc
 try refine zW0 ?_
 refine W9 (X1 hT hR hi (.inr (.inl rfl))) rfl (fz3 hT.fz t2 t2) (hpu _ _) ?_
 intro dv hdv
 try refine zW0 ?_
 refine W9 (X1 hT hR hi (.inr (.inr rfl))) rfl (fz3 hT.fz t2 t2) (hpu _ _) ?_
 intro dp hdp
 have fc:=FL.fz hdc
 have fv:=FL.fz hdv
 have fp:=FL.fz hdp
 try refine zW (aN o1 (aN o2 (aN o3 (aN n1 (aN n2 (aN n3 (aN n6 (aN n18 (aN n7 (aN n19 n8)))))))))) ?_
 exact ⟨.inr trivial,_,rR,_,rfl,fun _=>⟨fun e=>by omega,fun e=>by omega,fun e=>by omega,fun e=>by omega⟩⟩
theorem b5u {d:D} {t:List Nd} (hT:N2 d t) (hR:N5 t) {i:Nat} (hi:i<t.length):P4 109 [d,.int .i64 (i:Int)] fun b=>b=false->a18 t i:=by
 by_cases k1:(nd t i).kind=1
 ·exact b5w hT hR hi k1
 by_cases k2:(nd t i).kind=2
 ·exact c0X hT hR hi k2
 by_cases k3:(nd t i).kind=3
 ·exact c3d hT hR hi k3
 by_cases k6:(nd t i).kind=6
 ·exact b4U hT hR hi k6
 by_cases k18:(nd t i).kind=18
 ·exact b7B hT hR hi k18
 by_cases k7:(nd t i).kind=7
 ·exact b4x hT hR hi k7
 by_cases k19:(nd t i).kind=19
 ·exact b6S hT hR hi k19
 by_cases k8:(nd t i).kind=8
 ·exact b82 hT hR hi k8
 exact b5z hT hR hi ⟨k1,k2,k3,k6,k18,k7,k19,k8⟩
def a8o (f:Nat) (l:List D) (P:Prop):Prop:=∃ (e a:Int),Iso f l (.agg [.int .i64 e,.int .i64 a])/\(e=0->P)
theorem b1A {f:Nat} {l:List D} {P:Prop} (h:EvP vfs f l k4.empty fun d _=>∃ (e a:Int),d=.agg [.int .i64 e,.int .i64 a]/\(e=0->P)):a8o f l P:=by
 obtain ⟨d,s',h,e,a,rfl,hp⟩:=h
 exact ⟨e,a,⟨s',h⟩,hp⟩
theorem c0Q {d:D} {t:List Nd} (hT:N2 d t) (hR:N5 t):a8o 85 [d] (a1j t):=by
 refine b1A ?_
 have hlen:=hT.len
 have hle:=hR.ok.le
 refine M3 (vf:=a7I) rfl ?_
 unfold a7I;refine zE ?_
 try refine zW0 ?_
 refine U2 (Q:=M9 0 _) (fun n env s=>∃i:Nat,i<=t.length/\n=t.length-i/\(∀j,j<i->a18 t j)/\s.get 0=some (.cells [.int .i64 0,.int .i64 0])/\(env.get 0=d/\env.get 2=.ptr 0 0/\env.get 3=.int .i64 (i:Int))) ?_ t.length _ _ ⟨0,by omega,rfl,fun j h=>by omega,O1 rfl,by simp [Env.get,O2.at];rfl⟩
 rintro n env s ⟨i,hi,rfl,hall,hg,hE⟩
 have hgl:=M1 hg
 by_cases c1:i<t.length
 ·have c1':((i:Int)<(t.length:Int))=True:=eq_true (by omega)
  have hs:IntKind.i64.wrap ((i:Int)+1)=((i+1:Nat):Int):=by rw [P1 (by omega) (by omega)];omega
  have hidx:=hT.at (z:=(i:Int)) (by omega) (by omega) (k:=.i64)
  rw [Int.toNat_natCast] at hidx
  have hx:=hT.nd c1
  have o1:=FL.one hx.w
  have o2:=FL.one hx.n
  have o3:=FL.one hx.k
  obtain ⟨b,hb,hp⟩:=b5u hT hR c1
  cases b
  ·repeat first
   |(apply t4 hb rfl;(focus (simp only [Env.evL,Env.ev,Env.get,Nat.reduceEqDiff,↓reduceIte,hE]));(focus exact fz2 hT.fz t2))
   |refine zW (aN hE (aN hlen (aN c1' hs))) ?_
   refine ⟨t.length-(i+1),by omega,i+1,by omega,rfl,fun j h=>?_,hg,(rG hE)⟩
   by_cases e:j=i
   ·subst e;exact hp rfl
   ·exact hall j (by omega)
  ·repeat first
   |(apply t4 hb rfl;(focus (simp only [Env.evL,Env.ev,Env.get,Nat.reduceEqDiff,↓reduceIte,hE]));(focus exact fz2 hT.fz t2))
   |refine zW (aN hE (aN hlen (aN c1' (aN hidx (aN o1 (aN o2 (aN o3 hg))))))) ?_
   refine ⟨.inr trivial,_,?_,20,(nd t i).pos,rfl,by simp⟩
   simp only [S6,T0,V0,Env.get,Nat.reduceEqDiff,↓reduceIte,hE,P5 hgl]
   rfl
 ·have c1':((i:Int)<(t.length:Int))=False:=eq_false (by omega)
  try refine zW (aN hE (aN hlen (aN c1' hg))) ?_
  refine ⟨.inr trivial,_,?_,0,0,rfl,fun _=>?_⟩
  ·simp only [S6,T0,V0,Env.get,Nat.reduceEqDiff,↓reduceIte,hE,P5 hgl]
   rfl
  ·exact ⟨fun j h=>(hall j (by omega)).use,fun j h=>(hall j (by omega)).chan,fun j h=>(hall j (by omega)).recv,fun j h=>(hall j (by omega)).once⟩
end Go.Proofs.YtnjlhebkhjcagaaGreat
namespace Go.V
def b2n (b:Bool):Nat:=if b then 1 else 0
@[simp] theorem c5b:b2n true=1:=rfl
@[simp] theorem c5a:b2n false=0:=rfl
def num (f:Nat->Bool):Nat->Nat
 | 0=>0
 | n+1=>num f n+b2n (f n)*2 ^ n
def b0F (A B:Nat->Bool) (c:Bool):Nat->Bool
 | 0=>c
 | i+1=>(A i&&B i)||((A i != B i)&&b0F A B c i)
def c0q (A B:Nat->Bool) (c:Bool) (i:Nat):Bool:=(A i != B i) != b0F A B c i
def b1u (A B:Nat->Bool):Nat->Bool
 | 0=>false
 | i+1=>if A i != B i then B i else b1u A B i
def N8 (n:Int) (w:Nat):Int:=(n+2 ^ (w-1)) % 2 ^ w-2 ^ (w-1)
theorem a6K (w:Nat):(0:Int)<2 ^ w:=by
 have:(0:Int)<((2 ^ w:Nat):Int):=by exact_mod_cast Nat.pos_of_ne_zero (by simp)
 simpa using this
theorem a56 {w:Nat} (h:0<w):(2:Int) ^ w=2*2 ^ (w-1):=by
 obtain ⟨k,rfl⟩:∃k,w=k+1:=⟨w-1,by omega⟩
 rw [Int.pow_succ,Nat.add_sub_cancel];omega
theorem b3B {a b:Int} {w:Nat} (h:a % 2 ^ w=b % 2 ^ w):N8 a w=N8 b w:=by
 unfold N8
 rw [Int.add_emod,h,<- Int.add_emod]
theorem a9q {n:Int} {w:Nat} (h:0<w) (h1:-2 ^ (w-1)<=n) (h2:n<2 ^ (w-1)):N8 n w=n:=by
 unfold N8
 rw [Int.emod_eq_of_lt (by omega) (by have:=a56 h;omega)];omega
theorem a87 {n:Int} {w:Nat} (h:0<w):-2 ^ (w-1)<=N8 n w/\N8 n w<2 ^ (w-1):=by
 unfold N8
 have hp:=a6K w
 have h1:=Int.emod_nonneg (n+2 ^ (w-1)) (b:=2 ^ w) (by omega)
 have h2:=Int.emod_lt_of_pos (n+2 ^ (w-1)) hp
 have:=a56 h
 omega
def a8y (r:Nat->Bool) (d:Bool) (j:Nat):Bool:=if j=0 then d else r (j-1)
def b8s (c:Bool) (A B:Nat->Bool) (j:Nat):Bool:=if c then A j else B j
mutual
def a7B (X Y:Nat->Bool) (w:Nat):Nat->(Nat->Bool)
 | 0=>fun _=>false
 | k+1=>b8s (!b1u (a8y (a7B X Y w k) (X (w-1-k))) Y w) (c0q (a8y (a7B X Y w k) (X (w-1-k))) (fun j=>!Y j) true) (a8y (a7B X Y w k) (X (w-1-k)))
end
end Go.V
namespace Go.Proofs.YtnjlhebkhjcagaaGreat
open Go.V
set_option maxRecDepth 100000
set_option maxHeartbeats 4000000
theorem b1E {v w:Nat} (h:w<=v):(2:Int) ^ w<=2 ^ v:=by
 have:(2:Nat) ^ w<=2 ^ v:=Nat.pow_le_pow_right (by omega) h
 exact_mod_cast this
theorem b5M {n:Int} {w:Nat} (h:0<w):N8 n w=if 2 ^ (w-1)<=n % 2 ^ w then n % 2 ^ w-2 ^ w else n % 2 ^ w:=by
 have hp:=a56 h
 have p:=a6K w
 have h1:=Int.emod_nonneg n (b:=2 ^ w) (by omega)
 have h2:=Int.emod_lt_of_pos n p
 have e:N8 n w=N8 (n % 2 ^ w) w:=(b3B (by rw [Int.emod_emod_of_dvd _ (Int.dvd_refl _)])).symm
 rw [e]
 generalize n % 2 ^ w=r at *
 split
 ·rw [<- b3B (a:=r-2 ^ w) (b:=r) (by rw [Int.sub_emod,Int.emod_self];simp),a9q h (by omega) (by omega)]
 ·rw [a9q h (by omega) (by omega)]
theorem c0M {n m:Int} (h:0<m):(if n.tmod m<0 then n.tmod m+m else n.tmod m)=n % m:=by
 have h1:=Int.mul_tdiv_add_tmod n m
 have h2:=Int.tmod_lt_of_pos n h
 have h3:-m<n.tmod m:=by
  have:=Int.tmod_lt_of_pos (-n) h
  rw [Int.neg_tmod] at this
  omega
 have e:n % m=n.tmod m % m:=by
  conv=>lhs;rw [<- h1]
  rw [Int.add_comm,Int.add_mul_emod_self_left]
 rw [e]
 generalize n.tmod m=r at *
 split
 ·rw [<- Int.add_emod_right,Int.emod_eq_of_lt (by omega) (by omega)]
 ·rw [Int.emod_eq_of_lt (by omega) (by omega)]
theorem b1a {w:Nat} (h:w<=16):(2:Int) ^ w<=65536:=by
 have:=b1E (w:=w) (v:=16) h
 omega
theorem b1z {s:k4} {x n:Int} {w:Nat} (hn:(w:Int)=min (max n 1) 16) (hx:a1C x) :
 Ev vfs 38 [.int .i64 x,.int .i64 n] s (.int .i64 (N8 x w)) s:=by
 obtain ⟨hx1,hx2⟩:=hx
 have hw1:1<=w:=by omega
 have hwl:w<=16:=by omega
 have hp:=b1a hwl
 have hp0:=a6K w
 rw [b5M hw1]
 refine a4D (vf:=a9g) rfl ?_
 unfold a9g;refine zE ?_
 try refine zW0 ?_
 refine WP.mono (Q:=fun e env s'=>e=.normal/\s'=s/\(env.get 0=.int .i64 x/\env.get 1=.int .i64 (max n 1))) ?_ ?_
 ·by_cases h:n<1
  ·have b1:(n<1)=True:=eq_true h
   try refine zW b1 ?_
   exact ⟨trivial,trivial,by simp [Env.get];omega⟩
  ·have b1:(n<1)=False:=eq_false h
   try refine zW b1 ?_
   exact ⟨trivial,trivial,by simp [Env.get];omega⟩
 rintro e env s' ⟨rfl,rfl,hE⟩
 simp only [O7]
 try refine zW hE ?_
 refine WP.mono (Q:=fun e env s1=>e=.normal/\s1=s'/\(env.get 0=.int .i64 x/\env.get 1=.int .i64 (w:Int))) ?_ ?_
 ·by_cases h:16<max n 1
  ·have b1:(16<max n 1)=True:=eq_true h
   try refine zW (aN hE b1) ?_
   exact ⟨trivial,trivial,by simp [Env.get,hE];omega⟩
  ·have b1:(16<max n 1)=False:=eq_false h
   try refine zW (aN hE b1) ?_
   exact ⟨trivial,trivial,by simp [Env.get,hE];omega⟩
 clear hE
 rintro e env s1 ⟨rfl,rfl,hE⟩
 simp only [O7]
 try refine zW hE ?_
 refine U2 (fun k env s2=>∃ (i:Nat),i<=w/\k=w-i/\s2=s1/\(env.get 0=.int .i64 x/\env.get 1=.int .i64 (w:Int)/\env.get 5=.int .i64 (2 ^ i)/\env.get 6=.int .i64 (i:Int))) ?_ w _ _
  ⟨0,Nat.zero_le _,by omega,rfl,by simp [Env.get,hE]⟩
 clear hE
 rintro k env s2 ⟨i,hi,rfl,rfl,hE⟩
 by_cases hci:i<w
 ·have hci':(i:Int)<(w:Int):=by omega
  have hs:=(by rw [P1 (by omega) (by omega)];omega:IntKind.i64.wrap ((i:Int)+1)=((i+1:Nat):Int))
  have hpi:=b1a (w:=i) (by omega)
  have hpi0:=a6K i
  have hmul:IntKind.i64.wrap ((2:Int) ^ i*2)=2 ^ (i+1):=by rw [P1 (by omega) (by omega),Int.pow_succ]
  try refine zW (aN hE (aN hci' (aN hs hmul))) ?_
  exact ⟨w-(i+1),by omega,i+1,by omega,rfl,trivial,(rG hE)⟩
 ·have hci':¬ (i:Int)<(w:Int):=by omega
  obtain rfl:i=w:=by omega
  have hne:((2:Int) ^ i=0)=False:=eq_false (by omega)
  have hm:=c0M (n:=x) hp0
  have h1:=Int.emod_nonneg x (b:=2 ^ i) (by omega)
  have h2:=Int.emod_lt_of_pos x hp0
  have hh:=a56 (w:=i) (by omega)
  have hdiv:((2:Int) ^ i).tdiv 2=2 ^ (i-1):=by
   rw [Int.tdiv_eq_ediv_of_nonneg (by omega)];omega
  have hwd:IntKind.i64.wrap ((2:Int) ^ (i-1))=2 ^ (i-1):=P1 (by omega) (by omega)
  have hs2:IntKind.i64.wrap (x % 2 ^ i-2 ^ i)=x % 2 ^ i-2 ^ i:=P1 (by omega) (by omega)
  by_cases hneg:x.tmod (2 ^ i)<0
  ·rw [if_pos hneg] at hm
   have hadd:IntKind.i64.wrap (x.tmod (2 ^ i)+2 ^ i)=x % 2 ^ i:=by rw [hm];exact P1 (by omega) (by omega)
   by_cases hc:2 ^ (i-1)<=x % 2 ^ i
   ·try refine zW (aN hE (aN hci' (aN hne (aN hneg (aN hadd (aN hdiv (aN hwd (aN hc hs2)))))))) ?_
    exact ⟨.inr trivial,trivial,(by simp only [S6,T0,V0,Env.get,Nat.reduceEqDiff,↓reduceIte,hc]<;>rfl)⟩
   ·try refine zW (aN hE (aN hci' (aN hne (aN hneg (aN hadd (aN hdiv (aN hwd (aN hc hs2)))))))) ?_
    exact ⟨.inr trivial,trivial,(by simp only [S6,T0,V0,Env.get,Nat.reduceEqDiff,↓reduceIte,hc]<;>rfl)⟩
  ·rw [if_neg hneg] at hm
   have hneg:(x % 2 ^ i<0)=False:=eq_false (by omega)
   by_cases hc:2 ^ (i-1)<=x % 2 ^ i
   ·try refine zW (aN hE (aN hci' (aN hne (aN hneg (aN hm (aN hdiv (aN hwd (aN hc hs2)))))))) ?_
    exact ⟨.inr trivial,trivial,(by simp only [S6,T0,V0,Env.get,Nat.reduceEqDiff,↓reduceIte,hc]<;>rfl)⟩
   ·try refine zW (aN hE (aN hci' (aN hne (aN hneg (aN hm (aN hdiv (aN hwd (aN hc hs2)))))))) ?_
    exact ⟨.inr trivial,trivial,(by simp only [S6,T0,V0,Env.get,Nat.reduceEqDiff,↓reduceIte,hc]<;>rfl)⟩
theorem a6I {x n:Int} {w:Nat} (hn:(w:Int)=min (max n 1) 16) (hx:a1C x):Iso 38 [.int .i64 x,.int .i64 n] (.int .i64 (N8 x w)):=⟨_,b1z hn hx⟩
end Go.Proofs.YtnjlhebkhjcagaaGreat
namespace Go.V
def a19 (t:List Nd) (i:Nat):Int:=if (nd t (item t i)).kind=3 then (nd t (item t i)).num 0 else 1
def a1f (t:List Nd) (kind:Int) (i:Nat):Int:=if kind=1 then 1 else min (a19 t i) 100
def P3 (t:List Nd) (kind:Int):Nat->Int
 | 0=>0
 | i+1=>if P3 t kind i<100/\(nd t i).kind=kind then P3 t kind i+a1f t kind i else P3 t kind i
theorem b4r {t:List Nd} {kind:Int} {i:Nat} (h:100<=P3 t kind i):∀ {j:Nat},i<=j->P3 t kind j=P3 t kind i
 | 0,hj=>by
   obtain rfl:i=0:=by omega
   rfl
 | j+1,hj=>by
   by_cases e:i=j+1
   ·subst e;rfl
   ·have ih:=b4r h (j:=j) (by omega)
    rw [P3,if_neg (by omega),ih]
structure a2I (t:List Nd) (i:Nat):Prop where
 chan:(nd t i).kind=1->1<=(nd t i).num 0/\(nd t i).num 0<=3/\1<=(nd t i).num 1/\(nd t i).num 1<=8/\P3 t 1 (i+1)<=3
 var:(nd t i).kind=2->1<=(nd t i).num 0/\(nd t i).num 0<=8/\N8 ((nd t i).num 1) ((nd t i).num 0).toNat=(nd t i).num 1/\P3 t 2 (i+1)<=8
 proc:(nd t i).kind=3->1<=(nd t i).num 0/\P3 t 3 (i+1)<=4
 lit:(nd t i).kind=17->(nd t i).num 0<=127
structure a02 (t:List Nd):Prop where
 fine:∀i,i<t.length->a2I t i
theorem b2g {t:List Nd} (h:N5 t) {i:Nat} (hi:i<t.length):item t i<=i:=by
 by_cases h0:i=0
 ·subst h0
  have:item t 0=0:=a6P fun k hk=>by have:=h.subs.mem k hk;omega
  omega
 ·obtain ⟨b,_,_,h3,_⟩:=b93 h (by omega) hi
  exact h3
theorem b13 {t:List Nd} (h:N5 t) {i:Nat} (hi:i<t.length):0<=a19 t i/\a19 t i<=999999:=by
 have:=b2g h hi
 unfold a19
 split
 ·rename_i h3
  exact (h.ok.node _ (by omega)).copies h3
 ·omega
theorem b19 {t:List Nd} (h:N5 t) {kind:Int} {i:Nat} (hi:i<t.length):0<=a1f t kind i/\a1f t kind i<=100:=by
 have:=b13 h hi
 unfold a1f
 split<;>omega
theorem a8i {t:List Nd} (h:N5 t) {kind:Int}:∀ {i:Nat},i<=t.length->0<=P3 t kind i/\P3 t kind i<200
 | 0,_=>by simp [P3]
 | i+1,hi=>by
   have ih:=a8i h (kind:=kind) (i:=i) (by omega)
   have:=b19 h (kind:=kind) (i:=i) (by omega)
   rw [P3]
   split<;>omega
end Go.V
namespace Go.Proofs.YtnjlhebkhjcagaaGreat
open Go.V
set_option maxRecDepth 100000
set_option maxHeartbeats 4000000
theorem a2q {x:Nd} (hx:x.Ok) {i:Nat} (h:i<x.nums.length):M8 1 x.dn (.int .i64 (i:Int))=some (.fp [.int .i64 (x.num i)] 0):=by rw [a3k h];exact FI.idx hx.n h
theorem b6o {d:D} {t:List Nd} (hT:N2 d t) (hR:N5 t) {i:Nat} (hi:i<t.length):Iso 128 [d,.int .i64 (i:Int)] (.int .i64 (a19 t i)):=by
 refine a1W ?_
 have hit:=a9N hT hR hi
 have hle:=b2g hR hi
 have hidx:=hT.at (z:=(item t i:Int)) (by omega) (by omega) (k:=.i64)
 rw [Int.toNat_natCast] at hidx
 have hx:=hT.nd (i:=item t i) (by omega)
 have o1:=FL.one hx.w
 have o2:=FL.one hx.n
 have o3:=FL.one hx.k
 unfold a19
 by_cases c:(nd t (item t i)).kind=3
 ·have c':((nd t (item t i)).kind==3)=true:=by rw [c];rfl
  have hnl:(nd t (item t i)).nums.length=1:=by rw [(hR.ok.node _ (by omega)).nl,c];rfl
  have n0:=a2q hx (i:=0) (by omega)
  have z0:((0:Nat):Int)=0:=rfl
  rw [z0] at n0
  rw [if_pos c]
  refine M3 (vf:=a5z) rfl ?_
  unfold a5z;refine zE ?_
  repeat first
  |(apply t4 hit rfl rfl (fz2 hT.fz t2))
  |refine zW (aN hidx (aN o1 (aN o2 (aN o3 (aN c' n0))))) ?_
  exact ⟨.inr trivial,_,rR,rfl⟩
 ·have c':((nd t (item t i)).kind==3)=false:=by rw [beq_eq_false_iff_ne];exact c
  rw [if_neg c]
  refine M3 (vf:=a5z) rfl ?_
  unfold a5z;refine zE ?_
  repeat first
  |(apply t4 hit rfl rfl (fz2 hT.fz t2))
  |refine zW (aN hidx (aN o1 (aN o2 (aN o3 c')))) ?_
  exact ⟨.inr trivial,_,rR,rfl⟩
theorem a8V {d:D} {t:List Nd} (hT:N2 d t) (hR:N5 t) {i:Nat} (hi:i<t.length) {kind:Int}:Iso 110 [d,.int .i64 (i:Int),.int .i64 kind] (.int .i64 (P3 t kind (i+1))):=by
 refine a1W ?_
 have hle:=hR.ok.le
 refine M3 (vf:=a7G) rfl ?_
 unfold a7G;refine zE ?_
 try refine zW0 ?_
 refine U2 (Q:=M9 0 _) (fun n env s=>∃j:Nat,j<=i+1/\n=i+1-j/\(env.get 0=d/\env.get 1=.int .i64 (i:Int)/\env.get 2=.int .i64 kind/\env.get 7=.int .i64 (P3 t kind j)/\env.get 8=.int .i64 (j:Int))) ?_ (i+1) _ _ ⟨0,by omega,rfl,by simp [Env.get,P3]⟩
 rintro n env s ⟨j,hj,rfl,hE⟩
 have hsi:=a8i hR (kind:=kind) (i:=j) (by omega)
 by_cases c1:j<=i
 ·have c1':((j:Int)<=(i:Int))=True:=eq_true (by omega)
  have hs:IntKind.i64.wrap ((j:Int)+1)=((j+1:Nat):Int):=by rw [P1 (by omega) (by omega)];omega
  by_cases c2:P3 t kind j<100
  ·have hidx:=hT.at (z:=(j:Int)) (by omega) (by omega) (k:=.i64)
   rw [Int.toNat_natCast] at hidx
   have hx:=hT.nd (i:=j) (by omega)
   have o1:=FL.one hx.w
   have o2:=FL.one hx.n
   have o3:=FL.one hx.k
   by_cases c3:(nd t j).kind=kind
   ·have c3':((nd t j).kind != kind)=false:=by rw [c3];simp
    have hst:P3 t kind (j+1)=P3 t kind j+a1f t kind j:=by rw [P3,if_pos ⟨c2,c3⟩]
    have hsr:=b19 hR (kind:=kind) (i:=j) (by omega)
    by_cases c4:kind=1
    ·have c4':(kind==1)=true:=by rw [c4];rfl
     have hw:IntKind.i64.wrap (P3 t kind j+1)=P3 t kind (j+1):=by rw [P1 (by omega) (by omega),hst,a1f,if_pos c4]
     try refine zW (aN hE (aN c1' (aN c2 (aN hidx (aN o1 (aN o2 (aN o3 (aN c3' (aN c4' (aN hw hs)))))))))) ?_
     exact ⟨i+1-(j+1),by omega,j+1,by omega,rfl,(rG hE)⟩
    ·have c4':(kind==1)=false:=by rw [beq_eq_false_iff_ne];exact c4
     have hc:=b6o hT hR (i:=j) (by omega)
     have hcr:=b13 hR (i:=j) (by omega)
     have hw:IntKind.i64.wrap (P3 t kind j+min (a19 t j) 100)=P3 t kind (j+1):=by rw [P1 (by omega) (by omega),hst,a1f,if_neg c4]
     repeat first
     |(apply t4 hc rfl;(focus (simp only [Env.evL,Env.ev,Env.get,Nat.reduceEqDiff,↓reduceIte,hE]));(focus exact fz2 hT.fz t2))
     |refine zW (aN hE (aN c1' (aN c2 (aN hidx (aN o1 (aN o2 (aN o3 (aN c3' (aN c4' (aN hw hs)))))))))) ?_
     exact ⟨i+1-(j+1),by omega,j+1,by omega,rfl,(rG hE)⟩
   ·have c3':((nd t j).kind != kind)=true:=by rw [bne_iff_ne];exact c3
    have hst:P3 t kind (j+1)=P3 t kind j:=by rw [P3,if_neg fun h=>c3 h.2]
    try refine zW (aN hE (aN c1' (aN c2 (aN hidx (aN o1 (aN o2 (aN o3 (aN c3' hs)))))))) ?_
    exact ⟨i+1-(j+1),by omega,j+1,by omega,rfl,by simp only [Env.get,Nat.reduceEqDiff,↓reduceIte,hE,hst,and_self]⟩
  ·have hb:=b4r (t:=t) (kind:=kind) (i:=j) (by omega) (j:=i+1) (by omega)
   try refine zW (aN hE (aN c1' c2)) ?_
   exact ⟨.inr trivial,_,rR,by rw [hb]⟩
 ·have c1':((j:Int)<=(i:Int))=False:=eq_false (by omega)
  obtain rfl:j=i+1:=by omega
  try refine zW (aN hE c1') ?_
  exact ⟨.inr trivial,_,rR,rfl⟩
theorem b1r {d:D} {t:List Nd} (hT:N2 d t) (hR:N5 t) {z:Int}:∀ (f a:Nat),a<t.length->t.length-a<f->P4 111 [d,.int .i64 z,.int .i64 (a:Int)] fun _=>True
 | 0,a,_,h=>by omega
 | f+1,a,ha,hf=>by
   refine R7 ?_
   have hidx:=hT.at (z:=(a:Int)) (by omega) (by omega) (k:=.i64)
   rw [Int.toNat_natCast] at hidx
   have hx:=hT.nd ha
   have o1:=FL.one hx.w
   have o2:=FL.one hx.n
   have o3:=FL.one hx.k
   have hlk:=FI.len hx.k
   refine M3 (vf:=a8S) rfl ?_
   unfold a8S;refine zE ?_
   try refine zW0 ?_
   refine U2 (Q:=M9 0 _) (fun n env s=>∃j:Nat,j<=(nd t a).kids.length/\n=(nd t a).kids.length-j/\(env.get 0=d/\env.get 1=.int .i64 z/\env.get 2=.int .i64 (a:Int)/\env.get 7=.int .i64 (j:Int))) ?_ (nd t a).kids.length _ _ ⟨0,by omega,rfl,by simp [Env.get]⟩
   rintro n env s ⟨j,hj,rfl,hE⟩
   by_cases c1:j<(nd t a).kids.length
   ·have c1':((j:Int)<((nd t a).kids.length:Int))=True:=eq_true (by omega)
    have hki:=FI.idx hx.k c1 (k:=.i64)
    have hs:=a1X c1 hx.kl
    have hkr:=hR.ok.kids a ha _ (List.getElem_mem c1)
    obtain ⟨k,hk⟩:∃k:Nat,(nd t a).kids[j]=(k:Int):=⟨(nd t a).kids[j].toNat,by omega⟩
    rw [hk] at hki hkr
    obtain ⟨b,hb,_⟩:=b1r hT hR (z:=z) f k (by omega) (by omega)
    cases c2:((k:Int)==z)
    ·cases b
     ·repeat first
      |(apply t4 hb rfl;(focus (simp only [Env.evL,Env.ev,Env.get,Nat.reduceEqDiff,↓reduceIte,hE]));(focus exact fz3 hT.fz t2 t2))
      |refine zW (aN hE (aN hidx (aN o1 (aN o2 (aN o3 (aN hlk (aN c1' (aN hki (aN c2 hs))))))))) ?_
      exact ⟨(nd t a).kids.length-(j+1),by omega,j+1,by omega,rfl,(rG hE)⟩
     ·repeat first
      |(apply t4 hb rfl;(focus (simp only [Env.evL,Env.ev,Env.get,Nat.reduceEqDiff,↓reduceIte,hE]));(focus exact fz3 hT.fz t2 t2))
      |refine zW (aN hE (aN hidx (aN o1 (aN o2 (aN o3 (aN hlk (aN c1' (aN hki c2)))))))) ?_
      exact ⟨.inr trivial,_,rR,_,rfl,trivial⟩
    ·try refine zW (aN hE (aN hidx (aN o1 (aN o2 (aN o3 (aN hlk (aN c1' (aN hki c2)))))))) ?_
     exact ⟨.inr trivial,_,rR,_,rfl,trivial⟩
   ·have c1':((j:Int)<((nd t a).kids.length:Int))=False:=eq_false (by omega)
    try refine zW (aN hE (aN hidx (aN o1 (aN o2 (aN o3 (aN hlk c1')))))) ?_
    exact ⟨.inr trivial,_,rR,_,rfl,trivial⟩
end Go.Proofs.YtnjlhebkhjcagaaGreat
namespace Go.Proofs.YtnjlhebkhjcagaaGreat
open Go.V
set_option maxRecDepth 100000
set_option maxHeartbeats 4000000
def a2W (f:Nat) (l:List D) (P:Prop):Prop:=∃e:Int,Iso f l (.int .i64 e)/\(e=0->P)
theorem a3Y {f:Nat} {l:List D} {P:Prop} (h:EvP vfs f l k4.empty fun d _=>∃e:Int,d=.int .i64 e/\(e=0->P)):a2W f l P:=by
 obtain ⟨d,s',h,e,rfl,hp⟩:=h
 exact ⟨e,⟨s',h⟩,hp⟩
theorem c34 {d:D} {t:List Nd} (hT:N2 d t) (hR:N5 t) {i:Nat} (hi:i<t.length) (hK:(nd t i).kind=1):a2W 86 [d,.int .i64 (i:Int)] (a2I t i):=by
 refine a3Y ?_
 have hidx:=hT.at (z:=(i:Int)) (by omega) (by omega) (k:=.i64)
 rw [Int.toNat_natCast] at hidx
 have hx:=hT.nd hi
 have hnode:=hR.ok.node i hi
 have hle:=hR.ok.le
 have o1:=FL.one hx.w
 have o2:=FL.one hx.n
 have o3:=FL.one hx.k
 have hnl:(nd t i).nums.length=4:=by rw [hnode.nl,hK];rfl
 have n0:M8 1 (nd t i).dn (.int .i64 0)=some (.fp [.int .i64 ((nd t i).num 0)] 0):=a2q hx (i:=0) (by omega)
 have n1:M8 1 (nd t i).dn (.int .i64 1)=some (.fp [.int .i64 ((nd t i).num 1)] 0):=a2q hx (i:=1) (by omega)
 rw [hK] at hidx
 have hs:=a8V hT hR hi (kind:=1)
 by_cases e0:(nd t i).num 0<1
 ·have d0:((nd t i).num 0<1)=True:=eq_true e0
  refine M3 (vf:=S7) rfl ?_
  unfold S7;refine zE ?_
  repeat first
  |(apply t4 hs rfl rfl (fz3 hT.fz t2 t2))
  |refine zW (aN hidx (aN o1 (aN o2 (aN o3 (aN n0 (aN n1 d0)))))) ?_
  exact ⟨.inr trivial,_,rR,_,rfl,by simp⟩
 have d0:((nd t i).num 0<1)=False:=eq_false e0
 by_cases e1:3<(nd t i).num 0
 ·have d1:(3<(nd t i).num 0)=True:=eq_true e1
  refine M3 (vf:=S7) rfl ?_
  unfold S7;refine zE ?_
  repeat first
  |(apply t4 hs rfl rfl (fz3 hT.fz t2 t2))
  |refine zW (aN hidx (aN o1 (aN o2 (aN o3 (aN n0 (aN n1 (aN d0 d1))))))) ?_
  exact ⟨.inr trivial,_,rR,_,rfl,by simp⟩
 have d1:(3<(nd t i).num 0)=False:=eq_false e1
 by_cases e2:(nd t i).num 1<1
 ·have d2:((nd t i).num 1<1)=True:=eq_true e2
  refine M3 (vf:=S7) rfl ?_
  unfold S7;refine zE ?_
  repeat first
  |(apply t4 hs rfl rfl (fz3 hT.fz t2 t2))
  |refine zW (aN hidx (aN o1 (aN o2 (aN o3 (aN n0 (aN n1 (aN d0 (aN d1 d2)))))))) ?_
  exact ⟨.inr trivial,_,rR,_,rfl,by simp⟩
 have d2:((nd t i).num 1<1)=False:=eq_false e2
 by_cases e3:8<(nd t i).num 1
 ·have d3:(8<(nd t i).num 1)=True:=eq_true e3
  refine M3 (vf:=S7) rfl ?_
  unfold S7;refine zE ?_
  repeat first
  |(apply t4 hs rfl rfl (fz3 hT.fz t2 t2))
  |refine zW (aN hidx (aN o1 (aN o2 (aN o3 (aN n0 (aN n1 (aN d0 (aN d1 (aN d2 d3))))))))) ?_
  exact ⟨.inr trivial,_,rR,_,rfl,by simp⟩
 have d3:(8<(nd t i).num 1)=False:=eq_false e3
 by_cases e4:3<P3 t 1 (i+1)
 ·have d4:(3<P3 t 1 (i+1))=True:=eq_true e4
  refine M3 (vf:=S7) rfl ?_
  unfold S7;refine zE ?_
  repeat first
  |(apply t4 hs rfl rfl (fz3 hT.fz t2 t2))
  |refine zW (aN hidx (aN o1 (aN o2 (aN o3 (aN n0 (aN n1 (aN d0 (aN d1 (aN d2 (aN d3 d4)))))))))) ?_
  exact ⟨.inr trivial,_,rR,_,rfl,by simp⟩
 have d4:(3<P3 t 1 (i+1))=False:=eq_false e4
 refine M3 (vf:=S7) rfl ?_
 unfold S7;refine zE ?_
 repeat first
 |(apply t4 hs rfl rfl (fz3 hT.fz t2 t2))
 |refine zW (aN hidx (aN o1 (aN o2 (aN o3 (aN n0 (aN n1 (aN d0 (aN d1 (aN d2 (aN d3 d4)))))))))) ?_
 exact ⟨.inr trivial,_,rR,_,rfl,fun _=>⟨fun _=>by omega,fun h=>by omega,fun h=>by omega,fun h=>by omega⟩⟩
theorem c1G {d:D} {t:List Nd} (hT:N2 d t) (hR:N5 t) {i:Nat} (hi:i<t.length) (hK:(nd t i).kind=2):a2W 86 [d,.int .i64 (i:Int)] (a2I t i):=by
 refine a3Y ?_
 have hidx:=hT.at (z:=(i:Int)) (by omega) (by omega) (k:=.i64)
 rw [Int.toNat_natCast] at hidx
 have hx:=hT.nd hi
 have hnode:=hR.ok.node i hi
 have hle:=hR.ok.le
 have o1:=FL.one hx.w
 have o2:=FL.one hx.n
 have o3:=FL.one hx.k
 have hnl:(nd t i).nums.length=2:=by rw [hnode.nl,hK];rfl
 have n0:M8 1 (nd t i).dn (.int .i64 0)=some (.fp [.int .i64 ((nd t i).num 0)] 0):=a2q hx (i:=0) (by omega)
 have n1:M8 1 (nd t i).dn (.int .i64 1)=some (.fp [.int .i64 ((nd t i).num 1)] 0):=a2q hx (i:=1) (by omega)
 rw [hK] at hidx
 have hs:=a8V hT hR hi (kind:=2)
 have hv:=hnode.var hK
 by_cases e0:(nd t i).num 0<1
 ·have d0:((nd t i).num 0<1)=True:=eq_true e0
  refine M3 (vf:=S7) rfl ?_
  unfold S7;refine zE ?_
  repeat first
  |(apply t4 hs rfl rfl (fz3 hT.fz t2 t2))
  |refine zW (aN hidx (aN o1 (aN o2 (aN o3 (aN n0 (aN n1 d0)))))) ?_
  exact ⟨.inr trivial,_,rR,_,rfl,by simp⟩
 have d0:((nd t i).num 0<1)=False:=eq_false e0
 by_cases e1:8<(nd t i).num 0
 ·have d1:(8<(nd t i).num 0)=True:=eq_true e1
  refine M3 (vf:=S7) rfl ?_
  unfold S7;refine zE ?_
  repeat first
  |(apply t4 hs rfl rfl (fz3 hT.fz t2 t2))
  |refine zW (aN hidx (aN o1 (aN o2 (aN o3 (aN n0 (aN n1 (aN d0 d1))))))) ?_
  exact ⟨.inr trivial,_,rR,_,rfl,by simp⟩
 have d1:(8<(nd t i).num 0)=False:=eq_false e1
 have ht:=a6I (x:=(nd t i).num 1) (n:=(nd t i).num 0) (w:=((nd t i).num 0).toNat) (by omega) ⟨by omega,by omega⟩
 by_cases e2:N8 ((nd t i).num 1) ((nd t i).num 0).toNat=(nd t i).num 1
 ·have d2:(N8 ((nd t i).num 1) ((nd t i).num 0).toNat != (nd t i).num 1)=false:=by rw [e2];simp
  by_cases e3:8<P3 t 2 (i+1)
  ·have d3:(8<P3 t 2 (i+1))=True:=eq_true e3
   refine M3 (vf:=S7) rfl ?_
   unfold S7;refine zE ?_
   repeat first
   |(apply t4 hs rfl rfl (fz3 hT.fz t2 t2))
   |(apply t4 ht rfl rfl (fz2 t2 t2))
   |refine zW (aN hidx (aN o1 (aN o2 (aN o3 (aN n0 (aN n1 (aN d0 (aN d1 (aN d2 d3))))))))) ?_
   exact ⟨.inr trivial,_,rR,_,rfl,by simp⟩
  ·have d3:(8<P3 t 2 (i+1))=False:=eq_false e3
   refine M3 (vf:=S7) rfl ?_
   unfold S7;refine zE ?_
   repeat first
   |(apply t4 hs rfl rfl (fz3 hT.fz t2 t2))
   |(apply t4 ht rfl rfl (fz2 t2 t2))
   |refine zW (aN hidx (aN o1 (aN o2 (aN o3 (aN n0 (aN n1 (aN d0 (aN d1 (aN d2 d3))))))))) ?_
   exact ⟨.inr trivial,_,rR,_,rfl,fun _=>⟨fun h=>by omega,fun _=>⟨by omega,by omega,e2,by omega⟩,fun h=>by omega,fun h=>by omega⟩⟩
 ·have d2:(N8 ((nd t i).num 1) ((nd t i).num 0).toNat != (nd t i).num 1)=true:=by rw [bne_iff_ne];exact e2
  refine M3 (vf:=S7) rfl ?_
  unfold S7;refine zE ?_
  repeat first
  |(apply t4 hs rfl rfl (fz3 hT.fz t2 t2))
  |(apply t4 ht rfl rfl (fz2 t2 t2))
  |refine zW (aN hidx (aN o1 (aN o2 (aN o3 (aN n0 (aN n1 (aN d0 (aN d1 d2)))))))) ?_
  exact ⟨.inr trivial,_,rR,_,rfl,by simp⟩
theorem c4s {d:D} {t:List Nd} (hT:N2 d t) (hR:N5 t) {i:Nat} (hi:i<t.length) (hK:(nd t i).kind=3):a2W 86 [d,.int .i64 (i:Int)] (a2I t i):=by
 refine a3Y ?_
 have hidx:=hT.at (z:=(i:Int)) (by omega) (by omega) (k:=.i64)
 rw [Int.toNat_natCast] at hidx
 have hx:=hT.nd hi
 have hnode:=hR.ok.node i hi
 have hle:=hR.ok.le
 have o1:=FL.one hx.w
 have o2:=FL.one hx.n
 have o3:=FL.one hx.k
 have hnl:(nd t i).nums.length=1:=by rw [hnode.nl,hK];rfl
 have n0:M8 1 (nd t i).dn (.int .i64 0)=some (.fp [.int .i64 ((nd t i).num 0)] 0):=a2q hx (i:=0) (by omega)
 rw [hK] at hidx
 have hs:=a8V hT hR hi (kind:=3)
 by_cases e0:(nd t i).num 0<1
 ·have d0:((nd t i).num 0<1)=True:=eq_true e0
  refine M3 (vf:=S7) rfl ?_
  unfold S7;refine zE ?_
  repeat first
  |(apply t4 hs rfl rfl (fz3 hT.fz t2 t2))
  |refine zW (aN hidx (aN o1 (aN o2 (aN o3 (aN n0 d0))))) ?_
  exact ⟨.inr trivial,_,rR,_,rfl,by simp⟩
 have d0:((nd t i).num 0<1)=False:=eq_false e0
 by_cases e1:4<P3 t 3 (i+1)
 ·have d1:(4<P3 t 3 (i+1))=True:=eq_true e1
  refine M3 (vf:=S7) rfl ?_
  unfold S7;refine zE ?_
  repeat first
  |(apply t4 hs rfl rfl (fz3 hT.fz t2 t2))
  |refine zW (aN hidx (aN o1 (aN o2 (aN o3 (aN n0 (aN d0 d1)))))) ?_
  exact ⟨.inr trivial,_,rR,_,rfl,by simp⟩
 have d1:(4<P3 t 3 (i+1))=False:=eq_false e1
 refine M3 (vf:=S7) rfl ?_
 unfold S7;refine zE ?_
 repeat first
 |(apply t4 hs rfl rfl (fz3 hT.fz t2 t2))
 |refine zW (aN hidx (aN o1 (aN o2 (aN o3 (aN n0 (aN d0 d1)))))) ?_
 exact ⟨.inr trivial,_,rR,_,rfl,fun _=>⟨fun h=>by omega,fun h=>by omega,fun _=>by omega,fun h=>by omega⟩⟩
theorem b7R {d:D} {t:List Nd} (hT:N2 d t) (hR:N5 t) {i:Nat} (hi:i<t.length) (hK:(nd t i).kind=17):a2W 86 [d,.int .i64 (i:Int)] (a2I t i):=by
 refine a3Y ?_
 have hidx:=hT.at (z:=(i:Int)) (by omega) (by omega) (k:=.i64)
 rw [Int.toNat_natCast] at hidx
 have hx:=hT.nd hi
 have hnode:=hR.ok.node i hi
 have hle:=hR.ok.le
 have o1:=FL.one hx.w
 have o2:=FL.one hx.n
 have o3:=FL.one hx.k
 have hnl:(nd t i).nums.length=1:=by rw [hnode.nl,hK];rfl
 have n0:M8 1 (nd t i).dn (.int .i64 0)=some (.fp [.int .i64 ((nd t i).num 0)] 0):=a2q hx (i:=0) (by omega)
 rw [hK] at hidx
 by_cases e0:127<(nd t i).num 0
 ·have d0:(127<(nd t i).num 0)=True:=eq_true e0
  refine M3 (vf:=S7) rfl ?_
  unfold S7;refine zE ?_
  try refine zW (aN hidx (aN o1 (aN o2 (aN o3 (aN n0 d0))))) ?_
  exact ⟨.inr trivial,_,rR,_,rfl,by simp⟩
 have d0:(127<(nd t i).num 0)=False:=eq_false e0
 refine M3 (vf:=S7) rfl ?_
 unfold S7;refine zE ?_
 try refine zW (aN hidx (aN o1 (aN o2 (aN o3 (aN n0 d0))))) ?_
 exact ⟨.inr trivial,_,rR,_,rfl,fun _=>⟨fun h=>by omega,fun h=>by omega,fun h=>by omega,fun _=>by omega⟩⟩
theorem b6F {d:D} {t:List Nd} (hT:N2 d t) (hR:N5 t) {i:Nat} (hi:i<t.length) (hK:(nd t i).kind=13):a2W 86 [d,.int .i64 (i:Int)] (a2I t i):=by
 refine a3Y ?_
 have hidx:=hT.at (z:=(i:Int)) (by omega) (by omega) (k:=.i64)
 rw [Int.toNat_natCast] at hidx
 have hx:=hT.nd hi
 have hnode:=hR.ok.node i hi
 have hle:=hR.ok.le
 have o1:=FL.one hx.w
 have o2:=FL.one hx.n
 have o3:=FL.one hx.k
 rw [hK] at hidx
 refine M3 (vf:=S7) rfl ?_
 unfold S7;refine zE ?_
 try refine zW (aN hidx (aN o1 (aN o2 o3))) ?_
 refine U2 (Q:=M9 1 _) (fun n env s=>∃j:Nat,j<=i/\n=i-j/\(env.get 0=d/\env.get 1=.int .i64 (i:Int)/\env.get 6=.bool false/\env.get 7=.int .i64 (j:Int))) ?_ i _ _ ⟨0,by omega,rfl,by simp [Env.get]⟩
 rintro n env s ⟨j,hj,rfl,hE⟩
 by_cases c1:j<i
 ·have c1':((j:Int)<(i:Int))=True:=eq_true (by omega)
  have hs:IntKind.i64.wrap ((j:Int)+1)=((j+1:Nat):Int):=by rw [P1 (by omega) (by omega)];omega
  have hjdx:=hT.at (z:=(j:Int)) (by omega) (by omega) (k:=.i64)
  rw [Int.toNat_natCast] at hjdx
  have hy:=hT.nd (i:=j) (by omega)
  have q1:=FL.one hy.w
  have q2:=FL.one hy.n
  have q3:=FL.one hy.k
  obtain ⟨b,hb,_⟩:=b1r hT hR (z:=(i:Int)) (t.length+1) j (by omega) (by omega)
  by_cases c2:(nd t j).kind=13
  ·have c2':((nd t j).kind==13)=true:=by rw [c2];rfl
   cases b
   ·repeat first
    |(apply t4 hb rfl;(focus (simp only [Env.evL,Env.ev,Env.get,Nat.reduceEqDiff,↓reduceIte,hE]));(focus exact fz3 hT.fz t2 t2))
    |refine zW (aN hE (aN hjdx (aN q1 (aN q2 (aN q3 (aN c1' (aN c2' hs))))))) ?_
    exact ⟨i-(j+1),by omega,j+1,by omega,rfl,(rG hE)⟩
   ·repeat first
    |(apply t4 hb rfl;(focus (simp only [Env.evL,Env.ev,Env.get,Nat.reduceEqDiff,↓reduceIte,hE]));(focus exact fz3 hT.fz t2 t2))
    |refine zW (aN hE (aN hjdx (aN q1 (aN q2 (aN q3 (aN c1' c2')))))) ?_
    exact ⟨.inr trivial,_,rR,_,rfl,by simp⟩
  ·have c2':((nd t j).kind==13)=false:=by rw [beq_eq_false_iff_ne];exact c2
   try refine zW (aN hE (aN hjdx (aN q1 (aN q2 (aN q3 (aN c1' (aN c2' hs))))))) ?_
   exact ⟨i-(j+1),by omega,j+1,by omega,rfl,(rG hE)⟩
 ·have c1':((j:Int)<(i:Int))=False:=eq_false (by omega)
  try refine zW (aN hE c1') ?_
  exact ⟨.inr trivial,_,rR,_,rfl,fun _=>⟨fun h=>by omega,fun h=>by omega,fun h=>by omega,fun h=>by omega⟩⟩
theorem c4A {d:D} {t:List Nd} (hT:N2 d t) (hR:N5 t) {i:Nat} (hi:i<t.length) (hK:(nd t i).kind≠1/\(nd t i).kind≠2/\(nd t i).kind≠3/\(nd t i).kind≠13/\(nd t i).kind≠17):a2W 86 [d,.int .i64 (i:Int)] (a2I t i):=by
 refine a3Y ?_
 have hidx:=hT.at (z:=(i:Int)) (by omega) (by omega) (k:=.i64)
 rw [Int.toNat_natCast] at hidx
 have hx:=hT.nd hi
 have hnode:=hR.ok.node i hi
 have hle:=hR.ok.le
 have o1:=FL.one hx.w
 have o2:=FL.one hx.n
 have o3:=FL.one hx.k
 have n1:((nd t i).kind==1)=false:=by rw [beq_eq_false_iff_ne];omega
 have n2:((nd t i).kind==2)=false:=by rw [beq_eq_false_iff_ne];omega
 have n3:((nd t i).kind==3)=false:=by rw [beq_eq_false_iff_ne];omega
 have n13:((nd t i).kind==13)=false:=by rw [beq_eq_false_iff_ne];omega
 have n17:((nd t i).kind==17)=false:=by rw [beq_eq_false_iff_ne];omega
 refine M3 (vf:=S7) rfl ?_
 unfold S7;refine zE ?_
 try refine zW (aN hidx (aN o1 (aN o2 (aN o3 (aN n1 (aN n2 (aN n3 (aN n13 n17)))))))) ?_
 exact ⟨.inr trivial,_,rR,_,rfl,fun _=>⟨fun h=>by omega,fun h=>by omega,fun h=>by omega,fun h=>by omega⟩⟩
theorem b5y {d:D} {t:List Nd} (hT:N2 d t) (hR:N5 t) {i:Nat} (hi:i<t.length):a2W 86 [d,.int .i64 (i:Int)] (a2I t i):=by
 by_cases k1:(nd t i).kind=1
 ·exact c34 hT hR hi k1
 by_cases k2:(nd t i).kind=2
 ·exact c1G hT hR hi k2
 by_cases k3:(nd t i).kind=3
 ·exact c4s hT hR hi k3
 by_cases k13:(nd t i).kind=13
 ·exact b6F hT hR hi k13
 by_cases k17:(nd t i).kind=17
 ·exact b7R hT hR hi k17
 exact c4A hT hR hi ⟨k1,k2,k3,k13,k17⟩
theorem c3L {d:D} {t:List Nd} (hT:N2 d t) (hR:N5 t):a8o 58 [d] (a1j t/\a02 t):=by
 refine b1A ?_
 have hlen:=hT.len
 have hle:=hR.ok.le
 obtain ⟨e,a,hc,hp⟩:=c0Q hT hR
 obtain ⟨sc,hc⟩:=hc
 by_cases c0:e=0
 ·subst c0
  refine M3 (vf:=a42) rfl ?_
  unfold a42;refine zE ?_
  repeat first
  |(refine a2b rfl (fz1 hT.fz) hc rfl rfl ?_)
  |refine zW0 ?_
  refine U2 (Q:=M9 0 _) (fun n env s=>∃i:Nat,i<=t.length/\n=t.length-i/\(∀j,j<i->a2I t j)/\s.get 0=some (.cells [.int .i64 0,.int .i64 0])/\(env.get 0=d/\env.get 2=.ptr 0 0/\env.get 4=.int .i64 (i:Int))) ?_ t.length _ _ ⟨0,by omega,rfl,fun j h=>by omega,rfl,by simp [Env.get,O2.at];rfl⟩
  rintro n env s ⟨i,hi,rfl,hall,hg,hE⟩
  have hgl:=M1 hg
  by_cases c1:i<t.length
  ·have c1':((i:Int)<(t.length:Int))=True:=eq_true (by omega)
   have hs:IntKind.i64.wrap ((i:Int)+1)=((i+1:Nat):Int):=by rw [P1 (by omega) (by omega)];omega
   have hidx:=hT.at (z:=(i:Int)) (by omega) (by omega) (k:=.i64)
   rw [Int.toNat_natCast] at hidx
   have hx:=hT.nd c1
   have o1:=FL.one hx.w
   have o2:=FL.one hx.n
   have o3:=FL.one hx.k
   obtain ⟨e,hb,hq⟩:=b5y hT hR c1
   by_cases c2:e=0
   ·subst c2
    repeat first
    |(apply t4 hb rfl;(focus (simp only [Env.evL,Env.ev,Env.get,Nat.reduceEqDiff,↓reduceIte,hE]));(focus exact fz2 hT.fz t2))
    |refine zW (aN hE (aN hlen (aN c1' hs))) ?_
    refine ⟨t.length-(i+1),by omega,i+1,by omega,rfl,fun j h=>?_,hg,(rG hE)⟩
    by_cases e:j=i
    ·subst e;exact hq rfl
    ·exact hall j (by omega)
   ·have c2':(e != 0)=true:=by rw [bne_iff_ne];exact c2
    repeat first
    |(apply t4 hb rfl;(focus (simp only [Env.evL,Env.ev,Env.get,Nat.reduceEqDiff,↓reduceIte,hE]));(focus exact fz2 hT.fz t2))
    |refine zW (aN hE (aN hlen (aN c1' (aN c2' (aN hidx (aN o1 (aN o2 (aN o3 hg)))))))) ?_
    refine ⟨.inr trivial,_,?_,e,(nd t i).pos,rfl,fun h=>(c2 h).elim⟩
    simp only [S6,T0,V0,Env.get,Nat.reduceEqDiff,↓reduceIte,hE,P5 hgl]
    rfl
  ·have c1':((i:Int)<(t.length:Int))=False:=eq_false (by omega)
   try refine zW (aN hE (aN hlen (aN c1' hg))) ?_
   refine ⟨.inr trivial,_,?_,0,0,rfl,fun _=>⟨hp rfl,⟨fun j h=>hall j (by omega)⟩⟩⟩
   simp only [S6,T0,V0,Env.get,Nat.reduceEqDiff,↓reduceIte,hE,P5 hgl]
   rfl
 ·have c0':(e != 0)=true:=by rw [bne_iff_ne];exact c0
  refine M3 (vf:=a42) rfl ?_
  unfold a42;refine zE ?_
  repeat first
  |(refine a2b rfl (fz1 hT.fz) hc rfl rfl ?_)
  |refine zW c0' ?_
  exact ⟨.inr trivial,_,rR,e,a,rfl,fun h=>(c0 h).elim⟩
end Go.Proofs.YtnjlhebkhjcagaaGreat
namespace Go.V
def SN (s:k4) (sz:Nat) (d:D) (rows:List (List D)):Prop:=(d=.nils/\rows=[])∨(∃id,d=.arr id 0 rows.length sz/\s.get id=some (.cells rows.flatten))∨d=.lst sz rows
theorem SN.one {s:k4} {sz:Nat} {d:D} {rows:List (List D)} (h:SN s sz d rows):M4 d=true:=by
 rcases h with ⟨rfl,_⟩ | ⟨id,rfl,_⟩ | rfl<;>rfl
theorem SN.stay {s s':k4} {sz:Nat} {d:D} {rows:List (List D)} (h:SN s sz d rows) (hf:Fr [] s s'):SN s' sz d rows:=by
 rcases h with h | ⟨id,rfl,h⟩ | h
 ·exact .inl h
 ·exact .inr (.inl ⟨id,rfl,by rw [hf.2 id (M1 h) (by simp),h]⟩)
 ·exact .inr (.inr h)
theorem SN.len {s:k4} {sz:Nat} {d:D} {rows:List (List D)} (h:SN s sz d rows):T8 false d=some (.int .i64 (rows.length:Int)):=by
 rcases h with ⟨rfl,rfl⟩ | ⟨id,rfl,_⟩ | rfl<;>rfl
theorem SN.row {s:k4} {sz:Nat} {d:D} {rows:List (List D)} (h:SN s sz d rows) (hr:∀r∈rows,r.length=sz):W4 s.get d=some rows.flatten/\a1s d=some rows.length/\a0n sz d=true:=by
 rcases h with ⟨rfl,rfl⟩ | ⟨id,rfl,h⟩ | rfl
 ·exact ⟨rfl,rfl,rfl⟩
 rotate_left
 ·exact ⟨rfl,rfl,by simp [a0n]⟩
 ·refine ⟨?_,rfl,by simp [a0n]⟩
  have hl:rows.flatten.length=rows.length*sz:=by
   clear h
   induction rows with
   | nil=>simp
   | cons a r ih =>
     rw [List.flatten_cons,List.length_append,ih fun x hx=>hr x (by simp [hx]),hr a (by simp),List.length_cons,Nat.succ_mul]
     omega
  simp only [W4,h]
  rw [if_pos (by omega),List.drop_zero,List.take_of_length_le (by omega)]
theorem a38 {sz:Nat} {rows:List (List D)} (hr:∀r∈rows,r.length=sz):rows.flatten.length=rows.length*sz:=by
 induction rows with
 | nil=>simp
 | cons a r ih =>
   rw [List.flatten_cons,List.length_append,ih fun x hx=>hr x (by simp [hx]),hr a (by simp),List.length_cons,Nat.succ_mul]
   omega
theorem a40 {s:k4} {sz bytes id:Nat} {d:D} {old rows:List (List D)} (h:s.get id=some (.cells old.flatten)) (ho:∀r∈old,r.length=sz) (hd:SN s sz d rows) (hr:∀r∈rows,r.length=sz) (hb:bytes<=128) (hl:old.length+rows.length<=2 ^ 30) :
 ∃d' s',S8 sz bytes (.arr id 0 old.length sz) d s=some (d',s')/\∃id',d'=.arr id' 0 (old++rows).length sz/\s'.get id'=some (.cells (old++rows).flatten)/\Fr [id] s s'/\(id'=id∨s.next<=id'):=by
 have b1:(old.length+rows.length)*bytes<=2 ^ 45:=Nat.le_trans (Nat.mul_le_mul hl hb) (by decide)
 have b2:old.length+rows.length<=2 ^ 45:=Nat.le_trans hl (by decide)
 have b3:bytes<=2 ^ 20:=Nat.le_trans hb (by decide)
 obtain ⟨r1,r2,r3⟩:=hd.row hr
 have hf:=a38 ho
 by_cases hn:rows.length=0
 ·obtain rfl:=List.length_eq_zero_iff.1 hn
  refine ⟨.arr id 0 old.length sz,s,?_,id,by simp,by simpa using h,Fr.refl _ _,.inl rfl⟩
  unfold S8
  simp only [r1,r2,r3,b3,decide_true,Bool.and_self,if_true,h,Nat.zero_add,hf,and_self,List.length_nil]
 ·refine ⟨.arr s.next 0 (old.length+rows.length) sz,(s.set id none).push (.cells (old.flatten++rows.flatten)),?_,s.next,by simp,?_,(Fr.set _ (by simp)).thenPush _,.inr (Nat.le_refl _)⟩
  ·unfold S8
   simp only [r1,r2,r3,b3,decide_true,Bool.and_self,if_true,h,Nat.zero_add,hf,and_self,hn,if_false,b1,b2,List.drop_zero]
  ·rw [O1 (by simp),List.flatten_append]
theorem a1i {fs:FuncId->Option t5} {i t sz bytes a x rest s Q} {env:Env} {da dx:D} {Φ:D->k4->Prop} (hr:∃d s',S8 sz bytes da dx s=some (d,s')/\Φ d s') (ha:env.ev a=da) (hx:env.ev x=dx)
 (h:∀d s',Φ d s'->WQ fs [] rest ((t,d)::env) s' Q):WQ fs [] ((i,⟨some t,.m (.append sz bytes a x),none⟩)::rest) env s Q:=by
 obtain ⟨d,s',h1,h2⟩:=hr
 exact a7C ha hx h1 (h d s' h2)
theorem SN.of {s:k4} {sz id n:Nat} {rows:List (List D)} (h:s.get id=some (.cells rows.flatten)) (hn:rows.length=n):SN s sz (.arr id 0 n sz) rows:=.inr (.inl ⟨id,by rw [hn],h⟩)
theorem a5T:∀ {sz:Nat} {rows:List (List D)},(∀r∈rows,r.length=sz)->∀ {i f:Nat} (hi:i<rows.length),f<sz->rows.flatten[i*sz+f]?=rows[i][f]?
 | sz,[],_,i,f,hi,_=>by simp at hi
 | sz,a::r,hr,0,f,_,hf=>by
   rw [Nat.zero_mul,Nat.zero_add,List.flatten_cons,List.getElem?_append_left (by rw [hr a (by simp)];exact hf)]
   rfl
 | sz,a::r,hr,i+1,f,hi,hf=>by
   have ha:=hr a (by simp)
   rw [List.flatten_cons,List.getElem?_append_right (by rw [ha,Nat.succ_mul];omega),ha,show (i+1)*sz+f-sz=i*sz+f by rw [Nat.succ_mul];omega]
   exact a5T (fun x hx=>hr x (by simp [hx])) (by simpa using hi) hf
theorem SN.get1 {s:k4} {sz:Nat} {d:D} {rows:List (List D)} (h:SN s sz d rows) (hr:∀r∈rows,r.length=sz) {i:Nat} (hi:i<rows.length) {c:D} (hc:(rows[i])[0]?=some c) (ho:M4 c=true) (hz:0<sz):∃p,M8 sz d (.int .i64 (i:Int))=some p/\ldV s.get none p=some c/\∀id off,p=.ptr id off->id<s.next:=by
 rcases h with ⟨_,rfl⟩ | ⟨id,rfl,hg⟩ | rfl
 ·simp at hi
 ·refine ⟨.ptr id (i*sz),?_,?_,?_⟩
  ·simp only [M8]
   rw [if_pos ⟨trivial,by omega,by omega⟩]
   simp
  ·simp only [ldV,hg,a0a]
   have:=a5T hr hi (f:=0) hz
   rw [Nat.add_zero] at this
   rw [this,hc]
   simp [ho]
  ·rintro a b e
   cases e
   exact M1 hg
 ·refine ⟨.fp rows[i] 0,by simp [M8,hi],?_,by simp⟩
  simp only [ldV,a0a,hc,ho,if_true]
def O5 (l:List Nat):List (List D):=l.map fun (n:Nat)=>[.int .i64 (n:Int)]
def P2 (l:List Bool):List (List D):=l.map fun b=>[.bool b]
def W6 (l:List ByteArray):List (List D):=l.map fun x=>[.str x]
def S2 (l:List Ed):List (List D):=l.map Ed.row
theorem a3n (l:List Bool):∀r∈P2 l,r.length=1:=by intro r h;obtain ⟨b,_,rfl⟩:=List.mem_map.1 h;rfl
theorem a26 (l:List Ed):∀r∈S2 l,r.length=8:=by intro r h;obtain ⟨b,_,rfl⟩:=List.mem_map.1 h;rfl
@[simp] theorem a30 (l:List Bool):(P2 l).length=l.length:=by simp [P2]
@[simp] theorem a2F (l:List Ed):(S2 l).length=l.length:=by simp [S2]
theorem b24 (a b:List Bool):P2 (a++b)=P2 a++P2 b:=by simp [P2]
theorem b3m (a b:List Ed):S2 (a++b)=S2 a++S2 b:=by simp [S2]
structure PrD where
 dl:D
 dr:D
 de:D
 dn:D
 dv:D
def t3 (p:Pr) (x:PrD):List D:=[.str p.name,.int .i64 (p.copy:Int),x.dl,.int .i64 (p.places:Int),x.dr,x.de,x.dn,x.dv]
structure N3 (s:k4) (p:Pr) (x:PrD):Prop where
 l:SN s 1 x.dl (O5 p.locals)
 r:SN s 1 x.dr (P2 p.rest)
 e:SN s 8 x.de (S2 p.edges)
 n:SN s 1 x.dn (W6 p.names)
 v:SN s 1 x.dv (O5 p.vars)
theorem N3.stay {s s':k4} {p:Pr} {x:PrD} (h:N3 s p x) (hf:Fr [] s s'):N3 s' p x:=⟨h.l.stay hf,h.r.stay hf,h.e.stay hf,h.n.stay hf,h.v.stay hf⟩
theorem a2g (l:List Nat):∀r∈O5 l,r.length=1:=by intro r h;obtain ⟨b,_,rfl⟩:=List.mem_map.1 h;rfl
theorem a6d (l:List ByteArray):∀r∈W6 l,r.length=1:=by intro r h;obtain ⟨b,_,rfl⟩:=List.mem_map.1 h;rfl
@[simp] theorem a3F (l:List Nat):(O5 l).length=l.length:=by simp [O5]
@[simp] theorem b37 (l:List ByteArray):(W6 l).length=l.length:=by simp [W6]
def a0q (l:List Ch):List (List D):=l.map Ch.row
theorem a7Q (l:List Ch):∀r∈a0q l,r.length=5:=by intro r h;obtain ⟨b,_,rfl⟩:=List.mem_map.1 h;rfl
@[simp] theorem a5t (l:List Ch):(a0q l).length=l.length:=by simp [a0q]
structure MdX where
 dt:D
 dc:D
 dv:D
 dp:D
 ds:D
 g:Int
 b:Bool
def N1 (m:MdX):List D:=[m.dt,.int .i64 m.g,m.dc,m.dv,m.dp,m.ds,.bool m.b]
structure a0y (s:k4) (m:MdX) (t:List Nd) (ch:List Ch):Prop where
 tr:N2 m.dt t
 c:SN s 5 m.dc (a0q ch)
 ov:M4 m.dv=true
 op:M4 m.dp=true
 os:M4 m.ds=true
theorem a0y.stay {s s':k4} {m:MdX} {t:List Nd} {ch:List Ch} (h:a0y s m t ch) (hf:Fr [] s s'):a0y s' m t ch:=⟨h.tr,h.c.stay hf,h.ov,h.op,h.os⟩
structure P8 (p:Pr) (n:Nat):Prop where
 pl:p.places<=n
 rl:p.rest.length<=n
 el:p.edges.length<=n
end Go.V
namespace Go.V
variable {fs:FuncId->Option t5}
def WQT (fs:FuncId->Option t5) (pairs:List (Nat×Nat)) (R:List Nat) (ops:List (Nat×O3)) (env:Env) (s:k4) (Q:Env->k4->Prop):Prop :=
 ∀tr:List Tr,(∀x∈tr,x.pre=x.post/\∀id,x.rd=some id->id∈R)->WO fs pairs ops tr env s Q
theorem a8P {vars ops p pairs dr env s Q} (h:WQT fs (p::pairs) [] ops env s fun env' s'=>Q .normal (env'.keep vars) s'):WP fs vars (.region ⟨ops,p::pairs,dr⟩) env s Q:=a9n (h [] (by simp))
theorem a4E {R:List Nat} {pairs:List (Nat×Nat)} {tr:List Tr} {t:Tr} (h:∀x∈tr,x.pre=x.post/\∀id,x.rd=some id->id∈R) (ht:t.pre=t.post/\∀id,t.rd=some id->id∈R):∀x∈(if pairs.isEmpty then tr else t::tr),x.pre=x.post/\∀id,x.rd=some id->id∈R:=by
 split
 ·exact h
 ·intro x hx
  rcases List.mem_cons.1 hx with rfl | hx
  ·exact ht
  ·exact h x hx
theorem a9p {pairs R i t o rest s Q} {env:Env} {d:D} (hr:evP env o=some d) (h:WQT fs pairs R rest ((t,d)::env) s Q):WQT fs pairs R ((i,⟨some t,.p o,none⟩)::rest) env s Q:=by
 intro tr ht
 exact a1p rfl 0 (d:=d) (s':=s) (by simp only [O8,hr,Option.map_some]) (a3A rfl fun t hm=>(ht t hm).1) (h _ (a4E ht ⟨rfl,by simp [V7]⟩))
theorem a89 {pairs R i t n x rest s Q} {env:Env} {d:D} {id off:Nat} (hx:env.ev x=.ptr id off) (hr:evR env s.get (.load n x)=some d) (h:WQT fs pairs (id::R) rest ((t,d)::env) s Q):WQT fs pairs R ((i,⟨some t,.r (.load n x),none⟩)::rest) env s Q:=by
 intro tr ht
 refine a1p rfl 0 (d:=d) (s':=s) (by simp only [O8,hr,Option.map_some]) (a3A rfl fun t hm=>(ht t hm).1) (h _ (a4E (fun y hy=>⟨(ht y hy).1,fun id h=>List.mem_cons_of_mem _ ((ht y hy).2 id h)⟩) ⟨rfl,fun j hj=>?_⟩))
 simp only [V7,rdR,hx,Option.some.injEq] at hj
 simp [hj]
theorem b81 {pairs R i n a v rest s Q} {env:Env} {id:Nat} {ob:N4} (hr:evW env s.get n a v=some (id,ob)) (hid:id∉R) (hp:(rest.all fun o=>pairs.all fun p=>p.2 != o.1)=true) (h:WQ fs [] rest env (s.set id (some ob)) Q):WQT fs pairs R ((i,⟨none,.w n a v,none⟩)::rest) env s Q:=by
 intro tr ht
 refine a1p rfl 0 (d:=.tup []) (s':=s.set id (some ob)) (by simp only [O8,hr]) ?_ ?_
 ·have key:∀ {l:List Tr},(∀x∈l,x.pre=x.post/\∀j,x.rd=some j->j∈R)->a0b pairs ⟨i,V7 env (.w n a v),s,s.set id (some ob)⟩ l=true:=by
   intro l
   induction l with
   | nil=>intro _;rfl
   | cons t r ih =>
     intro hl
     have h1:=hl t (by simp)
     have st1:X3 s (s.set id (some ob)) t.rd=true:=by
      cases hrd:t.rd with
      | none=>rfl
      | some j =>
        have hj:=h1.2 j hrd
        have hne:j≠id:=fun e=>hid (e▸hj)
        simp only [X3]
        rw [O0 hne]
        exact a4V _
     have st2:X3 t.pre t.post (V7 env (.w n a v))=true:=by rw [h1.1];exact b1C _ _
     simp only [a0b,st1,st2,Bool.and_self,ite_self,Bool.true_and]
     exact ih fun x hx=>hl x (by simp [hx])
  exact key ht
 ·obtain ⟨m,env',s',h1,h2⟩:=h [] a6n
  exact ⟨m,env',s',a5b hp h1,h2⟩
theorem a75 {pairs R i t n x rest s Q} {env:Env} {d:D} {cs:List D} {off:Nat} (hx:env.ev x=.fp cs off) (hr:evR env s.get (.load n x)=some d) (h:WQT fs pairs R rest ((t,d)::env) s Q):WQT fs pairs R ((i,⟨some t,.r (.load n x),none⟩)::rest) env s Q:=by
 intro tr ht
 refine a1p rfl 0 (d:=d) (s':=s) (by simp only [O8,hr,Option.map_some]) (a3A rfl fun t hm=>(ht t hm).1) (h _ (a4E ht ⟨rfl,fun j hj=>?_⟩))
 simp only [V7,rdR,hx] at hj
 cases hj
def a5E:D->List Nat
 | .ptr id _=>[id]
 | _=>[]
theorem b9E {p:D} {id:Nat} (h:id∈a5E p):∃off,p=.ptr id off:=by
 cases p<;>simp [a5E] at h
 subst h
 exact ⟨_,rfl⟩
theorem c0Z {pairs R i t n x rest s Q} {env:Env} {d p:D} (hl:ldV s.get n p=some d) (hx:env.ev x=p) (h:WQT fs pairs (a5E p++R) rest ((t,d)::env) s Q):WQT fs pairs R ((i,⟨some t,.r (.load n x),none⟩)::rest) env s Q:=by
 intro tr ht
 refine a1p rfl 0 (d:=d) (s':=s) (by simp only [O8,a4F,hx,hl,Option.map_some]) (a3A rfl fun t hm=>(ht t hm).1) (h _ (a4E (fun y hy=>⟨(ht y hy).1,fun id h=>List.mem_append_right _ ((ht y hy).2 id h)⟩) ⟨rfl,fun j hj=>?_⟩))
 simp only [V7,rdR,hx] at hj
 refine List.mem_append_left _ ?_
 cases p<;>simp_all [a5E]
theorem b8E {pairs R i t f args rest s Q} {env:Env} {l:List D} {d:D} (hr:Ev fs f l s d s) (ha:env.evL args=l) (h:WQT fs pairs R rest ((t,d)::env) s Q):WQT fs pairs R ((i,⟨some t,.m (.call .raw (.cst (.fn f [])) args),none⟩)::rest) env s Q:=by
 subst ha
 obtain ⟨n,hn⟩:=hr
 intro tr ht
 exact a1p rfl n (d:=d) (s':=s) (by simp only [O8,evM,a06,Env.ev,List.append_nil];exact hn) (a3A rfl fun t hm=>(ht t hm).1) (h _ (a4E ht ⟨rfl,by simp [V7]⟩))
theorem b1R {pairs R i t f args rest s Q} {env:Env} {l:List D} {P:D->k4->Prop} (hr:EvP fs f l s P) (hP:∀d s',P d s'->Fr [] s s') (hR:∀id∈R,id<s.next) (hp:(rest.all fun o=>pairs.all fun p=>p.2 != o.1)=true) (ha:env.evL args=l)
 (h:∀d s',P d s'->WQ fs [] rest ((t,d)::env) s' Q):WQT fs pairs R ((i,⟨some t,.m (.call .raw (.cst (.fn f [])) args),none⟩)::rest) env s Q:=by
 subst ha
 obtain ⟨d,s',⟨n,hn⟩,hd⟩:=hr
 have hF:=hP d s' hd
 intro tr ht
 refine a1p rfl n (d:=d) (s':=s') (by simp only [O8,evM,a06,Env.ev,List.append_nil];exact hn) ?_ ?_
 ·have key:∀ {l:List Tr},(∀x∈l,x.pre=x.post/\∀j,x.rd=some j->j∈R)->a0b pairs ⟨i,none,s,s'⟩ l=true:=by
   intro l
   induction l with
   | nil=>intro _;rfl
   | cons t r ih =>
     intro hl
     have h1:=hl t (by simp)
     have st1:X3 s s' t.rd=true:=by
      cases hrd:t.rd with
      | none=>rfl
      | some j =>
        have hj:=hR j (h1.2 j hrd)
        simp only [X3]
        rw [hF.2 j hj (by simp)]
        exact a4V _
     have st2:X3 t.pre t.post none=true:=rfl
     simp only [a0b,st1,st2,Bool.and_self,ite_self,Bool.true_and]
     exact ih fun x hx=>hl x (by simp [hx])
  exact key ht
 ·obtain ⟨m,env',s2,h1,h2⟩:=h d s' hd [] a6n
  exact ⟨m,env',s2,a5b hp h1,h2⟩
theorem V6 {pairs ops env s Q} {Φ:k4->Prop} (h:Φ s) (k:∀s',Φ s'->WQ fs pairs ops env s' Q):WQ fs pairs ops env s Q:=k s h
theorem b1e {pairs R ops env s Q} {Φ:k4->Prop} (h:Φ s) (k:∀s',Φ s'->WQT fs pairs R ops env s' Q):WQT fs pairs R ops env s Q:=k s h
theorem b6G {vars c env s Q} {Φ:k4->Prop} (h:Φ s) (k:∀s',Φ s'->WP fs vars c env s' Q):WP fs vars c env s Q:=k s h
theorem zT {F P Q:Prop} (f:F) (k:Q) (h:F->Q->P:=by
 intro f k
 (first|(with_reducible refine a8P ?_)|((with_reducible apply a9p);(focus (simp (disch:=(first|with_reducible assumption|omega|((repeat (first|rw [nP]|rw [nS]))<;>omega)|fail)) only [go_sem,Env.ev,Env.get,↓reduceIte,f]<;>rfl)))|((with_reducible apply a89);(focus (simp only [Env.ev,Env.get,Nat.reduceEqDiff,↓reduceIte,O2.at,Nat.add_zero,Nat.zero_add,f]<;>rfl));(focus (simp (disch:=(first|with_reducible assumption|omega|((repeat (first|rw [nP]|rw [nS]))<;>omega)|fail)) only [go_sem,Env.ev,Env.get,↓reduceIte,f]<;>rfl)))|((with_reducible apply a75);(focus (simp only [Env.ev,Env.get,Nat.reduceEqDiff,↓reduceIte,O2.at,Nat.add_zero,Nat.zero_add,f]<;>rfl));(focus (simp (disch:=(first|with_reducible assumption|omega|((repeat (first|rw [nP]|rw [nS]))<;>omega)|fail)) only [go_sem,Env.ev,Env.get,↓reduceIte,f]<;>rfl)))|(with_reducible first|apply vA|apply vB|apply vC)|((with_reducible apply vD);(focus rfl))|((with_reducible first|apply vE|apply vF|apply vG|apply vH);simp only [Env.keep,Env.get,Env.ev,List.map,Nat.reduceEqDiff,↓reduceIte,O7,M9])|((with_reducible first|apply vI|apply vJ|apply vK|apply vL|apply vM|apply vN);(focus (simp (disch:=(first|with_reducible assumption|omega|((repeat (first|rw [nP]|rw [nS]))<;>omega)|fail)) only [go_sem,Env.ev,Env.get,↓reduceIte,f]<;>rfl));(first|(with_reducible (first|apply vO|apply vP|apply vQ|apply vR|apply vS|apply vT|apply vU);try simp only [Env.put])|with_reducible refine (?_:WQ _ _ _ _ _ _))))
 repeat (first|(with_reducible refine a8P ?_)|((with_reducible apply a9p);(focus (simp (disch:=(first|with_reducible assumption|omega|((repeat (first|rw [nP]|rw [nS]))<;>omega)|fail)) only [go_sem,Env.ev,Env.get,↓reduceIte,f]<;>rfl)))|((with_reducible apply a89);(focus (simp only [Env.ev,Env.get,Nat.reduceEqDiff,↓reduceIte,O2.at,Nat.add_zero,Nat.zero_add,f]<;>rfl));(focus (simp (disch:=(first|with_reducible assumption|omega|((repeat (first|rw [nP]|rw [nS]))<;>omega)|fail)) only [go_sem,Env.ev,Env.get,↓reduceIte,f]<;>rfl)))|((with_reducible apply a75);(focus (simp only [Env.ev,Env.get,Nat.reduceEqDiff,↓reduceIte,O2.at,Nat.add_zero,Nat.zero_add,f]<;>rfl));(focus (simp (disch:=(first|with_reducible assumption|omega|((repeat (first|rw [nP]|rw [nS]))<;>omega)|fail)) only [go_sem,Env.ev,Env.get,↓reduceIte,f]<;>rfl)))|(with_reducible first|apply vA|apply vB|apply vC)|((with_reducible apply vD);(focus rfl))|((with_reducible first|apply vE|apply vF|apply vG|apply vH);simp only [Env.keep,Env.get,Env.ev,List.map,Nat.reduceEqDiff,↓reduceIte,O7,M9])|((with_reducible first|apply vI|apply vJ|apply vK|apply vL|apply vM|apply vN);(focus (simp (disch:=(first|with_reducible assumption|omega|((repeat (first|rw [nP]|rw [nS]))<;>omega)|fail)) only [go_sem,Env.ev,Env.get,↓reduceIte,f]<;>rfl));(first|(with_reducible (first|apply vO|apply vP|apply vQ|apply vR|apply vS|apply vT|apply vU);try simp only [Env.put])|with_reducible refine (?_:WQ _ _ _ _ _ _))))
 exact k):P:=h f k
end Go.V
namespace Go.Proofs.YtnjlhebkhjcagaaGreat
open Go.V
set_option maxRecDepth 100000
set_option maxHeartbeats 4000000
theorem a5y {s:k4} {p:Pr} {x:PrD} (hp:N3 s p x) (hl:P8 p 1000000) :
 EvP vfs 89 [.agg (t3 p x)] s fun r s'=>∃x',r=.tup [.agg (t3 p.place x'),.int .i64 (p.places:Int)]/\Fr [] s s'/\N3 s' p.place x':=by
 have o1:=hp.l.one
 have o2:=hp.r.one
 have o3:=hp.e.one
 have o4:=hp.n.one
 have o5:=hp.v.one
 have hpl:=hl.pl
 have hrl:=hl.rl
 have e1:IntKind.i64.wrap ((p.places:Int)+1)=((p.places+1:Nat):Int):=by rw [P1 (by omega) (by omega)];omega
 have e2:IntKind.i64.wrap (((p.places+1:Nat):Int)-1)=(p.places:Int):=by rw [P1 (by omega) (by omega)];omega
 unfold t3
 refine M3 (vf:=a7Y) rfl ?_
 unfold a7Y;refine zE ?_
 try refine zW (aN o1 (aN o2 (aN o3 (aN o4 (aN o5 e1))))) ?_
 refine a1i (a40 (old:=[]) (rows:=P2 p.rest) (sz:=1) (bytes:=1) (d:=x.dr) ?_ (by simp) ?_ (a3n _) (by decide) (by simp;omega)) rfl rfl ?_
 ·exact O1 rfl
 ·exact hp.r.stay ((((Fr.push _).thenPush _).thenSet _ (.inr (Nat.le_refl _))).thenPush _)
 rintro d1 s1 ⟨id1,rfl,k1,f1,g1⟩
 have fr1:Fr [] s s1:=Fr.trans ((((Fr.push _).thenPush _).thenSet _ (.inr (Nat.le_refl _))).thenPush _) f1 (by simp;omega)
 have n1:=f1.1
 have kb:=f1.2 s.next (by simp only [k4.next_push,k4.next_set];omega) (by simp only [k4.next_push,k4.next_set,List.mem_singleton];omega)
 have kz:=f1.2 (s.next+1) (by simp only [k4.next_push,k4.next_set];omega) (by simp only [k4.next_push,k4.next_set,List.mem_singleton];omega)
 simp only [k4.next_push,k4.next_set] at n1 g1
 rw [S0 (by simp only [k4.next_push,k4.next_set];omega),P5 (by simp only [k4.next_push];omega)] at kb
 rw [S0 (by simp only [k4.next_push,k4.next_set];omega),O0 (by omega),O1 (by simp only [k4.next_push])] at kz
 have hid1:s.next+2<=id1:=by omega
 clear f1 g1
 rw [List.nil_append] at k1
 simp only [List.nil_append,a30]
 have lid:=M1 k1
 try refine zW0 ?_
 refine a1i (a40 (old:=P2 p.rest) (rows:=P2 [false]) (sz:=1) (bytes:=1) (d:=.arr s1.next 0 1 1) ?_ (a3n _) (SN.of (O1 rfl) rfl) (a3n _) (by decide) (by simp;omega)) (by rw [a30];rfl) rfl ?_
 ·rw [S0 lid,k1]
 rintro d2 s2 ⟨id2,rfl,k2,f2,g2⟩
 have fr2:Fr [] s s2:=(fr1.thenPush _).trans f2 (by simp;omega)
 have n2:=f2.1
 have kb2:=f2.2 s.next (by simp only [k4.next_push];omega) (by simp only [List.mem_singleton];omega)
 have kz2:=f2.2 (s.next+1) (by simp only [k4.next_push];omega) (by simp only [List.mem_singleton];omega)
 simp only [k4.next_push] at n2 g2
 rw [S0 (by omega),kb] at kb2
 rw [S0 (by omega),kz] at kz2
 have hid2:s.next+2<=id2:=by omega
 clear f2 g2 kb kz
 rw [<- b24] at k2
 rw [<- b24,a30]
 have lid2:=M1 k2
 try refine zT (aN kb2 (aN kz2 (aN o1 (aN o3 (aN o4 (aN o5 e2)))))) ?_
 refine b81 (id:=s.next+1) (ob:=.cells [.str p.name,.int .i64 (p.copy:Int),x.dl,.int .i64 ((p.places+1:Nat):Int),.arr id2 0 (p.rest++[false]).length 1,x.de,x.dn,x.dv]) ?_ (by simp) rfl ?_
 ·simp (disch:=(first|with_reducible assumption|omega|((repeat (first|rw [nP]|rw [nS]))<;>omega)|fail)) only [go_sem,Env.ev,Env.get,↓reduceIte,kz2,o1,o3,o4,o5]
 try refine zW0 ?_
 have fr3:Fr [] s ((s2.set s.next (some (.cells [.str p.name,.int .i64 (p.copy:Int),x.dl,.int .i64 ((p.places+1:Nat):Int),.arr id2 0 (p.rest++[false]).length 1,x.de,x.dn,x.dv]))).set (s.next+1) (some (.cells [.str p.name,.int .i64 (p.copy:Int),x.dl,.int .i64 ((p.places+1:Nat):Int),.arr id2 0 (p.rest++[false]).length 1,x.de,x.dn,x.dv]))):=(fr2.thenSet _ (.inr (Nat.le_refl _))).thenSet _ (.inr (Nat.le_succ _))
 refine ⟨.inr trivial,_,?_,⟨x.dl,.arr id2 0 (p.rest++[false]).length 1,x.de,x.dn,x.dv⟩,rfl,fr3,?_⟩
 ·simp only [S6,T0,V0,Env.get,Nat.reduceEqDiff,↓reduceIte,O2.at,k4.next_push,P5 (s:=s2.set s.next _) (i:=s.next+1) (by simp only [k4.next_set];omega)]
  rfl
 refine ⟨hp.l.stay fr3,SN.of ?_ (by simp [Pr.place]),hp.e.stay fr3,hp.n.stay fr3,hp.v.stay fr3⟩
 rw [O0 (by omega),O0 (by omega),k2]
 rfl
end Go.Proofs.YtnjlhebkhjcagaaGreat
namespace Go.Proofs.YtnjlhebkhjcagaaGreat
open Go.V
set_option maxRecDepth 100000
set_option maxHeartbeats 4000000
theorem a1M {s:k4} {p:Pr} {x:PrD} (hp:N3 s p x) (hl:P8 p 1000000) {frm to act node:Nat} {expr v c:Int} :
 EvP vfs 87 [.agg (t3 p x),.int .i64 (frm:Int),.int .i64 (to:Int),.int .i64 (act:Int),.int .i64 (node:Int),.int .i64 expr,.int .i64 v,.int .i64 c] s fun r s'=>∃x',r=.agg (t3 (p.put frm to act node expr v c) x')/\Fr [] s s'/\N3 s' (p.put frm to act node expr v c) x'/\∃id,x'.de=.arr id 0 (p.put frm to act node expr v c).edges.length 8/\s.next<=id:=by
 have o1:=hp.l.one
 have o2:=hp.r.one
 have o3:=hp.e.one
 have o4:=hp.n.one
 have o5:=hp.v.one
 have hel:=hl.el
 unfold t3
 refine M3 (vf:=a9U) rfl ?_
 unfold a9U;refine zE ?_
 try refine zW (aN o1 (aN o2 (aN o3 (aN o4 o5)))) ?_
 refine a1i (a40 (old:=[]) (rows:=S2 p.edges) (sz:=8) (bytes:=64) (d:=x.de) ?_ (by simp) ?_ (a26 _) (by decide) (by simp;omega)) rfl rfl ?_
 ·exact O1 rfl
 ·exact hp.e.stay (((Fr.push _).thenPush _).thenPush _)
 rintro d1 s1 ⟨id1,rfl,k1,f1,g1⟩
 have fr1:Fr [] s s1:=Fr.trans (((Fr.push _).thenPush _).thenPush _) f1 (by simp;omega)
 have n1:=f1.1
 have kb:=f1.2 s.next (by simp only [k4.next_push];omega) (by simp only [k4.next_push,List.mem_singleton];omega)
 have kz:=f1.2 (s.next+1) (by simp only [k4.next_push];omega) (by simp only [k4.next_push,List.mem_singleton];omega)
 simp only [k4.next_push] at n1 g1
 rw [S0 (by simp only [k4.next_push];omega),S0 (by simp only [k4.next_push];omega),O1 rfl] at kb
 rw [S0 (by simp only [k4.next_push];omega),O1 (by simp only [k4.next_push])] at kz
 have hid1:s.next+2<=id1:=by omega
 clear f1 g1
 rw [List.nil_append] at k1
 simp only [List.nil_append,a2F]
 have lid:=M1 k1
 try refine zW0 ?_
 refine a1i (a40 (old:=S2 p.edges) (rows:=S2 [⟨frm,to,act,expr,v,c,false,node⟩]) (sz:=8) (bytes:=64) (d:=.arr s1.next 0 1 8) ?_ (a26 _) (SN.of (O1 rfl) rfl) (a26 _) (by decide) (by simp;omega)) (by rw [a2F];rfl) rfl ?_
 ·rw [S0 lid,k1]
 rintro d2 s2 ⟨id2,rfl,k2,f2,g2⟩
 have fr2:Fr [] s s2:=(fr1.thenPush _).trans f2 (by simp;omega)
 have n2:=f2.1
 have kb2:=f2.2 s.next (by simp only [k4.next_push];omega) (by simp only [List.mem_singleton];omega)
 have kz2:=f2.2 (s.next+1) (by simp only [k4.next_push];omega) (by simp only [List.mem_singleton];omega)
 simp only [k4.next_push] at n2 g2
 rw [S0 (by omega),kb] at kb2
 rw [S0 (by omega),kz] at kz2
 have hid2:s.next+2<=id2:=by omega
 clear f2 g2 kb kz
 rw [<- b3m] at k2
 rw [<- b3m,a2F]
 have lid2:=M1 k2
 try refine zW (aN kb2 (aN kz2 (aN o1 (aN o2 (aN o4 o5))))) ?_
 generalize hrow:[D.str p.name,.int .i64 (p.copy:Int),x.dl,.int .i64 (p.places:Int),x.dr,.arr id2 0 (p.edges++[(⟨frm,to,act,expr,v,c,false,node⟩:Ed)]).length 8,x.dn,x.dv]=row
 have fr3:Fr [] s ((s2.set s.next (some (.cells row))).set (s.next+1) (some (.cells row))):=(fr2.thenSet _ (.inr (Nat.le_refl _))).thenSet _ (.inr (Nat.le_succ _))
 refine ⟨.inr trivial,_,?_,⟨x.dl,x.dr,.arr id2 0 (p.edges++[(⟨frm,to,act,expr,v,c,false,node⟩:Ed)]).length 8,x.dn,x.dv⟩,rfl,fr3,?_,id2,rfl,by omega⟩
 ·simp only [S6,T0,V0,Env.get,Nat.reduceEqDiff,↓reduceIte,O2.at,k4.next_push,P5 (s:=s2.set s.next _) (i:=s.next+1) (by simp only [k4.next_set];omega)]
  rw [<- hrow]
  rfl
 refine ⟨hp.l.stay fr3,hp.r.stay fr3,SN.of ?_ (by simp [Pr.put]),hp.n.stay fr3,hp.v.stay fr3⟩
 rw [O0 (by omega),O0 (by omega),k2]
 rfl
theorem b84 (l:List Bool) (i:Nat) (b:Bool):(P2 l).flatten.set i (.bool b)=(P2 (l.set i b)).flatten:=by
 have key:∀l:List Bool,(P2 l).flatten=l.map .bool:=by
  intro l
  induction l with
  | nil=>rfl
  | cons a r ih=>simp only [P2,List.map_cons,List.flatten_cons] at ih ⊢;rw [ih];rfl
 rw [key,key,List.map_set]
theorem b21 (l:List Bool):(P2 l).flatten.length=l.length:=by rw [a38 (a3n l),a30,Nat.mul_one]
theorem a9u {s:k4} {p:Pr} {x:PrD} (hp:N3 s p x) (hl:P8 p 1000000) {n:Nat} (hn:n<p.rest.length) {is:Int} :
 EvP vfs 114 [.agg (t3 p x),.int .i64 (n:Int),.int .i64 is] s fun r s'=>∃x',r=.agg (t3 (p.idle n is) x')/\Fr [] s s'/\N3 s' (p.idle n is) x':=by
 have o1:=hp.l.one
 have o2:=hp.r.one
 have o3:=hp.e.one
 have o4:=hp.n.one
 have o5:=hp.v.one
 have hrl:=hl.rl
 unfold t3
 refine M3 (vf:=a8v) rfl ?_
 unfold a8v;refine zE ?_
 try refine zW (aN o1 (aN o2 (aN o3 (aN o4 o5)))) ?_
 refine a1i (a40 (old:=[]) (rows:=P2 p.rest) (sz:=1) (bytes:=1) (d:=x.dr) ?_ (by simp) ?_ (a3n _) (by decide) (by simp;omega)) rfl rfl ?_
 ·exact O1 rfl
 ·exact hp.r.stay (((Fr.push _).thenPush _).thenPush _)
 rintro d1 s1 ⟨id1,rfl,k1,f1,g1⟩
 have fr1:Fr [] s s1:=Fr.trans (((Fr.push _).thenPush _).thenPush _) f1 (by simp;omega)
 have n1:=f1.1
 have kb:=f1.2 s.next (by simp only [k4.next_push];omega) (by simp only [k4.next_push,List.mem_singleton];omega)
 have kz:=f1.2 (s.next+1) (by simp only [k4.next_push];omega) (by simp only [k4.next_push,List.mem_singleton];omega)
 simp only [k4.next_push] at n1 g1
 rw [S0 (by simp only [k4.next_push];omega),S0 (by simp only [k4.next_push];omega),O1 rfl] at kb
 rw [S0 (by simp only [k4.next_push];omega),O1 (by simp only [k4.next_push])] at kz
 have hid1:s.next+2<=id1:=by omega
 clear f1 g1
 rw [List.nil_append] at k1
 simp only [List.nil_append,a30]
 have lid:=M1 k1
 by_cases c:is=1
 ·have c':(is==1)=true:=by rw [c];rfl
  have hnl:((n:Int)<(p.rest.length:Int)):=by omega
  have hi:M8 1 (.arr id1 0 p.rest.length 1) (.int .i64 (n:Int))=some (.ptr id1 n):=by
   simp only [M8]
   rw [if_pos ⟨trivial,by omega,by omega⟩]
   simp
  repeat first
  |(refine a6D (x:=.bool true) k1 (n:=n) (by rw [b21];omega) rfl ?_ rfl ?_;(focus (simp only [Env.ev,Env.get,Nat.reduceEqDiff,↓reduceIte])))
  |refine zW (aN c' hi) ?_
  have kb1:(s1.set id1 (some (.cells ((P2 p.rest).flatten.set n (.bool true))))).get s.next=some (.cells [.str p.name,.int .i64 (p.copy:Int),x.dl,.int .i64 (p.places:Int),x.dr,x.de,x.dn,x.dv]):=by rw [O0 (by omega),kb]
  have kz1:=O0 (s:=s1) (o:=some (.cells ((P2 p.rest).flatten.set n (.bool true)))) (i:=s.next+1) (id:=id1) (by omega)
  rw [kz] at kz1
  try refine zW (aN kb1 (aN kz1 (aN o1 (aN o3 (aN o4 o5))))) ?_
  generalize hrow:[D.str p.name,.int .i64 (p.copy:Int),x.dl,.int .i64 (p.places:Int),.arr id1 0 p.rest.length 1,x.de,x.dn,x.dv]=row
  have fr3:Fr [] s (((s1.set id1 (some (.cells ((P2 p.rest).flatten.set n (.bool true))))).set s.next (some (.cells row))).set (s.next+1) (some (.cells row))):=((fr1.thenSet _ (.inr (by omega))).thenSet _ (.inr (Nat.le_refl _))).thenSet _ (.inr (Nat.le_succ _))
  have hid:p.idle n is={ p with rest:=p.rest.set n true }:=by unfold Pr.idle;rw [if_pos c]
  rw [hid]
  refine ⟨.inr trivial,_,?_,⟨x.dl,.arr id1 0 p.rest.length 1,x.de,x.dn,x.dv⟩,rfl,fr3,?_⟩
  ·simp only [S6,T0,V0,Env.get,Nat.reduceEqDiff,↓reduceIte,O2.at,k4.next_push,P5 (i:=s.next+1) (s:=(s1.set id1 _).set s.next _) (by simp only [k4.next_set];omega)]
   rw [<- hrow]
   rfl
  refine ⟨hp.l.stay fr3,SN.of ?_ (by simp),hp.e.stay fr3,hp.n.stay fr3,hp.v.stay fr3⟩
  rw [O0 (by omega),O0 (by omega),P5 lid,b84]
 ·have c':(is==1)=false:=by rw [beq_eq_false_iff_ne];exact c
  try refine zW (aN c' (aN kb (aN kz (aN o1 (aN o3 (aN o4 o5)))))) ?_
  generalize hrow:[D.str p.name,.int .i64 (p.copy:Int),x.dl,.int .i64 (p.places:Int),.arr id1 0 p.rest.length 1,x.de,x.dn,x.dv]=row
  have fr3:Fr [] s ((s1.set s.next (some (.cells row))).set (s.next+1) (some (.cells row))):=(fr1.thenSet _ (.inr (Nat.le_refl _))).thenSet _ (.inr (Nat.le_succ _))
  have hid:p.idle n is=p:=by unfold Pr.idle;rw [if_neg c]
  rw [hid]
  refine ⟨.inr trivial,_,?_,⟨x.dl,.arr id1 0 p.rest.length 1,x.de,x.dn,x.dv⟩,rfl,fr3,?_⟩
  ·simp only [S6,T0,V0,Env.get,Nat.reduceEqDiff,↓reduceIte,O2.at,k4.next_push,P5 (i:=s.next+1) (s:=s1.set s.next _) (by simp only [k4.next_set];omega)]
   rw [<- hrow]
   rfl
  refine ⟨hp.l.stay fr3,SN.of ?_ (by simp),hp.e.stay fr3,hp.n.stay fr3,hp.v.stay fr3⟩
  rw [O0 (by omega),O0 (by omega),k1]
end Go.Proofs.YtnjlhebkhjcagaaGreat
namespace Go.Proofs.YtnjlhebkhjcagaaGreat
open Go.V
set_option maxRecDepth 100000
set_option maxHeartbeats 4000000
theorem a8A {l:List ByteArray} {x:ByteArray} {i:Nat} (h:i<l.length) (hx:l[i]=x) (hb:∀j (hj:j<l.length),j<i->l[j]≠x):a0o l x=i:=by
 have:l.findIdx (fun y=>decide (y=x))=i:=by
  rw [List.findIdx_eq h]
  exact ⟨by simpa using hx,fun j hj=>by simpa using hb j (by omega) hj⟩
 unfold a0o
 rw [this,if_pos h]
theorem b4n {l:List ByteArray} {x:ByteArray} (hb:∀j (hj:j<l.length),l[j]≠x):a0o l x=0:=by
 unfold a0o
 rw [if_neg]
 rw [List.findIdx_lt_length]
 rintro ⟨y,hy,e⟩
 obtain ⟨j,hj,rfl⟩:=List.getElem_of_mem hy
 exact hb j hj (by simpa using e)
theorem b4s {s:k4} {d:D} {l:List ByteArray} {x:ByteArray} (hd:SN s 1 d (W6 l)) (hl:l.length<=1000000):Ev vfs 112 [d,.str x] s (.int .i64 (a0o l x:Int)) s:=by
 have hlen:=hd.len
 rw [b37] at hlen
 refine a4D (vf:=a8w) rfl ?_
 unfold a8w;refine zE ?_
 try refine zW0 ?_
 refine U2 (Q:=M9 0 _) (fun n env s1=>∃i:Nat,i<=l.length/\n=l.length-i/\(∀j (hj:j<l.length),j<i->l[j]≠x)/\s1=s/\(env.get 0=d/\env.get 1=.str x/\env.get 5=.int .i64 (i:Int))) ?_ l.length _ _ ⟨0,by omega,rfl,fun j _ h=>by omega,rfl,by simp [Env.get]⟩
 rintro n env s1 ⟨i,hi,rfl,hno,rfl,hE⟩
 by_cases c1:i<l.length
 ·have c1':((i:Int)<(l.length:Int))=True:=eq_true (by omega)
  have hs:IntKind.i64.wrap ((i:Int)+1)=((i+1:Nat):Int):=by rw [P1 (by omega) (by omega)];omega
  obtain ⟨pp,p1,p2,-⟩:=hd.get1 (a6d l) (i:=i) (c:=.str l[i]) (by simpa using c1) (by simp [W6]) rfl (by decide)
  by_cases c2:l[i]=x
  ·have hf:=a8A c1 c2 hno
   try refine zW (aN hE (aN hlen (aN c1' (aN p1 (aN p2 c2))))) ?_
   exact ⟨.inr trivial,trivial,by rw [hf];simp only [S6,T0,V0,Env.get,Nat.reduceEqDiff,↓reduceIte,hE]⟩
  ·try refine zW (aN hE (aN hlen (aN c1' (aN p1 (aN p2 (aN c2 hs)))))) ?_
   refine ⟨l.length-(i+1),by omega,i+1,by omega,rfl,fun j hj hji=>?_,trivial,(rG hE)⟩
   by_cases e:j=i
   ·subst e;exact c2
   ·exact hno j hj (by omega)
 ·have c1':((i:Int)<(l.length:Int))=False:=eq_false (by omega)
  have hf:=b4n (l:=l) (x:=x) fun j hj=>hno j hj (by omega)
  try refine zW (aN hE (aN hlen c1')) ?_
  exact ⟨.inr trivial,trivial,by rw [hf];rfl⟩
theorem b25 {s:k4} {m:MdX} {t:List Nd} {ch:List Ch} {x:ByteArray} (hm:a0y s m t ch) (hl:ch.length<=1000000) :
 EvP vfs 113 [.agg (N1 m),.str x] s fun r s'=>r=.int .i64 (a0o (ch.map Ch.name) x:Int)/\Fr [] s s':=by
 have hlen:=hm.c.len
 rw [a5t] at hlen
 have o0:=FL.one hm.tr.fl
 have o1:=hm.c.one
 have o2:=hm.ov
 have o3:=hm.op
 have o4:=hm.os
 unfold N1
 refine M3 (vf:=a8n) rfl ?_
 unfold a8n;refine zE ?_
 try refine zW (aN o0 (aN o1 (aN o2 (aN o3 o4)))) ?_
 have hg0:(s.push (.cells [m.dt,.int .i64 m.g,m.dc,m.dv,m.dp,m.ds,.bool m.b])).get s.next=some (.cells [m.dt,.int .i64 m.g,m.dc,m.dv,m.dp,m.ds,.bool m.b]):=O1 rfl
 have hc:=hm.c.stay (Fr.push (ids:=[]) (s:=s) (.cells [m.dt,.int .i64 m.g,m.dc,m.dv,m.dp,m.ds,.bool m.b]))
 have fr:=Fr.push (ids:=[]) (s:=s) (.cells [m.dt,.int .i64 m.g,m.dc,m.dv,m.dp,m.ds,.bool m.b])
 generalize s.push (.cells [m.dt,.int .i64 m.g,m.dc,m.dv,m.dp,m.ds,.bool m.b])=s1 at *
 refine U2 (Q:=M9 0 _) (fun n env s2=>∃i:Nat,i<=ch.length/\n=ch.length-i/\(∀j (hj:j<(ch.map Ch.name).length),j<i->(ch.map Ch.name)[j]≠x)/\s2=s1/\(env.get 1=.str x/\env.get 2=.ptr s.next 0/\env.get 5=.int .i64 (i:Int))) ?_ ch.length _ _ ⟨0,by omega,rfl,fun j _ h=>by omega,rfl,by simp [Env.get,O2.at]⟩
 rintro n env s2 ⟨i,hi,rfl,hno,rfl,hE⟩
 by_cases c1:i<ch.length
 ·have c1':((i:Int)<(ch.length:Int))=True:=eq_true (by omega)
  have hs:IntKind.i64.wrap ((i:Int)+1)=((i+1:Nat):Int):=by rw [P1 (by omega) (by omega)];omega
  rcases hc with ⟨_,h0⟩ | ⟨id,hdc,hg⟩ | hdc
  ·have:=congrArg List.length h0
   rw [a5t,List.length_nil] at this
   omega
  ·have hq:(a0q ch).flatten[i*5]?=some (.str ch[i].name):=by
    have:=a5T (a7Q ch) (i:=i) (f:=0) (by simpa using c1) (by decide)
    rw [Nat.add_zero] at this
    rw [this]
    simp [a0q,Ch.row]
   rw [a5t] at hdc
   have hnm:(ch.map Ch.name)[i]'(by simpa using c1)=ch[i].name:=by simp
   rw [hdc] at hg0 hlen o1
   by_cases c2:ch[i].name=x
   ·have hf:=a8A (l:=ch.map Ch.name) (i:=i) (by simpa using c1) (by rw [hnm];exact c2) hno
    try refine zW (aN hE (aN hg0 (aN o0 (aN o1 (aN o2 (aN o3 (aN o4 (aN hlen (aN c1' (aN hg (aN hq c2))))))))))) ?_
    exact ⟨.inr trivial,_,rR,by rw [hf],fr⟩
   ·try refine zW (aN hE (aN hg0 (aN o0 (aN o1 (aN o2 (aN o3 (aN o4 (aN hlen (aN c1' (aN hg (aN hq (aN c2 hs)))))))))))) ?_
    refine ⟨ch.length-(i+1),by omega,i+1,by omega,rfl,fun j hj hji=>?_,trivial,(rG hE)⟩
    by_cases e:j=i
    ·subst e;rw [hnm];exact c2
    ·exact hno j hj (by omega)
  ·have hnm:(ch.map Ch.name)[i]'(by simpa using c1)=ch[i].name:=by simp
   have hix:M8 5 m.dc (.int .i64 (i:Int))=some (.fp [.str ch[i].name,.int .i64 ch[i].room,.int .i64 ch[i].width,.bool ch[i].lossy,.bool ch[i].copying] 0):=by
    rw [hdc]
    simp [M8,a0q,c1,Ch.row]
   by_cases c2:ch[i].name=x
   ·have hf:=a8A (l:=ch.map Ch.name) (i:=i) (by simpa using c1) (by rw [hnm];exact c2) hno
    try refine zW (aN hE (aN hg0 (aN o0 (aN o1 (aN o2 (aN o3 (aN o4 (aN hlen (aN c1' (aN hix c2)))))))))) ?_
    exact ⟨.inr trivial,_,rR,by rw [hf],fr⟩
   ·try refine zW (aN hE (aN hg0 (aN o0 (aN o1 (aN o2 (aN o3 (aN o4 (aN hlen (aN c1' (aN hix (aN c2 hs))))))))))) ?_
    refine ⟨ch.length-(i+1),by omega,i+1,by omega,rfl,fun j hj hji=>?_,trivial,(rG hE)⟩
    by_cases e:j=i
    ·subst e;rw [hnm];exact c2
    ·exact hno j hj (by omega)
 ·have c1':((i:Int)<(ch.length:Int))=False:=eq_false (by omega)
  have hf:=b4n (l:=ch.map Ch.name) (x:=x) fun j hj=>hno j hj (by simp at hj;omega)
  try refine zW (aN hE (aN hg0 (aN o0 (aN o1 (aN o2 (aN o3 (aN o4 (aN hlen c1')))))))) ?_
  exact ⟨.inr trivial,_,rR,by rw [hf];rfl,fr⟩
end Go.Proofs.YtnjlhebkhjcagaaGreat
namespace Go.V
def KF (t:List Nd) (g:Nat) (ks:List Int) (a n:Nat):Prop:=a1Q (S4 t g) t.length ks a=(n,true)
theorem KF.cons {t:List Nd} {g:Nat} {z:Int} {zs:List Int} {a n:Nat} (h:KF t g (z::zs) a n):z=(a:Int)/\a<t.length/\∃b,S4 t g a=(b,true)/\a<b/\b<=t.length/\KF t g zs b n:=by
 unfold KF a1Q at h
 split at h
 ·simp at h
 ·rename_i hc
  split at h
  ·rename_i ht
   have ha:a<t.length:=by omega
   have hw:S4 t g a=((S4 t g a).1,true):=by rw [<- ht]
   have hs:=(a2x g ha hw).1
   exact ⟨by omega,ha,(S4 t g a).1,hw,hs.lt,hs.le,h⟩
  ·simp at h
theorem KF.nil {t:List Nd} {g:Nat} {a n:Nat} (h:KF t g [] a n):n=a:=by
 simp only [KF,a1Q,Prod.mk.injEq,and_true] at h
 exact h.symm
theorem KF.le {t:List Nd} {g:Nat}:∀ {ks:List Int} {a n:Nat},KF t g ks a n->a<=n
 | [],a,n,h=>by have:=h.nil;omega
 | z::zs,a,n,h=>by
   obtain ⟨_,_,b,_,h1,_,h2⟩:=h.cons
   have:=h2.le
   omega
theorem a2n {t:List Nd} {g k n:Nat} (h:S4 t g k=(n,true)):∃g',g=g'+1/\KF t g' (nd t k).kids (k+1) n:=by
 cases g with
 | zero=>simp [S4] at h
 | succ g=>exact ⟨g,rfl,h⟩
structure Gw (p q:Pr) (n:Nat):Prop where
 pl:q.places<=p.places+n
 rl:q.rest.length<=p.rest.length+n
 el:q.edges.length<=p.edges.length+n
theorem Gw.refl (p:Pr):Gw p p 0:=⟨Nat.le_refl _,Nat.le_refl _,Nat.le_refl _⟩
theorem Gw.trans {p q r:Pr} {a b:Nat} (h:Gw p q a) (k:Gw q r b):Gw p r (a+b):=⟨by have:=h.pl;have:=k.pl;omega,by have:=h.rl;have:=k.rl;omega,by have:=h.el;have:=k.el;omega⟩
theorem Gw.le {p q:Pr} {a b:Nat} (h:Gw p q a) (k:a<=b):Gw p q b:=⟨by have:=h.pl;omega,by have:=h.rl;omega,by have:=h.el;omega⟩
theorem a0H (p:Pr) (frm to act node:Nat) (expr v c:Int):Gw p (p.put frm to act node expr v c) 1:=⟨by simp [Pr.put],by simp [Pr.put],by simp [Pr.put]⟩
theorem a2e (p:Pr):Gw p p.place 1:=⟨by simp [Pr.place],by simp [Pr.place],by simp [Pr.place]⟩
theorem a66 (p:Pr) (n:Nat) (is:Int):Gw p (p.idle n is) 0:=by
 unfold Pr.idle
 split
 ·exact ⟨Nat.le_refl _,by simp,Nat.le_refl _⟩
 ·exact Gw.refl p
def StG (t:List Nd) (st:Pr->Nat->Nat->Nat->Pr) (k:Nat):Prop:=∀g n,S4 t g k=(n,true)->∀p frm to,Gw p (st p k frm to) (4*(n-k)-1)
theorem a8u {t:List Nd} {st:Pr->Nat->Nat->Nat->Pr} {node g:Nat}:∀ {ks:List Int} {a n:Nat} {p:Pr} {frm to:Nat},KF t g ks a n->(∀k∈ks.map Int.toNat,StG t st k)->Gw p (a1A st node p (ks.map Int.toNat) frm to) (4*(n-a)+1)
 | [],a,n,p,frm,to,h,_=>(a0H _ _ _ _ _ _ _ _).le (by omega)
 | [z],a,n,p,frm,to,h,hs=>by
   obtain ⟨rfl,h1,b,h2,h3,h4,h5⟩:=h.cons
   obtain rfl:=h5.nil
   exact (hs _ (by simp) g n (by simpa using h2) p frm to).le (by simp;omega)
 | z::z'::zs,a,n,p,frm,to,h,hs=>by
   obtain ⟨rfl,h1,b,h2,h3,h4,h5⟩:=h.cons
   have hle:=h5.le
   have s1:=hs ((a:Int).toNat) (by simp) g b (by simpa using h2) p.place frm p.places
   have s2:=a8u (st:=st) (node:=node) (p:=st p.place (a:Int).toNat frm p.places) (frm:=p.places) (to:=to) h5 (fun k hk=>hs k (by simp only [List.map_cons,List.mem_cons] at hk ⊢;right;exact hk))
   exact (((a2e p).trans s1).trans s2).le (by simp;omega)
theorem a1V {t:List Nd} {st:Pr->Nat->Nat->Nat->Pr} {g b n:Nat} {p:Pr} {frm to:Nat} (hb:b<t.length) (h:S4 t g b=(n,true)) (hs:∀k∈(nd t b).ks,StG t st k):Gw p (W1 t st p b frm to) (4*(n-b)-3):=by
 obtain ⟨g',rfl,hk⟩:=a2n h
 have:=hk.le
 exact (a8u hk hs).le (by omega)
theorem b4c {t:List Nd} {st:Pr->Nat->Nat->Nat->Pr} {frm to g:Nat}:∀ {ks:List Int} {a n:Nat} {p:Pr},KF t g ks a n->(∀b∈ks.map Int.toNat,∀k∈(nd t b).ks,StG t st k)->Gw p (Y7 t st frm to p (ks.map Int.toNat)) (4*(n-a))
 | [],a,n,p,h,_=>(Gw.refl p).le (by omega)
 | z::zs,a,n,p,h,hs=>by
   obtain ⟨rfl,h1,b,h2,h3,h4,h5⟩:=h.cons
   have hle:=h5.le
   have hsa:∀k∈(nd t a).ks,StG t st k:=by simpa using hs (a:Int).toNat (by simp)
   rw [List.map_cons,Y7]
   simp only [Int.toNat_natCast]
   have key:∀q,Gw p q (4*(b-a)-1)->Gw p (Y7 t st frm to q (zs.map Int.toNat)) (4*(n-a)):=fun q hq=>(hq.trans (b4c h5 fun b hb=>hs b (by simp only [List.map_cons,List.mem_cons];right;exact hb))).le (by omega)
   split
   ·exact key _ ((((a2e p).trans (a0H p.place frm p.places 0 a (-1) (-1) (-1))).trans (a1V h1 h2 hsa)).le (by omega))
   ·exact key _ ((a1V h1 h2 hsa).le (by omega))
theorem a6Y {t:List Nd} (ht:X7 t) (ch:List ByteArray):∀ (f k:Nat),k<t.length->a1Y (nd t k).kind->t.length-k<f->StG t (M5 t ch f) k
 | 0,k,_,_,h=>by omega
 | f+1,k,hk,hst,hf=>by
   intro g n hw p frm to
   have hsub:=(a2x g hk hw).1
   have hlt:=hsub.lt
   have hle:=hsub.le
   obtain ⟨g',rfl,hkf⟩:=a2n hw
   have hno:=ht.node k hk
   have hks:=ht.ks hk
   have bl:∀b∈(nd t k).ks,(nd t b).kind=16->∀x∈(nd t b).ks,StG t (M5 t ch f) x:=fun b hb hb16 x hx=>by
    have h1:=hks b hb
    have h2:=ht.ks h1.2 x hx
    exact a6Y ht ch f x h2.2 ((ht.node b h1.2).block hb16 x hx) (by omega)
   have one:∀q:Pr,Gw p q 1->Gw p q (4*(n-k)-1):=fun q h=>h.le (by omega)
   unfold M5
   simp only
   by_cases c6:(nd t k).kind=6
   ·rw [if_pos c6];exact one _ (a0H _ _ _ _ _ _ _ _)
   rw [if_neg c6]
   by_cases c7:(nd t k).kind=7
   ·rw [if_pos c7];exact one _ (a0H _ _ _ _ _ _ _ _)
   rw [if_neg c7]
   by_cases c8:(nd t k).kind=8
   ·rw [if_pos c8];exact one _ (((a66 _ _ _).trans (a0H _ _ _ _ _ _ _ _)).le (by omega))
   rw [if_neg c8]
   by_cases c9:(nd t k).kind=9
   ·rw [if_pos c9];exact one _ (((a66 _ _ _).trans (a0H _ _ _ _ _ _ _ _)).le (by omega))
   rw [if_neg c9]
   by_cases c10:(nd t k).kind=10
   ·rw [if_pos c10]
    have h1:=hno.choose c10
    exact ((a66 _ _ _).trans (b4c hkf fun b hb=>bl b hb (h1.2 b hb))).le (by omega)
   rw [if_neg c10]
   by_cases c11:(nd t k).kind=11
   ·rw [if_pos c11]
    obtain ⟨l1,l2,l3,l4⟩:=hno.cond c11
    match hkk:(nd t k).kids,l1,hkf with
    | [z0,z1],_,hkf =>
      obtain ⟨e0,_,b0,_,s0,_,hkf⟩:=hkf.cons
      obtain ⟨e1,q1,b1,w1,s1,_,hkf⟩:=hkf.cons
      have:=hkf.nil
      have k1:(nd t k).kid 1=b0:=by simp [Nd.kid,hkk,e1]
      have m1:b0∈(nd t k).ks:=by simp [Nd.ks,hkk,e1]
      rw [k1] at l3 ⊢
      rw [if_pos (by simp)]
      exact ((((a2e p).trans (a0H _ _ _ _ _ _ _ _)).trans (a1V q1 w1 (bl _ m1 l3))).trans (a0H _ _ _ _ _ _ _ _)).le (by omega)
    | [z0,z1,z2],_,hkf =>
      obtain ⟨e0,_,b0,_,s0,_,hkf⟩:=hkf.cons
      obtain ⟨e1,q1,b1,w1,s1,_,hkf⟩:=hkf.cons
      obtain ⟨e2,q2,b2,w2,s2,_,hkf⟩:=hkf.cons
      have:=hkf.nil
      have k1:(nd t k).kid 1=b0:=by simp [Nd.kid,hkk,e1]
      have k2:(nd t k).kid 2=b1:=by simp [Nd.kid,hkk,e2]
      have m1:b0∈(nd t k).ks:=by simp [Nd.ks,hkk,e1]
      have m2:b1∈(nd t k).ks:=by simp [Nd.ks,hkk,e2]
      have l4:=l4 (by rw [hkk];rfl)
      rw [k1] at l3 ⊢
      rw [k2] at l4 ⊢
      rw [if_neg (by simp)]
      exact ((((((a2e p).trans (a0H _ _ _ _ _ _ _ _)).trans (a1V q1 w1 (bl _ m1 l3))).trans (a2e _)).trans (a0H _ _ _ _ _ _ _ _)).trans (a1V q2 w2 (bl _ m2 l4))).le (by omega)
   rw [if_neg c11]
   by_cases c12:(nd t k).kind=12
   ·rw [if_pos c12]
    obtain ⟨l1,l2,l3⟩:=hno.loop c12
    match hkk:(nd t k).kids,l1,hkf with
    | [z0,z1],_,hkf =>
      obtain ⟨e0,_,b0,_,s0,_,hkf⟩:=hkf.cons
      obtain ⟨e1,q1,b1,w1,s1,_,hkf⟩:=hkf.cons
      have:=hkf.nil
      have k1:(nd t k).kid 1=b0:=by simp [Nd.kid,hkk,e1]
      have m1:b0∈(nd t k).ks:=by simp [Nd.ks,hkk,e1]
      rw [k1] at l3 ⊢
      exact ((((a2e p).trans (a0H _ _ _ _ _ _ _ _)).trans (a0H _ _ _ _ _ _ _ _)).trans (a1V q1 w1 (bl _ m1 l3))).le (by omega)
   rw [if_neg c12]
   by_cases c13:(nd t k).kind=13
   ·rw [if_pos c13]
    obtain ⟨l1,l2⟩:=hno.atom c13
    match hkk:(nd t k).kids,l1,hkf with
    | [z0],_,hkf =>
      obtain ⟨e0,q0,b0,w0,s0,_,hkf⟩:=hkf.cons
      have:=hkf.nil
      have k0:(nd t k).kid 0=k+1:=by simp [Nd.kid,hkk,e0]
      have m0:k+1∈(nd t k).ks:=by simp [Nd.ks,hkk,e0]
      rw [k0] at l2 ⊢
      have h:=a1V (p:=p) (frm:=frm) (to:=to) q0 w0 (bl _ m0 l2)
      refine ⟨Nat.le_trans h.pl (by omega),Nat.le_trans h.rl (by omega),?_⟩
      have hl:∀ (n to:Nat) (l:List Ed),(a0C n to l).length=l.length:=fun n to l=>by
       unfold a0C
       rw [List.length_append,List.length_map,<- List.length_append,List.take_append_drop]
      show (a0C _ _ _).length<=_
      rw [hl]
      exact Nat.le_trans h.el (by omega)
   rw [if_neg c13]
   by_cases c15:(nd t k).kind=15
   ·rw [if_pos c15];exact one _ (a0H _ _ _ _ _ _ _ _)
   rw [if_neg c15]
   exact one _ (a0H _ _ _ _ _ _ _ _)
end Go.V
