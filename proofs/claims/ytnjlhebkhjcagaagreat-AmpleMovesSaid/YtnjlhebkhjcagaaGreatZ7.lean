/- Texts one behind the other. -/
import Derived.Test.YtnjlhebkhjcagaaGreatZ6
import Derived.Test.YtnjlhebkhjcagaaGreatZ5
set_option linter.unusedSimpArgs false
set_option linter.unusedVariables false
namespace Go.V
theorem Z0.pw {t:List Nd}:∀ {ks:List Int} {a n:Nat},Z0 t ks a n->ks.Pairwise (·<·)
 | [],a,n,h=>List.Pairwise.nil
 | k::ks,a,n,h=>by
   obtain ⟨rfl,b,h1,h2⟩:=h
   refine List.pairwise_cons.2 ⟨fun x hx=>?_,h2.pw⟩
   have:=h2.mem x hx
   have:=h1.lt
   omega
theorem b48 {t:List Nd} (h:N6 t):(nd t 0).ks.Pairwise (·<·):=by
 unfold Nd.ks
 rw [List.pairwise_map]
 refine List.Pairwise.imp_of_mem ?_ h.subs.pw
 intro a b ha hb hab
 have:=h.subs.mem a ha
 have:=h.subs.mem b hb
 omega
theorem b1X (t:List Nd):∀ (l:List Nat) (a:Ga),(l.foldl (one1 t) a).ch=a.ch++(l.filter fun k=>(nd t k).kind==1).map fun k=>a3L (nd t k)
 | [],a=>by simp
 | k::l,a=>by
   rw [List.foldl_cons,b1X t l]
   unfold one1
   by_cases c1:(nd t k).kind=1
   ·simp [c1]
   rw [if_neg c1]
   have e:((nd t k).kind==1)=false:=by simpa using c1
   rw [List.filter_cons,e]
   repeat' split
   all_goals simp_all
theorem b59 (t:List Nd):∀ (l:List Nat) (a:Ga),(l.foldl (one1 t) a).vs=a.vs++(l.filter fun k=>(nd t k).kind==2).map fun k=>a1m (nd t k)
 | [],a=>by simp
 | k::l,a=>by
   rw [List.foldl_cons,b59 t l]
   unfold one1
   by_cases c2:(nd t k).kind=2
   ·simp [c2]
   have e:((nd t k).kind==2)=false:=by simpa using c2
   rw [List.filter_cons,e]
   repeat' split
   all_goals simp_all
theorem b1z {t:List Nd} (hS:a0r t) {kind:Int} (hk:kind=1∨kind=2) {l:List Nat} (hp:l.Pairwise (·<·)) (hl:∀k∈l,k<t.length/\(nd t k).kind=kind) (hs:∀i∈l,∀j∈l,i<j->item t i=i∨item t i=item t j):(l.map fun k=>(nd t k).word 0).Nodup:=by
 unfold List.Nodup
 rw [List.pairwise_map]
 refine List.Pairwise.imp_of_mem ?_ hp
 intro i j hi hj hij e
 obtain ⟨h1,h2⟩:=hl j hj
 have ho:=hS.once j h1 (by omega)
 have:a02 t kind j ((nd t j).word 0):=⟨i,hij,(hl i hi).2,hs i hi j hj hij,e⟩
 rcases hk with rfl | rfl
 ·exact ho.1 this
 ·exact ho.2.1 this
theorem a95 {t:List Nd} (h:N6 t) {k:Nat} (hk:k∈(nd t 0).ks):k<t.length:=by
 obtain ⟨z,hz,rfl⟩:=List.mem_map.1 hk
 have:=h.subs.mem z hz
 omega
theorem b22 {t:List Nd} (h:N6 t) {k:Nat} (hk:k∈(nd t 0).ks):item t k=k:=a3I h (a42 h hk)
theorem c3p {t:List Nd} (h:N6 t) (hS:a0r t):(chs t).Nodup:=by
 have e:chs t=((nd t 0).ks.filter fun k=>(nd t k).kind==1).map fun k=>(nd t k).word 0:=by
  unfold chs gat V0
  rw [b1X]
  simp [a3L]
 rw [e]
 refine b1z hS (.inl rfl) ((b48 h).filter _) (fun k hk=>?_) fun i hi j hj _=>.inl ?_
 ·obtain ⟨h1,h2⟩:=List.mem_filter.1 hk
  exact ⟨a95 h h1,by simpa using h2⟩
 ·exact b22 h (List.mem_filter.1 hi).1
def a5b (t:List Nd):Nat->Nat->List Nat
 | 0,_=>[]
 | n+1,k=>k::(nd t k).ks.flatMap (a5b t n)
theorem b4Z {α β γ:Type} {g:γ->β->γ} {e:α->List β}:∀ {l:List α} {a:γ},(l.flatMap e).foldl g a=l.foldl (fun a x=>(e x).foldl g a) a
 | [],a=>rfl
 | x::l,a=>by
   rw [List.flatMap_cons,List.foldl_append,List.foldl_cons,b4Z]
theorem b2o {t:List Nd} {ch:List ByteArray} {vb:ByteArray->Nat}:∀ (n k:Nat) (f:Ft),(a5b t n k).foldl (fun f j=>S7 ch vb (nd t j) f) f=Z2 t ch vb n k f
 | 0,k,f=>rfl
 | n+1,k,f=>by
   unfold a5b Z2
   rw [List.foldl_cons,b4Z]
   congr 1
   funext f c
   exact b2o n c f
theorem c4V {t:List Nd} (h:N6 t) (hS:a0r t) {o:Org} (ho:o∈S9 t):(pr1 t o).names.Nodup:=by
 have hok:=a2J ho
 obtain ⟨i,hi,hki,hseen⟩:=hok.at'
 have hkm:o.k∈(nd t 0).ks:=by rw [<- hki];exact List.getElem_mem hi
 have hlt:=a95 h hkm
 have hpc:=a4o ((h.ok.node o.k hlt).proc hok.kind)
 have hpw:=b48 h
 -- the list of nodes
 have eg:((gat t).vs.take o.seen).map Vr.name=(((nd t 0).ks.take i).filter fun k=>(nd t k).kind==2).map fun k=>(nd t k).word 0:=by
  obtain ⟨r,hr⟩:=a7L t ((nd t 0).ks.take i) ((nd t 0).ks.drop i)
  rw [List.take_append_drop] at hr
  unfold gat
  rw [hr,hseen,List.take_left']
  ·unfold V0
   rw [b59]
   simp [a1m]
  ·rfl
 have el:(W0 t (nd t o.k)).map (fun y=>y.word 0)=((List.range (N3 t (nd t o.k))).map (o.k+1+·)).map fun k=>(nd t k).word 0:=by
  refine List.ext_getElem (by simp) fun j h1 h2=>?_
  have hj:j<N3 t (nd t o.k):=by simpa using h1
  have hla:=a7f h hkm hj
  have hle:=a4U t (nd t o.k)
  simp only [W0,List.getElem_map,List.getElem_take,List.getElem_range]
  congr 2
  rw [<- hla]
  unfold Nd.kid Nd.ks
  simp [List.getD,show j<(nd t o.k).kids.length by simpa [Nd.ks] using (Nat.lt_of_lt_of_le hj hle)]
 show (((gat t).vs.take o.seen).map Vr.name++(W0 t (nd t o.k)).map (fun y=>y.word 0)).Nodup
 rw [eg,el,<- List.map_append]
 have hg:∀k∈((nd t 0).ks.take i).filter (fun k=>(nd t k).kind==2),k∈(nd t 0).ks/\(nd t k).kind=2/\k<o.k:=fun k hk=>by
  obtain ⟨h1,h2⟩:=List.mem_filter.1 hk
  obtain ⟨j,hj,rfl⟩:=List.getElem_of_mem h1
  rw [List.length_take] at hj
  rw [List.getElem_take]
  refine ⟨List.getElem_mem _,by simpa [List.getElem_take] using h2,?_⟩
  rw [<- hki]
  exact List.pairwise_iff_getElem.1 hpw j i (by omega) hi (by omega)
 obtain ⟨b,b1,hsub,k2,_,hsg⟩:=a6i h hS ho
 have hloc:∀k∈(List.range (N3 t (nd t o.k))).map (o.k+1+·),k<t.length/\(nd t k).kind=2/\item t k=o.k/\o.k<k:=fun k hk=>by
  obtain ⟨j,hj,rfl⟩:=List.mem_map.1 hk
  have hj:=List.mem_range.1 hj
  have hla:=a7f h hkm hj
  have hle:=a4U t (nd t o.k)
  have hjk:j<(nd t o.k).ks.length:=Nat.lt_of_lt_of_le hj hle
  have e1:(nd t o.k).ks[j]=o.k+1+j:=by
   rw [<- hla]
   unfold Nd.kid Nd.ks
   simp [List.getD,show j<(nd t o.k).kids.length by simpa [Nd.ks] using hjk]
   exact List.getElem_map Int.toNat
  have hin:=a5V hj hjk
  rw [e1] at hin
  have hm:(nd t o.k).ks[j]∈(nd t o.k).ks:=List.getElem_mem hjk
  rw [e1] at hm
  have hl:=h.ok.ks hlt _ hm
  refine ⟨hl.2,hin,?_,by omega⟩
  have hd:o.k+1+j<b:=by
   obtain ⟨z,hz,hzk⟩:=List.mem_map.1 hm
   have:=hsub.down o.k (Nat.le_refl _) hsub.lt z hz
   omega
  exact a3K h hkm hsub _ (by omega) hd
 refine b1z hS (.inr rfl) (List.pairwise_append.2 ⟨(hpw.sublist (List.take_sublist _ _)).filter _,?_,fun x hx y hy=>?_⟩) (fun k hk=>?_) fun x hx y hy hxy=>?_
 ·rw [List.pairwise_map]
  exact List.Pairwise.imp (fun h=>by omega) List.pairwise_lt_range
 ·have:=(hg x hx).2.2
  have:=(hloc y hy).2.2.2
  omega
 ·rcases List.mem_append.1 hk with hk | hk
  ·exact ⟨a95 h (hg k hk).1,(hg k hk).2.1⟩
  ·exact ⟨(hloc k hk).1,(hloc k hk).2.1⟩
 ·rcases List.mem_append.1 hx with hx | hx
  ·exact .inl (b22 h (hg x hx).1)
  ·rcases List.mem_append.1 hy with hy | hy
   ·have:=(hg y hy).2.2
    have:=(hloc x hx).2.2.2
    omega
   ·exact .inr (by rw [(hloc x hx).2.2.1,(hloc y hy).2.2.1])
structure MoN (mo:Mo):Prop where
 ch:mo.ch.Nodup
 nm:∀i,i<mo.procs.length->(pAt mo.procs i).names.Nodup
theorem b3B {t:List Nd} (h:N6 t) (hS:a0r t):MoN (S1 t):=by
 refine ⟨c3p h hS,fun i hi=>?_⟩
 have e:(S1 t).procs=(S9 t).map (a0m t):=(a3D t).1
 have hi':i<(S9 t).length:=by rw [e,List.length_map] at hi;exact hi
 have ep:pAt (S1 t).procs i=a0m t (S9 t)[i]:=by rw [a2k hi];simp [e]
 have ho:=List.getElem_mem hi'
 rw [ep,(a3s h hS ho).2.names]
 exact c4V h hS ho
theorem b1s {t:List Nd}:∀ (g i b:Nat),R7 t g i=(b,true)->b<=t.length->∀j,i<=j->j<b->∃g' b',R7 t g' j=(b',true)/\b'<=b
 | 0,i,b,h,_,_,_,_=>by simp [R7] at h
 | g+1,i,b,h,hb,j,h1,h2=>by
   by_cases e:j=i
   ·subst e;exact ⟨g+1,b,h,Nat.le_refl _⟩
   have key:∀ (ks:List Int) (a n:Nat),KF t g ks a n->n<=t.length->∀j,a<=j->j<n->∃g' b',R7 t g' j=(b',true)/\b'<=n:=by
    intro ks
    induction ks with
    | nil=>intro a n hk _ j h1 h2;have:=hk.nil;omega
    | cons z zs ih =>
      intro a n hk hn j h1 h2
      obtain ⟨_,_,c,c1,c2,c3,c4⟩:=hk.cons
      have hle:=c4.le
      by_cases hc:j<c
      ·obtain ⟨g',b',w1,w2⟩:=b1s g a c c1 c3 j h1 hc
       exact ⟨g',b',w1,by omega⟩
      ·exact ih c n c4 hn j (by omega) h2
   obtain ⟨g',e',hk⟩:=a1H h
   obtain rfl:g=g':=by omega
   exact key _ _ _ hk hb j (by omega) h2
theorem b7S {t:List Nd} (h:N6 t) {k:Nat} (hk:k<t.length):∃g b,R7 t g k=(b,true)/\b<=t.length:=b1s 20 0 t.length h.walk (Nat.le_refl _) k (Nat.zero_le _) hk
theorem a6I {t:List Nd} {g k b:Nat} (h:R7 t g k=(b,true)):k<b:=by
 obtain ⟨g',_,hk⟩:=a1H h
 have:=hk.le
 omega
theorem b5S {t:List Nd}:∀ (n g k b:Nat),R7 t g k=(b,true)->b-k<=n->a5b t n k=List.range' k (b-k)
 | 0,g,k,b,h,hn=>by have:=a6I h;omega
 | n+1,g,k,b,h,hn=>by
   obtain ⟨g',_,hk⟩:=a1H h
   have hlt:=a6I h
   have key:∀ (ks:List Int) (a m:Nat),KF t g' ks a m->m-a<=n->(ks.map Int.toNat).flatMap (a5b t n)=List.range' a (m-a):=by
    intro ks
    induction ks with
    | nil=>intro a m hk _;have:=hk.nil;subst this;simp
    | cons z zs ih =>
      intro a m hk hm
      obtain ⟨c0,_,c,c1,c2,c3,c4⟩:=hk.cons
      have hle:=c4.le
      rw [List.map_cons,List.flatMap_cons,c0,Int.toNat_natCast,b5S n g' a c c1 (by omega),ih c m c4 (by omega)]
      have:=List.range'_append (s:=a) (m:=c-a) (n:=m-c) (step:=1)
      rw [Nat.one_mul,show a+(c-a)=c by omega] at this
      rw [this]
      congr 1;omega
   unfold a5b
   rw [show (nd t k).ks=(nd t k).kids.map Int.toNat from rfl,key _ _ _ hk (by omega),show b-k=(b-(k+1))+1 by omega,List.range'_succ]
theorem b1w {t:List Nd} {ch:List ByteArray} {vb:ByteArray->Nat} {g k b n:Nat} (h:R7 t g k=(b,true)) (hn:b-k<=n) (f:Ft):(List.range' k (b-k)).foldl (fun f j=>S7 ch vb (nd t j) f) f=Z2 t ch vb n k f:=by
 rw [<- b5S n g k b h hn,b2o]
end Go.V
namespace Go.V
theorem b3Q {x n:Nat} (hn:n<32) (hx:x<4294967296) (h:x.testBit n=false):x+2 ^ n=x ||| 2 ^ n:=by
 have h2:2 ^ n<4294967296:=a3c hn
 have h0:x &&& 2 ^ n=0:=Nat.eq_of_testBit_eq fun i=>by
  rw [Nat.testBit_and,Nat.testBit_two_pow,Nat.zero_testBit]
  by_cases e:n=i
  ·subst e;simp [h]
  ·simp [e]
 have e:=congrArg BitVec.toNat (BitVec.add_eq_or_of_and_eq_zero (w:=33) (BitVec.ofNat 33 x) (BitVec.ofNat 33 (2 ^ n)) (by
  apply BitVec.eq_of_toNat_eq
  rw [BitVec.toNat_and,BitVec.toNat_ofNat,BitVec.toNat_ofNat,Nat.mod_eq_of_lt (by omega),Nat.mod_eq_of_lt (by omega),h0]
  rfl))
 rw [BitVec.toNat_add,BitVec.toNat_or,BitVec.toNat_ofNat,BitVec.toNat_ofNat,Nat.mod_eq_of_lt (a:=x) (by omega),Nat.mod_eq_of_lt (a:=2 ^ n) (by omega),Nat.mod_eq_of_lt (by omega)] at e
 exact e
theorem b8L {x n:Nat} (h:x.testBit n=true):x ||| 2 ^ n=x:=Nat.eq_of_testBit_eq fun i=>by
 rw [Nat.testBit_or,Nat.testBit_two_pow]
 by_cases e:n=i
 ·subst e;simp [h]
 ·simp [e]
theorem b3T {x n:Nat} (h:n<32):a3r .shr .u32 (x:Int) (n:Int)=some (.int .u32 ((x / 2 ^ n:Nat):Int)):=by
 unfold a3r
 rw [if_neg (by omega)]
 simp only [Int.toNat_natCast]
 have e:min n IntKind.u32.bits=n:=by rw [show IntKind.u32.bits=32 from rfl];omega
 rw [e,show (2:Int) ^ n=((2 ^ n:Nat):Int) by rw [Int.natCast_pow];rfl,Int.fdiv_eq_ediv_of_nonneg _ (Int.natCast_nonneg _)]
 rfl
theorem b6d {x n:Nat} (hx:x<4294967296):IntKind.u32.wrap (a6e .u32 ((x / 2 ^ n:Nat):Int) 1)=if x.testBit n then 1 else 0:=by
 have h0:x / 2 ^ n<=x:=Nat.div_le_self _ _
 have h:=c3P (x:=x / 2 ^ n) (y:=1) (by omega) (by decide)
 have h1:((1:Nat):Int)=1:=rfl
 rw [h1] at h
 rw [h,Nat.and_one_is_mod,Nat.testBit_eq_decide_div_mod_eq]
 by_cases c:x / 2 ^ n % 2=1
 ·rw [c];rfl
 ·rw [show x / 2 ^ n % 2=0 by omega];rfl
theorem c4d {x n:Nat} (hn:n<32) (hx:x<4294967296) (h:x.testBit n=false):IntKind.u32.wrap ((x:Int)+((2 ^ n:Nat):Int))=((x ||| 2 ^ n:Nat):Int):=by
 rw [<- b3Q hn hx h,show (x:Int)+((2 ^ n:Nat):Int)=((x+2 ^ n:Nat):Int) by rw [Int.natCast_add],a7Y]
 rw [b3Q hn hx h]
 exact a3v hx (a3c hn)
theorem c1v {fs:FuncId->Option M3} {t rest env K s bytes id id2 n n2} {l r:List Nat} (hn:l.length=n) (hn2:r.length=n2) (h:s.get id=some (.cells (W3 l))) (h2:s.get id2=some (.cells (W3 r))) (hb:bytes<=128) (hl:n+n2<=2 ^ 30)
 (k:∀id' s',s'.get id'=some (.cells (W3 (l++r)))->(id'=id∨s.next<=id')->Fr [id] s s'->XQ fs [] rest ((t,.arr id' 0 (n+n2) 1)::env) s' K):BM (V2 1 bytes (.arr id 0 n 1) (.arr id2 0 n2 1) s) fs t rest env K:=by
 subst hn hn2
 obtain ⟨d',s',h3,id',h4,h5,h6,h7⟩:=a4L (s:=s) (sz:=1) (bytes:=bytes) (id:=id) (d:=.arr id2 0 r.length 1) (old:=P5 l) (rows:=P5 r) (by rw [a4p];exact h) (a19 _) (.inr (.inl ⟨id2,by simp,by rw [a4p];exact h2⟩)) (a19 _) hb (by simpa using hl)
 rw [a3z] at h3
 rw [h3]
 have e:P5 l++P5 r=P5 (l++r):=by simp [P5]
 rw [e] at h4 h5
 rw [a4p] at h5
 rw [h4,a3z,List.length_append]
 exact k id' s' h5 h7 h6
theorem b7x {l:List ByteArray} {w:ByteArray} (h:idxB l w<l.length):l[idxB l w]=w:=by
 have:=List.findIdx_getElem (p:=fun x=>decide (x=w)) (xs:=l) (w:=h)
 exact of_decide_eq_true this
theorem c0R {l:List ByteArray} {w:ByteArray} (hn:l.Nodup) {q:Nat} (hq:q<l.length) (h:l[q]=w):idxB l w=q:=a37 hq h fun j hj hjq e=>by
 have:=List.pairwise_iff_getElem.1 hn j q hj hq hjq
 exact this (e.trans h.symm)
def upN (l:List ByteArray) (v:Nat->Nat) (w:ByteArray) (q:Nat):Nat:=if idxB l w<q then 2 ^ v (idxB l w) else 0
theorem b4M {l:List ByteArray} {v:Nat->Nat} {w:ByteArray}:upN l v w 0=0:=by unfold upN;rw [if_neg (by omega)]
theorem b5T {l:List ByteArray} {v:Nat->Nat} {w:ByteArray} (hn:l.Nodup) {q:Nat} (hq:q<l.length) (h:l[q]=w):upN l v w q=0/\upN l v w (q+1)=2 ^ v q:=by
 have e:=c0R hn hq h
 unfold upN
 rw [e,if_neg (by omega),if_pos (by omega)]
 exact ⟨rfl,rfl⟩
theorem b2k {l:List ByteArray} {v:Nat->Nat} {w:ByteArray} {q:Nat} (hq:q<l.length) (h:l[q]≠w):upN l v w (q+1)=upN l v w q:=by
 unfold upN
 by_cases c:idxB l w<q
 ·rw [if_pos c,if_pos (by omega)]
 ·rw [if_neg c,if_neg]
  intro c2
  have e:idxB l w=q:=by omega
  have hx:idxB l w<l.length:=by omega
  have:=b7x hx
  simp only [e] at this
  exact h this
theorem c0Q {names:List ByteArray} {vars:List Nat} {w:ByteArray}:upN names (nAt vars) w names.length=varB names vars w:=rfl
theorem b78 {ch:List ByteArray} {w:ByteArray}:upN ch (fun i=>i) w ch.length=chB ch w:=rfl
def RF (t:List Nd) (ch:List ByteArray) (vb:ByteArray->Nat) (k i:Nat):Ft:=(List.range' k i).foldl (fun f j=>S7 ch vb (nd t j) f) ⟨0,0,0,0,0,false⟩
theorem b0t {t:List Nd} {ch:List ByteArray} {vb:ByteArray->Nat} {k i:Nat}:RF t ch vb k (i+1)=S7 ch vb (nd t (k+i)) (RF t ch vb k i):=by
 unfold RF
 rw [List.range'_concat,List.foldl_append,Nat.one_mul]
 rfl
end Go.V
namespace Go.Proofs.YtnjlhebkhjcagaaGreat
open Go.V
set_option maxRecDepth 100000
set_option maxHeartbeats 4000000
variable {m:MdX} {mo:Mo} {ps:List (Pr×PrD)} {x:StD} {st:Stt}
theorem b05 {x n:Nat} (hx:x<4294967296) (hn:n<32):Eqc vfs 69 [.int .u32 (x:Int),.int .i64 (n:Int)] (.int .u32 ((x ||| 2 ^ n:Nat):Int)):=by
 have h1:=b3T (x:=x) hn
 have h2:=b6d (n:=n) hx
 have h3:=a9K hn
 refine P4 ?_
 cases hb:x.testBit n
 ·rw [hb] at h2
  simp only [Bool.false_eq_true,if_false] at h2
  have h4:=c4d hn hx hb
  refine N4 (vf:=a6A) rfl ?_
  unfold a6A;refine zF ?_
  exact zZ (aN h1 (aN h2 (aN h3 h4)))
 ·rw [hb] at h2
  simp only [if_true] at h2
  rw [b8L hb]
  refine N4 (vf:=a6A) rfl ?_
  unfold a6A;refine zF ?_
  exact zZ (aN h1 (aN h2 h3))
theorem c3t {d:D} {t:List Nd} (hT:N7 d t) (hl:t.length<=100000):∀ (n g k b:Nat),R7 t g k=(b,true)->b<=t.length->b-k<=n->∀s:f6,EvP vfs 97 [d,.int .i64 (k:Int)] s fun r s'=>∃id,r=.arr id 0 (b-k) 1/\s'.get id=some (.cells (W3 (List.range' k (b-k))))/\s.next<=id/\Fr [] s s':=by
 intro n
 induction n with
 | zero=>intro g k b h hb hn s;have:=a6I h;omega
 | succ n ih =>
   intro g k b h hb hn s
   obtain ⟨g',_,hk⟩:=a1H h
   have hlt:=a6I h
   have hkl:k<t.length:=by omega
   have oT:=FL.one hT.fl
   have hidx:=hT.at (z:=(k:Int)) (by omega) (by omega) (k:=.i64)
   rw [Int.toNat_natCast] at hidx
   have hlk:=hk.length
   have hnk:nd t k=t[k]:=a9B hkl
   have hfk:FI (nd t k).dk (nd t k).kids:=by rw [hnk];exact (hT.get hkl).k
   refine Y4 (vf:=a8r) rfl ?_
   unfold a8r;refine zF ?_
   refine zY (aN oT hidx) ?_
   refine P6 [0,1,4] 0 (nd t k).kids.length (fun i f s'=>f 6=.int .i64 (i:Int)/\∃id e,f 5=.arr id 0 (e-k) 1/\s'.get id=some (.cells (W3 (List.range' k (e-k))))/\s.next<=id/\k<e/\KF t g' ((nd t k).kids.drop i) e b/\Fr [] s s') (.mk rfl) (by omega) ⟨rfl,s.next,k+1,by rw [Nat.add_sub_cancel_left];rfl,?_,Nat.le_refl _,by omega,by simpa using hk,Fr.push _⟩ ?_
   ·rw [Nat.add_sub_cancel_left,P0 rfl]
    rfl
   rintro i f s1 hi ⟨hE,id,e,hF,hg,hid,hke,hkf,fr⟩
   by_cases ci:i<(nd t k).kids.length
   rotate_left
   ·obtain rfl:i=(nd t k).kids.length:=by omega
    rw [List.drop_length] at hkf
    have:=hkf.nil
    subst this
    refine zY (aN oT (aN hidx (aN hE (aN hF (aN ci hfk))))) ?_
    exact a75 ⟨id,rfl,hg,hid,fr⟩
   rw [List.drop_eq_getElem_cons ci] at hkf
   obtain ⟨z0,z1,c,z2,z3,z4,z5⟩:=hkf.cons
   have hz:zAt (nd t k).kids i=(e:Int):=by rw [a2Q ci,z0]
   have hle:=z5.le
   refine zY (aN oT (aN hidx (aN hE (aN hF (aN ci (aN hfk hz)))))) ?_
   refine a1A (ih g' e c z2 z4 (by omega) s1) rfl ?_
   rintro r s2 ⟨id2,rfl,hg2,hid2,fr2⟩
   have lid:=M5 hg
   have hg1:s2.get id=some (.cells (W3 (List.range' k (e-k)))):=by rw [fr2.2 _ lid (by simp),hg]
   refine zY0 ?_
   refine c1v (l:=List.range' k (e-k)) (r:=List.range' e (c-e)) (by simp) (by simp) hg1 hg2 (by decide) (by omega) ?_
   intro id3 s3 hg3 hid3 fr3
   have hap:List.range' k (e-k)++List.range' e (c-e)=List.range' k (c-k):=by
    have:=List.range'_append (s:=k) (m:=e-k) (n:=c-e) (step:=1)
    rw [Nat.one_mul,show k+(e-k)=e by omega] at this
    rw [this]
    congr 1;omega
   rw [hap] at hg3
   refine zY (aN hE ci) ?_
   refine ⟨id3,c,?_,hg3,?_,by omega,z5,?_⟩
   ·rw [show e-k+(c-e)=c-k by omega]
   ·have:=fr2.1
    have:=fr.1
    rcases hid3 with rfl | h
    ·exact hid
    ·omega
   ·have f12:=fr.trans fr2 (by simp)
    exact ⟨by have:=fr3.1;have:=f12.1;omega,fun j hj _=>by
     have:=f12.1
     rw [fr3.2 j (by omega) (by simp;omega),f12.2 j hj (by simp)]⟩
end Go.Proofs.YtnjlhebkhjcagaaGreat
namespace Go.Proofs.YtnjlhebkhjcagaaGreat
open Go.V
set_option maxRecDepth 100000
set_option maxHeartbeats 4000000
variable {m:MdX} {mo:Mo} {ps:List (Pr×PrD)} {x:StD} {st:Stt}
theorem b5O (ho:O4 mo) {p:Nat} (hp:p<mo.procs.length) {k:Nat}:∀i,(RF mo.tree mo.ch (varB (pAt mo.procs p).names (pAt mo.procs p).vars) k i).Ok
 | 0=>a92
 | i+1=>by
   rw [b0t]
   refine b5V (b5O ho hp i) (by have:=ho.nc;simpa [Mo.ch] using this) fun w=>?_
   have hpo:=ho.pr _ (a0h hp)
   unfold varB
   split
   ·rename_i h
    rw [hpo.same] at h
    refine a3c ?_
    have:=hpo.var ((pAt mo.procs p).vars.getD (idxB (pAt mo.procs p).names w) 0) (by simp only [List.getD,List.getElem?_eq_getElem h,Option.getD_some];exact List.getElem_mem h)
    have:=ho.nv
    omega
   ·decide
theorem b6B (hm:MoF m mo ps) (ho:O4 mo) (hN:MoN mo) {p:Nat} (hp:p<mo.procs.length) {k g b:Nat} (hw:R7 mo.tree g k=(b,true)) (hb:b<=mo.tree.length) {s:f6}:EvP vfs 68 [.agg [m.dt,.int .i64 m.g,m.dc,m.dv,m.dp,m.ds,.bool m.b],.fp [.str (pAt mo.procs p).name,.int .i64 ((pAt mo.procs p).copy:Int),(prX ps p).dl,.int .i64 ((pAt mo.procs p).places:Int),(prX ps p).dr,(prX ps p).de,(prX ps p).dn,(prX ps p).dv] 0,.int .i64 (k:Int)] s fun r s'=>r=.agg (RF mo.tree mo.ch (varB (pAt mo.procs p).names (pAt mo.procs p).vars) k (b-k)).row/\Fr [] s s':=by
 have om:=hm.ones
 have fm:=a0L hm
 have hpo:=ho.pr _ (a0h hp)
 have hnn:=hN.nm p hp
 have hpn:=(a1K hm hp).n
 have hpv:=(a1K hm hp).v
 have hnl:(pAt mo.procs p).names.length<=8:=by have:=hpo.nl;have:=ho.nv;omega
 have hcn:=hN.ch
 have hnc:=ho.nc
 have hnv:=ho.nv
 have hlt:=a6I hw
 have hle:=ho.tree.le
 have htr:=hm.tr
 have hmc:=hm.c
 have hchl:mo.ch.length=mo.chans.length:=by simp [Mo.ch]
 refine Y4 (vf:=a8g) rfl ?_
 unfold a8g;refine zF ?_
 refine zY (aN om fm) ?_
 refine a1A (c3t hm.tr (by omega) (b-k) g k b hw hb (Nat.le_refl _) _) (by simp (disch:=(first|exact Rf.mk rfl|with_reducible assumption|omega|((repeat (first|rw [nP]|rw [nS]|rw [M7]))<;>omega)|decide)) only [go_sem,↓reduceIte]) ?_
 rintro r s1 ⟨id,rfl,hg,hid,fr⟩
 have l1:=fr.1
 have fr0:∀j,j<s.next->s1.get j=s.get j:=fun j hj=>by
  rw [fr.2 j (by simp only [f6.next_push,f6.next_set];omega) (by simp)]
  exact zZ0
 have g0:s1.get s.next=some (.cells [m.dt,.int .i64 m.g,m.dc,m.dv,m.dp,m.ds,.bool m.b]):=by rw [fr.2 _ (by simp only [f6.next_push,f6.next_set];omega) (by simp)];simp (disch:=(first|exact Rf.mk rfl|with_reducible assumption|omega|((repeat (first|rw [nP]|rw [nS]|rw [M7]))<;>omega)|decide)) only [go_sem,↓reduceIte]
 have g1:s1.get (s.next+1)=some (.cells [.int .u32 0,.int .u32 0,.int .u32 0,.int .u32 0,.int .u32 0,.bool false]):=by rw [fr.2 _ (by simp only [f6.next_push,f6.next_set];omega) (by simp)];simp (disch:=(first|exact Rf.mk rfl|with_reducible assumption|omega|((repeat (first|rw [nP]|rw [nS]|rw [M7]))<;>omega)|decide)) only [go_sem,↓reduceIte]
 have g2:s1.get (s.next+1+1)=some (.cells [.int .u32 0,.int .u32 0,.int .u32 0,.int .u32 0,.int .u32 0,.bool false]):=by rw [fr.2 _ (by simp only [f6.next_push,f6.next_set];omega) (by simp)];simp (disch:=(first|exact Rf.mk rfl|with_reducible assumption|omega|((repeat (first|rw [nP]|rw [nS]|rw [M7]))<;>omega)|decide)) only [go_sem,↓reduceIte]
 simp only [f6.next_push,f6.next_set] at l1 hid
 clear fr
 refine zY0 ?_
 refine P6 [0,1,2,3,6,7,8] 0 (b-k) (fun i f s'=>f 9=.int .i64 (i:Int)/\s'.get s.next=some (.cells [m.dt,.int .i64 m.g,m.dc,m.dv,m.dp,m.ds,.bool m.b])/\s'.get (s.next+1)=some (.cells [.int .u32 0,.int .u32 0,.int .u32 0,.int .u32 0,.int .u32 0,.bool false])/\s'.get (s.next+1+1)=some (.cells (RF mo.tree mo.ch (varB (pAt mo.procs p).names (pAt mo.procs p).vars) k i).row)/\s'.get id=some (.cells (W3 (List.range' k (b-k))))/\s.next+3<=s'.next/\(∀j,j<s.next->s'.get j=s.get j)) (.mk rfl) (by omega) ⟨rfl,g0,g1,g2,hg,by omega,fr0⟩ ?_
 clear g0 g1 g2 hg fr0
 rintro i f s2 hi ⟨hI,g0,g1,g2,hg,hn,fr0⟩
 have l0:=M5 g0
 have l2:=M5 g2
 have lid:=M5 hg
 by_cases ci:i<b-k
 rotate_left
 ·obtain rfl:i=b-k:=by omega
  unfold Ft.row at g2 ⊢
  refine zY (aN hI (aN ci (aN g0 (aN g1 g2)))) ?_
  refine a75 ⟨rfl,⟨by simp only [f6.next_set];omega,fun j hj _=>?_⟩⟩
  rw [O5 (by omega),fr0 j hj]
 have hfo:=b5O ho hp (k:=k) i
 have hRF:=b0t (t:=mo.tree) (ch:=mo.ch) (vb:=varB (pAt mo.procs p).names (pAt mo.procs p).vars) (k:=k) (i:=i)
 have hnr:(W3 (List.range' k (b-k)))[i]?=some (.int .i64 ((k+i:Nat):Int)):=by simp [W3,List.getElem?_range',ci]
 have hjl:k+i<mo.tree.length:=by omega
 generalize k+i=j at *
 generalize RF mo.tree mo.ch (varB (pAt mo.procs p).names (pAt mo.procs p).vars) k i=F at *
 have hno:=ho.tree.node j hjl
 have on:=a0H htr hjl
 have hw0:=a2q htr hjl (i:=0)
 have n0:=a2A htr hjl (i:=0)
 have z0:((0:Nat):Int)=0:=rfl
 rw [hno.wl,z0] at hw0
 rw [hno.nl,z0] at n0
 unfold Ft.row at g2
 have hbx:=a2i (s:=s2) (z:=.cells [.int .i64 0,.nils,.nils,.nils,.int .i64 0]) (o:=.cells [.int .i64 (nd mo.tree j).kind,(nd mo.tree j).dw,(nd mo.tree j).dn,(nd mo.tree j).dk,.int .i64 (nd mo.tree j).pos])
 have b0:((s2.push (.cells [.int .i64 0,.nils,.nils,.nils,.int .i64 0])).set s2.next (some (.cells [.int .i64 (nd mo.tree j).kind,(nd mo.tree j).dw,(nd mo.tree j).dn,(nd mo.tree j).dk,.int .i64 (nd mo.tree j).pos]))).get s.next=some (.cells [m.dt,.int .i64 m.g,m.dc,m.dv,m.dp,m.ds,.bool m.b]):=by rw [hbx.2 _ l0 (by simp),g0]
 have b1:((s2.push (.cells [.int .i64 0,.nils,.nils,.nils,.int .i64 0])).set s2.next (some (.cells [.int .i64 (nd mo.tree j).kind,(nd mo.tree j).dw,(nd mo.tree j).dn,(nd mo.tree j).dk,.int .i64 (nd mo.tree j).pos]))).get (s.next+1)=some (.cells [.int .u32 0,.int .u32 0,.int .u32 0,.int .u32 0,.int .u32 0,.bool false]):=by rw [hbx.2 _ (M5 g1) (by simp),g1]
 have b2:((s2.push (.cells [.int .i64 0,.nils,.nils,.nils,.int .i64 0])).set s2.next (some (.cells [.int .i64 (nd mo.tree j).kind,(nd mo.tree j).dw,(nd mo.tree j).dn,(nd mo.tree j).dk,.int .i64 (nd mo.tree j).pos]))).get (s.next+1+1)=some (.cells [.int .u32 (F.reads:Int),.int .u32 (F.writes:Int),.int .u32 (F.sends:Int),.int .u32 (F.recvs:Int),.int .u32 (F.sizes:Int),.bool F.part]):=by rw [hbx.2 _ l2 (by simp),g2]
 have bg:((s2.push (.cells [.int .i64 0,.nils,.nils,.nils,.int .i64 0])).set s2.next (some (.cells [.int .i64 (nd mo.tree j).kind,(nd mo.tree j).dw,(nd mo.tree j).dn,(nd mo.tree j).dk,.int .i64 (nd mo.tree j).pos]))).get id=some (.cells (W3 (List.range' k (b-k)))):=by rw [hbx.2 _ lid (by simp),hg]
 have bn:((s2.push (.cells [.int .i64 0,.nils,.nils,.nils,.int .i64 0])).set s2.next (some (.cells [.int .i64 (nd mo.tree j).kind,(nd mo.tree j).dw,(nd mo.tree j).dn,(nd mo.tree j).dk,.int .i64 (nd mo.tree j).pos]))).get s2.next=some (.cells [.int .i64 (nd mo.tree j).kind,(nd mo.tree j).dw,(nd mo.tree j).dn,(nd mo.tree j).dk,.int .i64 (nd mo.tree j).pos]):=S0 (by simp)
 have bl:s2.next<((s2.push (.cells [.int .i64 0,.nils,.nils,.nils,.int .i64 0])).set s2.next (some (.cells [.int .i64 (nd mo.tree j).kind,(nd mo.tree j).dw,(nd mo.tree j).dn,(nd mo.tree j).dk,.int .i64 (nd mo.tree j).pos]))).next:=by simp
 have bf:∀a,a<s.next->((s2.push (.cells [.int .i64 0,.nils,.nils,.nils,.int .i64 0])).set s2.next (some (.cells [.int .i64 (nd mo.tree j).kind,(nd mo.tree j).dw,(nd mo.tree j).dn,(nd mo.tree j).dk,.int .i64 (nd mo.tree j).pos]))).get a=s.get a:=fun a ha=>by rw [hbx.2 _ (by omega) (by simp),fr0 a ha]
 by_cases q18:(nd mo.tree j).kind=18
 ·rw [q18] at hw0
  have hw0:=hw0 (by decide)
  refine zY (aN hI (aN ci (aN g0 (aN g1 (aN g2 (aN hg (aN hnr (aN hjl (aN htr (aN on (aN om (aN q18 hw0)))))))))))) ?_
  rw [q18] at b0 b1 b2 bg bn bl bf
  generalize (s2.push (.cells [.int .i64 0,.nils,.nils,.nils,.int .i64 0])).set s2.next (some (.cells [.int .i64 18,(nd mo.tree j).dw,(nd mo.tree j).dn,(nd mo.tree j).dk,.int .i64 (nd mo.tree j).pos]))=s3 at *
  refine a0K [0,1,2,3,6,7,8,9,10,12,13,22,39,78,82,95,110,123,138] (fun f s'=>s'.get s.next=some (.cells [m.dt,.int .i64 m.g,m.dc,m.dv,m.dp,m.ds,.bool m.b])/\s'.get (s.next+1)=some (.cells [.int .u32 0,.int .u32 0,.int .u32 0,.int .u32 0,.int .u32 0,.bool false])/\s'.get (s.next+1+1)=some (.cells [.int .u32 ((F.reads ||| varB (pAt mo.procs p).names (pAt mo.procs p).vars ((nd mo.tree j).word 0):Nat):Int),.int .u32 (F.writes:Int),.int .u32 (F.sends:Int),.int .u32 (F.recvs:Int),.int .u32 (F.sizes:Int),.bool F.part])/\s'.get id=some (.cells (W3 (List.range' k (b-k))))/\s'.get s2.next=some (.cells [.int .i64 18,(nd mo.tree j).dw,(nd mo.tree j).dn,(nd mo.tree j).dk,.int .i64 (nd mo.tree j).pos])/\s2.next<s'.next/\(∀a,a<s.next->s'.get a=s.get a)) ?_ ?_
  ·refine P6 [0,1,2,3,6,7,8,9,10,12,13,22,39,78,82,95,110,123,138] 0 (pAt mo.procs p).names.length (fun q f s'=>f 11=.int .i64 (q:Int)/\s'.get s.next=some (.cells [m.dt,.int .i64 m.g,m.dc,m.dv,m.dp,m.ds,.bool m.b])/\s'.get (s.next+1)=some (.cells [.int .u32 0,.int .u32 0,.int .u32 0,.int .u32 0,.int .u32 0,.bool false])/\s'.get (s.next+1+1)=some (.cells [.int .u32 ((F.reads ||| upN (pAt mo.procs p).names (nAt (pAt mo.procs p).vars) ((nd mo.tree j).word 0) q:Nat):Int),.int .u32 (F.writes:Int),.int .u32 (F.sends:Int),.int .u32 (F.recvs:Int),.int .u32 (F.sizes:Int),.bool F.part])/\s'.get id=some (.cells (W3 (List.range' k (b-k))))/\s'.get s2.next=some (.cells [.int .i64 18,(nd mo.tree j).dw,(nd mo.tree j).dn,(nd mo.tree j).dk,.int .i64 (nd mo.tree j).pos])/\s2.next<s'.next/\(∀a,a<s.next->s'.get a=s.get a)) (.mk rfl) (by omega) ⟨rfl,b0,b1,by rw [b4M,Nat.or_zero];exact b2,bg,bn,bl,bf⟩ ?_
   clear b0 b1 b2 bg bn bl bf g0 g1 g2 hg
   rintro q f s4 hq ⟨hQ,b0,b1,b2,bg,bn,bl,bf⟩
   have m2:=M5 b2
   by_cases cq:q<(pAt mo.procs p).names.length
   rotate_left
   ·obtain rfl:q=(pAt mo.procs p).names.length:=by omega
    rw [c0Q] at b2
    refine zY (aN hQ (aN cq hp)) ?_
    exact ⟨b0,b1,b2,bg,bn,bl,bf⟩
   have cq':q<(pAt mo.procs p).vars.length:=by rw [<- hpo.same];exact cq
   have hv8:nAt (pAt mo.procs p).vars q<32:=by
    have:=hpo.var (nAt (pAt mo.procs p).vars q) (by rw [a3j cq'];exact List.getElem_mem cq')
    omega
   by_cases cw:sAt (pAt mo.procs p).names q=(nd mo.tree j).word 0
   ·have hup:=b5T (v:=nAt (pAt mo.procs p).vars) (w:=(nd mo.tree j).word 0) hnn cq (by rw [<- b0o cq];exact cw)
    rw [hup.1,Nat.or_zero] at b2
    have hbit:=b05 (x:=F.reads) (n:=nAt (pAt mo.procs p).vars q) hfo.r hv8
    refine zY (aN hQ (aN cq (aN cq' (aN hp (aN hpn (aN hpv (aN b2 (aN bn (aN hw0 (aN cw (aN on hbit))))))))))) ?_
    repeat' apply And.intro
    all_goals first | assumption | (rw [hup.2]) | omega | (intro a ha;rw [O5 (by omega)];exact bf a ha)
   ·have hup:=b2k (v:=nAt (pAt mo.procs p).vars) (w:=(nd mo.tree j).word 0) cq (by rw [<- b0o cq];exact cw)
    rw [<- hup] at b2
    refine zY (aN hQ (aN cq (aN cq' (aN hp (aN hpn (aN hpv (aN b2 (aN bn (aN hw0 (aN cw on)))))))))) ?_
    repeat' apply And.intro
    all_goals first | assumption | omega
  rintro f s4 ⟨b0,b1,b2,bg,bn,bl,bf⟩
  refine zY bn ?_
  refine P6 [0,1,2,3,6,7,8,9,10,11,12,22,39,46,60,78,82,95,138] 0 mo.chans.length (fun c f s'=>f 13=.int .i64 (c:Int)/\s'=s4) (.mk rfl) (by omega) ⟨rfl,rfl⟩ ?_
  rintro c f s' hc ⟨hC,rfl⟩
  by_cases cc:c<mo.chans.length
  ·refine zY (aN hC (aN cc (aN b0 (aN bn (aN om hmc))))) ?_
   repeat' apply And.intro
   all_goals first | assumption | omega | (rw [hRF];unfold S7;rw [if_pos q18];exact b2)
  ·refine zY (aN hC (aN cc (aN b0 (aN bn (aN om hmc))))) ?_
   repeat' apply And.intro
   all_goals first | assumption | omega | (rw [hRF];unfold S7;rw [if_pos q18];exact b2)
 by_cases q19:(nd mo.tree j).kind=19
 ·rw [q19] at hw0
  have hw0:=hw0 (by decide)
  refine zY (aN hI (aN ci (aN g0 (aN g1 (aN g2 (aN hg (aN hnr (aN hjl (aN htr (aN on (aN om (aN q19 hw0)))))))))))) ?_
  rw [q19] at b0 b1 b2 bg bn bl bf
  generalize (s2.push (.cells [.int .i64 0,.nils,.nils,.nils,.int .i64 0])).set s2.next (some (.cells [.int .i64 19,(nd mo.tree j).dw,(nd mo.tree j).dn,(nd mo.tree j).dk,.int .i64 (nd mo.tree j).pos]))=s3 at *
  refine P6 [0,1,2,3,6,7,8,9,10,11,12,22,39,46,60,78,82,95,138] 0 mo.chans.length (fun c f s'=>f 13=.int .i64 (c:Int)/\s'.get s.next=some (.cells [m.dt,.int .i64 m.g,m.dc,m.dv,m.dp,m.ds,.bool m.b])/\s'.get (s.next+1)=some (.cells [.int .u32 0,.int .u32 0,.int .u32 0,.int .u32 0,.int .u32 0,.bool false])/\s'.get (s.next+1+1)=some (.cells [.int .u32 (F.reads:Int),.int .u32 (F.writes:Int),.int .u32 (F.sends:Int),.int .u32 (F.recvs:Int),.int .u32 ((F.sizes ||| upN mo.ch (fun i=>i) ((nd mo.tree j).word 0) c:Nat):Int),.bool F.part])/\s'.get id=some (.cells (W3 (List.range' k (b-k))))/\s'.get s2.next=some (.cells [.int .i64 19,(nd mo.tree j).dw,(nd mo.tree j).dn,(nd mo.tree j).dk,.int .i64 (nd mo.tree j).pos])/\s2.next<s'.next/\(∀a,a<s.next->s'.get a=s.get a)) (.mk rfl) (by omega) ⟨rfl,b0,b1,by rw [b4M,Nat.or_zero];exact b2,bg,bn,bl,bf⟩ ?_
  clear b0 b1 b2 bg bn bl bf g0 g1 g2 hg
  rintro c f s4 hc ⟨hC,b0,b1,b2,bg,bn,bl,bf⟩
  have m2:=M5 b2
  by_cases cc:c<mo.chans.length
  rotate_left
  ·obtain rfl:c=mo.chans.length:=by omega
   rw [<- hchl,b78] at b2
   refine zY (aN hC (aN cc (aN b0 (aN bn (aN om hmc))))) ?_
   repeat' apply And.intro
   all_goals first | assumption | omega | (rw [hRF];unfold S7;rw [if_neg q18,if_pos q19];exact b2)
  have cc':c<mo.ch.length:=by omega
  have hnm:mo.ch[c]=(S6 mo.chans c).name:=by simp [Mo.ch,a2g cc]
  by_cases cw:(S6 mo.chans c).name=(nd mo.tree j).word 0
  ·have hup:=b5T (v:=fun i=>i) (w:=(nd mo.tree j).word 0) hcn cc' (by rw [hnm];exact cw)
   rw [hup.1,Nat.or_zero] at b2
   have hbit:=b05 (x:=F.sizes) (n:=c) hfo.z (by omega)
   refine zY (aN hC (aN cc (aN b0 (aN b2 (aN bn (aN hw0 (aN cw (aN on (aN om (aN hmc hbit)))))))))) ?_
   repeat' apply And.intro
   all_goals first | assumption | (rw [hup.2]) | omega | (intro a ha;rw [O5 (by omega)];exact bf a ha)
  ·have hup:=b2k (v:=fun i=>i) (w:=(nd mo.tree j).word 0) cc' (by rw [hnm];exact cw)
   rw [<- hup] at b2
   refine zY (aN hC (aN cc (aN b0 (aN b2 (aN bn (aN hw0 (aN cw (aN on (aN om hmc))))))))) ?_
   repeat' apply And.intro
   all_goals first | assumption | omega
 by_cases q22:(nd mo.tree j).kind=22
 ·rw [q22] at n0
  have n0:=n0 (by decide)
  have hb7:=(hno.bin q22).2.2.2
  refine zY (aN hI (aN ci (aN g0 (aN g1 (aN g2 (aN hg (aN hnr (aN hjl (aN htr (aN on (aN om q22))))))))))) ?_
  rw [q22] at b0 b1 b2 bg bn bl bf
  generalize (s2.push (.cells [.int .i64 0,.nils,.nils,.nils,.int .i64 0])).set s2.next (some (.cells [.int .i64 22,(nd mo.tree j).dw,(nd mo.tree j).dn,(nd mo.tree j).dk,.int .i64 (nd mo.tree j).pos]))=s3 at *
  have l3:=M5 b2
  by_cases c7:7<=(nd mo.tree j).num 0
  ·refine P6 [0,1,2,3,6,7,8,9,10,11,12,22,39,46,60,78,82,95,138] 0 mo.chans.length (fun c f s'=>f 13=.int .i64 (c:Int)/\s'=s3) (.mk rfl) (by omega) ⟨rfl,rfl⟩ ?_
   rintro c f s' hc ⟨hC,rfl⟩
   by_cases cc:c<mo.chans.length
   ·refine zY (aN hC (aN cc (aN b0 (aN b2 (aN bn (aN om (aN hmc (aN n0 (aN c7 on))))))))) ?_
    repeat' apply And.intro
    all_goals first | assumption | omega | (rw [hRF];unfold S7;rw [if_neg q18,if_neg q19,if_pos ⟨q22,by omega⟩];first | rfl | exact b2) | (intro a ha;rw [O5 (by omega)];exact bf a ha)
   ·refine zY (aN hC (aN cc (aN b0 (aN b2 (aN bn (aN om (aN hmc (aN n0 (aN c7 on))))))))) ?_
    repeat' apply And.intro
    all_goals first | assumption | omega | (rw [hRF];unfold S7;rw [if_neg q18,if_neg q19,if_pos ⟨q22,by omega⟩];first | rfl | exact b2) | (intro a ha;rw [O5 (by omega)];exact bf a ha)
  ·refine P6 [0,1,2,3,6,7,8,9,10,11,12,22,39,46,60,78,82,95,138] 0 mo.chans.length (fun c f s'=>f 13=.int .i64 (c:Int)/\s'=s3) (.mk rfl) (by omega) ⟨rfl,rfl⟩ ?_
   rintro c f s' hc ⟨hC,rfl⟩
   by_cases cc:c<mo.chans.length
   ·refine zY (aN hC (aN cc (aN b0 (aN b2 (aN bn (aN om (aN hmc (aN n0 (aN c7 on))))))))) ?_
    repeat' apply And.intro
    all_goals first | assumption | omega | (rw [hRF];unfold S7;rw [if_neg q18,if_neg q19,if_neg (by omega)];first | rfl | exact b2) | (intro a ha;rw [O5 (by omega)];exact bf a ha)
   ·refine zY (aN hC (aN cc (aN b0 (aN b2 (aN bn (aN om (aN hmc (aN n0 (aN c7 on))))))))) ?_
    repeat' apply And.intro
    all_goals first | assumption | omega | (rw [hRF];unfold S7;rw [if_neg q18,if_neg q19,if_neg (by omega)];first | rfl | exact b2) | (intro a ha;rw [O5 (by omega)];exact bf a ha)
 have k18:¬ (nd mo.tree j).kind=18:=q18
 refine zY (aN hI (aN ci (aN g0 (aN g1 (aN g2 (aN hg (aN hnr (aN hjl (aN htr (aN on (aN om q18))))))))))) ?_
 generalize (s2.push (.cells [.int .i64 0,.nils,.nils,.nils,.int .i64 0])).set s2.next (some (.cells [.int .i64 (nd mo.tree j).kind,(nd mo.tree j).dw,(nd mo.tree j).dn,(nd mo.tree j).dk,.int .i64 (nd mo.tree j).pos]))=s3 at *
 have l3:=M5 b2
 refine P6 [0,1,2,3,6,7,8,9,10,11,12,22,39,46,60,78,82,95,138] 0 mo.chans.length (fun c f s'=>f 13=.int .i64 (c:Int)/\s'=s3) (.mk rfl) (by omega) ⟨rfl,rfl⟩ ?_
 rintro c f s' hc ⟨hC,rfl⟩
 by_cases cc:c<mo.chans.length
 ·refine zY (aN hC (aN cc (aN b0 (aN b2 (aN bn (aN om (aN hmc (aN q19 q22)))))))) ?_
  repeat' apply And.intro
  all_goals first | assumption | omega | (rw [hRF];unfold S7;rw [if_neg q18,if_neg q19,if_neg (fun h=>q22 h.1)];first | rfl | exact b2) | (intro a ha;rw [O5 (by omega)];exact bf a ha)
 ·refine zY (aN hC (aN cc (aN b0 (aN b2 (aN bn (aN om (aN hmc (aN q19 q22)))))))) ?_
  repeat' apply And.intro
  all_goals first | assumption | omega | (rw [hRF];unfold S7;rw [if_neg q18,if_neg q19,if_neg (fun h=>q22 h.1)];first | rfl | exact b2) | (intro a ha;rw [O5 (by omega)];exact bf a ha)
end Go.Proofs.YtnjlhebkhjcagaaGreat
namespace Go.Proofs.YtnjlhebkhjcagaaGreat
open Go.V
set_option maxRecDepth 100000
set_option maxHeartbeats 4000000
variable {m:MdX} {mo:Mo} {ps:List (Pr×PrD)} {x:StD} {st:Stt}
structure MoW (mo:Mo):Prop where
 w:∀k,k<mo.tree.length->∃g b,R7 mo.tree g k=(b,true)/\b<=mo.tree.length
theorem b3N {t:List Nd} (h:N6 t):MoW (S1 t):=⟨fun _ hk=>b7S h hk⟩
theorem c2z (hm:MoF m mo ps) (ho:O4 mo) (hN:MoN mo) (hW:MoW mo) {p:Nat} (hp:p<mo.procs.length) {e:Ed} (he:e∈(pAt mo.procs p).edges):Eqc vfs 44 [.agg [m.dt,.int .i64 m.g,m.dc,m.dv,m.dp,m.ds,.bool m.b],.int .i64 (p:Int),.agg [.int .i64 (e.frm:Int),.int .i64 (e.to:Int),.int .i64 (e.act:Int),.int .i64 e.expr,.int .i64 e.var,.int .i64 e.chan,.bool e.keep,.int .i64 (e.node:Int)]] (.agg (O0 mo (pAt mo.procs p) e).row):=by
 have om:=hm.ones
 have fm:=a0L hm
 have hpo:=ho.pr _ (a0h hp)
 have heo:=hpo.inv.ed e he
 have hnv:=ho.nv
 have hnc:=ho.nc
 refine P4 ?_
 rw [a5s]
 have hex:(e.expr=-1/\a1D mo (pAt mo.procs p) e=⟨0,0,0,0,0,false⟩)∨∃k g b:Nat,e.expr=(k:Int)/\R7 mo.tree g k=(b,true)/\b<=mo.tree.length/\a1D mo (pAt mo.procs p) e=RF mo.tree mo.ch (varB (pAt mo.procs p).names (pAt mo.procs p).vars) k (b-k):=by
  by_cases c:e.act=0∨e.act=3
  ·left
   have:=heo.ex0 c
   refine ⟨this,?_⟩
   unfold a1D
   rw [if_neg (by omega)]
  ·right
   obtain ⟨k,h1,h2,_⟩:=heo.ex1 (by have:=heo.act;omega)
   obtain ⟨g,b,h3,h4⟩:=hW.w k h2
   refine ⟨k,g,b,h1,h3,h4,?_⟩
   unfold a1D
   rw [if_pos (by omega),h1,Int.toNat_natCast]
   exact (b1w h3 (by omega) _).symm
 have hbit:∀n:Nat,n<32->Eqc vfs 69 [.int .u32 0,.int .i64 (n:Int)] (.int .u32 ((2 ^ n:Nat):Int)):=fun n hn=>by
  have:=b05 (x:=0) (n:=n) (by decide) hn
  rwa [Nat.zero_or] at this
 rcases hex with ⟨x0,hF⟩ | ⟨k,g,b,hk,hw,hb,hF⟩
 ·rw [hF]
  have ha:e.act=0∨e.act=3:=by
   by_cases c:e.act=0∨e.act=3
   ·exact c
   ·obtain ⟨n,h1,_⟩:=heo.ex1 (by have:=heo.act;omega)
    omega
  rcases ha with ha | ha
  ·have e1:a1b e ⟨0,0,0,0,0,false⟩=⟨0,0,0,0,0,false⟩:=by unfold a1b;rw [if_neg (by omega),if_neg (by omega),if_neg (by omega)]
   rw [e1]
   refine N4 (vf:=a4s) rfl ?_
   unfold a4s;refine zF ?_
   refine zY (aN om (aN fm (aN x0 ha))) ?_
   first | rfl | trivial
  ·obtain ⟨v,hv,hv1⟩:=heo.v1 (.inr ha)
   obtain ⟨c,hc1,hc⟩:=heo.c1 (.inr ha)
   have hv2:=hpo.var v hv
   have e1:a1b e ⟨0,0,0,0,0,false⟩=⟨0,2 ^ v,0,2 ^ c,0,false⟩:=by unfold a1b;rw [if_neg (by omega),if_neg (by omega),if_pos ha,hv1,hc1,a2I,a2I]
   rw [e1]
   have b1:=hbit v (by omega)
   have b2:=hbit c (by omega)
   refine N4 (vf:=a4s) rfl ?_
   unfold a4s;refine zF ?_
   refine zY (aN om (aN fm (aN x0 (aN ha (aN hv1 (aN hc1 (aN b1 b2))))))) ?_
   first | rfl | trivial
 ·have ha:e.act=1∨e.act=2∨e.act=4∨e.act=5:=by
   by_cases c:e.act=0∨e.act=3
   ·have:=heo.ex0 c
    omega
   ·have:=heo.act;omega
  have hk0:(0:Int)<=(k:Int):=by omega
  rw [hF]
  refine N4 (vf:=a4s) rfl ?_
  unfold a4s;refine zF ?_
  refine zY (aN om (aN fm (aN hk (aN hp hk0)))) ?_
  refine a1A (b6B hm ho hN hp hw hb) rfl ?_
  rintro r s1 ⟨rfl,fr⟩
  have l1:=fr.1
  simp only [f6.next_push,f6.next_set,M7,Nat.reduceAdd] at l1
  have g1:s1.get 1=some (.cells [.int .i64 (e.frm:Int),.int .i64 (e.to:Int),.int .i64 (e.act:Int),.int .i64 e.expr,.int .i64 e.var,.int .i64 e.chan,.bool e.keep,.int .i64 (e.node:Int)]):=by rw [fr.2 _ (by simp [M7]) (by simp)];simp (disch:=(first|exact Rf.mk rfl|with_reducible assumption|omega|((repeat (first|rw [nP]|rw [nS]|rw [M7]))<;>omega)|decide)) only [go_sem,↓reduceIte,hk]
  have g2:s1.get 2=some (.cells [.int .u32 0,.int .u32 0,.int .u32 0,.int .u32 0,.int .u32 0,.bool false]):=by rw [fr.2 _ (by simp [M7]) (by simp)];simp (disch:=(first|exact Rf.mk rfl|with_reducible assumption|omega|((repeat (first|rw [nP]|rw [nS]|rw [M7]))<;>omega)|decide)) only [go_sem,↓reduceIte]
  have g3:s1.get 3=some (.cells [.int .u32 0,.int .u32 0,.int .u32 0,.int .u32 0,.int .u32 0,.bool false]):=by rw [fr.2 _ (by simp [M7]) (by simp)];simp (disch:=(first|exact Rf.mk rfl|with_reducible assumption|omega|((repeat (first|rw [nP]|rw [nS]|rw [M7]))<;>omega)|decide)) only [go_sem,↓reduceIte]
  generalize RF mo.tree mo.ch (varB (pAt mo.procs p).names (pAt mo.procs p).vars) k (b-k)=F at *
  unfold Ft.row
  rcases ha with ha | ha | ha | ha
  ·obtain ⟨v,hv,hv1⟩:=heo.v1 (.inl ha)
   have hv2:=hpo.var v hv
   have b1:=hbit v (by omega)
   have e1:a1b e F={ F with writes:=2 ^ v }:=by unfold a1b;rw [if_pos ha,hv1,a2I]
   rw [e1]
   refine zY (aN g1 (aN g2 (aN g3 (aN ha (aN hv1 b1))))) ?_
   first | rfl | trivial
  ·obtain ⟨c,hc1,hc⟩:=heo.c1 (.inl ha)
   have b1:=hbit c (by omega)
   have e1:a1b e F={ F with sends:=2 ^ c }:=by unfold a1b;rw [if_neg (by omega),if_pos ha,hc1,a2I]
   rw [e1]
   refine zY (aN g1 (aN g2 (aN g3 (aN ha (aN hc1 b1))))) ?_
   first | rfl | trivial
  ·have e1:a1b e F=F:=by unfold a1b;rw [if_neg (by omega),if_neg (by omega),if_neg (by omega)]
   rw [e1]
   refine zY (aN g1 (aN g2 (aN g3 ha))) ?_
   first | rfl | trivial
  ·have e1:a1b e F=F:=by unfold a1b;rw [if_neg (by omega),if_neg (by omega),if_neg (by omega)]
   rw [e1]
   refine zY (aN g1 (aN g2 (aN g3 ha))) ?_
   first | rfl | trivial
end Go.Proofs.YtnjlhebkhjcagaaGreat
namespace Go.Proofs.YtnjlhebkhjcagaaGreat
open Go.V
set_option maxRecDepth 100000
set_option maxHeartbeats 4000000
variable {m:MdX} {mo:Mo} {ps:List (Pr×PrD)} {x:StD} {st:Stt}
def a1N (p:Pr) (s:Nat):Bool:=(List.range 32).all fun b=>!s.testBit b||decide (b∈p.locals)
theorem b6n {p:Pr} {f:Ft}:a46 p f=(a1N p f.reads&&a1N p f.writes):=by
 unfold a46 a1N
 rw [Bool.eq_iff_iff,Bool.and_eq_true,List.all_eq_true,List.all_eq_true,List.all_eq_true]
 constructor
 ·intro h
  refine ⟨fun b hb=>?_,fun b hb=>?_⟩
  ·have:=h b hb
   rw [Nat.testBit_or] at this
   cases c:f.reads.testBit b
   ·rfl
   ·rw [c] at this
    simpa using this
  ·have:=h b hb
   rw [Nat.testBit_or] at this
   cases c:f.writes.testBit b
   ·rfl
   ·rw [c] at this
    simpa using this
 ·rintro ⟨h1,h2⟩ b hb
  have a1:=h1 b hb
  have a2:=h2 b hb
  rw [Nat.testBit_or]
  cases c:f.reads.testBit b
  ·cases c2:f.writes.testBit b
   ·rfl
   ·rw [c2] at a2
    simpa using a2
  ·rw [c] at a1
   simpa using a1
theorem b56 (hm:MoF m mo ps) (ho:O4 mo) (hq:MoQ mo) {p:Nat} (hp:p<mo.procs.length) {n:Nat} (hn:n<4294967296):Eqc vfs 45 [.agg [.str (pAt mo.procs p).name,.int .i64 ((pAt mo.procs p).copy:Int),(prX ps p).dl,.int .i64 ((pAt mo.procs p).places:Int),(prX ps p).dr,(prX ps p).de,(prX ps p).dn,(prX ps p).dv],.int .u32 (n:Int)] (.bool (a1N (pAt mo.procs p) n)):=by
 have hpl:=(a1K hm hp).l
 have hll:=hq.ll p hp
 have hnv:=ho.nv
 refine P4 ?_
 refine N4 (vf:=a90) rfl ?_
 unfold a90;refine zF ?_
 refine zY0 ?_
 have hp0:Hp (f6.empty.push (.cells [.str (pAt mo.procs p).name,.int .i64 ((pAt mo.procs p).copy:Int),(prX ps p).dl,.int .i64 ((pAt mo.procs p).places:Int),(prX ps p).dr,(prX ps p).de,(prX ps p).dn,(prX ps p).dv])) [] [(0,[.str (pAt mo.procs p).name,.int .i64 ((pAt mo.procs p).copy:Int),(prX ps p).dl,.int .i64 ((pAt mo.procs p).places:Int),(prX ps p).dr,(prX ps p).de,(prX ps p).dn,(prX ps p).dv])]:=⟨List.nodup_nil,by simp,by simp [Has],by simp [Has];simp (disch:=(first|exact Rf.mk rfl|with_reducible assumption|omega|((repeat (first|rw [nP]|rw [nS]|rw [M7]))<;>omega)|decide)) only [go_sem,↓reduceIte]⟩
 generalize f6.empty.push (.cells [.str (pAt mo.procs p).name,.int .i64 ((pAt mo.procs p).copy:Int),(prX ps p).dl,.int .i64 ((pAt mo.procs p).places:Int),(prX ps p).dr,(prX ps p).de,(prX ps p).dn,(prX ps p).dv])=s0 at *
 have g0:=hp0.rh
 refine P6 [0,1,2] 0 32 (fun v f s=>f 5=.int .i64 (v:Int)/\s=s0/\∀b,b<v->n.testBit b=true->b∈(pAt mo.procs p).locals) (.mk rfl) (by omega) ⟨rfl,rfl,fun b h=>by omega⟩ ?_
 rintro v f s hv ⟨hV,rfl,hall⟩
 by_cases cv:v<32
 rotate_left
 ·have e:a1N (pAt mo.procs p) n=true:=by
   unfold a1N
   rw [List.all_eq_true]
   intro b hb
   have hb:=List.mem_range.1 hb
   cases c:n.testBit b
   ·rfl
   ·simp [hall b (by omega) c]
  rw [e]
  have cvi:¬ (v:Int)<32:=by omega
  exact zZ (aN hV cvi)
 have cvi:(v:Int)<32:=by omega
 have h1:=b3T (x:=n) cv
 have h2:=b6d (n:=v) hn
 cases hb:n.testBit v
 ·rw [hb] at h2
  simp only [Bool.false_eq_true,if_false] at h2
  refine zY (aN hV (aN cvi (aN h1 h2))) ?_
  refine ⟨cv,fun b hb' hbt=>?_⟩
  by_cases e:b=v
  ·subst e;rw [hb] at hbt;cases hbt
  ·exact hall b (by omega) hbt
 rw [hb] at h2
 simp only [if_true] at h2
 refine zY (aN hV (aN cvi (aN h1 h2))) ?_
 refine a0K [0,1,2,4,5,9,16,35] (fun f s'=>f 6=.bool (decide (v∈(pAt mo.procs p).locals))/\s'=s) ?_ ?_
 ·refine P6 [0,1,2,4,5,9,16,35] 0 (pAt mo.procs p).locals.length (fun i f s'=>f 7=.int .i64 (i:Int)/\f 6=.bool (decide (v∈(pAt mo.procs p).locals.take i))/\s'=s) (.mk rfl) (by omega) ⟨rfl,by rw [List.take_zero,decide_eq_false List.not_mem_nil];rfl,rfl⟩ ?_
  rintro i f s' hi ⟨hI,hK,rfl⟩
  by_cases ci:i<(pAt mo.procs p).locals.length
  rotate_left
  ·obtain rfl:i=(pAt mo.procs p).locals.length:=by omega
   rw [List.take_length] at hK
   exact zZ (aN hI (aN hK (aN ci (aN g0 hpl))))
  have hsu:(pAt mo.procs p).locals.take (i+1)=(pAt mo.procs p).locals.take i++[nAt (pAt mo.procs p).locals i]:=by rw [List.take_succ_eq_append_getElem ci,a3j ci]
  by_cases ck:v∈(pAt mo.procs p).locals.take i
  ·rw [decide_eq_true ck] at hK
   refine zY (aN hI (aN hK (aN ci (aN g0 hpl)))) ?_
   rw [hsu]
   simp [ck]
  ·rw [decide_eq_false ck] at hK
   by_cases ce:nAt (pAt mo.procs p).locals i=v
   ·refine zY (aN hV (aN hI (aN hK (aN ci (aN g0 (aN hpl ce)))))) ?_
    rw [hsu]
    simp [ce]
   ·refine zY (aN hV (aN hI (aN hK (aN ci (aN g0 (aN hpl ce)))))) ?_
    rw [hsu]
    simp [ck]
    exact fun h=>ce h.symm
 rintro f s' ⟨hK,rfl⟩
 by_cases cm:v∈(pAt mo.procs p).locals
 ·rw [decide_eq_true cm] at hK
  refine zY (aN hV hK) ?_
  refine ⟨cv,fun b hb' hbt=>?_⟩
  by_cases e:b=v
  ·subst e;exact cm
  ·exact hall b (by omega) hbt
 ·rw [decide_eq_false cm] at hK
  have e:a1N (pAt mo.procs p) n=false:=by
   cases h:a1N (pAt mo.procs p) n
   ·rfl
   ·unfold a1N at h
    have:=List.all_eq_true.1 h v (List.mem_range.2 cv)
    rw [hb] at this
    simp [cm] at this
  rw [e]
  exact zZ (aN hV hK)
end Go.Proofs.YtnjlhebkhjcagaaGreat
namespace Go.V
variable {mo:Mo}
def a1r (L:List Ed):Nat:=(L.filter fun e=>decide (e.act<=1)).length
def a0P (L:List Ed):Int:=if 0<L.length/\(eAt L 0).act=4 then (eAt L 0).expr else -1
def a09 (L:List Ed):Int:=if 1<L.length/\(eAt L 1).act=5 then (eAt L 1).expr else -1
theorem b2H {l r:List Ed} {i:Nat} (h:i<l.length):eAt (l++r) i=eAt l i:=by
 rw [a1T h,a1T (by simp;omega),List.getElem_append_left h]
theorem b3S {l:List Ed} {e:Ed} {i:Nat} (h:i=l.length):eAt (l++[e]) i=e:=by
 subst h
 rw [a1T (by simp)];simp
theorem c2i {L:List Ed} {e:Ed}:a1r (L++[e])=a1r L+if e.act<=1 then 1 else 0:=by
 unfold a1r
 rw [List.filter_append,List.length_append]
 by_cases c:e.act<=1<;>simp [c]
theorem c6f {L:List Ed} {e:Ed}:a0P (L++[e])=if L.length=0 then (if e.act=4 then e.expr else -1) else a0P L:=by
 unfold a0P
 by_cases c:L.length=0
 ·rw [if_pos c,b3S c.symm]
  simp
 ·rw [if_neg c,b2H (by omega)]
  simp only [List.length_append,List.length_singleton]
  by_cases a:(eAt L 0).act=4
  ·rw [if_pos ⟨by omega,a⟩,if_pos ⟨by omega,a⟩]
  ·rw [if_neg fun h=>a h.2,if_neg fun h=>a h.2]
theorem c5I {L:List Ed} {e:Ed}:a09 (L++[e])=if L.length=1 then (if e.act=5 then e.expr else -1) else a09 L:=by
 unfold a09
 by_cases c:L.length=1
 ·rw [if_pos c,b3S c.symm]
  simp [c]
 ·rw [if_neg c]
  by_cases c2:L.length=0
  ·rw [if_neg (by simp [c2]),if_neg (by omega)]
  ·rw [b2H (by omega)]
   simp only [List.length_append,List.length_singleton]
   by_cases a:(eAt L 1).act=5
   ·rw [if_pos ⟨by omega,a⟩,if_pos ⟨by omega,a⟩]
   ·rw [if_neg fun h=>a h.2,if_neg fun h=>a h.2]
theorem b89 {L:List Ed}:a1r L<=L.length:=List.length_filter_le _ _
theorem c6p {L:List Ed}:a2b L=(decide (0<L.length)&&decide (a1r L=L.length)):=by
 unfold a2b a1r
 rw [Bool.and_comm]
 congr 1
 rw [Bool.eq_iff_iff,decide_eq_true_eq,List.length_filter_eq_length_iff,List.all_eq_true]
theorem b72 {p:Pr} (hp:a2H mo p) {L:List Ed} (hL:∀e∈L,e∈p.edges):forkE L=(decide (L.length=2)&&decide (0<=a0P L)&&decide (a0P L=a09 L)):=by
 unfold forkE a0P a09
 by_cases c:L.length=2
 ·have h0:=hL _ (a12 (l:=L) (i:=0) (by omega))
  have h1:=hL _ (a12 (l:=L) (i:=1) (by omega))
  by_cases a0:(eAt L 0).act=4
  ·obtain ⟨n,hn,_⟩:=(hp.inv.ed _ h0).ex1 (by omega)
   by_cases a1:(eAt L 1).act=5
   ·simp [c,a0,a1,hn]
   ·simp only [c,a0,a1,hn]
    simp
    try omega
  ·simp [c,a0]
 ·simp [c]
theorem b8n {ch:List ByteArray} (h:ch.length<=3) (w:ByteArray):chB ch w<8:=by
 unfold chB
 split
 ·have:idxB ch w=0∨idxB ch w=1∨idxB ch w=2:=by omega
  rcases this with e | e | e<;>rw [e]<;>decide
 ·decide
theorem b4B {t:List Nd} {ch:List ByteArray} {vb:ByteArray->Nat} (h:ch.length<=3) {k:Nat}:∀i,(RF t ch vb k i).sizes<8/\(RF t ch vb k i).sends=0/\(RF t ch vb k i).recvs=0
 | 0=>⟨(by decide:(0:Nat)<8),rfl,rfl⟩
 | i+1=>by
   have ih:=b4B (t:=t) (vb:=vb) h (k:=k) i
   rw [b0t]
   unfold S7
   split
   ·exact ih
   split
   ·exact ⟨Nat.or_lt_two_pow (n:=3) ih.1 (b8n h _),ih.2.1,ih.2.2⟩
   split
   ·exact ih
   ·exact ih
theorem c48 {p:Pr} {k j:Nat} {e:Ed} (h:e∈lvT p k j):e∈p.edges:=List.mem_of_mem_take (List.mem_filter.1 h).1
end Go.V
namespace Go.Proofs.YtnjlhebkhjcagaaGreat
open Go.V
set_option maxRecDepth 100000
set_option maxHeartbeats 16000000
variable {m:MdX} {mo:Mo} {ps:List (Pr×PrD)} {x:StD} {st:Stt}
theorem c1q (ho:O4 mo) (hW:MoW mo) {p:Pr} (hp:a2H mo p) {e:Ed} (he:e∈p.edges):(O0 mo p e).sizes<8/\(O0 mo p e).sends<=4/\(O0 mo p e).recvs<=4:=by
 have heo:=hp.inv.ed e he
 have hnc:=ho.nc
 have hx:(a1D mo p e).sizes<8/\(a1D mo p e).sends=0/\(a1D mo p e).recvs=0:=by
  unfold a1D
  split
  ·have hc:e.act=1∨e.act=2∨e.act=4∨e.act=5:=by
    by_cases c:e.act=0∨e.act=3
    ·have:=heo.ex0 c;omega
    ·have:=heo.act;omega
   obtain ⟨k,h1,h2,_⟩:=heo.ex1 hc
   obtain ⟨g,b,h3,h4⟩:=hW.w k h2
   rw [h1,Int.toNat_natCast,<- b1w h3 (by omega)]
   exact b4B (by simpa using hnc) _
  ·exact ⟨(by decide:(0:Nat)<8),rfl,rfl⟩
 have h4:∀c:Nat,c<mo.chans.length->a0b (c:Int)<=4:=fun c hc=>by
  rw [a2I]
  have:c=0∨c=1∨c=2:=by omega
  rcases this with h | h | h<;>rw [h]<;>decide
 rw [a5s]
 unfold a1b
 split
 ·exact ⟨hx.1,by simp only;omega,by simp only;omega⟩
 split
 ·rename_i a
  obtain ⟨c,h1,h2⟩:=heo.c1 (.inl a)
  refine ⟨hx.1,?_,by simp only;omega⟩
  simp only
  rw [h1]
  exact h4 c h2
 split
 ·rename_i a
  obtain ⟨c,h1,h2⟩:=heo.c1 (.inr a)
  refine ⟨hx.1,by simp only;omega,?_⟩
  simp only
  rw [h1]
  exact h4 c h2
 ·exact ⟨hx.1,by omega,by omega⟩
theorem b9t (hm:MoF m mo ps) {p:Nat} (hp:p<mo.procs.length):PZ (.agg [.str (pAt mo.procs p).name,.int .i64 ((pAt mo.procs p).copy:Int),(prX ps p).dl,.int .i64 ((pAt mo.procs p).places:Int),(prX ps p).dr,(prX ps p).de,(prX ps p).dn,(prX ps p).dv]):=a4h fun d hd=>by
 have h:=a1K hm hp
 simp only [List.mem_cons,List.not_mem_nil,or_false] at hd
 rcases hd with rfl | rfl | rfl | rfl | rfl | rfl | rfl | rfl
 ·exact ⟨rfl,fun _ _=>rfl⟩
 ·exact ⟨rfl,fun _ _=>rfl⟩
 ·exact ⟨h.l.pure,FL.ic h.l⟩
 ·exact ⟨rfl,fun _ _=>rfl⟩
 ·exact ⟨h.r.pure,FL.ic h.r⟩
 ·exact ⟨h.e.pure,FL.ic h.e⟩
 ·exact ⟨h.n.pure,FL.ic h.n⟩
 ·exact ⟨h.v.pure,FL.ic h.v⟩
theorem b3K (hm:MoF m mo ps) (ho:O4 mo) (hq:MoQ mo) (hN:MoN mo) (hW:MoW mo) {p k:Nat} (hp:p<mo.procs.length):Eqc vfs 19 [.agg [m.dt,.int .i64 m.g,m.dc,m.dv,m.dp,m.ds,.bool m.b],.int .i64 (p:Int),.int .i64 (k:Int)] (.bool (mo.quiet p k)):=by
 have om:=hm.ones
 have fm:=a0L hm
 have hpo:=ho.pr _ (a0h hp)
 have hel:=hpo.el
 have c1:¬ mo.procs.length<=p:=by omega
 have hpz:PZ (.agg [.str (pAt mo.procs p).name,.int .i64 ((pAt mo.procs p).copy:Int),(prX ps p).dl,.int .i64 ((pAt mo.procs p).places:Int),(prX ps p).dr,(prX ps p).de,(prX ps p).dn,(prX ps p).dv]):=b9t hm hp
 refine P4 ?_
 refine N4 (vf:=a3e) rfl ?_
 unfold a3e;refine zF ?_
 refine zY (aN om (aN hp c1)) ?_
 have hp0:Hp (((f6.empty.push (.cells [m.dt,.int .i64 m.g,m.dc,m.dv,m.dp,m.ds,.bool m.b])).push (.cells [.str (bs []),.int .i64 0,.nils,.int .i64 0,.nils,.nils,.nils,.nils])).set 1 (some (.cells [.str (pAt mo.procs p).name,.int .i64 ((pAt mo.procs p).copy:Int),(prX ps p).dl,.int .i64 ((pAt mo.procs p).places:Int),(prX ps p).dr,(prX ps p).de,(prX ps p).dn,(prX ps p).dv]))) [] [(0,[m.dt,.int .i64 m.g,m.dc,m.dv,m.dp,m.ds,.bool m.b]),(1,[.str (pAt mo.procs p).name,.int .i64 ((pAt mo.procs p).copy:Int),(prX ps p).dl,.int .i64 ((pAt mo.procs p).places:Int),(prX ps p).dr,(prX ps p).de,(prX ps p).dn,(prX ps p).dv])]:=⟨List.nodup_nil,by simp,by simp [Has],by
  intro y hy
  simp only [List.mem_cons,List.not_mem_nil,or_false] at hy
  rcases hy with rfl | rfl
  ·exact zZ0
  ·simp (disch:=(first|exact Rf.mk rfl|with_reducible assumption|omega|((repeat (first|rw [nP]|rw [nS]|rw [M7]))<;>omega)|decide)) only [go_sem,↓reduceIte]⟩
 generalize ((f6.empty.push (.cells [m.dt,.int .i64 m.g,m.dc,m.dv,m.dp,m.ds,.bool m.b])).push (.cells [.str (bs []),.int .i64 0,.nils,.int .i64 0,.nils,.nils,.nils,.nils])).set 1 (some (.cells [.str (pAt mo.procs p).name,.int .i64 ((pAt mo.procs p).copy:Int),(prX ps p).dl,.int .i64 ((pAt mo.procs p).places:Int),(prX ps p).dr,(prX ps p).de,(prX ps p).dn,(prX ps p).dv]))=s0 at *
 have g0:s0.get 0=some (.cells [m.dt,.int .i64 m.g,m.dc,m.dv,m.dp,m.ds,.bool m.b]):=hp0.r (0,_) (by simp)
 have g1:s0.get 1=some (.cells [.str (pAt mo.procs p).name,.int .i64 ((pAt mo.procs p).copy:Int),(prX ps p).dl,.int .i64 ((pAt mo.procs p).places:Int),(prX ps p).dr,(prX ps p).de,(prX ps p).dn,(prX ps p).dv]):=hp0.r (1,_) (by simp)
 refine P6 [0,1,2,3,7,23] 0 (pAt mo.procs p).edges.length (fun j f s=>f 12=.int .i64 (j:Int)/\f 8=.int .i64 ((lvT (pAt mo.procs p) k j).length:Int)/\f 9=.int .i64 (a1r (lvT (pAt mo.procs p) k j):Int)/\f 10=.int .i64 (a0P (lvT (pAt mo.procs p) k j))/\f 11=.int .i64 (a09 (lvT (pAt mo.procs p) k j))/\(∀q,q<j->(eAt (pAt mo.procs p).edges q).frm=k->a0p mo (pAt mo.procs p) (eAt (pAt mo.procs p).edges q)=true)/\s.get 0=some (.cells [m.dt,.int .i64 m.g,m.dc,m.dv,m.dp,m.ds,.bool m.b])/\s.get 1=some (.cells [.str (pAt mo.procs p).name,.int .i64 ((pAt mo.procs p).copy:Int),(prX ps p).dl,.int .i64 ((pAt mo.procs p).places:Int),(prX ps p).dr,(prX ps p).de,(prX ps p).dn,(prX ps p).dv])) (.mk rfl) (by omega) ⟨rfl,rfl,rfl,rfl,rfl,fun q h=>by omega,g0,g1⟩ ?_
 clear g0 g1 hp0
 rintro j f s hj ⟨hE,h8,h9,h10,h11,hall,g0,g1⟩
 have l0:=M5 g0
 have l1:=M5 g1
 have hll:=a9j (pAt mo.procs p) k j
 have hsl:=b89 (L:=lvT (pAt mo.procs p) k j)
 by_cases cj:j<(pAt mo.procs p).edges.length
 rotate_left
 ·obtain rfl:j=(pAt mo.procs p).edges.length:=by omega
  have hyes:=b2p (mo:=mo) (k:=k) hp fun e he hk=>by
   obtain ⟨q,hq,rfl⟩:=List.getElem_of_mem he
   rw [<- a1T hq] at hk ⊢
   exact hall q hq hk
  rw [hyes,<- b1e]
  rw [c6p,b72 hpo fun e he=>c48 he]
  generalize lvT (pAt mo.procs p) k (pAt mo.procs p).edges.length=L at *
  have hle:=b0I hm hp
  by_cases c0:L.length=0
  ·have c1:a1r L=0:=by omega
   rw [c0] at h8
   rw [c1] at h9
   have e0:decide (0<L.length)=false:=by rw [c0];rfl
   have e2:decide (L.length=2)=false:=by rw [c0];rfl
   rw [e0,e2,Bool.false_and,Bool.false_and,Bool.false_and,Bool.false_or]
   exact zZ (aN hE (aN h8 (aN h9 (aN h10 (aN h11 (aN om (aN g0 (aN g1 hle))))))))
  have c0':(0:Int)<(L.length:Int):=by omega
  have e0:decide (0<L.length)=true:=decide_eq_true (by omega)
  rw [e0]
  by_cases cs:a1r L=L.length
  ·rw [decide_eq_true cs]
   rw [cs] at h9
   exact zZ (aN hE (aN h8 (aN h9 (aN h10 (aN h11 (aN om (aN g0 (aN g1 (aN hle c0')))))))))
  have cs':¬ (a1r L:Int)=(L.length:Int):=by omega
  rw [decide_eq_false cs]
  by_cases c2:L.length=2
  rotate_left
  ·have c2':¬ (L.length:Int)=2:=by omega
   rw [decide_eq_false c2,Bool.false_and,Bool.false_and,Bool.and_false,Bool.false_or]
   exact zZ (aN hE (aN h8 (aN h9 (aN h10 (aN h11 (aN om (aN g0 (aN g1 (aN hle (aN c0' (aN cs' c2')))))))))))
  rw [c2] at h8
  have cs':¬ (a1r L:Int)=2:=by omega
  rw [Bool.and_false,Bool.false_or]
  rw [decide_eq_true c2]
  by_cases c3:0<=a0P L
  rotate_left
  ·rw [decide_eq_false c3,Bool.and_false,Bool.false_and]
   exact zZ (aN hE (aN h8 (aN h9 (aN h10 (aN h11 (aN om (aN g0 (aN g1 (aN hle (aN cs' c3))))))))))
  rw [decide_eq_true c3]
  by_cases c4:a0P L=a09 L
  ·rw [decide_eq_true c4]
   rw [c4] at h10 c3
   rw [Bool.and_self,Bool.and_self]
   exact zZ (aN hE (aN h8 (aN h9 (aN h10 (aN h11 (aN om (aN g0 (aN g1 (aN hle (aN cs' c3))))))))))
  ·rw [decide_eq_false c4,Bool.and_false]
   exact zZ (aN hE (aN h8 (aN h9 (aN h10 (aN h11 (aN om (aN g0 (aN g1 (aN hle (aN cs' (aN c3 c4)))))))))))
 have hls:=b4O (k:=k) cj
 have hmem:=a12 cj
 have hll':=hpo.el
 by_cases cf:(eAt (pAt mo.procs p).edges j).frm=k
 rotate_left
 ·rw [if_neg cf,List.append_nil] at hls
  refine zY (aN hE (aN h8 (aN h9 (aN h10 (aN h11 (aN om (aN g0 (aN g1 (aN cj cf))))))))) ?_
  rw [hls]
  refine ⟨rfl,rfl,rfl,rfl,fun q hq hf=>?_⟩
  by_cases eq:q=j
  ·subst eq;exact absurd hf cf
  ·exact hall q (by omega) hf
 rw [if_pos cf] at hls
 have heo:=hpo.inv.ed _ hmem
 have hb:=c2z hm ho hN hW hp hmem
 obtain ⟨_,hok⟩:=b5U hm ho hp cj
 obtain ⟨k1,k2,k3⟩:=c1q ho hW hpo hmem
 have hs1:IntKind.u32.wrap (((O0 mo (pAt mo.procs p) (eAt (pAt mo.procs p).edges j)).sends:Int)+((O0 mo (pAt mo.procs p) (eAt (pAt mo.procs p).edges j)).recvs:Int))=(((O0 mo (pAt mo.procs p) (eAt (pAt mo.procs p).edges j)).sends+(O0 mo (pAt mo.procs p) (eAt (pAt mo.procs p).edges j)).recvs:Nat):Int):=by
  rw [IntKind.wrap_u32];omega
 have hs2:IntKind.u32.wrap ((((O0 mo (pAt mo.procs p) (eAt (pAt mo.procs p).edges j)).sends+(O0 mo (pAt mo.procs p) (eAt (pAt mo.procs p).edges j)).recvs:Nat):Int)+((O0 mo (pAt mo.procs p) (eAt (pAt mo.procs p).edges j)).sizes:Int))=(((O0 mo (pAt mo.procs p) (eAt (pAt mo.procs p).edges j)).sends+(O0 mo (pAt mo.procs p) (eAt (pAt mo.procs p).edges j)).recvs+(O0 mo (pAt mo.procs p) (eAt (pAt mo.procs p).edges j)).sizes:Nat):Int):=by
  rw [IntKind.wrap_u32];omega
 have hlr:=b56 hm ho hq hp hok.r
 have hlw:=b56 hm ho hq hp hok.w
 have hown:=b6n (p:=pAt mo.procs p) (f:=O0 mo (pAt mo.procs p) (eAt (pAt mo.procs p).edges j))
 have pe:=b0s (e:=eAt (pAt mo.procs p).edges j)
 unfold Ft.row at hb
 have no:a0p mo (pAt mo.procs p) (eAt (pAt mo.procs p).edges j)=false->mo.quiet p k=false:=b2y hmem cf
 rw [cf] at hb pe
 by_cases qk:(eAt (pAt mo.procs p).edges j).keep=true
 ·rw [no (by unfold a0p;rw [qk];rfl)]
  rw [qk] at hb pe
  exact zZ (aN hE (aN om (aN fm (aN g0 (aN g1 (aN cj (aN cf (aN pe (aN hb qk)))))))))
 have qk:(eAt (pAt mo.procs p).edges j).keep=false:=by simpa using qk
 rw [qk] at hb pe
 by_cases qp:(O0 mo (pAt mo.procs p) (eAt (pAt mo.procs p).edges j)).part=true
 ·rw [no (by unfold a0p;rw [qp];simp)]
  rw [qp] at hb
  exact zZ (aN hE (aN om (aN fm (aN g0 (aN g1 (aN cj (aN cf (aN pe (aN hb qk)))))))))
 have qp:(O0 mo (pAt mo.procs p) (eAt (pAt mo.procs p).edges j)).part=false:=by simpa using qp
 rw [qp] at hb
 by_cases qz:(O0 mo (pAt mo.procs p) (eAt (pAt mo.procs p).edges j)).sends+(O0 mo (pAt mo.procs p) (eAt (pAt mo.procs p).edges j)).recvs+(O0 mo (pAt mo.procs p) (eAt (pAt mo.procs p).edges j)).sizes=0
 rotate_left
 ·rw [no (by unfold a0p;by_cases a:(O0 mo (pAt mo.procs p) (eAt (pAt mo.procs p).edges j)).sends=0<;>by_cases b:(O0 mo (pAt mo.procs p) (eAt (pAt mo.procs p).edges j)).recvs=0<;>by_cases c:(O0 mo (pAt mo.procs p) (eAt (pAt mo.procs p).edges j)).sizes=0<;>simp [a,b,c]<;>omega)]
  have qz':(0:Int)<(((O0 mo (pAt mo.procs p) (eAt (pAt mo.procs p).edges j)).sends+(O0 mo (pAt mo.procs p) (eAt (pAt mo.procs p).edges j)).recvs+(O0 mo (pAt mo.procs p) (eAt (pAt mo.procs p).edges j)).sizes:Nat):Int):=by omega
  exact zZ (aN hE (aN om (aN fm (aN g0 (aN g1 (aN cj (aN cf (aN pe (aN hb (aN qk (aN hs1 (aN hs2 qz'))))))))))))
 rw [qz] at hs2
 by_cases ql:a1N (pAt mo.procs p) (O0 mo (pAt mo.procs p) (eAt (pAt mo.procs p).edges j)).reads=true
 rotate_left
 ·have ql:a1N (pAt mo.procs p) (O0 mo (pAt mo.procs p) (eAt (pAt mo.procs p).edges j)).reads=false:=by simpa using ql
  rw [no (by unfold a0p;rw [hown,ql];simp)]
  rw [ql] at hlr
  exact zZ (aN hE (aN om (aN fm (aN g0 (aN g1 (aN cj (aN cf (aN pe (aN hb (aN qk (aN hs1 (aN hs2 (aN hpz hlr)))))))))))))
 rw [ql] at hlr
 by_cases qm:a1N (pAt mo.procs p) (O0 mo (pAt mo.procs p) (eAt (pAt mo.procs p).edges j)).writes=true
 rotate_left
 ·have qm:a1N (pAt mo.procs p) (O0 mo (pAt mo.procs p) (eAt (pAt mo.procs p).edges j)).writes=false:=by simpa using qm
  rw [no (by unfold a0p;rw [hown,qm];simp)]
  rw [qm] at hlw
  exact zZ (aN hE (aN om (aN fm (aN g0 (aN g1 (aN cj (aN cf (aN pe (aN hb (aN qk (aN hs1 (aN hs2 (aN hpz (aN hlr hlw))))))))))))))
 rw [qm] at hlw
 by_cases qt:(eAt (pAt mo.procs p).edges j).to=1∨k<(eAt (pAt mo.procs p).edges j).to
 rotate_left
 ·rw [no (by unfold a0p;rw [cf];simp;omega)]
  have t1:¬ ((eAt (pAt mo.procs p).edges j).to:Int)=1:=by omega
  have t2:(eAt (pAt mo.procs p).edges j).to<=k:=by omega
  exact zZ (aN hE (aN om (aN fm (aN g0 (aN g1 (aN cj (aN cf (aN pe (aN hb (aN qk (aN hs1 (aN hs2 (aN hpz (aN hlr (aN hlw (aN t1 t2))))))))))))))))
 have hqe:a0p mo (pAt mo.procs p) (eAt (pAt mo.procs p).edges j)=true:=by
  unfold a0p
  rw [hown,ql,qm,qk,qp,cf]
  simp
  omega
 have hL:(lvT (pAt mo.procs p) k (j+1)).length=(lvT (pAt mo.procs p) k j).length+1:=by rw [hls];simp
 have hS:a1r (lvT (pAt mo.procs p) k (j+1))=a1r (lvT (pAt mo.procs p) k j)+if (eAt (pAt mo.procs p).edges j).act<=1 then 1 else 0:=by rw [hls,c2i]
 have hW':a0P (lvT (pAt mo.procs p) k (j+1))=if (lvT (pAt mo.procs p) k j).length=0 then (if (eAt (pAt mo.procs p).edges j).act=4 then (eAt (pAt mo.procs p).edges j).expr else -1) else a0P (lvT (pAt mo.procs p) k j):=by rw [hls,c6f]
 have hO:a09 (lvT (pAt mo.procs p) k (j+1))=if (lvT (pAt mo.procs p) k j).length=1 then (if (eAt (pAt mo.procs p).edges j).act=5 then (eAt (pAt mo.procs p).edges j).expr else -1) else a09 (lvT (pAt mo.procs p) k j):=by rw [hls,c5I]
 have hall':∀q,q<j+1->(eAt (pAt mo.procs p).edges q).frm=k->a0p mo (pAt mo.procs p) (eAt (pAt mo.procs p).edges q)=true:=fun q hq hf=>by
  by_cases eq:q=j
  ·subst eq;exact hqe
  ·exact hall q (by omega) hf
 clear hls hall
 have hact:=heo.act
 have w0:(lvT (pAt mo.procs p) k j).length=0->a0P (lvT (pAt mo.procs p) k j)=-1:=fun h=>by unfold a0P;rw [if_neg (by omega)]
 have w1:(lvT (pAt mo.procs p) k j).length<=1->a09 (lvT (pAt mo.procs p) k j)=-1:=fun h=>by unfold a09;rw [if_neg (by omega)]
 generalize lvT (pAt mo.procs p) k j=L at *
 obtain ⟨a,ha,hai⟩:∃a:Int,((eAt (pAt mo.procs p).edges j).act:Int)=a/\(a=0∨a=1∨a=2∨a=3∨a=4∨a=5):=⟨_,rfl,by omega⟩
 have hS:a1r (lvT (pAt mo.procs p) k (j+1))=a1r L+if a<=1 then 1 else 0:=by
  rw [hS];congr 1;by_cases c:a<=1
  ·rw [if_pos c,if_pos (by omega)]
  ·rw [if_neg c,if_neg (by omega)]
 have e4:(eAt (pAt mo.procs p).edges j).act=4↔a=4:=by omega
 have e5:(eAt (pAt mo.procs p).edges j).act=5↔a=5:=by omega
 simp only [e4,e5] at hW' hO
 rw [ha] at hb pe
 by_cases t1:((eAt (pAt mo.procs p).edges j).to:Int)=1
 rotate_left
 have t2:¬ (eAt (pAt mo.procs p).edges j).to<=k:=by omega
 rotate_left
 have t2:=t1
 rw [t1] at hb pe
 all_goals
  rcases (show (a=0∨a=1∨a=2∨a=3)∨a=4∨a=5 by omega) with ha3 | rfl | rfl
  ·have hW4:a0P (lvT (pAt mo.procs p) k (j+1))=a0P L:=by
    rw [hW'];by_cases c:L.length=0
    ·rw [if_pos c,if_neg (by omega),w0 c]
    ·rw [if_neg c]
   have hO5:a09 (lvT (pAt mo.procs p) k (j+1))=a09 L:=by
    rw [hO];by_cases c:L.length=1
    ·rw [if_pos c,if_neg (by omega),w1 (by omega)]
    ·rw [if_neg c]
   rcases ha3 with rfl | rfl | rfl | rfl<;>(simp (disch:=(first|exact Rf.mk rfl|with_reducible assumption|omega|((repeat (first|rw [nP]|rw [nS]|rw [M7]))<;>omega)|decide)) only [go_sem,↓reduceIte,hE,h8,h9,h10,h11,om,fm,g0,g1,cj,cf,pe,hb,qk,hs1,hs2,hpz,hlr,hlw,t1,t2,ha])<;>(repeat' apply And.intro)<;>first | exact hall' | (rw [hL];omega) | (rw [hL];done) | (rw [hS];simp;done) | (rw [hW4];done) | (rw [hO5];done)
  ·have hO5:a09 (lvT (pAt mo.procs p) k (j+1))=a09 L:=by
    rw [hO];by_cases c:L.length=1
    ·rw [if_pos c,if_neg (by omega),w1 (by omega)]
    ·rw [if_neg c]
   by_cases l0:L.length=0
   ·have hW4:a0P (lvT (pAt mo.procs p) k (j+1))=(eAt (pAt mo.procs p).edges j).expr:=by rw [hW',if_pos l0,if_pos rfl]
    rw [l0] at h8 hL
    (simp (disch:=(first|exact Rf.mk rfl|with_reducible assumption|omega|((repeat (first|rw [nP]|rw [nS]|rw [M7]))<;>omega)|decide)) only [go_sem,↓reduceIte,hE,h8,h9,h10,h11,om,fm,g0,g1,cj,cf,pe,hb,qk,hs1,hs2,hpz,hlr,hlw,t1,t2,ha])<;>(repeat' apply And.intro)<;>first | exact hall' | (rw [hL];omega) | (rw [hL];done) | (rw [hS];simp;done) | (rw [hW4];done) | (rw [hO5];done)
   have hW4:a0P (lvT (pAt mo.procs p) k (j+1))=a0P L:=by rw [hW',if_neg l0]
   have n1:¬ L.length+1=1:=by omega
   have n2:¬ ((L.length+1:Nat):Int)=1:=by omega
   have n3:¬ (L.length:Int)+1=1:=by omega
   (simp (disch:=(first|exact Rf.mk rfl|with_reducible assumption|omega|((repeat (first|rw [nP]|rw [nS]|rw [M7]))<;>omega)|decide)) only [go_sem,↓reduceIte,hE,h8,h9,h10,h11,om,fm,g0,g1,cj,cf,pe,hb,qk,hs1,hs2,hpz,hlr,hlw,t1,t2,ha,n1,n2,n3])<;>(repeat' apply And.intro)<;>first | exact hall' | (rw [hL];omega) | (rw [hL];done) | (rw [hS];simp;done) | (rw [hW4];done) | (rw [hO5];done)
  ·have hW4:a0P (lvT (pAt mo.procs p) k (j+1))=a0P L:=by
    rw [hW'];by_cases c:L.length=0
    ·rw [if_pos c,if_neg (by omega),w0 c]
    ·rw [if_neg c]
   by_cases l1:L.length=1
   ·have hO5:a09 (lvT (pAt mo.procs p) k (j+1))=(eAt (pAt mo.procs p).edges j).expr:=by rw [hO,if_pos l1,if_pos rfl]
    rw [l1] at h8 hL
    (simp (disch:=(first|exact Rf.mk rfl|with_reducible assumption|omega|((repeat (first|rw [nP]|rw [nS]|rw [M7]))<;>omega)|decide)) only [go_sem,↓reduceIte,hE,h8,h9,h10,h11,om,fm,g0,g1,cj,cf,pe,hb,qk,hs1,hs2,hpz,hlr,hlw,t1,t2,ha])<;>(repeat' apply And.intro)<;>first | exact hall' | (rw [hL];omega) | (rw [hL];done) | (rw [hS];simp;done) | (rw [hW4];done) | (rw [hO5];done)
   have hO5:a09 (lvT (pAt mo.procs p) k (j+1))=a09 L:=by rw [hO,if_neg l1]
   have n1:¬ L.length+1=2:=by omega
   have n2:¬ ((L.length+1:Nat):Int)=2:=by omega
   have n3:¬ (L.length:Int)+1=2:=by omega
   (simp (disch:=(first|exact Rf.mk rfl|with_reducible assumption|omega|((repeat (first|rw [nP]|rw [nS]|rw [M7]))<;>omega)|decide)) only [go_sem,↓reduceIte,hE,h8,h9,h10,h11,om,fm,g0,g1,cj,cf,pe,hb,qk,hs1,hs2,hpz,hlr,hlw,t1,t2,ha,n1,n2,n3])<;>(repeat' apply And.intro)<;>first | exact hall' | (rw [hL];omega) | (rw [hL];done) | (rw [hS];simp;done) | (rw [hW4];done) | (rw [hO5];done)
end Go.Proofs.YtnjlhebkhjcagaaGreat
namespace Go.V
variable {mo:Mo} {M:Stt->List Mv}
def Mo.fst (mo:Mo):Stt:=⟨List.replicate mo.procs.length 0,mo.vals,List.replicate mo.chans.length [],-1⟩
theorem c1n {n i:Nat}:nAt (List.replicate n 0) i=0:=by
 unfold nAt
 by_cases h:i<n
 ·simp [List.getD,h]
 ·simp [List.getD,h]
theorem c2q (ho:O4 mo) (hf:X8 mo):Fit mo mo.fst:=by
 refine a3u.1 ⟨by simp [Mo.fst],by simp [Mo.fst,Mo.vals],by simp [Mo.fst],fun i hi=>?_,fun i hi=>?_,fun i hi=>?_,fun i hi n hn=>?_,by simp only [Mo.fst];omega⟩
 ·have:=(ho.pr _ (a0h hi)).inv.two
  show nAt (List.replicate _ 0) i<_
  rw [c1n];omega
 ·show O7 (zAt mo.vals i) _=zAt mo.vals i
  rw [a81 hi]
  exact (hf.vr _ (a48 hi)).2.2
 ·show ((cAt (List.replicate _ []) i).length:Int)<=_
  rw [a5C]
  have:=(hf.ch _ (a5i hi)).1
  simp only [List.length_nil];omega
 ·have hn:n∈cAt (List.replicate _ []) i:=hn
  rw [a5C] at hn;cases hn
theorem c6d (ho:O4 mo) (hf:X8 mo):a3w mo mo.fst:=⟨c2q ho hf,fun j hj=>by simp only [Mo.fst] at hj;omega⟩
def Rch (mo:Mo) (M:Stt->List Mv) (t:Stt):Prop:=∃n,a2t mo M n mo.fst t
theorem a2t.snoc:∀ {n:Nat} {s t:Stt} {v:Mv},a2t mo M n s t->v∈M t->a2t mo M (n+1) s (mo.doS t v)
 | 0,s,t,v,h,hv=>by cases h;exact ⟨v,hv,rfl⟩
 | n+1,s,t,v,⟨w,hw,h⟩,hv=>⟨w,hw,h.snoc hv⟩
theorem Rch.step {t:Stt} {v:Mv} (h:Rch mo M t) (hv:v∈M t):Rch mo M (mo.doS t v):=by
 obtain ⟨n,h⟩:=h
 exact ⟨n+1,h.snoc hv⟩
theorem a2t.mono {M':Stt->List Mv} (hs:∀s v,v∈M s->v∈M' s):∀ {n:Nat} {s t:Stt},a2t mo M n s t->a2t mo M' n s t
 | 0,s,t,h=>h
 | n+1,s,t,⟨w,hw,h⟩=>⟨w,hs _ _ hw,h.mono hs⟩
theorem Rch.mono {M':Stt->List Mv} (hs:∀s v,v∈M s->v∈M' s) {t:Stt} (h:Rch mo M t):Rch mo M' t:=by
 obtain ⟨n,h⟩:=h
 exact ⟨n,h.mono hs⟩
theorem Rch.inv (ho:O4 mo) (hf:X8 mo) (hs:∀s v,v∈M s->v∈mo.moves s) {t:Stt} (h:Rch mo M t):a3w mo t:=by
 obtain ⟨n,h⟩:=h
 exact (h.mono hs).inv ho hf (c6d ho hf)
theorem c2V {L:List Stt} (h0:mo.fst∈L) (hc:∀s∈L,∀v∈M s,mo.doS s v∈L) {t:Stt} (h:Rch mo M t):t∈L:=by
 obtain ⟨n,h⟩:=h
 have key:∀ {n:Nat} {s t:Stt},s∈L->a2t mo M n s t->t∈L:=by
  intro n
  induction n with
  | zero=>intro s t hs h;cases h;exact hs
  | succ n ih=>intro s t hs h;obtain ⟨v,hv,h⟩:=h;exact ih (hc s hs v hv) h
 exact key h0 h
def b99 (mo:Mo) (M:Stt->List Mv) (a b:Bool):Prop :=
 (a=true/\b=true/\∃t,Rch mo M t/\mo.badS t=true)∨(a=false/\b=true/\∃L:List Stt,L.length<=120/\∀t,Rch mo M t->t∈L/\mo.badS t=false)∨(a=false/\b=false)
abbrev QL:=List (StD×Stt)
def qAt (l:QL) (i:Nat):StD×Stt:=l.getD i ⟨⟨.nils,.nils,.nils⟩,⟨[],[],[],0⟩⟩
theorem b0V {l:QL} {i:Nat} (h:i<l.length):qAt l i=l[i]:=by simp [qAt,List.getD,h]
theorem b11 {l:QL} {q:StD×Stt} (h:q∈l):∃i,i<l.length/\qAt l i=q:=by
 obtain ⟨i,hi,e⟩:=List.getElem_of_mem h
 exact ⟨i,hi,by rw [b0V hi,e]⟩
theorem b4z {l r:QL} {i:Nat} (h:i<l.length):qAt (l++r) i=qAt l i:=by
 rw [b0V h,b0V (by simp;omega),List.getElem_append_left h]
structure a21 (mo:Mo) (M:Stt->List Mv) (L:QL) (i:Nat):Prop where
 fst:mo.fst∈L.map Prod.snd
 rch:∀q∈L,Rch mo M q.2
 f:∀q∈L,StF q.1 q.2
 ok:∀j,j<i->mo.badS (qAt L j).2=false
 cl:∀j,j<i->∀v∈M (qAt L j).2,mo.doS (qAt L j).2 v∈L.map Prod.snd
 nd:(L.map Prod.snd).Nodup
theorem a21.app {L:QL} {i:Nat} (h:a21 mo M L i) (hi:i<=L.length) {q:StD×Stt} (hr:Rch mo M q.2) (hf:StF q.1 q.2) (hn:q.2∉L.map Prod.snd):a21 mo M (L++[q]) i:=by
 refine ⟨by rw [List.map_append];exact List.mem_append_left _ h.fst,fun p hp=>?_,fun p hp=>?_,fun j hj=>?_,fun j hj v hv=>?_,?_⟩
 ·rcases List.mem_append.1 hp with hp | hp
  ·exact h.rch p hp
  ·rw [List.mem_singleton.1 hp];exact hr
 ·rcases List.mem_append.1 hp with hp | hp
  ·exact h.f p hp
  ·rw [List.mem_singleton.1 hp];exact hf
 ·rw [b4z (by omega)];exact h.ok j hj
 ·rw [b4z (by omega)] at hv ⊢
  rw [List.map_append]
  exact List.mem_append_left _ (h.cl j hj v hv)
 ·rw [List.map_append]
  refine List.nodup_append.2 ⟨h.nd,by simp,fun a ha b hb=>?_⟩
  simp only [List.map_cons,List.map_nil,List.mem_singleton] at hb
  rw [hb]
  exact fun e=>hn (e▸ha)
theorem a21.next {L:QL} {i:Nat} (h:a21 mo M L i) (hb:mo.badS (qAt L i).2=false) (hc:∀v∈M (qAt L i).2,mo.doS (qAt L i).2 v∈L.map Prod.snd):a21 mo M L (i+1):=by
 refine ⟨h.fst,h.rch,h.f,fun j hj=>?_,fun j hj=>?_,h.nd⟩
 ·by_cases e:j=i
  ·rw [e];exact hb
  ·exact h.ok j (by omega)
 ·by_cases e:j=i
  ·rw [e];exact hc
  ·exact h.cl j (by omega)
theorem a21.all {L:QL} {i:Nat} (h:a21 mo M L i) (hi:¬ i<L.length):∀t,Rch mo M t->t∈L.map Prod.snd/\mo.badS t=false:=by
 intro t ht
 have hm:=c2V (L:=L.map Prod.snd) h.fst (fun s hs v hv=>by
  obtain ⟨q,hq,rfl⟩:=List.mem_map.1 hs
  obtain ⟨j,hj,rfl⟩:=b11 hq
  exact h.cl j (by omega) v hv) ht
 refine ⟨hm,?_⟩
 obtain ⟨q,hq,rfl⟩:=List.mem_map.1 hm
 obtain ⟨j,hj,rfl⟩:=b11 hq
 exact h.ok j (by omega)
theorem a21.none {L:QL} {i:Nat} (h:a21 mo M L i) (hi:¬ i<L.length) (hl:L.length<=120):b99 mo M false true :=
 .inr (.inl ⟨rfl,rfl,L.map Prod.snd,by rw [List.length_map];exact hl,h.all hi⟩)
end Go.V
namespace Go.V
variable {mo:Mo} {π τ:Nat->Nat} {s s':Stt}
structure Sym (mo:Mo) (π τ:Nat->Nat):Prop where
 pi:∀v,π (π v)=v
 pg:∀v,v<mo.globals->π v=v
 pl:∀v,v<mo.vars.length->π v<mo.vars.length
 pw:∀v,v<mo.vars.length->(vAt mo.vars (π v)).width=(vAt mo.vars v).width
 tt:∀j,τ (τ j)=j
 tl:∀j,j<mo.procs.length->τ j<mo.procs.length
 nm:∀j,j<mo.procs.length->(pAt mo.procs (τ j)).names=(pAt mo.procs j).names
 vr:∀j,j<mo.procs.length->(pAt mo.procs (τ j)).vars=(pAt mo.procs j).vars.map π
 ed:∀j,j<mo.procs.length->(pAt mo.procs (τ j)).edges=(pAt mo.procs j).edges.map (a4P π)
 rs:∀j,j<mo.procs.length->(pAt mo.procs (τ j)).rest=(pAt mo.procs j).rest
structure SR (mo:Mo) (π τ:Nat->Nat) (s s':Stt):Prop where
 al:s.at'.length=mo.procs.length
 al':s'.at'.length=mo.procs.length
 at':∀j,j<mo.procs.length->nAt s'.at' (τ j)=nAt s.at' j
 vl:s.vars.length=mo.vars.length
 vl':s'.vars.length=mo.vars.length
 vr:∀v,v<mo.vars.length->zAt s'.vars (π v)=zAt s.vars v
 ch:s'.chans=s.chans
 hd:(s.hold<0/\s'.hold=s.hold)∨∃j,j<mo.procs.length/\s.hold=(j:Int)/\s'.hold=((τ j:Nat):Int)
theorem Sym.pe (h:Sym mo π τ) {a b:Nat}:π a=π b↔a=b:=⟨fun e=>by rw [<- h.pi a,e,h.pi],fun e=>by rw [e]⟩
theorem SR.symm (h:Sym mo π τ) (r:SR mo π τ s s'):SR mo π τ s' s:=by
 refine ⟨r.al',r.al,fun j hj=>?_,r.vl',r.vl,fun v hv=>?_,r.ch.symm,?_⟩
 ·rw [<- r.at' (τ j) (h.tl j hj),h.tt]
 ·rw [<- r.vr (π v) (h.pl v hv),h.pi]
 ·rcases r.hd with ⟨a,b⟩ | ⟨j,hj,a,b⟩
  ·exact .inl ⟨by rw [b];exact a,b.symm⟩
  ·exact .inr ⟨τ j,h.tl j hj,b,by rw [h.tt];exact a⟩
def mapM (τ:Nat->Nat) (v:Mv):Mv:=if v.kind=0 then { v with proc:=τ v.proc } else v
theorem a4E {c:Nat} {v:Mv} (h:v∈mo.movesC s c):v.kind=1∨v.kind=2:=by
 unfold Mo.movesC at h
 rw [List.mem_append] at h
 rcases h with h | h
 ·split at h
  ·have:=List.mem_singleton.1 h
   left;rw [this]
  ·cases h
 ·split at h
  ·have:=List.mem_singleton.1 h
   right;rw [this]
  ·cases h
end Go.V
namespace Go.V
variable {mo:Mo}
structure Cop (mo:Mo) (q n lo:Nat):Prop where
 lt:q+1<mo.procs.length
 gl:mo.globals<=lo
 hi:lo+n+n<=mo.vars.length
 l0:(pAt mo.procs q).locals=(List.range n).map (lo+·)
 l1:(pAt mo.procs (q+1)).locals=(List.range n).map (lo+n+·)
 vr:∀v∈(pAt mo.procs q).vars,v<mo.globals∨v∈(pAt mo.procs q).locals
 re:pAt mo.procs (q+1)=ren (a4Q mo.globals n) (pAt mo.procs (q+1)).locals (pAt mo.procs (q+1)).copy (pAt mo.procs q)
 w:∀i,i<n->vAt mo.vars (lo+n+i)=vAt mo.vars (lo+i)
end Go.V
namespace Go.V
variable {mo:Mo} {s:Stt}
def a14 (p:Pr):Bool:=p.edges.all fun e=>decide (e.to≠0)
def Mo.barred (mo:Mo) (st:Stt) (i:Nat):Bool:=decide (0<(pAt mo.procs i).copy)&&a14 (pAt mo.procs i)&&decide (nAt st.at' i=0)&&decide (nAt st.at' (i-1)=0)
def Mo.freeM (mo:Mo) (st:Stt) (v:Mv):Bool:=!(decide (v.kind=0)&&mo.barred st v.proc)
def Mo.someM (mo:Mo) (am:Bool) (st:Stt):List Mv:=(if am then mo.ample st else mo.moves st).filter (mo.freeM st)
def a7g (mo:Mo) (s:Stt):Prop:=∀j,j<mo.procs.length->a14 (pAt mo.procs j)=true->nAt s.at' j=0->s.hold≠(j:Int)/\∀v∈(pAt mo.procs j).locals,zAt s.vars v=(vAt mo.vars v).value
structure MoC (mo:Mo):Prop where
 tw:∀p,p<mo.procs.length->0<(pAt mo.procs p).copy->∃q n lo,p=q+1/\Cop mo q n lo
theorem c6g {l:List Int} {i j:Nat} {x:Int} (h:i≠j):zAt (l.set i x) j=zAt l j:=by
 unfold zAt
 simp [List.getD,List.getElem?_set,h]
theorem b27 {i:Nat} {p:Pr} {e:Ed}:(mo.edgeS s i p e).at'=s.at'.set i e.to:=by
 unfold Mo.edgeS Mo.actS
 repeat' split
 all_goals rfl
theorem b8E {i:Nat} {p:Pr} (hp:a2H mo p) {e:Ed} (he:e∈p.edges) {w:Nat} (hw:w∉p.vars):zAt (mo.edgeS s i p e).vars w=zAt s.vars w:=by
 have key:∀a,e.act=1∨e.act=3->zAt (s.vars.set e.var.toNat a) w=zAt s.vars w:=fun a ha=>by
  obtain ⟨b,hb,hv⟩:=(hp.inv.ed e he).v1 ha
  rw [hv,Int.toNat_natCast]
  exact c6g fun c=>hw (c▸hb)
 unfold Mo.edgeS Mo.actS
 split
 ·rename_i c;exact key _ (.inl c)
 split
 ·rfl
 split
 ·rename_i c;exact key _ (.inr c)
 ·rfl
theorem a7g.step (ho:O4 mo) (hq:MoQ mo) (hI:Fit mo s) (hF:a7g mo s) {v:Mv} (hv:v∈mo.moves s):a7g mo (mo.doS s v):=by
 rcases a3G.1 hv with ⟨k0,_,hp,he,_,_⟩ | ⟨_,_,c⟩
 ·have hd:mo.doS s v=mo.doE s v.proc (pAt mo.procs v.proc) (eAt (pAt mo.procs v.proc).edges v.edge):=by
   unfold Mo.doS;rw [if_neg (by omega),if_neg (by omega)]
  have hem:=a12 he
  rw [hd]
  generalize eAt (pAt mo.procs v.proc).edges v.edge=e at *
  have hpo:=ho.pr _ (a0h hp)
  intro j hj hb ha
  have ha:nAt (mo.edgeS s v.proc (pAt mo.procs v.proc) e).at' j=0:=ha
  rw [b27] at ha
  by_cases c:j=v.proc
  ·exfalso
   subst c
   have hl:=hI.at'
   rw [a6z (by omega),if_pos rfl] at ha
   unfold a14 at hb
   have:=List.all_eq_true.1 hb e hem
   simp [ha] at this
  ·have hl:=hI.at'
   rw [a6z (by omega),if_neg c] at ha
   obtain ⟨h1,h2⟩:=hF j hj hb ha
   refine ⟨?_,fun w hw=>?_⟩
   ·unfold Mo.doE
    simp only
    split<;>omega
   ·have:zAt (mo.edgeS s v.proc (pAt mo.procs v.proc) e).vars w=zAt s.vars w:=b8E hpo hem (hq.own j v.proc hj hp c w hw)
    exact this.trans (h2 w hw)
 ·have hk:=a4E c
  intro j hj hb ha
  have e1:(mo.doS s v).at'=s.at'/\(mo.doS s v).vars=s.vars/\(mo.doS s v).hold=s.hold:=by
   unfold Mo.doS
   split
   ·exact ⟨rfl,rfl,rfl⟩
   ·rw [if_pos (by omega)];exact ⟨rfl,rfl,rfl⟩
  rw [e1.1] at ha
  rw [e1.2.1,e1.2.2]
  exact hF j hj hb ha
theorem b7L {q n lo:Nat} (h:Cop mo q n lo):a14 (pAt mo.procs (q+1))=a14 (pAt mo.procs q):=by
 rw [h.re]
 unfold a14
 show ((pAt mo.procs q).edges.map _).all _=_
 rw [List.all_map]
 rfl
theorem b0j {am:Bool} {v:Mv} (h:v∈mo.someM am s):v∈mo.moves s:=by
 unfold Mo.someM at h
 have:=(List.mem_filter.1 h).1
 cases am
 ·exact this
 ·exact a7t this
end Go.V
namespace Go.V
theorem c0e {v w:Mv}:a0C [.i,.i,.i,.i] [.int .i64 (v.kind:Int),.int .i64 (v.proc:Int),.int .i64 (v.edge:Int),.int .i64 (v.chan:Int)] [.int .i64 (w.kind:Int),.int .i64 (w.proc:Int),.int .i64 (w.edge:Int),.int .i64 (w.chan:Int)]=some (decide (v=w)):=by
 have e:∀a b:Nat,((a:Int)==(b:Int))=decide (a=b):=fun a b=>by
  by_cases h:a=b
  ·subst h;simp
  ·rw [decide_eq_false h];simp;omega
 cases v;cases w
 simp [a0C,a4a,e,Bool.decide_and]
attribute [go_sem] c0e
end Go.V
namespace Go.V
variable {mo:Mo} {s:Stt}
def a7B (mo:Mo) (s:Stt):Prop:=∀p,p<mo.procs.length->0<(pAt mo.procs p).copy->a14 (pAt mo.procs p)=true->nAt s.at' (p-1)=0->nAt s.at' p=0
theorem a7B.step (hC:MoC mo) (hI:Fit mo s) (hO:a7B mo s) {am:Bool} {v:Mv} (hv:v∈mo.someM am s):a7B mo (mo.doS s v):=by
 have hm:=b0j hv
 have hfree:mo.freeM s v=true:=by unfold Mo.someM at hv;exact (List.mem_filter.1 hv).2
 rcases a3G.1 hm with ⟨k0,_,hp,he,_,_⟩ | ⟨_,_,c⟩
 ·have hd:mo.doS s v=mo.doE s v.proc (pAt mo.procs v.proc) (eAt (pAt mo.procs v.proc).edges v.edge):=by
   unfold Mo.doS;rw [if_neg (by omega),if_neg (by omega)]
  have hem:=a12 he
  have hl:=hI.at'
  have hat:(mo.doS s v).at'=s.at'.set v.proc (eAt (pAt mo.procs v.proc).edges v.edge).to:=by rw [hd];exact b27
  intro p hpl hc hb h0
  obtain ⟨q,n,lo,rfl,hcop⟩:=hC.tw p hpl hc
  rw [hat,a6z (by omega)] at h0 ⊢
  simp only [Nat.add_sub_cancel] at h0
  have hb0:=hb
  rw [b7L hcop] at hb0
  by_cases c:q=v.proc
  ·exfalso
   rw [if_pos c] at h0
   rw [c] at hb0
   unfold a14 at hb0
   have:=List.all_eq_true.1 hb0 _ hem
   simp [h0] at this
  ·rw [if_neg c] at h0
   have h1:=hO (q+1) hpl hc hb (by simpa using h0)
   by_cases c1:q+1=v.proc
   ·exfalso
    unfold Mo.freeM at hfree
    have:mo.barred s v.proc=true:=by
     rw [<- c1]
     unfold Mo.barred
     simp [hc,hb,h1,h0]
    rw [this,k0] at hfree
    simp at hfree
   ·rw [if_neg c1];exact h1
 ·have hk:=a4E c
  have e1:(mo.doS s v).at'=s.at':=by
   unfold Mo.doS
   split
   ·rfl
   ·rw [if_pos (by omega)]
  intro p hpl hc hb h0
  rw [e1] at h0 ⊢
  exact hO p hpl hc hb h0
structure a8L (mo:Mo) (s:Stt):Prop where
 inv:a3w mo s
 un:a7g mo s
 ord:a7B mo s
theorem a8L.step (ho:O4 mo) (hf:X8 mo) (hq:MoQ mo) (hC:MoC mo) (h:a8L mo s) {am:Bool} {v:Mv} (hv:v∈mo.someM am s):a8L mo (mo.doS s v) :=
 ⟨h.inv.step ho hf (b0j hv),h.un.step ho hq h.inv.fit (b0j hv),h.ord.step hC h.inv.fit hv⟩
end Go.V
namespace Go.Proofs.YtnjlhebkhjcagaaGreat
open Go.V
set_option maxRecDepth 100000
set_option maxHeartbeats 4000000
variable {m:MdX} {mo:Mo} {ps:List (Pr×PrD)} {x:StD} {st:Stt}
theorem b1U {d d':D} {l r:List Mv} (hd:FL 4 d (U3 l)) (hd':FL 4 d' (U3 r)) (hl:l.length<=1000000):Eqc vfs 15 [d,d'] (.bool (decide (l=r))):=by
 refine P4 ?_
 by_cases c:l.length=r.length
 rotate_left
 ·have c':¬ (l.length:Int)=(r.length:Int):=by omega
  rw [decide_eq_false fun e=>c (by rw [e])]
  refine N4 (vf:=a5k) rfl ?_
  unfold a5k;refine zF ?_
  exact zZ (aN hd (aN hd' c'))
 have c':(l.length:Int)=(r.length:Int):=by omega
 refine N4 (vf:=a5k) rfl ?_
 unfold a5k;refine zF ?_
 refine zY (aN hd (aN hd' c')) ?_
 refine P6 [0,1,10] 0 l.length (fun i f s=>f 5=.int .i64 (i:Int)/\s=f6.empty/\∀j,j<i->O1 l j=O1 r j) (.mk rfl) (by omega) ⟨rfl,rfl,fun j h=>by omega⟩ ?_
 rintro i f s hi ⟨hE,rfl,hj⟩
 by_cases ci:i<l.length
 rotate_left
 ·have:l=r:=List.ext_getElem c fun j h1 h2=>by
   rw [<- a4y h1,<- a4y h2];exact hj j (by omega)
  rw [decide_eq_true this]
  have ci2:¬ i<r.length:=by omega
  exact zZ (aN hE (aN ci (aN ci2 (aN hd (aN hd' c')))))
 have ci':i<r.length:=by omega
 by_cases ce:O1 l i=O1 r i
 ·refine zY (aN hE (aN ci (aN ci' (aN hd (aN hd' (aN ce c')))))) ?_
  intro j hj'
  by_cases e:j=i
  ·subst e;exact ce
  ·exact hj j (by omega)
 ·have:l≠r:=fun e=>ce (by rw [e])
  rw [decide_eq_false this]
  exact zZ (aN hE (aN ci (aN ci' (aN hd (aN hd' (aN ce c'))))))
end Go.Proofs.YtnjlhebkhjcagaaGreat
namespace Go.Proofs.YtnjlhebkhjcagaaGreat
open Go.V
set_option maxRecDepth 100000
set_option maxHeartbeats 4000000
variable {m:MdX} {mo:Mo} {ps:List (Pr×PrD)} {x:StD} {st:Stt}
theorem b66 (hm:MoF m mo ps) (ho:O4 mo) (hf:X8 mo) (hq:MoQ mo) (hN:MoN mo) (hW:MoW mo) (hx:Y8 mo x st):a4x vfs 16 [.agg [m.dt,.int .i64 m.g,m.dc,m.dv,m.dp,m.ds,.bool m.b],.agg [x.da,x.dv,x.dc,.int .i64 st.hold]] fun d=>FL 4 d (U3 (mo.ample st)):=by
 have fm:=a0L hm
 have fx:=a1E hx.f
 have om:=hm.ones
 have ox:=hx.f.ones
 have hxa:=hx.f.a
 have hnp:=ho.np
 have hh:=hx.fit.hold
 have hal:=hx.fit.at'
 have hml:=a35 ho (st:=st)
 obtain ⟨dm,hmv,hfl⟩:=a8k hm ho hx
 have hmv:=P4 hmv
 have oe:=FL.one hfl
 have pe:=FL.pz hfl
 refine a2j (vf:=a9s) rfl ?_
 unfold a9s;refine zF ?_
 refine zY (aN om (aN ox (aN fm (aN fx hmv)))) ?_
 have hp0:Hp ((f6.empty.push (.cells [m.dt,.int .i64 m.g,m.dc,m.dv,m.dp,m.ds,.bool m.b])).push (.cells [x.da,x.dv,x.dc,.int .i64 st.hold])) [] [(0,[m.dt,.int .i64 m.g,m.dc,m.dv,m.dp,m.ds,.bool m.b]),(1,[x.da,x.dv,x.dc,.int .i64 st.hold])]:=⟨List.nodup_nil,by simp,by simp [Has],by
  intro y hy
  simp only [List.mem_cons,List.not_mem_nil,or_false] at hy
  rcases hy with rfl | rfl
  ·exact zZ0
  ·simp (disch:=(first|exact Rf.mk rfl|with_reducible assumption|omega|((repeat (first|rw [nP]|rw [nS]|rw [M7]))<;>omega)|decide)) only [go_sem,↓reduceIte]⟩
 generalize (f6.empty.push (.cells [m.dt,.int .i64 m.g,m.dc,m.dv,m.dp,m.ds,.bool m.b])).push (.cells [x.da,x.dv,x.dc,.int .i64 st.hold])=s0 at *
 have hg:∀ {s E},Hp s E [(0,[m.dt,.int .i64 m.g,m.dc,m.dv,m.dp,m.ds,.bool m.b]),(1,[x.da,x.dv,x.dc,.int .i64 st.hold])]->s.get 0=some (.cells [m.dt,.int .i64 m.g,m.dc,m.dv,m.dp,m.ds,.bool m.b])/\s.get 1=some (.cells [x.da,x.dv,x.dc,.int .i64 st.hold]):=fun h=>⟨h.r (0,_) (by simp),h.r (1,_) (by simp)⟩
 obtain ⟨g0,g1⟩:=hg hp0
 have l0:=M5 g0
 have l1:=M5 g1
 refine P6 [0,1,2,3,5] 0 mo.procs.length (fun i f s=>f 6=.int .i64 (i:Int)/\s=s0/\∀q,q<i->mo.quiet q (nAt st.at' q)=false) (.mk rfl) (by omega) ⟨rfl,rfl,fun q h=>by omega⟩ ?_
 rintro i f s hi ⟨hE,rfl,hall⟩
 by_cases ci:i<mo.procs.length
 rotate_left
 ·have hF:=b30 (mo:=mo) (st:=st) fun q h=>hall q (by omega)
  have e:mo.ample st=mo.moves st:=by
   unfold Mo.ample
   rw [hF]
   simp
  refine zY (aN hE (aN ci (aN hal (aN g0 om)))) ?_
  rw [e]
  exact ⟨_,rfl,hfl⟩
 by_cases c2:st.hold=-1
 rotate_left
 ·have e:mo.ample st=mo.moves st:=by
   unfold Mo.ample
   rw [if_neg (by omega)]
  have c3:¬ st.hold<0:=by omega
  refine zY (aN hE (aN ci (aN hal (aN g0 (aN g1 (aN om (aN ox c3))))))) ?_
  rw [e]
  exact ⟨_,rfl,hfl⟩
 have c3:st.hold<0:=by omega
 have ci':i<st.at'.length:=by omega
 have hqb:=b3K hm ho hq hN hW (k:=nAt st.at' i) ci
 cases hqv:mo.quiet i (nAt st.at' i)
 ·rw [hqv] at hqb
  refine zY (aN hE (aN ci (aN ci' (aN hal (aN g0 (aN g1 (aN om (aN ox (aN fm (aN hxa (aN hqb c3))))))))))) ?_
  intro q hq'
  by_cases eq:q=i
  ·subst eq;exact hqv
  ·exact hall q (by omega)
 rw [hqv] at hqb
 have hF:=b1W ci hqv hall
 have e:mo.ample st=(mo.moves st).filter (isP i):=by
  unfold Mo.ample isP
  rw [hF,if_pos (by omega)]
 refine zY (aN hE (aN ci (aN ci' (aN hal (aN g0 (aN g1 (aN om (aN ox (aN fm (aN hxa (aN hqb (aN hfl c3)))))))))))) ?_
 refine P6 [0,1,2,3,4,5,6,21,31] 0 (mo.moves st).length (fun j f s=>f 8=.int .i64 (j:Int)/\∃E,Rp (f 7) 4 (U3 (((mo.moves st).take j).filter (isP i))) E/\Hp s E [(0,[m.dt,.int .i64 m.g,m.dc,m.dv,m.dp,m.ds,.bool m.b]),(1,[x.da,x.dv,x.dc,.int .i64 st.hold])]) (.mk rfl) (by omega) ⟨rfl,[],.inl ⟨rfl,rfl,rfl⟩,hp0⟩ ?_
 rintro j f s hj ⟨hE,E,hr,hp⟩
 by_cases cj:j<(mo.moves st).length
 rotate_left
 ·obtain rfl:j=(mo.moves st).length:=by omega
  rw [List.take_length] at hr
  obtain ⟨d',h1,h2⟩:=a2z hr hp (fun e h=>h) (a1Q _) (a3n _)
  refine zY (aN hE (aN cj h1)) ?_
  rw [e]
  exact ⟨_,rfl,h2⟩
 have hsu:=a4F (P:=isP i) cj
 by_cases k0:((O1 (mo.moves st) j).kind:Int)=0
 rotate_left
 ·have:isP i (O1 (mo.moves st) j)=false:=by
   unfold isP
   rw [decide_eq_false (by omega),Bool.false_and]
  rw [this,if_neg (by simp),List.append_nil] at hsu
  refine zY (aN hE (aN cj (aN hfl k0))) ?_
  rw [hsu]
  exact ⟨E,hr,hp⟩
 by_cases k1:(O1 (mo.moves st) j).proc=i
 rotate_left
 ·have:isP i (O1 (mo.moves st) j)=false:=by
   unfold isP
   rw [decide_eq_false k1,Bool.and_false]
  rw [this,if_neg (by simp),List.append_nil] at hsu
  refine zY (aN hE (aN cj (aN hfl (aN k0 k1)))) ?_
  rw [hsu]
  exact ⟨E,hr,hp⟩
 have:isP i (O1 (mo.moves st) j)=true:=by
  unfold isP
  rw [decide_eq_true (by omega),decide_eq_true k1]
  rfl
 rw [this,if_pos rfl] at hsu
 refine zY (aN hE (aN cj (aN hfl (aN k0 k1)))) ?_
 refine a1n (O1 (mo.moves st) j) ?_ hr hp (by decide) (by have:=a28 (l:=mo.moves st) (P:=isP i) (j:=j);omega) ?_
 ·unfold Mv.row
  rw [k0,k1]
 rintro d1 s1 E1 hr1 hp1
 refine zY (aN hE cj) ?_
 rw [hsu]
 exact ⟨E1,hr1,hp1⟩
theorem b4s (hm:MoF m mo ps) (ho:O4 mo) (hf:X8 mo) (hq:MoQ mo) (hN:MoN mo) (hW:MoW mo) (hx:Y8 mo x st):∃d,Eqc vfs 16 [.agg [m.dt,.int .i64 m.g,m.dc,m.dv,m.dp,m.ds,.bool m.b],.agg [x.da,x.dv,x.dc,.int .i64 st.hold]] d/\FL 4 d (U3 (mo.ample st)):=by
 obtain ⟨d,h1,h2⟩:=b66 hm ho hf hq hN hW hx
 exact ⟨d,P4 h1,h2⟩
end Go.Proofs.YtnjlhebkhjcagaaGreat
namespace Go.Proofs.YtnjlhebkhjcagaaGreat
open Go.V
set_option maxRecDepth 100000
set_option maxHeartbeats 4000000
variable {m:MdX} {mo:Mo} {ps:List (Pr×PrD)} {x:StD} {st:Stt}
theorem b2b {z:Int} (hx:Y8 mo x st) (h0:st.hold=-1) (hz:a0x z):a7d mo x { st with hold:=z } :=
 ⟨⟨hx.f.a,hx.f.v,hx.f.c⟩,⟨hx.e.v,hx.e.c⟩,by have:=hx.fit;cases st;simp only at h0;subst h0;exact this,hz⟩
theorem b6T {st:Stt} (hx:a7d mo x st) (hh:-1<=st.hold/\st.hold<(mo.procs.length:Int)):Y8 mo x st :=
 ⟨hx.f,hx.e,a3u.1 ((a3u.2 hx.fit).hd (z:=st.hold) hh)⟩
theorem b62 (hm:MoF m mo ps) (ho:O4 mo) {p k:Int} (hp:p<0∨(mo.procs.length:Int)<=p):Eqc vfs 18 [.agg [m.dt,.int .i64 m.g,m.dc,m.dv,m.dp,m.ds,.bool m.b],.int .i64 p,.int .i64 k] (.bool false):=by
 have om:=hm.ones
 refine P4 ?_
 by_cases c:p<0
 ·refine N4 (vf:=a2s) rfl ?_
  unfold a2s;refine zF ?_
  exact zZ (aN om c)
 ·have c2:(mo.procs.length:Int)<=p:=by omega
  refine N4 (vf:=a2s) rfl ?_
  unfold a2s;refine zF ?_
  exact zZ (aN om (aN c c2))
theorem c6k (hm:MoF m mo ps) (ho:O4 mo) {p:Nat} (hp:p<mo.procs.length):Eqc vfs 18 [.agg [m.dt,.int .i64 m.g,m.dc,m.dv,m.dp,m.ds,.bool m.b],.int .i64 (p:Int),.int .i64 (-1)] (.bool false):=by
 have om:=hm.ones
 have c1:¬ mo.procs.length<=p:=by omega
 refine P4 ?_
 refine N4 (vf:=a2s) rfl ?_
 unfold a2s;refine zF ?_
 exact zZ (aN om c1)
theorem c38 (hm:MoF m mo ps) (ho:O4 mo) {p k:Int} (hp:p<0∨(mo.procs.length:Int)<=p):Eqc vfs 19 [.agg [m.dt,.int .i64 m.g,m.dc,m.dv,m.dp,m.ds,.bool m.b],.int .i64 p,.int .i64 k] (.bool false):=by
 have om:=hm.ones
 refine P4 ?_
 by_cases c:p<0
 ·refine N4 (vf:=a3e) rfl ?_
  unfold a3e;refine zF ?_
  exact zZ (aN om c)
 ·have c2:(mo.procs.length:Int)<=p:=by omega
  refine N4 (vf:=a3e) rfl ?_
  unfold a3e;refine zF ?_
  exact zZ (aN om (aN c c2))
theorem c4K (hm:MoF m mo ps) (ho:O4 mo) {p:Nat} (hp:p<mo.procs.length):Eqc vfs 19 [.agg [m.dt,.int .i64 m.g,m.dc,m.dv,m.dp,m.ds,.bool m.b],.int .i64 (p:Int),.int .i64 (-1)] (.bool false):=by
 have om:=hm.ones
 have hel:=(ho.pr _ (a0h hp)).el
 have hle:=b0I hm hp
 have c1:¬ mo.procs.length<=p:=by omega
 refine P4 ?_
 refine N4 (vf:=a3e) rfl ?_
 unfold a3e;refine zF ?_
 refine zY (aN om (aN hp c1)) ?_
 have hp0:Hp (((f6.empty.push (.cells [m.dt,.int .i64 m.g,m.dc,m.dv,m.dp,m.ds,.bool m.b])).push (.cells [.str (bs []),.int .i64 0,.nils,.int .i64 0,.nils,.nils,.nils,.nils])).set 1 (some (.cells [.str (pAt mo.procs p).name,.int .i64 ((pAt mo.procs p).copy:Int),(prX ps p).dl,.int .i64 ((pAt mo.procs p).places:Int),(prX ps p).dr,(prX ps p).de,(prX ps p).dn,(prX ps p).dv]))) [] [(0,[m.dt,.int .i64 m.g,m.dc,m.dv,m.dp,m.ds,.bool m.b]),(1,[.str (pAt mo.procs p).name,.int .i64 ((pAt mo.procs p).copy:Int),(prX ps p).dl,.int .i64 ((pAt mo.procs p).places:Int),(prX ps p).dr,(prX ps p).de,(prX ps p).dn,(prX ps p).dv])]:=⟨List.nodup_nil,by simp,by simp [Has],by
  intro y hy
  simp only [List.mem_cons,List.not_mem_nil,or_false] at hy
  rcases hy with rfl | rfl
  ·exact zZ0
  ·simp (disch:=(first|exact Rf.mk rfl|with_reducible assumption|omega|((repeat (first|rw [nP]|rw [nS]|rw [M7]))<;>omega)|decide)) only [go_sem,↓reduceIte]⟩
 generalize ((f6.empty.push (.cells [m.dt,.int .i64 m.g,m.dc,m.dv,m.dp,m.ds,.bool m.b])).push (.cells [.str (bs []),.int .i64 0,.nils,.int .i64 0,.nils,.nils,.nils,.nils])).set 1 (some (.cells [.str (pAt mo.procs p).name,.int .i64 ((pAt mo.procs p).copy:Int),(prX ps p).dl,.int .i64 ((pAt mo.procs p).places:Int),(prX ps p).dr,(prX ps p).de,(prX ps p).dn,(prX ps p).dv]))=s0 at *
 have g0:s0.get 0=some (.cells [m.dt,.int .i64 m.g,m.dc,m.dv,m.dp,m.ds,.bool m.b]):=hp0.r (0,_) (by simp)
 have g1:s0.get 1=some (.cells [.str (pAt mo.procs p).name,.int .i64 ((pAt mo.procs p).copy:Int),(prX ps p).dl,.int .i64 ((pAt mo.procs p).places:Int),(prX ps p).dr,(prX ps p).de,(prX ps p).dn,(prX ps p).dv]):=hp0.r (1,_) (by simp)
 refine P6 [0,1,2,3,7,23] 0 (pAt mo.procs p).edges.length (fun j f s=>f 12=.int .i64 (j:Int)/\f 8=.int .i64 0/\f 9=.int .i64 0/\s.get 0=some (.cells [m.dt,.int .i64 m.g,m.dc,m.dv,m.dp,m.ds,.bool m.b])/\s.get 1=some (.cells [.str (pAt mo.procs p).name,.int .i64 ((pAt mo.procs p).copy:Int),(prX ps p).dl,.int .i64 ((pAt mo.procs p).places:Int),(prX ps p).dr,(prX ps p).de,(prX ps p).dn,(prX ps p).dv])) (.mk rfl) (by omega) ⟨rfl,rfl,rfl,g0,g1⟩ ?_
 clear g0 g1 hp0
 rintro j f s hj ⟨hE,h8,h9,g0,g1⟩
 have l0:=M5 g0
 have l1:=M5 g1
 by_cases cj:j<(pAt mo.procs p).edges.length
 rotate_left
 ·obtain rfl:j=(pAt mo.procs p).edges.length:=by omega
  exact zZ (aN hE (aN h8 (aN h9 (aN om (aN g0 (aN g1 hle))))))
 have cf:¬ ((eAt (pAt mo.procs p).edges j).frm:Int)=-1:=by omega
 exact zZ (aN hE (aN h8 (aN h9 (aN om (aN g0 (aN g1 (aN cj cf)))))))
theorem a9f:PZ (.agg [.nils,.nils,.nils,.int .i64 0]):=a4h fun d hd=>by
 simp only [List.mem_cons,List.not_mem_nil,or_false] at hd
 rcases hd with rfl | rfl | rfl | rfl<;>exact ⟨rfl,fun _ _=>rfl⟩
theorem c00 (hm:MoF m mo ps):Eqc vfs 51 [.agg [m.dt,.int .i64 m.g,m.dc,m.dv,m.dp,m.ds,.bool m.b],.agg [.nils,.nils,.nils,.int .i64 0]] (.bool false):=by
 have om:=hm.ones
 have hmv:=hm.v
 have hmc:=hm.c
 refine P4 ?_
 by_cases c1:mo.procs.length=0
 rotate_left
 ·have c1':¬ (0:Int)=(mo.procs.length:Int):=by omega
  have c1'':¬ 0=mo.procs.length:=by omega
  refine N4 (vf:=a2x) rfl ?_
  unfold a2x;refine zF ?_
  exact zZ (aN om (aN c1' c1''))
 by_cases c2:mo.vars.length=0
 rotate_left
 ·have c2':¬ (0:Int)=(mo.vars.length:Int):=by omega
  have c2'':¬ 0=mo.vars.length:=by omega
  refine N4 (vf:=a2x) rfl ?_
  unfold a2x;refine zF ?_
  exact zZ (aN om (aN c1 (aN c2' c2'')))
 by_cases c3:mo.chans.length=0
 rotate_left
 ·have c3':¬ (0:Int)=(mo.chans.length:Int):=by omega
  have c3'':¬ 0=mo.chans.length:=by omega
  refine N4 (vf:=a2x) rfl ?_
  unfold a2x;refine zF ?_
  exact zZ (aN om (aN c1 (aN c2 (aN c3' c3''))))
 refine N4 (vf:=a2x) rfl ?_
 unfold a2x;refine zF ?_
 refine zY (aN om (aN c1 (aN c2 c3))) ?_
 have g0:((f6.empty.push (.cells [m.dt,.int .i64 m.g,m.dc,m.dv,m.dp,m.ds,.bool m.b])).push (.cells [.nils,.nils,.nils,.int .i64 0])).get 0=some (.cells [m.dt,.int .i64 m.g,m.dc,m.dv,m.dp,m.ds,.bool m.b]):=by simp (disch:=(first|exact Rf.mk rfl|with_reducible assumption|omega|((repeat (first|rw [nP]|rw [nS]|rw [M7]))<;>omega)|decide)) only [go_sem,↓reduceIte]
 have g1:((f6.empty.push (.cells [m.dt,.int .i64 m.g,m.dc,m.dv,m.dp,m.ds,.bool m.b])).push (.cells [.nils,.nils,.nils,.int .i64 0])).get 1=some (.cells [.nils,.nils,.nils,.int .i64 0]):=by simp (disch:=(first|exact Rf.mk rfl|with_reducible assumption|omega|((repeat (first|rw [nP]|rw [nS]|rw [M7]))<;>omega)|decide)) only [go_sem,↓reduceIte]
 generalize (f6.empty.push (.cells [m.dt,.int .i64 m.g,m.dc,m.dv,m.dp,m.ds,.bool m.b])).push (.cells [.nils,.nils,.nils,.int .i64 0])=s0 at *
 refine P6 [0,1,2,3,7,8,9,10,11,12,37,39,40,60,61,62,63,75,78,79,80,81,100] 0 0 (fun i f s=>f 41=.int .i64 (i:Int)/\s=s0) (.mk rfl) (by omega) ⟨rfl,rfl⟩ ?_
 rintro i f s hi ⟨hE,rfl⟩
 obtain rfl:i=0:=by omega
 refine zY (aN hE (aN g0 (aN g1 om))) ?_
 refine P6 [0,1,2,3,5,6,9,10,11,12,37,39,40,41,42,57,60,61,78,79,80,81,100] 0 0 (fun i f s'=>f 62=.int .i64 (i:Int)/\s'=s) (.mk rfl) (by omega) ⟨rfl,rfl⟩ ?_
 clear hi hE
 rintro i f s hi ⟨hE,rfl⟩
 obtain rfl:i=0:=by omega
 refine zY (aN hE (aN g0 (aN g1 om))) ?_
 refine P6 [0,1,2,3,5,6,7,8,37,39,40,41,42,57,60,61,62,63,75,78,79] 0 0 (fun i f s'=>f 80=.int .i64 (i:Int)/\s'=s) (.mk rfl) (by omega) ⟨rfl,rfl⟩ ?_
 clear hi hE
 rintro i f s hi ⟨hE,rfl⟩
 obtain rfl:i=0:=by omega
 exact zZ (aN hE (aN g0 (aN g1 (aN om c1))))
theorem c3Z (hm:MoF m mo ps):Eqc vfs 39 [.agg [m.dt,.int .i64 m.g,m.dc,m.dv,m.dp,m.ds,.bool m.b],.agg [.nils,.nils,.nils,.int .i64 0]] .nils:=by
 have om:=hm.ones
 have fm:=a0L hm
 have fe:=a9f
 have hf:=c00 hm
 refine P4 ?_
 refine N4 (vf:=a5t) rfl ?_
 unfold a5t;refine zF ?_
 exact zZ (aN om (aN fm (aN fe hf)))
theorem c5f (hm:MoF m mo ps):Eqc vfs 14 [.agg [m.dt,.int .i64 m.g,m.dc,m.dv,m.dp,m.ds,.bool m.b],.agg [.nils,.nils,.nils,.int .i64 0]] .nils:=by
 have om:=hm.ones
 have fm:=a0L hm
 have fe:=a9f
 have hf:=c3Z hm
 refine P4 ?_
 refine N4 (vf:=a3g) rfl ?_
 unfold a3g;refine zF ?_
 exact zZ (aN om (aN fm (aN fe hf)))
end Go.Proofs.YtnjlhebkhjcagaaGreat
namespace Go.V
variable {mo:Mo} {st:Stt}
theorem a4j.put {s S:f6} {n n' a v:Nat} {dC:D} {ids:List Nat} (h:a4j s n a v dC ids st) {A:List Nat} {V:List Int} {hd:Int} (hn:n'<=n)
 (ga:S.get a=some (.cells (W3 A))) (gv:S.get v=some (.cells (S4 V))) (hq:∀j,n<=j->j<s.next->j≠a->j≠v->S.get j=s.get j):a4j S n' a v dC ids ⟨A,V,st.chans,hd⟩:=by
 refine ⟨h.len,ga,gv,?_,fun j hj=>?_,h.inj,h.av,Nat.le_trans hn h.na,Nat.le_trans hn h.nv⟩
 ·rcases h.gc with h | ⟨c,h1,h2,h3,h4,h5,h6⟩
  ·exact .inl h
  ·exact .inr ⟨c,h1,by rw [hq c h3 (M5 h2) h4 h5];exact h2,Nat.le_trans hn h3,h4,h5,h6⟩
 ·obtain ⟨h1,h2,h3,h4⟩:=h.gq j hj
  exact ⟨by rw [hq _ h2 (M5 h1) h3 h4];exact h1,Nat.le_trans hn h2,h3,h4⟩
theorem c3Q (hs:a9V mo) (ho:O4 mo) {i:Nat} (h:mo.quiet i (nAt st.at' i)=true) (hh:st.hold=-1):∃v∈mo.moves st,v.kind=0/\v.proc=i:=by
 obtain ⟨e,he,hk,hc⟩:=hs i st h
 obtain ⟨v,v1,v2,v3,_⟩:=c5K (b3j ho h).lt he hc (by omega)
 exact ⟨v,v1,v2,v3⟩
end Go.V
namespace Go.Proofs.YtnjlhebkhjcagaaGreat
open Go.V
set_option maxRecDepth 100000
set_option maxHeartbeats 4000000
variable {m:MdX} {mo:Mo} {ps:List (Pr×PrD)} {x:StD} {st:Stt}
theorem c27 (hm:MoF m mo ps) (ho:O4 mo) (hq:MoQ mo) (hN:MoN mo) (hW:MoW mo) {p k:Int} (h1:-1<=p) (h2:-1<=k):∃b,Eqc vfs 18 [.agg [m.dt,.int .i64 m.g,m.dc,m.dv,m.dp,m.ds,.bool m.b],.int .i64 p,.int .i64 k] (.bool b)/\Eqc vfs 19 [.agg [m.dt,.int .i64 m.g,m.dc,m.dv,m.dp,m.ds,.bool m.b],.int .i64 p,.int .i64 k] (.bool b):=by
 by_cases c:p<0∨(mo.procs.length:Int)<=p
 ·exact ⟨false,b62 hm ho c,c38 hm ho c⟩
 obtain ⟨q,rfl⟩:∃q:Nat,p=(q:Int):=⟨p.toNat,by omega⟩
 by_cases c2:k=-1
 ·subst c2
  exact ⟨false,c6k hm ho (by omega),c4K hm ho (by omega)⟩
 obtain ⟨n,rfl⟩:∃n:Nat,k=(n:Int):=⟨k.toNat,by omega⟩
 exact ⟨mo.quiet q n,b5y hm ho hq (by omega),b3K hm ho hq hN hW (by omega)⟩
theorem b7g (ho:O4 mo) (hs:a9V mo) (hh:-1<=st.hold):(mo.ample st).length=0↔(mo.moves st).length=0:=by
 constructor
 ·intro h
  rcases a9i mo st with e | ⟨i,h0,_,hqi,e⟩
  ·rw [<- e];exact h
  ·obtain ⟨v,hv,h1,h2⟩:=c3Q hs ho hqi (by omega)
   have:v∈mo.ample st:=by
    rw [e,List.mem_filter]
    refine ⟨hv,?_⟩
    unfold isP
    rw [decide_eq_true h1,decide_eq_true h2];rfl
   rw [List.length_eq_zero_iff] at h
   rw [h] at this
   cases this
 ·intro h
  rw [List.length_eq_zero_iff] at h ⊢
  rw [List.eq_nil_iff_forall_not_mem]
  intro v hv
  have:=a7t hv
  rw [h] at this
  cases this
theorem c0h {d0 d1:D} {t:List Nd} {raw:List Int} (hT:N7 d0 t) (hd:FI d1 raw) (hraw:∀n∈raw,a0x n):EvP vfs 3 [d0,d1] f6.empty fun r _=>r=.bool true:=by
 have haw:Eqc vfs 11 [] (.bool true):=a2e c0z rfl
 have pT:PZ d0:=hT.fl.pz
 have pd:=a9l hd
 have oT:=FL.one hT.fl
 have od:=FL.one hd
 obtain ⟨d',h1,h2⟩:=c2m hT
 by_cases hl:(60:Int)<(raw.length:Int)
 ·refine Y4 (vf:=vf3) rfl ?_
  unfold vf3;refine zF ?_
  refine zY (aN haw (aN hd hl)) ?_
  exact rfl
 rcases h2 with rfl | ⟨m,ps,rfl,hR,hS,hY,hm⟩
 ·refine Y4 (vf:=vf3) rfl ?_
  unfold vf3;refine zF ?_
  refine zY (aN haw (aN hd (aN hl (aN h1 pT)))) ?_
  exact rfl
 have ho:=b50 hR hS hY
 have hf:=b1o hR hY
 have hq:=b3C hR hS
 have hN:=b3B hR hS
 have hW:=b3N hR
 have hQ:=b7t hR hS ho
 generalize S1 t=mo at *
 have om:=hm.ones
 have fm:=a0L hm
 have hnp:=ho.np
 obtain ⟨x,st,hh,hx,hold⟩:=b4a hm ho hf hd hraw
 have fx:=a1E hx.f
 have ox:=hx.f.ones
 unfold N8 at h1
 refine Y4 (vf:=vf3) rfl ?_
 unfold vf3;refine zF ?_
 refine zY (aN haw (aN hd (aN hl (aN h1 (aN pT (aN pd (aN om (aN ox (aN fm (aN fx hh)))))))))) ?_
 have hp0:Hp ((((f6.empty.push (.cells [.nils,.int .i64 0,.nils,.nils,.nils,.nils,.bool false])).set 0 (some (.cells [m.dt,.int .i64 m.g,m.dc,m.dv,m.dp,m.ds,.bool m.b]))).push (.cells [.nils,.nils,.nils,.int .i64 0])).set 1 (some (.cells [x.da,x.dv,x.dc,.int .i64 st.hold]))) [] [(0,[m.dt,.int .i64 m.g,m.dc,m.dv,m.dp,m.ds,.bool m.b]),(1,[x.da,x.dv,x.dc,.int .i64 st.hold])]:=⟨List.nodup_nil,by simp,by simp [Has],by
  intro y hy
  simp only [List.mem_cons,List.not_mem_nil,or_false] at hy
  rcases hy with rfl | rfl
  ·exact zZ0
  ·simp (disch:=(first|exact Rf.mk rfl|with_reducible assumption|omega|((repeat (first|rw [nP]|rw [nS]|rw [M7]))<;>omega)|decide)) only [go_sem,↓reduceIte]⟩
 generalize (((f6.empty.push (.cells [.nils,.int .i64 0,.nils,.nils,.nils,.nils,.bool false])).set 0 (some (.cells [m.dt,.int .i64 m.g,m.dc,m.dv,m.dp,m.ds,.bool m.b]))).push (.cells [.nils,.nils,.nils,.int .i64 0])).set 1 (some (.cells [x.da,x.dv,x.dc,.int .i64 st.hold]))=s0 at *
 have g0:s0.get 0=some (.cells [m.dt,.int .i64 m.g,m.dc,m.dv,m.dp,m.ds,.bool m.b]):=hp0.r (0,_) (by simp)
 have g1:s0.get 1=some (.cells [x.da,x.dv,x.dc,.int .i64 st.hold]):=hp0.r (1,_) (by simp)
 clear hp0
 refine a0K [0,1,5,6,7,10,11,18,26,63,67,78] (fun f s=>s.get 0=some (.cells [m.dt,.int .i64 m.g,m.dc,m.dv,m.dp,m.ds,.bool m.b])) ?_ ?_
 ·refine P6 [0,1,5,6,7,10,11,18,26,63,67,78] 0 (mo.procs.length+1) (fun i f s=>f 8=.int .i64 ((i:Int)-1)/\s.get 0=some (.cells [m.dt,.int .i64 m.g,m.dc,m.dv,m.dp,m.ds,.bool m.b])/\∃z,s.get 1=some (.cells [x.da,x.dv,x.dc,.int .i64 z])) (.mk rfl) (by omega) ⟨rfl,g0,_,g1⟩ ?_
  clear g0 g1
  rintro i f s hi ⟨hE,g0,z,g1⟩
  have l0:=M5 g0
  have l1:=M5 g1
  have e1:((i:Int)-1<(mo.procs.length:Int))=(i<mo.procs.length+1):=by apply propext;omega
  have e2:IntKind.i64.wrap ((i:Int)-1+1)=((i+1:Nat):Int)-1:=by rw [O6 (by omega) (by omega)];omega
  by_cases ci:i<mo.procs.length+1
  rotate_left
  ·exact zZ (aN hE (aN g0 (aN om (aN e1 ci))))
  have hnh:=b2b (z:=(i:Int)-1) hx hold ⟨by omega,by omega⟩
  have hgd:=b6T hnh ⟨by simp only;omega,by simp only;omega⟩
  have fx2:=a1E hnh.f
  have hml:=a35 ho (st:={ st with hold:=(i:Int)-1 })
  have hsub:=b7g (st:={ st with hold:=(i:Int)-1 }) ho hQ (by simp only;omega)
  obtain ⟨da,ha1,ha2⟩:=a8k hm ho hgd
  have ha1:=P4 ha1
  obtain ⟨ds,hs1,hs2⟩:=b1D hm ho hf hq hgd
  obtain ⟨dr,hr1,hr2⟩:=b4s hm ho hf hq hN hW hgd
  have hal:(mo.ample { st with hold:=(i:Int)-1 }).length<=1000000:=by
   have:(mo.ample { st with hold:=(i:Int)-1 }).length<=(mo.moves { st with hold:=(i:Int)-1 }).length:=by
    rcases a9i mo { st with hold:=(i:Int)-1 } with e | ⟨_,_,_,_,e⟩
    ·rw [e];exact Nat.le_refl _
    ·rw [e];exact List.length_filter_le _ _
   omega
  have hsm:=b1U hs2 hr2 hal
  rw [decide_eq_true rfl] at hsm
  have ps1:=FL.pz hs2
  have pr1:=FL.pz hr2
  by_cases c0:(mo.moves { st with hold:=(i:Int)-1 }).length=0
  ·have c1:=hsub.2 c0
   simp (disch:=(first|exact Rf.mk rfl|with_reducible assumption|omega|((repeat (first|rw [nP]|rw [nS]|rw [M7]))<;>omega)|decide)) only [go_sem,↓reduceIte,hE,g0,g1,om,ox,e1,e2,ci,fm,fx2,ha1,ha2,hs1,hs2,hr1,hr2,hsm,ps1,pr1,c0,c1]
   exact ⟨_,rfl⟩
  ·have c1:¬ (mo.ample { st with hold:=(i:Int)-1 }).length=0:=fun h=>c0 (hsub.1 h)
   simp (disch:=(first|exact Rf.mk rfl|with_reducible assumption|omega|((repeat (first|rw [nP]|rw [nS]|rw [M7]))<;>omega)|decide)) only [go_sem,↓reduceIte,hE,g0,g1,om,ox,e1,e2,ci,fm,fx2,ha1,ha2,hs1,hs2,hr1,hr2,hsm,ps1,pr1,c0,c1]
   exact ⟨_,rfl⟩
 clear g0 g1
 rintro f s g0
 have l0:=M5 g0
 refine zY g0 ?_
 refine a0K [0,1,5,6,7,8,9,18,26,34,58] (fun f s=>s.get 0=some (.cells [m.dt,.int .i64 m.g,m.dc,m.dv,m.dp,m.ds,.bool m.b])) ?_ ?_
 ·refine P6 [0,1,5,6,7,8,9,18,26,34,58] 0 (mo.procs.length+2) (fun i f s=>f 10=.int .i64 ((i:Int)-1)/\s.get 0=some (.cells [m.dt,.int .i64 m.g,m.dc,m.dv,m.dp,m.ds,.bool m.b])) (.mk rfl) (by omega) ⟨rfl,g0⟩ ?_
  clear g0 l0
  rintro i f s hi ⟨hE,g0⟩
  have l0:=M5 g0
  have e1:((i:Int)-1<=(mo.procs.length:Int))=(i<mo.procs.length+2):=by apply propext;omega
  have e2:IntKind.i64.wrap ((i:Int)-1+1)=((i+1:Nat):Int)-1:=by rw [O6 (by omega) (by omega)];omega
  by_cases ci:i<mo.procs.length+2
  rotate_left
  ·exact zZ (aN hE (aN g0 (aN om (aN e1 ci))))
  refine zY (aN hE (aN g0 (aN om (aN e1 ci)))) ?_
  refine P6 [0,1,5,6,7,8,9,10,18,26,34,58,63] 0 32 (fun j f s=>f 11=.int .i64 ((j:Int)-1)/\s.get 0=some (.cells [m.dt,.int .i64 m.g,m.dc,m.dv,m.dp,m.ds,.bool m.b])) (.mk rfl) (by omega) ⟨rfl,g0⟩ ?_
  clear g0 l0
  rintro j f s hj ⟨hJ,g0⟩
  have l0:=M5 g0
  have e3:((j:Int)-1<=30)=(j<32):=by apply propext;omega
  have e4:IntKind.i64.wrap ((j:Int)-1+1)=((j+1:Nat):Int)-1:=by rw [O6 (by omega) (by omega)];omega
  by_cases cj:j<32
  rotate_left
  ·refine zY (aN hE (aN hJ (aN g0 (aN om (aN e2 (aN e3 cj)))))) ?_
   exact ci
  obtain ⟨b,hb1,hb2⟩:=c27 hm ho hq hN hW (p:=(i:Int)-1) (k:=(j:Int)-1) (by omega) (by omega)
  cases b<;>simp (disch:=(first|exact Rf.mk rfl|with_reducible assumption|omega|((repeat (first|rw [nP]|rw [nS]|rw [M7]))<;>omega)|decide)) only [go_sem,↓reduceIte,hE,hJ,g0,om,fm,e3,e4,cj,hb1,hb2]
 rintro f s g0
 have hnl:=c5f hm
 have pz0:=a9f
 refine zY (aN g0 (aN om (aN fm (aN hnl pz0)))) ?_
 exact rfl
theorem c65 {d0 d1:D} (h0:a3V Ty.tree d0) (h1:a3V (.slice 1 (.int .i64)) d1):EvP vfs 3 [d0,d1] f6.empty fun r _=>r=.bool true:=by
 obtain ⟨t,hT⟩:=b2x h0
 obtain ⟨l,hl,hn,hi⟩:=b5J h1
 exact c0h hT hl hi
end Go.Proofs.YtnjlhebkhjcagaaGreat
