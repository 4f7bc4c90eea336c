/- Texts one behind the other. -/
import Derived.Test.YtnjlhebkhjcagaaGreatZ6
import Derived.Test.YtnjlhebkhjcagaaGreatZ5
set_option linter.unusedSimpArgs false
set_option linter.unusedVariables false
namespace Go.V
theorem Y4.pw {t:List Nd}:∀ {ks:List Int} {a n:Nat},Y4 t ks a n->ks.Pairwise (·<·)
 | [],a,n,h=>List.Pairwise.nil
 | k::ks,a,n,h=>by
   obtain ⟨rfl,b,h1,h2⟩:=h
   refine List.pairwise_cons.2 ⟨fun x hx=>?_,h2.pw⟩
   have:=h2.mem x hx
   have:=h1.lt
   omega
theorem b2e {t:List Nd} (h:N6 t):(nd t 0).ks.Pairwise (·<·):=by
 unfold Nd.ks
 rw [List.pairwise_map]
 refine List.Pairwise.imp_of_mem ?_ h.subs.pw
 intro a b ha hb hab
 have:=h.subs.mem a ha
 have:=h.subs.mem b hb
 omega
theorem b5T (t:List Nd):∀ (l:List Nat) (a:Ga),(l.foldl (one1 t) a).ch=a.ch++(l.filter fun k=>(nd t k).kind==1).map fun k=>a3x (nd t k)
 | [],a=>by simp
 | k::l,a=>by
   rw [List.foldl_cons,b5T t l]
   unfold one1
   by_cases c1:(nd t k).kind=1
   ·simp [c1]
   rw [if_neg c1]
   have e:((nd t k).kind==1)=false:=by simpa using c1
   rw [List.filter_cons,e]
   repeat' split
   all_goals simp_all
theorem b5g (t:List Nd):∀ (l:List Nat) (a:Ga),(l.foldl (one1 t) a).vs=a.vs++(l.filter fun k=>(nd t k).kind==2).map fun k=>a1o (nd t k)
 | [],a=>by simp
 | k::l,a=>by
   rw [List.foldl_cons,b5g t l]
   unfold one1
   by_cases c2:(nd t k).kind=2
   ·simp [c2]
   have e:((nd t k).kind==2)=false:=by simpa using c2
   rw [List.filter_cons,e]
   repeat' split
   all_goals simp_all
theorem b4X {t:List Nd} (hS:a0s t) {kind:Int} (hk:kind=1∨kind=2) {l:List Nat} (hp:l.Pairwise (·<·)) (hl:∀k∈l,k<t.length/\(nd t k).kind=kind) (hs:∀i∈l,∀j∈l,i<j->item t i=i∨item t i=item t j):(l.map fun k=>(nd t k).word 0).Nodup:=by
 unfold List.Nodup
 rw [List.pairwise_map]
 refine List.Pairwise.imp_of_mem ?_ hp
 intro i j hi hj hij e
 obtain ⟨h1,h2⟩:=hl j hj
 have ho:=hS.once j h1 (by omega)
 have:a03 t kind j ((nd t j).word 0):=⟨i,hij,(hl i hi).2,hs i hi j hj hij,e⟩
 rcases hk with rfl | rfl
 ·exact ho.1 this
 ·exact ho.2.1 this
theorem a9U {t:List Nd} (h:N6 t) {k:Nat} (hk:k∈(nd t 0).ks):k<t.length:=by
 obtain ⟨z,hz,rfl⟩:=List.mem_map.1 hk
 have:=h.subs.mem z hz
 omega
theorem b1m {t:List Nd} (h:N6 t) {k:Nat} (hk:k∈(nd t 0).ks):item t k=k:=a3M h (a4C h hk)
theorem c1T {t:List Nd} (h:N6 t) (hS:a0s t):(chs t).Nodup:=by
 have e:chs t=((nd t 0).ks.filter fun k=>(nd t k).kind==1).map fun k=>(nd t k).word 0:=by
  unfold chs gat U8
  rw [b5T]
  simp [a3x]
 rw [e]
 refine b4X hS (.inl rfl) ((b2e h).filter _) (fun k hk=>?_) fun i hi j hj _=>.inl ?_
 ·obtain ⟨h1,h2⟩:=List.mem_filter.1 hk
  exact ⟨a9U h h1,by simpa using h2⟩
 ·exact b1m h (List.mem_filter.1 hi).1
def a5i (t:List Nd):Nat->Nat->List Nat
 | 0,_=>[]
 | n+1,k=>k::(nd t k).ks.flatMap (a5i t n)
theorem b5P {α β γ:Type} {g:γ->β->γ} {e:α->List β}:∀ {l:List α} {a:γ},(l.flatMap e).foldl g a=l.foldl (fun a x=>(e x).foldl g a) a
 | [],a=>rfl
 | x::l,a=>by
   rw [List.flatMap_cons,List.foldl_append,List.foldl_cons,b5P]
theorem b6j {t:List Nd} {ch:List ByteArray} {vb:ByteArray->Nat}:∀ (n k:Nat) (f:Ft),(a5i t n k).foldl (fun f j=>S8 ch vb (nd t j) f) f=Y8 t ch vb n k f
 | 0,k,f=>rfl
 | n+1,k,f=>by
   unfold a5i Y8
   rw [List.foldl_cons,b5P]
   congr 1
   funext f c
   exact b6j n c f
theorem c4L {t:List Nd} (h:N6 t) (hS:a0s t) {o:Org} (ho:o∈T8 t):(pr1 t o).names.Nodup:=by
 have hok:=a2G ho
 obtain ⟨i,hi,hki,hseen⟩:=hok.at'
 have hkm:o.k∈(nd t 0).ks:=by rw [<- hki];exact List.getElem_mem hi
 have hlt:=a9U h hkm
 have hpc:=a4u ((h.ok.node o.k hlt).proc hok.kind)
 have hpw:=b2e h
 -- the list of nodes
 have eg:((gat t).vs.take o.seen).map Vr.name=(((nd t 0).ks.take i).filter fun k=>(nd t k).kind==2).map fun k=>(nd t k).word 0:=by
  obtain ⟨r,hr⟩:=a7j t ((nd t 0).ks.take i) ((nd t 0).ks.drop i)
  rw [List.take_append_drop] at hr
  unfold gat
  rw [hr,hseen,List.take_left']
  ·unfold U8
   rw [b5g]
   simp [a1o]
  ·rfl
 have el:(W0 t (nd t o.k)).map (fun y=>y.word 0)=((List.range (N4 t (nd t o.k))).map (o.k+1+·)).map fun k=>(nd t k).word 0:=by
  refine List.ext_getElem (by simp) fun j h1 h2=>?_
  have hj:j<N4 t (nd t o.k):=by simpa using h1
  have hla:=a6O h hkm hj
  have hle:=a4R t (nd t o.k)
  simp only [W0,List.getElem_map,List.getElem_take,List.getElem_range]
  congr 2
  rw [<- hla]
  unfold Nd.kid Nd.ks
  simp [List.getD,show j<(nd t o.k).kids.length by simpa [Nd.ks] using (Nat.lt_of_lt_of_le hj hle)]
 show (((gat t).vs.take o.seen).map Vr.name++(W0 t (nd t o.k)).map (fun y=>y.word 0)).Nodup
 rw [eg,el,<- List.map_append]
 have hg:∀k∈((nd t 0).ks.take i).filter (fun k=>(nd t k).kind==2),k∈(nd t 0).ks/\(nd t k).kind=2/\k<o.k:=fun k hk=>by
  obtain ⟨h1,h2⟩:=List.mem_filter.1 hk
  obtain ⟨j,hj,rfl⟩:=List.getElem_of_mem h1
  rw [List.length_take] at hj
  rw [List.getElem_take]
  refine ⟨List.getElem_mem _,by simpa [List.getElem_take] using h2,?_⟩
  rw [<- hki]
  exact List.pairwise_iff_getElem.1 hpw j i (by omega) hi (by omega)
 obtain ⟨b,b1,hsub,k2,_,hsg⟩:=a5y h hS ho
 have hloc:∀k∈(List.range (N4 t (nd t o.k))).map (o.k+1+·),k<t.length/\(nd t k).kind=2/\item t k=o.k/\o.k<k:=fun k hk=>by
  obtain ⟨j,hj,rfl⟩:=List.mem_map.1 hk
  have hj:=List.mem_range.1 hj
  have hla:=a6O h hkm hj
  have hle:=a4R t (nd t o.k)
  have hjk:j<(nd t o.k).ks.length:=Nat.lt_of_lt_of_le hj hle
  have e1:(nd t o.k).ks[j]=o.k+1+j:=by
   rw [<- hla]
   unfold Nd.kid Nd.ks
   simp [List.getD,show j<(nd t o.k).kids.length by simpa [Nd.ks] using hjk]
   exact List.getElem_map Int.toNat
  have hin:=a5j hj hjk
  rw [e1] at hin
  have hm:(nd t o.k).ks[j]∈(nd t o.k).ks:=List.getElem_mem hjk
  rw [e1] at hm
  have hl:=h.ok.ks hlt _ hm
  refine ⟨hl.2,hin,?_,by omega⟩
  have hd:o.k+1+j<b:=by
   obtain ⟨z,hz,hzk⟩:=List.mem_map.1 hm
   have:=hsub.down o.k (Nat.le_refl _) hsub.lt z hz
   omega
  exact a3v h hkm hsub _ (by omega) hd
 refine b4X hS (.inr rfl) (List.pairwise_append.2 ⟨(hpw.sublist (List.take_sublist _ _)).filter _,?_,fun x hx y hy=>?_⟩) (fun k hk=>?_) fun x hx y hy hxy=>?_
 ·rw [List.pairwise_map]
  exact List.Pairwise.imp (fun h=>by omega) List.pairwise_lt_range
 ·have:=(hg x hx).2.2
  have:=(hloc y hy).2.2.2
  omega
 ·rcases List.mem_append.1 hk with hk | hk
  ·exact ⟨a9U h (hg k hk).1,(hg k hk).2.1⟩
  ·exact ⟨(hloc k hk).1,(hloc k hk).2.1⟩
 ·rcases List.mem_append.1 hx with hx | hx
  ·exact .inl (b1m h (hg x hx).1)
  ·rcases List.mem_append.1 hy with hy | hy
   ·have:=(hg y hy).2.2
    have:=(hloc x hx).2.2.2
    omega
   ·exact .inr (by rw [(hloc x hx).2.2.1,(hloc y hy).2.2.1])
structure MoN (mo:Mo):Prop where
 ch:mo.ch.Nodup
 nm:∀i,i<mo.procs.length->(pAt mo.procs i).names.Nodup
theorem b2t {t:List Nd} (h:N6 t) (hS:a0s t):MoN (S5 t):=by
 refine ⟨c1T h hS,fun i hi=>?_⟩
 have e:(S5 t).procs=(T8 t).map (a0j t):=(a3z t).1
 have hi':i<(T8 t).length:=by rw [e,List.length_map] at hi;exact hi
 have ep:pAt (S5 t).procs i=a0j t (T8 t)[i]:=by rw [a19 hi];simp [e]
 have ho:=List.getElem_mem hi'
 rw [ep,(a3g h hS ho).2.names]
 exact c4L h hS ho
theorem b2w {t:List Nd}:∀ (g i b:Nat),R7 t g i=(b,true)->b<=t.length->∀j,i<=j->j<b->∃g' b',R7 t g' j=(b',true)/\b'<=b
 | 0,i,b,h,_,_,_,_=>by simp [R7] at h
 | g+1,i,b,h,hb,j,h1,h2=>by
   by_cases e:j=i
   ·subst e;exact ⟨g+1,b,h,Nat.le_refl _⟩
   have key:∀ (ks:List Int) (a n:Nat),KF t g ks a n->n<=t.length->∀j,a<=j->j<n->∃g' b',R7 t g' j=(b',true)/\b'<=n:=by
    intro ks
    induction ks with
    | nil=>intro a n hk _ j h1 h2;have:=hk.nil;omega
    | cons z zs ih =>
      intro a n hk hn j h1 h2
      obtain ⟨_,_,c,c1,c2,c3,c4⟩:=hk.cons
      have hle:=c4.le
      by_cases hc:j<c
      ·obtain ⟨g',b',w1,w2⟩:=b2w g a c c1 c3 j h1 hc
       exact ⟨g',b',w1,by omega⟩
      ·exact ih c n c4 hn j (by omega) h2
   obtain ⟨g',e',hk⟩:=a1K h
   obtain rfl:g=g':=by omega
   exact key _ _ _ hk hb j (by omega) h2
theorem c0O {t:List Nd} (h:N6 t) {k:Nat} (hk:k<t.length):∃g b,R7 t g k=(b,true)/\b<=t.length:=b2w 20 0 t.length h.walk (Nat.le_refl _) k (Nat.zero_le _) hk
theorem a6q {t:List Nd} {g k b:Nat} (h:R7 t g k=(b,true)):k<b:=by
 obtain ⟨g',_,hk⟩:=a1K h
 have:=hk.le
 omega
theorem b3v {t:List Nd}:∀ (n g k b:Nat),R7 t g k=(b,true)->b-k<=n->a5i t n k=List.range' k (b-k)
 | 0,g,k,b,h,hn=>by have:=a6q h;omega
 | n+1,g,k,b,h,hn=>by
   obtain ⟨g',_,hk⟩:=a1K h
   have hlt:=a6q h
   have key:∀ (ks:List Int) (a m:Nat),KF t g' ks a m->m-a<=n->(ks.map Int.toNat).flatMap (a5i t n)=List.range' a (m-a):=by
    intro ks
    induction ks with
    | nil=>intro a m hk _;have:=hk.nil;subst this;simp
    | cons z zs ih =>
      intro a m hk hm
      obtain ⟨c0,_,c,c1,c2,c3,c4⟩:=hk.cons
      have hle:=c4.le
      rw [List.map_cons,List.flatMap_cons,c0,Int.toNat_natCast,b3v n g' a c c1 (by omega),ih c m c4 (by omega)]
      have:=List.range'_append (s:=a) (m:=c-a) (n:=m-c) (step:=1)
      rw [Nat.one_mul,show a+(c-a)=c by omega] at this
      rw [this]
      congr 1;omega
   unfold a5i
   rw [show (nd t k).ks=(nd t k).kids.map Int.toNat from rfl,key _ _ _ hk (by omega),show b-k=(b-(k+1))+1 by omega,List.range'_succ]
theorem b5A {t:List Nd} {ch:List ByteArray} {vb:ByteArray->Nat} {g k b n:Nat} (h:R7 t g k=(b,true)) (hn:b-k<=n) (f:Ft):(List.range' k (b-k)).foldl (fun f j=>S8 ch vb (nd t j) f) f=Y8 t ch vb n k f:=by
 rw [<- b3v n g k b h hn,b6j]
end Go.V
namespace Go.V
theorem b5Z {x n:Nat} (hn:n<32) (hx:x<4294967296) (h:x.testBit n=false):x+2 ^ n=x ||| 2 ^ n:=by
 have h2:2 ^ n<4294967296:=a3t hn
 have h0:x &&& 2 ^ n=0:=Nat.eq_of_testBit_eq fun i=>by
  rw [Nat.testBit_and,Nat.testBit_two_pow,Nat.zero_testBit]
  by_cases e:n=i
  ·subst e;simp [h]
  ·simp [e]
 have e:=congrArg BitVec.toNat (BitVec.add_eq_or_of_and_eq_zero (w:=33) (BitVec.ofNat 33 x) (BitVec.ofNat 33 (2 ^ n)) (by
  apply BitVec.eq_of_toNat_eq
  rw [BitVec.toNat_and,BitVec.toNat_ofNat,BitVec.toNat_ofNat,Nat.mod_eq_of_lt (by omega),Nat.mod_eq_of_lt (by omega),h0]
  rfl))
 rw [BitVec.toNat_add,BitVec.toNat_or,BitVec.toNat_ofNat,BitVec.toNat_ofNat,Nat.mod_eq_of_lt (a:=x) (by omega),Nat.mod_eq_of_lt (a:=2 ^ n) (by omega),Nat.mod_eq_of_lt (by omega)] at e
 exact e
theorem c1f {x n:Nat} (h:x.testBit n=true):x ||| 2 ^ n=x:=Nat.eq_of_testBit_eq fun i=>by
 rw [Nat.testBit_or,Nat.testBit_two_pow]
 by_cases e:n=i
 ·subst e;simp [h]
 ·simp [e]
theorem b4e {x n:Nat} (h:n<32):a3r .shr .u32 (x:Int) (n:Int)=some (.int .u32 ((x / 2 ^ n:Nat):Int)):=by
 unfold a3r
 rw [if_neg (by omega)]
 simp only [Int.toNat_natCast]
 have e:min n IntKind.u32.bits=n:=by rw [show IntKind.u32.bits=32 from rfl];omega
 rw [e,show (2:Int) ^ n=((2 ^ n:Nat):Int) by rw [Int.natCast_pow];rfl,Int.fdiv_eq_ediv_of_nonneg _ (Int.natCast_nonneg _)]
 rfl
theorem b5M {x n:Nat} (hx:x<4294967296):IntKind.u32.wrap (a6v .u32 ((x / 2 ^ n:Nat):Int) 1)=if x.testBit n then 1 else 0:=by
 have h0:x / 2 ^ n<=x:=Nat.div_le_self _ _
 have h:=b79 (x:=x / 2 ^ n) (y:=1) (by omega) (by decide)
 have h1:((1:Nat):Int)=1:=rfl
 rw [h1] at h
 rw [h,Nat.and_one_is_mod,Nat.testBit_eq_decide_div_mod_eq]
 by_cases c:x / 2 ^ n % 2=1
 ·rw [c];rfl
 ·rw [show x / 2 ^ n % 2=0 by omega];rfl
theorem b6N {x n:Nat} (hn:n<32) (hx:x<4294967296) (h:x.testBit n=false):IntKind.u32.wrap ((x:Int)+((2 ^ n:Nat):Int))=((x ||| 2 ^ n:Nat):Int):=by
 rw [<- b5Z hn hx h,show (x:Int)+((2 ^ n:Nat):Int)=((x+2 ^ n:Nat):Int) by rw [Int.natCast_add],a7r]
 rw [b5Z hn hx h]
 exact a3U hx (a3t hn)
theorem b8r {fs:FuncId->Option M3} {t rest env K s bytes id id2 n n2} {l r:List Nat} (hn:l.length=n) (hn2:r.length=n2) (h:s.get id=some (.cells (W1 l))) (h2:s.get id2=some (.cells (W1 r))) (hb:bytes<=128) (hl:n+n2<=2 ^ 30)
 (k:∀id' s',s'.get id'=some (.cells (W1 (l++r)))->(id'=id∨s.next<=id')->Fr [id] s s'->XQ fs [] rest ((t,.arr id' 0 (n+n2) 1)::env) s' K):BM (V3 1 bytes (.arr id 0 n 1) (.arr id2 0 n2 1) s) fs t rest env K:=by
 subst hn hn2
 obtain ⟨d',s',h3,id',h4,h5,h6,h7⟩:=a4H (s:=s) (sz:=1) (bytes:=bytes) (id:=id) (d:=.arr id2 0 r.length 1) (old:=P5 l) (rows:=P5 r) (by rw [a4n];exact h) (a2h _) (.inr (.inl ⟨id2,by simp,by rw [a4n];exact h2⟩)) (a2h _) hb (by simpa using hl)
 rw [a3P] at h3
 rw [h3]
 have e:P5 l++P5 r=P5 (l++r):=by simp [P5]
 rw [e] at h4 h5
 rw [a4n] at h5
 rw [h4,a3P,List.length_append]
 exact k id' s' h5 h7 h6
theorem b8f {l:List ByteArray} {w:ByteArray} (h:idxB l w<l.length):l[idxB l w]=w:=by
 have:=List.findIdx_getElem (p:=fun x=>decide (x=w)) (xs:=l) (w:=h)
 exact of_decide_eq_true this
theorem b9O {l:List ByteArray} {w:ByteArray} (hn:l.Nodup) {q:Nat} (hq:q<l.length) (h:l[q]=w):idxB l w=q:=a4v hq h fun j hj hjq e=>by
 have:=List.pairwise_iff_getElem.1 hn j q hj hq hjq
 exact this (e.trans h.symm)
def upN (l:List ByteArray) (v:Nat->Nat) (w:ByteArray) (q:Nat):Nat:=if idxB l w<q then 2 ^ v (idxB l w) else 0
theorem b17 {l:List ByteArray} {v:Nat->Nat} {w:ByteArray}:upN l v w 0=0:=by unfold upN;rw [if_neg (by omega)]
theorem b6b {l:List ByteArray} {v:Nat->Nat} {w:ByteArray} (hn:l.Nodup) {q:Nat} (hq:q<l.length) (h:l[q]=w):upN l v w q=0/\upN l v w (q+1)=2 ^ v q:=by
 have e:=b9O hn hq h
 unfold upN
 rw [e,if_neg (by omega),if_pos (by omega)]
 exact ⟨rfl,rfl⟩
theorem b3Z {l:List ByteArray} {v:Nat->Nat} {w:ByteArray} {q:Nat} (hq:q<l.length) (h:l[q]≠w):upN l v w (q+1)=upN l v w q:=by
 unfold upN
 by_cases c:idxB l w<q
 ·rw [if_pos c,if_pos (by omega)]
 ·rw [if_neg c,if_neg]
  intro c2
  have e:idxB l w=q:=by omega
  have hx:idxB l w<l.length:=by omega
  have:=b8f hx
  simp only [e] at this
  exact h this
theorem c6W {names:List ByteArray} {vars:List Nat} {w:ByteArray}:upN names (nAt vars) w names.length=varB names vars w:=rfl
theorem c54 {ch:List ByteArray} {w:ByteArray}:upN ch (fun i=>i) w ch.length=chB ch w:=rfl
def RF (t:List Nd) (ch:List ByteArray) (vb:ByteArray->Nat) (k i:Nat):Ft:=(List.range' k i).foldl (fun f j=>S8 ch vb (nd t j) f) ⟨0,0,0,0,0,false⟩
theorem a9K {t:List Nd} {ch:List ByteArray} {vb:ByteArray->Nat} {k i:Nat}:RF t ch vb k (i+1)=S8 ch vb (nd t (k+i)) (RF t ch vb k i):=by
 unfold RF
 rw [List.range'_concat,List.foldl_append,Nat.one_mul]
 rfl
end Go.V
namespace Go.Proofs.YtnjlhebkhjcagaaGreat
open Go.V
set_option maxRecDepth 100000
set_option maxHeartbeats 4000000
variable {m:MdX} {mo:Mo} {ps:List (Pr×PrD)} {x:StD} {st:Stt}
theorem a9T {x n:Nat} (hx:x<4294967296) (hn:n<32):Eqc vfs 69 [.int .u32 (x:Int),.int .i64 (n:Int)] (.int .u32 ((x ||| 2 ^ n:Nat):Int)):=by
 have h1:=b4e (x:=x) hn
 have h2:=b5M (n:=n) hx
 have h3:=a9P hn
 refine P4 ?_
 cases hb:x.testBit n
 ·rw [hb] at h2
  simp only [Bool.false_eq_true,if_false] at h2
  have h4:=b6N hn hx hb
  refine N3 (vf:=a5V) rfl ?_
  unfold a5V;refine zF ?_
  exact zZ (aN h1 (aN h2 (aN h3 h4)))
 ·rw [hb] at h2
  simp only [if_true] at h2
  rw [c1f hb]
  refine N3 (vf:=a5V) rfl ?_
  unfold a5V;refine zF ?_
  exact zZ (aN h1 (aN h2 h3))
theorem c5i {d:D} {t:List Nd} (hT:N7 d t) (hl:t.length<=100000):∀ (n g k b:Nat),R7 t g k=(b,true)->b<=t.length->b-k<=n->∀s:f6,EvP vfs 97 [d,.int .i64 (k:Int)] s fun r s'=>∃id,r=.arr id 0 (b-k) 1/\s'.get id=some (.cells (W1 (List.range' k (b-k))))/\s.next<=id/\Fr [] s s':=by
 intro n
 induction n with
 | zero=>intro g k b h hb hn s;have:=a6q h;omega
 | succ n ih =>
   intro g k b h hb hn s
   obtain ⟨g',_,hk⟩:=a1K h
   have hlt:=a6q h
   have hkl:k<t.length:=by omega
   have oT:=FL.one hT.fl
   have hidx:=hT.at (z:=(k:Int)) (by omega) (by omega) (k:=.i64)
   rw [Int.toNat_natCast] at hidx
   have hlk:=hk.length
   have hnk:nd t k=t[k]:=b1a hkl
   have hfk:FI (nd t k).dk (nd t k).kids:=by rw [hnk];exact (hT.get hkl).k
   refine Y5 (vf:=b0A) rfl ?_
   unfold b0A;refine zF ?_
   refine zY (aN oT hidx) ?_
   refine P6 [0,1,4] 0 (nd t k).kids.length (fun i f s'=>f 6=.int .i64 (i:Int)/\∃id e,f 5=.arr id 0 (e-k) 1/\s'.get id=some (.cells (W1 (List.range' k (e-k))))/\s.next<=id/\k<e/\KF t g' ((nd t k).kids.drop i) e b/\Fr [] s s') (.mk rfl) (by omega) ⟨rfl,s.next,k+1,by rw [Nat.add_sub_cancel_left];rfl,?_,Nat.le_refl _,by omega,by simpa using hk,Fr.push _⟩ ?_
   ·rw [Nat.add_sub_cancel_left,P0 rfl]
    rfl
   rintro i f s1 hi ⟨hE,id,e,hF,hg,hid,hke,hkf,fr⟩
   by_cases ci:i<(nd t k).kids.length
   rotate_left
   ·obtain rfl:i=(nd t k).kids.length:=by omega
    rw [List.drop_length] at hkf
    have:=hkf.nil
    subst this
    refine zY (aN oT (aN hidx (aN hE (aN hF (aN ci hfk))))) ?_
    exact a6R ⟨id,rfl,hg,hid,fr⟩
   rw [List.drop_eq_getElem_cons ci] at hkf
   obtain ⟨z0,z1,c,z2,z3,z4,z5⟩:=hkf.cons
   have hz:zAt (nd t k).kids i=(e:Int):=by rw [a2v ci,z0]
   have hle:=z5.le
   refine zY (aN oT (aN hidx (aN hE (aN hF (aN ci (aN hfk hz)))))) ?_
   refine a1J (ih g' e c z2 z4 (by omega) s1) rfl ?_
   rintro r s2 ⟨id2,rfl,hg2,hid2,fr2⟩
   have lid:=M5 hg
   have hg1:s2.get id=some (.cells (W1 (List.range' k (e-k)))):=by rw [fr2.2 _ lid (by simp),hg]
   refine zY0 ?_
   refine b8r (l:=List.range' k (e-k)) (r:=List.range' e (c-e)) (by simp) (by simp) hg1 hg2 (by decide) (by omega) ?_
   intro id3 s3 hg3 hid3 fr3
   have hap:List.range' k (e-k)++List.range' e (c-e)=List.range' k (c-k):=by
    have:=List.range'_append (s:=k) (m:=e-k) (n:=c-e) (step:=1)
    rw [Nat.one_mul,show k+(e-k)=e by omega] at this
    rw [this]
    congr 1;omega
   rw [hap] at hg3
   refine zY (aN hE ci) ?_
   refine ⟨id3,c,?_,hg3,?_,by omega,z5,?_⟩
   ·rw [show e-k+(c-e)=c-k by omega]
   ·have:=fr2.1
    have:=fr.1
    rcases hid3 with rfl | h
    ·exact hid
    ·omega
   ·have f12:=fr.trans fr2 (by simp)
    exact ⟨by have:=fr3.1;have:=f12.1;omega,fun j hj _=>by
     have:=f12.1
     rw [fr3.2 j (by omega) (by simp;omega),f12.2 j hj (by simp)]⟩
end Go.Proofs.YtnjlhebkhjcagaaGreat
namespace Go.Proofs.YtnjlhebkhjcagaaGreat
open Go.V
set_option maxRecDepth 100000
set_option maxHeartbeats 4000000
variable {m:MdX} {mo:Mo} {ps:List (Pr×PrD)} {x:StD} {st:Stt}
theorem b10 (ho:O4 mo) {p:Nat} (hp:p<mo.procs.length) {k:Nat}:∀i,(RF mo.tree mo.ch (varB (pAt mo.procs p).names (pAt mo.procs p).vars) k i).Ok
 | 0=>a9d
 | i+1=>by
   rw [a9K]
   refine b1U (b10 ho hp i) (by have:=ho.nc;simpa [Mo.ch] using this) fun w=>?_
   have hpo:=ho.pr _ (a0l hp)
   unfold varB
   split
   ·rename_i h
    rw [hpo.same] at h
    refine a3t ?_
    have:=hpo.var ((pAt mo.procs p).vars.getD (idxB (pAt mo.procs p).names w) 0) (by simp only [List.getD,List.getElem?_eq_getElem h,Option.getD_some];exact List.getElem_mem h)
    have:=ho.nv
    omega
   ·decide
theorem c0E (hm:MoF m mo ps) (ho:O4 mo) (hN:MoN mo) {p:Nat} (hp:p<mo.procs.length) {k g b:Nat} (hw:R7 mo.tree g k=(b,true)) (hb:b<=mo.tree.length) {s:f6}:EvP vfs 68 [.agg [m.dt,.int .i64 m.g,m.dc,m.dv,m.dp,m.ds,.bool m.b],.fp [.str (pAt mo.procs p).name,.int .i64 ((pAt mo.procs p).copy:Int),(prX ps p).dl,.int .i64 ((pAt mo.procs p).places:Int),(prX ps p).dr,(prX ps p).de,(prX ps p).dn,(prX ps p).dv] 0,.int .i64 (k:Int)] s fun r s'=>r=.agg (RF mo.tree mo.ch (varB (pAt mo.procs p).names (pAt mo.procs p).vars) k (b-k)).row/\Fr [] s s':=by
 have om:=hm.ones
 have fm:=a0N hm
 have hpo:=ho.pr _ (a0l hp)
 have hnn:=hN.nm p hp
 have hpn:=(a1z hm hp).n
 have hpv:=(a1z hm hp).v
 have hnl:(pAt mo.procs p).names.length<=8:=by have:=hpo.nl;have:=ho.nv;omega
 have hcn:=hN.ch
 have hnc:=ho.nc
 have hnv:=ho.nv
 have hlt:=a6q hw
 have hle:=ho.tree.le
 have htr:=hm.tr
 have hmc:=hm.c
 have hchl:mo.ch.length=mo.chans.length:=by simp [Mo.ch]
 refine Y5 (vf:=b0y) rfl ?_
 unfold b0y;refine zF ?_
 refine zY (aN om fm) ?_
 refine a1J (c5i hm.tr (by omega) (b-k) g k b hw hb (Nat.le_refl _) _) (by simp (disch:=(first|exact Rf.mk rfl|with_reducible assumption|omega|((repeat (first|rw [nP]|rw [nS]|rw [M7]))<;>omega)|decide)) only [go_sem,↓reduceIte]) ?_
 rintro r s1 ⟨id,rfl,hg,hid,fr⟩
 have l1:=fr.1
 have fr0:∀j,j<s.next->s1.get j=s.get j:=fun j hj=>by
  rw [fr.2 j (by simp only [f6.next_push,f6.next_set];omega) (by simp)]
  exact zZ0
 have g0:s1.get s.next=some (.cells [m.dt,.int .i64 m.g,m.dc,m.dv,m.dp,m.ds,.bool m.b]):=by rw [fr.2 _ (by simp only [f6.next_push,f6.next_set];omega) (by simp)];simp (disch:=(first|exact Rf.mk rfl|with_reducible assumption|omega|((repeat (first|rw [nP]|rw [nS]|rw [M7]))<;>omega)|decide)) only [go_sem,↓reduceIte]
 have g1:s1.get (s.next+1)=some (.cells [.int .u32 0,.int .u32 0,.int .u32 0,.int .u32 0,.int .u32 0,.bool false]):=by rw [fr.2 _ (by simp only [f6.next_push,f6.next_set];omega) (by simp)];simp (disch:=(first|exact Rf.mk rfl|with_reducible assumption|omega|((repeat (first|rw [nP]|rw [nS]|rw [M7]))<;>omega)|decide)) only [go_sem,↓reduceIte]
 have g2:s1.get (s.next+1+1)=some (.cells [.int .u32 0,.int .u32 0,.int .u32 0,.int .u32 0,.int .u32 0,.bool false]):=by rw [fr.2 _ (by simp only [f6.next_push,f6.next_set];omega) (by simp)];simp (disch:=(first|exact Rf.mk rfl|with_reducible assumption|omega|((repeat (first|rw [nP]|rw [nS]|rw [M7]))<;>omega)|decide)) only [go_sem,↓reduceIte]
 simp only [f6.next_push,f6.next_set] at l1 hid
 clear fr
 refine zY0 ?_
 refine P6 [0,1,2,3,6,7,8] 0 (b-k) (fun i f s'=>f 9=.int .i64 (i:Int)/\s'.get s.next=some (.cells [m.dt,.int .i64 m.g,m.dc,m.dv,m.dp,m.ds,.bool m.b])/\s'.get (s.next+1)=some (.cells [.int .u32 0,.int .u32 0,.int .u32 0,.int .u32 0,.int .u32 0,.bool false])/\s'.get (s.next+1+1)=some (.cells (RF mo.tree mo.ch (varB (pAt mo.procs p).names (pAt mo.procs p).vars) k i).row)/\s'.get id=some (.cells (W1 (List.range' k (b-k))))/\s.next+3<=s'.next/\(∀j,j<s.next->s'.get j=s.get j)) (.mk rfl) (by omega) ⟨rfl,g0,g1,g2,hg,by omega,fr0⟩ ?_
 clear g0 g1 g2 hg fr0
 rintro i f s2 hi ⟨hI,g0,g1,g2,hg,hn,fr0⟩
 have l0:=M5 g0
 have l2:=M5 g2
 have lid:=M5 hg
 by_cases ci:i<b-k
 rotate_left
 ·obtain rfl:i=b-k:=by omega
  unfold Ft.row at g2 ⊢
  refine zY (aN hI (aN ci (aN g0 (aN g1 g2)))) ?_
  refine a6R ⟨rfl,⟨by simp only [f6.next_set];omega,fun j hj _=>?_⟩⟩
  rw [O5 (by omega),fr0 j hj]
 have hfo:=b10 ho hp (k:=k) i
 have hRF:=a9K (t:=mo.tree) (ch:=mo.ch) (vb:=varB (pAt mo.procs p).names (pAt mo.procs p).vars) (k:=k) (i:=i)
 have hnr:(W1 (List.range' k (b-k)))[i]?=some (.int .i64 ((k+i:Nat):Int)):=by simp [W1,List.getElem?_range',ci]
 have hjl:k+i<mo.tree.length:=by omega
 generalize k+i=j at *
 generalize RF mo.tree mo.ch (varB (pAt mo.procs p).names (pAt mo.procs p).vars) k i=F at *
 have hno:=ho.tree.node j hjl
 have on:=a0B htr hjl
 have hw0:=a2J htr hjl (i:=0)
 have n0:=a2s htr hjl (i:=0)
 have z0:((0:Nat):Int)=0:=rfl
 rw [hno.wl,z0] at hw0
 rw [hno.nl,z0] at n0
 unfold Ft.row at g2
 have hbx:=a2l (s:=s2) (z:=.cells [.int .i64 0,.nils,.nils,.nils,.int .i64 0]) (o:=.cells [.int .i64 (nd mo.tree j).kind,(nd mo.tree j).dw,(nd mo.tree j).dn,(nd mo.tree j).dk,.int .i64 (nd mo.tree j).pos])
 have b0:((s2.push (.cells [.int .i64 0,.nils,.nils,.nils,.int .i64 0])).set s2.next (some (.cells [.int .i64 (nd mo.tree j).kind,(nd mo.tree j).dw,(nd mo.tree j).dn,(nd mo.tree j).dk,.int .i64 (nd mo.tree j).pos]))).get s.next=some (.cells [m.dt,.int .i64 m.g,m.dc,m.dv,m.dp,m.ds,.bool m.b]):=by rw [hbx.2 _ l0 (by simp),g0]
 have b1:((s2.push (.cells [.int .i64 0,.nils,.nils,.nils,.int .i64 0])).set s2.next (some (.cells [.int .i64 (nd mo.tree j).kind,(nd mo.tree j).dw,(nd mo.tree j).dn,(nd mo.tree j).dk,.int .i64 (nd mo.tree j).pos]))).get (s.next+1)=some (.cells [.int .u32 0,.int .u32 0,.int .u32 0,.int .u32 0,.int .u32 0,.bool false]):=by rw [hbx.2 _ (M5 g1) (by simp),g1]
 have b2:((s2.push (.cells [.int .i64 0,.nils,.nils,.nils,.int .i64 0])).set s2.next (some (.cells [.int .i64 (nd mo.tree j).kind,(nd mo.tree j).dw,(nd mo.tree j).dn,(nd mo.tree j).dk,.int .i64 (nd mo.tree j).pos]))).get (s.next+1+1)=some (.cells [.int .u32 (F.reads:Int),.int .u32 (F.writes:Int),.int .u32 (F.sends:Int),.int .u32 (F.recvs:Int),.int .u32 (F.sizes:Int),.bool F.part]):=by rw [hbx.2 _ l2 (by simp),g2]
 have bg:((s2.push (.cells [.int .i64 0,.nils,.nils,.nils,.int .i64 0])).set s2.next (some (.cells [.int .i64 (nd mo.tree j).kind,(nd mo.tree j).dw,(nd mo.tree j).dn,(nd mo.tree j).dk,.int .i64 (nd mo.tree j).pos]))).get id=some (.cells (W1 (List.range' k (b-k)))):=by rw [hbx.2 _ lid (by simp),hg]
 have bn:((s2.push (.cells [.int .i64 0,.nils,.nils,.nils,.int .i64 0])).set s2.next (some (.cells [.int .i64 (nd mo.tree j).kind,(nd mo.tree j).dw,(nd mo.tree j).dn,(nd mo.tree j).dk,.int .i64 (nd mo.tree j).pos]))).get s2.next=some (.cells [.int .i64 (nd mo.tree j).kind,(nd mo.tree j).dw,(nd mo.tree j).dn,(nd mo.tree j).dk,.int .i64 (nd mo.tree j).pos]):=S0 (by simp)
 have bl:s2.next<((s2.push (.cells [.int .i64 0,.nils,.nils,.nils,.int .i64 0])).set s2.next (some (.cells [.int .i64 (nd mo.tree j).kind,(nd mo.tree j).dw,(nd mo.tree j).dn,(nd mo.tree j).dk,.int .i64 (nd mo.tree j).pos]))).next:=by simp
 have bf:∀a,a<s.next->((s2.push (.cells [.int .i64 0,.nils,.nils,.nils,.int .i64 0])).set s2.next (some (.cells [.int .i64 (nd mo.tree j).kind,(nd mo.tree j).dw,(nd mo.tree j).dn,(nd mo.tree j).dk,.int .i64 (nd mo.tree j).pos]))).get a=s.get a:=fun a ha=>by rw [hbx.2 _ (by omega) (by simp),fr0 a ha]
 by_cases q18:(nd mo.tree j).kind=18
 ·rw [q18] at hw0
  have hw0:=hw0 (by decide)
  refine zY (aN hI (aN ci (aN g0 (aN g1 (aN g2 (aN hg (aN hnr (aN hjl (aN htr (aN on (aN om (aN q18 hw0)))))))))))) ?_
  rw [q18] at b0 b1 b2 bg bn bl bf
  generalize (s2.push (.cells [.int .i64 0,.nils,.nils,.nils,.int .i64 0])).set s2.next (some (.cells [.int .i64 18,(nd mo.tree j).dw,(nd mo.tree j).dn,(nd mo.tree j).dk,.int .i64 (nd mo.tree j).pos]))=s3 at *
  refine a0O [0,1,2,3,6,7,8,9,10,12,13,22,39,78,82,95,110,123,138] (fun f s'=>s'.get s.next=some (.cells [m.dt,.int .i64 m.g,m.dc,m.dv,m.dp,m.ds,.bool m.b])/\s'.get (s.next+1)=some (.cells [.int .u32 0,.int .u32 0,.int .u32 0,.int .u32 0,.int .u32 0,.bool false])/\s'.get (s.next+1+1)=some (.cells [.int .u32 ((F.reads ||| varB (pAt mo.procs p).names (pAt mo.procs p).vars ((nd mo.tree j).word 0):Nat):Int),.int .u32 (F.writes:Int),.int .u32 (F.sends:Int),.int .u32 (F.recvs:Int),.int .u32 (F.sizes:Int),.bool F.part])/\s'.get id=some (.cells (W1 (List.range' k (b-k))))/\s'.get s2.next=some (.cells [.int .i64 18,(nd mo.tree j).dw,(nd mo.tree j).dn,(nd mo.tree j).dk,.int .i64 (nd mo.tree j).pos])/\s2.next<s'.next/\(∀a,a<s.next->s'.get a=s.get a)) ?_ ?_
  ·refine P6 [0,1,2,3,6,7,8,9,10,12,13,22,39,78,82,95,110,123,138] 0 (pAt mo.procs p).names.length (fun q f s'=>f 11=.int .i64 (q:Int)/\s'.get s.next=some (.cells [m.dt,.int .i64 m.g,m.dc,m.dv,m.dp,m.ds,.bool m.b])/\s'.get (s.next+1)=some (.cells [.int .u32 0,.int .u32 0,.int .u32 0,.int .u32 0,.int .u32 0,.bool false])/\s'.get (s.next+1+1)=some (.cells [.int .u32 ((F.reads ||| upN (pAt mo.procs p).names (nAt (pAt mo.procs p).vars) ((nd mo.tree j).word 0) q:Nat):Int),.int .u32 (F.writes:Int),.int .u32 (F.sends:Int),.int .u32 (F.recvs:Int),.int .u32 (F.sizes:Int),.bool F.part])/\s'.get id=some (.cells (W1 (List.range' k (b-k))))/\s'.get s2.next=some (.cells [.int .i64 18,(nd mo.tree j).dw,(nd mo.tree j).dn,(nd mo.tree j).dk,.int .i64 (nd mo.tree j).pos])/\s2.next<s'.next/\(∀a,a<s.next->s'.get a=s.get a)) (.mk rfl) (by omega) ⟨rfl,b0,b1,by rw [b17,Nat.or_zero];exact b2,bg,bn,bl,bf⟩ ?_
   clear b0 b1 b2 bg bn bl bf g0 g1 g2 hg
   rintro q f s4 hq ⟨hQ,b0,b1,b2,bg,bn,bl,bf⟩
   have m2:=M5 b2
   by_cases cq:q<(pAt mo.procs p).names.length
   rotate_left
   ·obtain rfl:q=(pAt mo.procs p).names.length:=by omega
    rw [c6W] at b2
    refine zY (aN hQ (aN cq hp)) ?_
    exact ⟨b0,b1,b2,bg,bn,bl,bf⟩
   have cq':q<(pAt mo.procs p).vars.length:=by rw [<- hpo.same];exact cq
   have hv8:nAt (pAt mo.procs p).vars q<32:=by
    have:=hpo.var (nAt (pAt mo.procs p).vars q) (by rw [a3e cq'];exact List.getElem_mem cq')
    omega
   by_cases cw:sAt (pAt mo.procs p).names q=(nd mo.tree j).word 0
   ·have hup:=b6b (v:=nAt (pAt mo.procs p).vars) (w:=(nd mo.tree j).word 0) hnn cq (by rw [<- b0q cq];exact cw)
    rw [hup.1,Nat.or_zero] at b2
    have hbit:=a9T (x:=F.reads) (n:=nAt (pAt mo.procs p).vars q) hfo.r hv8
    refine zY (aN hQ (aN cq (aN cq' (aN hp (aN hpn (aN hpv (aN b2 (aN bn (aN hw0 (aN cw (aN on hbit))))))))))) ?_
    repeat' apply And.intro
    all_goals first | assumption | (rw [hup.2]) | omega | (intro a ha;rw [O5 (by omega)];exact bf a ha)
   ·have hup:=b3Z (v:=nAt (pAt mo.procs p).vars) (w:=(nd mo.tree j).word 0) cq (by rw [<- b0q cq];exact cw)
    rw [<- hup] at b2
    refine zY (aN hQ (aN cq (aN cq' (aN hp (aN hpn (aN hpv (aN b2 (aN bn (aN hw0 (aN cw on)))))))))) ?_
    repeat' apply And.intro
    all_goals first | assumption | omega
  rintro f s4 ⟨b0,b1,b2,bg,bn,bl,bf⟩
  refine zY bn ?_
  refine P6 [0,1,2,3,6,7,8,9,10,11,12,22,39,46,60,78,82,95,138] 0 mo.chans.length (fun c f s'=>f 13=.int .i64 (c:Int)/\s'=s4) (.mk rfl) (by omega) ⟨rfl,rfl⟩ ?_
  rintro c f s' hc ⟨hC,rfl⟩
  by_cases cc:c<mo.chans.length
  ·refine zY (aN hC (aN cc (aN b0 (aN bn (aN om hmc))))) ?_
   repeat' apply And.intro
   all_goals first | assumption | omega | (rw [hRF];unfold S8;rw [if_pos q18];exact b2)
  ·refine zY (aN hC (aN cc (aN b0 (aN bn (aN om hmc))))) ?_
   repeat' apply And.intro
   all_goals first | assumption | omega | (rw [hRF];unfold S8;rw [if_pos q18];exact b2)
 by_cases q19:(nd mo.tree j).kind=19
 ·rw [q19] at hw0
  have hw0:=hw0 (by decide)
  refine zY (aN hI (aN ci (aN g0 (aN g1 (aN g2 (aN hg (aN hnr (aN hjl (aN htr (aN on (aN om (aN q19 hw0)))))))))))) ?_
  rw [q19] at b0 b1 b2 bg bn bl bf
  generalize (s2.push (.cells [.int .i64 0,.nils,.nils,.nils,.int .i64 0])).set s2.next (some (.cells [.int .i64 19,(nd mo.tree j).dw,(nd mo.tree j).dn,(nd mo.tree j).dk,.int .i64 (nd mo.tree j).pos]))=s3 at *
  refine P6 [0,1,2,3,6,7,8,9,10,11,12,22,39,46,60,78,82,95,138] 0 mo.chans.length (fun c f s'=>f 13=.int .i64 (c:Int)/\s'.get s.next=some (.cells [m.dt,.int .i64 m.g,m.dc,m.dv,m.dp,m.ds,.bool m.b])/\s'.get (s.next+1)=some (.cells [.int .u32 0,.int .u32 0,.int .u32 0,.int .u32 0,.int .u32 0,.bool false])/\s'.get (s.next+1+1)=some (.cells [.int .u32 (F.reads:Int),.int .u32 (F.writes:Int),.int .u32 (F.sends:Int),.int .u32 (F.recvs:Int),.int .u32 ((F.sizes ||| upN mo.ch (fun i=>i) ((nd mo.tree j).word 0) c:Nat):Int),.bool F.part])/\s'.get id=some (.cells (W1 (List.range' k (b-k))))/\s'.get s2.next=some (.cells [.int .i64 19,(nd mo.tree j).dw,(nd mo.tree j).dn,(nd mo.tree j).dk,.int .i64 (nd mo.tree j).pos])/\s2.next<s'.next/\(∀a,a<s.next->s'.get a=s.get a)) (.mk rfl) (by omega) ⟨rfl,b0,b1,by rw [b17,Nat.or_zero];exact b2,bg,bn,bl,bf⟩ ?_
  clear b0 b1 b2 bg bn bl bf g0 g1 g2 hg
  rintro c f s4 hc ⟨hC,b0,b1,b2,bg,bn,bl,bf⟩
  have m2:=M5 b2
  by_cases cc:c<mo.chans.length
  rotate_left
  ·obtain rfl:c=mo.chans.length:=by omega
   rw [<- hchl,c54] at b2
   refine zY (aN hC (aN cc (aN b0 (aN bn (aN om hmc))))) ?_
   repeat' apply And.intro
   all_goals first | assumption | omega | (rw [hRF];unfold S8;rw [if_neg q18,if_pos q19];exact b2)
  have cc':c<mo.ch.length:=by omega
  have hnm:mo.ch[c]=(S4 mo.chans c).name:=by simp [Mo.ch,a2d cc]
  by_cases cw:(S4 mo.chans c).name=(nd mo.tree j).word 0
  ·have hup:=b6b (v:=fun i=>i) (w:=(nd mo.tree j).word 0) hcn cc' (by rw [hnm];exact cw)
   rw [hup.1,Nat.or_zero] at b2
   have hbit:=a9T (x:=F.sizes) (n:=c) hfo.z (by omega)
   refine zY (aN hC (aN cc (aN b0 (aN b2 (aN bn (aN hw0 (aN cw (aN on (aN om (aN hmc hbit)))))))))) ?_
   repeat' apply And.intro
   all_goals first | assumption | (rw [hup.2]) | omega | (intro a ha;rw [O5 (by omega)];exact bf a ha)
  ·have hup:=b3Z (v:=fun i=>i) (w:=(nd mo.tree j).word 0) cc' (by rw [hnm];exact cw)
   rw [<- hup] at b2
   refine zY (aN hC (aN cc (aN b0 (aN b2 (aN bn (aN hw0 (aN cw (aN on (aN om hmc))))))))) ?_
   repeat' apply And.intro
   all_goals first | assumption | omega
 by_cases q22:(nd mo.tree j).kind=22
 ·rw [q22] at n0
  have n0:=n0 (by decide)
  have hb7:=(hno.bin q22).2.2.2
  refine zY (aN hI (aN ci (aN g0 (aN g1 (aN g2 (aN hg (aN hnr (aN hjl (aN htr (aN on (aN om q22))))))))))) ?_
  rw [q22] at b0 b1 b2 bg bn bl bf
  generalize (s2.push (.cells [.int .i64 0,.nils,.nils,.nils,.int .i64 0])).set s2.next (some (.cells [.int .i64 22,(nd mo.tree j).dw,(nd mo.tree j).dn,(nd mo.tree j).dk,.int .i64 (nd mo.tree j).pos]))=s3 at *
  have l3:=M5 b2
  by_cases c7:7<=(nd mo.tree j).num 0
  ·refine P6 [0,1,2,3,6,7,8,9,10,11,12,22,39,46,60,78,82,95,138] 0 mo.chans.length (fun c f s'=>f 13=.int .i64 (c:Int)/\s'=s3) (.mk rfl) (by omega) ⟨rfl,rfl⟩ ?_
   rintro c f s' hc ⟨hC,rfl⟩
   by_cases cc:c<mo.chans.length
   ·refine zY (aN hC (aN cc (aN b0 (aN b2 (aN bn (aN om (aN hmc (aN n0 (aN c7 on))))))))) ?_
    repeat' apply And.intro
    all_goals first | assumption | omega | (rw [hRF];unfold S8;rw [if_neg q18,if_neg q19,if_pos ⟨q22,by omega⟩];first | rfl | exact b2) | (intro a ha;rw [O5 (by omega)];exact bf a ha)
   ·refine zY (aN hC (aN cc (aN b0 (aN b2 (aN bn (aN om (aN hmc (aN n0 (aN c7 on))))))))) ?_
    repeat' apply And.intro
    all_goals first | assumption | omega | (rw [hRF];unfold S8;rw [if_neg q18,if_neg q19,if_pos ⟨q22,by omega⟩];first | rfl | exact b2) | (intro a ha;rw [O5 (by omega)];exact bf a ha)
  ·refine P6 [0,1,2,3,6,7,8,9,10,11,12,22,39,46,60,78,82,95,138] 0 mo.chans.length (fun c f s'=>f 13=.int .i64 (c:Int)/\s'=s3) (.mk rfl) (by omega) ⟨rfl,rfl⟩ ?_
   rintro c f s' hc ⟨hC,rfl⟩
   by_cases cc:c<mo.chans.length
   ·refine zY (aN hC (aN cc (aN b0 (aN b2 (aN bn (aN om (aN hmc (aN n0 (aN c7 on))))))))) ?_
    repeat' apply And.intro
    all_goals first | assumption | omega | (rw [hRF];unfold S8;rw [if_neg q18,if_neg q19,if_neg (by omega)];first | rfl | exact b2) | (intro a ha;rw [O5 (by omega)];exact bf a ha)
   ·refine zY (aN hC (aN cc (aN b0 (aN b2 (aN bn (aN om (aN hmc (aN n0 (aN c7 on))))))))) ?_
    repeat' apply And.intro
    all_goals first | assumption | omega | (rw [hRF];unfold S8;rw [if_neg q18,if_neg q19,if_neg (by omega)];first | rfl | exact b2) | (intro a ha;rw [O5 (by omega)];exact bf a ha)
 have k18:¬ (nd mo.tree j).kind=18:=q18
 refine zY (aN hI (aN ci (aN g0 (aN g1 (aN g2 (aN hg (aN hnr (aN hjl (aN htr (aN on (aN om q18))))))))))) ?_
 generalize (s2.push (.cells [.int .i64 0,.nils,.nils,.nils,.int .i64 0])).set s2.next (some (.cells [.int .i64 (nd mo.tree j).kind,(nd mo.tree j).dw,(nd mo.tree j).dn,(nd mo.tree j).dk,.int .i64 (nd mo.tree j).pos]))=s3 at *
 have l3:=M5 b2
 refine P6 [0,1,2,3,6,7,8,9,10,11,12,22,39,46,60,78,82,95,138] 0 mo.chans.length (fun c f s'=>f 13=.int .i64 (c:Int)/\s'=s3) (.mk rfl) (by omega) ⟨rfl,rfl⟩ ?_
 rintro c f s' hc ⟨hC,rfl⟩
 by_cases cc:c<mo.chans.length
 ·refine zY (aN hC (aN cc (aN b0 (aN b2 (aN bn (aN om (aN hmc (aN q19 q22)))))))) ?_
  repeat' apply And.intro
  all_goals first | assumption | omega | (rw [hRF];unfold S8;rw [if_neg q18,if_neg q19,if_neg (fun h=>q22 h.1)];first | rfl | exact b2) | (intro a ha;rw [O5 (by omega)];exact bf a ha)
 ·refine zY (aN hC (aN cc (aN b0 (aN b2 (aN bn (aN om (aN hmc (aN q19 q22)))))))) ?_
  repeat' apply And.intro
  all_goals first | assumption | omega | (rw [hRF];unfold S8;rw [if_neg q18,if_neg q19,if_neg (fun h=>q22 h.1)];first | rfl | exact b2) | (intro a ha;rw [O5 (by omega)];exact bf a ha)
end Go.Proofs.YtnjlhebkhjcagaaGreat
namespace Go.Proofs.YtnjlhebkhjcagaaGreat
open Go.V
set_option maxRecDepth 100000
set_option maxHeartbeats 4000000
variable {m:MdX} {mo:Mo} {ps:List (Pr×PrD)} {x:StD} {st:Stt}
structure MoW (mo:Mo):Prop where
 w:∀k,k<mo.tree.length->∃g b,R7 mo.tree g k=(b,true)/\b<=mo.tree.length
theorem b28 {t:List Nd} (h:N6 t):MoW (S5 t):=⟨fun _ hk=>c0O h hk⟩
theorem c6x (hm:MoF m mo ps) (ho:O4 mo) (hN:MoN mo) (hW:MoW mo) {p:Nat} (hp:p<mo.procs.length) {e:Ed} (he:e∈(pAt mo.procs p).edges):Eqc vfs 44 [.agg [m.dt,.int .i64 m.g,m.dc,m.dv,m.dp,m.ds,.bool m.b],.int .i64 (p:Int),.agg [.int .i64 (e.frm:Int),.int .i64 (e.to:Int),.int .i64 (e.act:Int),.int .i64 e.expr,.int .i64 e.var,.int .i64 e.chan,.bool e.keep,.int .i64 (e.node:Int)]] (.agg (O1 mo (pAt mo.procs p) e).row):=by
 have om:=hm.ones
 have fm:=a0N hm
 have hpo:=ho.pr _ (a0l hp)
 have heo:=hpo.inv.ed e he
 have hnv:=ho.nv
 have hnc:=ho.nc
 refine P4 ?_
 rw [a5w]
 have hex:(e.expr=-1/\a1E mo (pAt mo.procs p) e=⟨0,0,0,0,0,false⟩)∨∃k g b:Nat,e.expr=(k:Int)/\R7 mo.tree g k=(b,true)/\b<=mo.tree.length/\a1E mo (pAt mo.procs p) e=RF mo.tree mo.ch (varB (pAt mo.procs p).names (pAt mo.procs p).vars) k (b-k):=by
  by_cases c:e.act=0∨e.act=3
  ·left
   have:=heo.ex0 c
   refine ⟨this,?_⟩
   unfold a1E
   rw [if_neg (by omega)]
  ·right
   obtain ⟨k,h1,h2,_⟩:=heo.ex1 (by have:=heo.act;omega)
   obtain ⟨g,b,h3,h4⟩:=hW.w k h2
   refine ⟨k,g,b,h1,h3,h4,?_⟩
   unfold a1E
   rw [if_pos (by omega),h1,Int.toNat_natCast]
   exact (b5A h3 (by omega) _).symm
 have hbit:∀n:Nat,n<32->Eqc vfs 69 [.int .u32 0,.int .i64 (n:Int)] (.int .u32 ((2 ^ n:Nat):Int)):=fun n hn=>by
  have:=a9T (x:=0) (n:=n) (by decide) hn
  rwa [Nat.zero_or] at this
 rcases hex with ⟨x0,hF⟩ | ⟨k,g,b,hk,hw,hb,hF⟩
 ·rw [hF]
  have ha:e.act=0∨e.act=3:=by
   by_cases c:e.act=0∨e.act=3
   ·exact c
   ·obtain ⟨n,h1,_⟩:=heo.ex1 (by have:=heo.act;omega)
    omega
  rcases ha with ha | ha
  ·have e1:a1g e ⟨0,0,0,0,0,false⟩=⟨0,0,0,0,0,false⟩:=by unfold a1g;rw [if_neg (by omega),if_neg (by omega),if_neg (by omega)]
   rw [e1]
   refine N3 (vf:=a4k) rfl ?_
   unfold a4k;refine zF ?_
   refine zY (aN om (aN fm (aN x0 ha))) ?_
   first | rfl | trivial
  ·obtain ⟨v,hv,hv1⟩:=heo.v1 (.inr ha)
   obtain ⟨c,hc1,hc⟩:=heo.c1 (.inr ha)
   have hv2:=hpo.var v hv
   have e1:a1g e ⟨0,0,0,0,0,false⟩=⟨0,2 ^ v,0,2 ^ c,0,false⟩:=by unfold a1g;rw [if_neg (by omega),if_neg (by omega),if_pos ha,hv1,hc1,a2L,a2L]
   rw [e1]
   have b1:=hbit v (by omega)
   have b2:=hbit c (by omega)
   refine N3 (vf:=a4k) rfl ?_
   unfold a4k;refine zF ?_
   refine zY (aN om (aN fm (aN x0 (aN ha (aN hv1 (aN hc1 (aN b1 b2))))))) ?_
   first | rfl | trivial
 ·have ha:e.act=1∨e.act=2∨e.act=4∨e.act=5:=by
   by_cases c:e.act=0∨e.act=3
   ·have:=heo.ex0 c
    omega
   ·have:=heo.act;omega
  have hk0:(0:Int)<=(k:Int):=by omega
  rw [hF]
  refine N3 (vf:=a4k) rfl ?_
  unfold a4k;refine zF ?_
  refine zY (aN om (aN fm (aN hk (aN hp hk0)))) ?_
  refine a1J (c0E hm ho hN hp hw hb) rfl ?_
  rintro r s1 ⟨rfl,fr⟩
  have l1:=fr.1
  simp only [f6.next_push,f6.next_set,M7,Nat.reduceAdd] at l1
  have g1:s1.get 1=some (.cells [.int .i64 (e.frm:Int),.int .i64 (e.to:Int),.int .i64 (e.act:Int),.int .i64 e.expr,.int .i64 e.var,.int .i64 e.chan,.bool e.keep,.int .i64 (e.node:Int)]):=by rw [fr.2 _ (by simp [M7]) (by simp)];simp (disch:=(first|exact Rf.mk rfl|with_reducible assumption|omega|((repeat (first|rw [nP]|rw [nS]|rw [M7]))<;>omega)|decide)) only [go_sem,↓reduceIte,hk]
  have g2:s1.get 2=some (.cells [.int .u32 0,.int .u32 0,.int .u32 0,.int .u32 0,.int .u32 0,.bool false]):=by rw [fr.2 _ (by simp [M7]) (by simp)];simp (disch:=(first|exact Rf.mk rfl|with_reducible assumption|omega|((repeat (first|rw [nP]|rw [nS]|rw [M7]))<;>omega)|decide)) only [go_sem,↓reduceIte]
  have g3:s1.get 3=some (.cells [.int .u32 0,.int .u32 0,.int .u32 0,.int .u32 0,.int .u32 0,.bool false]):=by rw [fr.2 _ (by simp [M7]) (by simp)];simp (disch:=(first|exact Rf.mk rfl|with_reducible assumption|omega|((repeat (first|rw [nP]|rw [nS]|rw [M7]))<;>omega)|decide)) only [go_sem,↓reduceIte]
  generalize RF mo.tree mo.ch (varB (pAt mo.procs p).names (pAt mo.procs p).vars) k (b-k)=F at *
  unfold Ft.row
  rcases ha with ha | ha | ha | ha
  ·obtain ⟨v,hv,hv1⟩:=heo.v1 (.inl ha)
   have hv2:=hpo.var v hv
   have b1:=hbit v (by omega)
   have e1:a1g e F={ F with writes:=2 ^ v }:=by unfold a1g;rw [if_pos ha,hv1,a2L]
   rw [e1]
   refine zY (aN g1 (aN g2 (aN g3 (aN ha (aN hv1 b1))))) ?_
   first | rfl | trivial
  ·obtain ⟨c,hc1,hc⟩:=heo.c1 (.inl ha)
   have b1:=hbit c (by omega)
   have e1:a1g e F={ F with sends:=2 ^ c }:=by unfold a1g;rw [if_neg (by omega),if_pos ha,hc1,a2L]
   rw [e1]
   refine zY (aN g1 (aN g2 (aN g3 (aN ha (aN hc1 b1))))) ?_
   first | rfl | trivial
  ·have e1:a1g e F=F:=by unfold a1g;rw [if_neg (by omega),if_neg (by omega),if_neg (by omega)]
   rw [e1]
   refine zY (aN g1 (aN g2 (aN g3 ha))) ?_
   first | rfl | trivial
  ·have e1:a1g e F=F:=by unfold a1g;rw [if_neg (by omega),if_neg (by omega),if_neg (by omega)]
   rw [e1]
   refine zY (aN g1 (aN g2 (aN g3 ha))) ?_
   first | rfl | trivial
end Go.Proofs.YtnjlhebkhjcagaaGreat
namespace Go.Proofs.YtnjlhebkhjcagaaGreat
open Go.V
set_option maxRecDepth 100000
set_option maxHeartbeats 4000000
variable {m:MdX} {mo:Mo} {ps:List (Pr×PrD)} {x:StD} {st:Stt}
def a1M (p:Pr) (s:Nat):Bool:=(List.range 32).all fun b=>!s.testBit b||decide (b∈p.locals)
theorem c6P {p:Pr} {f:Ft}:a4F p f=(a1M p f.reads&&a1M p f.writes):=by
 unfold a4F a1M
 rw [Bool.eq_iff_iff,Bool.and_eq_true,List.all_eq_true,List.all_eq_true,List.all_eq_true]
 constructor
 ·intro h
  refine ⟨fun b hb=>?_,fun b hb=>?_⟩
  ·have:=h b hb
   rw [Nat.testBit_or] at this
   cases c:f.reads.testBit b
   ·rfl
   ·rw [c] at this
    simpa using this
  ·have:=h b hb
   rw [Nat.testBit_or] at this
   cases c:f.writes.testBit b
   ·rfl
   ·rw [c] at this
    simpa using this
 ·rintro ⟨h1,h2⟩ b hb
  have a1:=h1 b hb
  have a2:=h2 b hb
  rw [Nat.testBit_or]
  cases c:f.reads.testBit b
  ·cases c2:f.writes.testBit b
   ·rfl
   ·rw [c2] at a2
    simpa using a2
  ·rw [c] at a1
   simpa using a1
theorem b5u (hm:MoF m mo ps) (ho:O4 mo) (hq:MoQ mo) {p:Nat} (hp:p<mo.procs.length) {n:Nat} (hn:n<4294967296):Eqc vfs 45 [.agg [.str (pAt mo.procs p).name,.int .i64 ((pAt mo.procs p).copy:Int),(prX ps p).dl,.int .i64 ((pAt mo.procs p).places:Int),(prX ps p).dr,(prX ps p).de,(prX ps p).dn,(prX ps p).dv],.int .u32 (n:Int)] (.bool (a1M (pAt mo.procs p) n)):=by
 have hpl:=(a1z hm hp).l
 have hll:=hq.ll p hp
 have hnv:=ho.nv
 refine P4 ?_
 refine N3 (vf:=b0T) rfl ?_
 unfold b0T;refine zF ?_
 refine zY0 ?_
 have hp0:Hp (f6.empty.push (.cells [.str (pAt mo.procs p).name,.int .i64 ((pAt mo.procs p).copy:Int),(prX ps p).dl,.int .i64 ((pAt mo.procs p).places:Int),(prX ps p).dr,(prX ps p).de,(prX ps p).dn,(prX ps p).dv])) [] [(0,[.str (pAt mo.procs p).name,.int .i64 ((pAt mo.procs p).copy:Int),(prX ps p).dl,.int .i64 ((pAt mo.procs p).places:Int),(prX ps p).dr,(prX ps p).de,(prX ps p).dn,(prX ps p).dv])]:=⟨List.nodup_nil,by simp,by simp [Has],by simp [Has];simp (disch:=(first|exact Rf.mk rfl|with_reducible assumption|omega|((repeat (first|rw [nP]|rw [nS]|rw [M7]))<;>omega)|decide)) only [go_sem,↓reduceIte]⟩
 generalize f6.empty.push (.cells [.str (pAt mo.procs p).name,.int .i64 ((pAt mo.procs p).copy:Int),(prX ps p).dl,.int .i64 ((pAt mo.procs p).places:Int),(prX ps p).dr,(prX ps p).de,(prX ps p).dn,(prX ps p).dv])=s0 at *
 have g0:=hp0.rh
 refine P6 [0,1,2] 0 32 (fun v f s=>f 5=.int .i64 (v:Int)/\s=s0/\∀b,b<v->n.testBit b=true->b∈(pAt mo.procs p).locals) (.mk rfl) (by omega) ⟨rfl,rfl,fun b h=>by omega⟩ ?_
 rintro v f s hv ⟨hV,rfl,hall⟩
 by_cases cv:v<32
 rotate_left
 ·have e:a1M (pAt mo.procs p) n=true:=by
   unfold a1M
   rw [List.all_eq_true]
   intro b hb
   have hb:=List.mem_range.1 hb
   cases c:n.testBit b
   ·rfl
   ·simp [hall b (by omega) c]
  rw [e]
  have cvi:¬ (v:Int)<32:=by omega
  exact zZ (aN hV cvi)
 have cvi:(v:Int)<32:=by omega
 have h1:=b4e (x:=n) cv
 have h2:=b5M (n:=v) hn
 cases hb:n.testBit v
 ·rw [hb] at h2
  simp only [Bool.false_eq_true,if_false] at h2
  refine zY (aN hV (aN cvi (aN h1 h2))) ?_
  refine ⟨cv,fun b hb' hbt=>?_⟩
  by_cases e:b=v
  ·subst e;rw [hb] at hbt;cases hbt
  ·exact hall b (by omega) hbt
 rw [hb] at h2
 simp only [if_true] at h2
 refine zY (aN hV (aN cvi (aN h1 h2))) ?_
 refine a0O [0,1,2,4,5,9,16,35] (fun f s'=>f 6=.bool (decide (v∈(pAt mo.procs p).locals))/\s'=s) ?_ ?_
 ·refine P6 [0,1,2,4,5,9,16,35] 0 (pAt mo.procs p).locals.length (fun i f s'=>f 7=.int .i64 (i:Int)/\f 6=.bool (decide (v∈(pAt mo.procs p).locals.take i))/\s'=s) (.mk rfl) (by omega) ⟨rfl,by rw [List.take_zero,decide_eq_false List.not_mem_nil];rfl,rfl⟩ ?_
  rintro i f s' hi ⟨hI,hK,rfl⟩
  by_cases ci:i<(pAt mo.procs p).locals.length
  rotate_left
  ·obtain rfl:i=(pAt mo.procs p).locals.length:=by omega
   rw [List.take_length] at hK
   exact zZ (aN hI (aN hK (aN ci (aN g0 hpl))))
  have hsu:(pAt mo.procs p).locals.take (i+1)=(pAt mo.procs p).locals.take i++[nAt (pAt mo.procs p).locals i]:=by rw [List.take_succ_eq_append_getElem ci,a3e ci]
  by_cases ck:v∈(pAt mo.procs p).locals.take i
  ·rw [decide_eq_true ck] at hK
   refine zY (aN hI (aN hK (aN ci (aN g0 hpl)))) ?_
   rw [hsu]
   simp [ck]
  ·rw [decide_eq_false ck] at hK
   by_cases ce:nAt (pAt mo.procs p).locals i=v
   ·refine zY (aN hV (aN hI (aN hK (aN ci (aN g0 (aN hpl ce)))))) ?_
    rw [hsu]
    simp [ce]
   ·refine zY (aN hV (aN hI (aN hK (aN ci (aN g0 (aN hpl ce)))))) ?_
    rw [hsu]
    simp [ck]
    exact fun h=>ce h.symm
 rintro f s' ⟨hK,rfl⟩
 by_cases cm:v∈(pAt mo.procs p).locals
 ·rw [decide_eq_true cm] at hK
  refine zY (aN hV hK) ?_
  refine ⟨cv,fun b hb' hbt=>?_⟩
  by_cases e:b=v
  ·subst e;exact cm
  ·exact hall b (by omega) hbt
 ·rw [decide_eq_false cm] at hK
  have e:a1M (pAt mo.procs p) n=false:=by
   cases h:a1M (pAt mo.procs p) n
   ·rfl
   ·unfold a1M at h
    have:=List.all_eq_true.1 h v (List.mem_range.2 cv)
    rw [hb] at this
    simp [cm] at this
  rw [e]
  exact zZ (aN hV hK)
end Go.Proofs.YtnjlhebkhjcagaaGreat
namespace Go.V
variable {mo:Mo}
def a1q (L:List Ed):Nat:=(L.filter fun e=>decide (e.act<=1)).length
def a0P (L:List Ed):Int:=if 0<L.length/\(eAt L 0).act=4 then (eAt L 0).expr else -1
def a06 (L:List Ed):Int:=if 1<L.length/\(eAt L 1).act=5 then (eAt L 1).expr else -1
theorem b3o {l r:List Ed} {i:Nat} (h:i<l.length):eAt (l++r) i=eAt l i:=by
 rw [a15 h,a15 (by simp;omega),List.getElem_append_left h]
theorem b2T {l:List Ed} {e:Ed} {i:Nat} (h:i=l.length):eAt (l++[e]) i=e:=by
 subst h
 rw [a15 (by simp)];simp
theorem c29 {L:List Ed} {e:Ed}:a1q (L++[e])=a1q L+if e.act<=1 then 1 else 0:=by
 unfold a1q
 rw [List.filter_append,List.length_append]
 by_cases c:e.act<=1<;>simp [c]
theorem c5I {L:List Ed} {e:Ed}:a0P (L++[e])=if L.length=0 then (if e.act=4 then e.expr else -1) else a0P L:=by
 unfold a0P
 by_cases c:L.length=0
 ·rw [if_pos c,b2T c.symm]
  simp
 ·rw [if_neg c,b3o (by omega)]
  simp only [List.length_append,List.length_singleton]
  by_cases a:(eAt L 0).act=4
  ·rw [if_pos ⟨by omega,a⟩,if_pos ⟨by omega,a⟩]
  ·rw [if_neg fun h=>a h.2,if_neg fun h=>a h.2]
theorem c5c {L:List Ed} {e:Ed}:a06 (L++[e])=if L.length=1 then (if e.act=5 then e.expr else -1) else a06 L:=by
 unfold a06
 by_cases c:L.length=1
 ·rw [if_pos c,b2T c.symm]
  simp [c]
 ·rw [if_neg c]
  by_cases c2:L.length=0
  ·rw [if_neg (by simp [c2]),if_neg (by omega)]
  ·rw [b3o (by omega)]
   simp only [List.length_append,List.length_singleton]
   by_cases a:(eAt L 1).act=5
   ·rw [if_pos ⟨by omega,a⟩,if_pos ⟨by omega,a⟩]
   ·rw [if_neg fun h=>a h.2,if_neg fun h=>a h.2]
theorem c4D {L:List Ed}:a1q L<=L.length:=List.length_filter_le _ _
theorem b8z {L:List Ed}:a2i L=(decide (0<L.length)&&decide (a1q L=L.length)):=by
 unfold a2i a1q
 rw [Bool.and_comm]
 congr 1
 rw [Bool.eq_iff_iff,decide_eq_true_eq,List.length_filter_eq_length_iff,List.all_eq_true]
theorem c4q {p:Pr} (hp:a2Q mo p) {L:List Ed} (hL:∀e∈L,e∈p.edges):forkE L=(decide (L.length=2)&&decide (0<=a0P L)&&decide (a0P L=a06 L)):=by
 unfold forkE a0P a06
 by_cases c:L.length=2
 ·have h0:=hL _ (a1P (l:=L) (i:=0) (by omega))
  have h1:=hL _ (a1P (l:=L) (i:=1) (by omega))
  by_cases a0:(eAt L 0).act=4
  ·obtain ⟨n,hn,_⟩:=(hp.inv.ed _ h0).ex1 (by omega)
   by_cases a1:(eAt L 1).act=5
   ·simp [c,a0,a1,hn]
   ·simp only [c,a0,a1,hn]
    simp
    try omega
  ·simp [c,a0]
 ·simp [c]
theorem c6u {ch:List ByteArray} (h:ch.length<=3) (w:ByteArray):chB ch w<8:=by
 unfold chB
 split
 ·have:idxB ch w=0∨idxB ch w=1∨idxB ch w=2:=by omega
  rcases this with e | e | e<;>rw [e]<;>decide
 ·decide
theorem b4S {t:List Nd} {ch:List ByteArray} {vb:ByteArray->Nat} (h:ch.length<=3) {k:Nat}:∀i,(RF t ch vb k i).sizes<8/\(RF t ch vb k i).sends=0/\(RF t ch vb k i).recvs=0
 | 0=>⟨(by decide:(0:Nat)<8),rfl,rfl⟩
 | i+1=>by
   have ih:=b4S (t:=t) (vb:=vb) h (k:=k) i
   rw [a9K]
   unfold S8
   split
   ·exact ih
   split
   ·exact ⟨Nat.or_lt_two_pow (n:=3) ih.1 (c6u h _),ih.2.1,ih.2.2⟩
   split
   ·exact ih
   ·exact ih
theorem b9i {p:Pr} {k j:Nat} {e:Ed} (h:e∈lvT p k j):e∈p.edges:=List.mem_of_mem_take (List.mem_filter.1 h).1
end Go.V
namespace Go.Proofs.YtnjlhebkhjcagaaGreat
open Go.V
set_option maxRecDepth 100000
set_option maxHeartbeats 16000000
variable {m:MdX} {mo:Mo} {ps:List (Pr×PrD)} {x:StD} {st:Stt}
theorem c2r (ho:O4 mo) (hW:MoW mo) {p:Pr} (hp:a2Q mo p) {e:Ed} (he:e∈p.edges):(O1 mo p e).sizes<8/\(O1 mo p e).sends<=4/\(O1 mo p e).recvs<=4:=by
 have heo:=hp.inv.ed e he
 have hnc:=ho.nc
 have hx:(a1E mo p e).sizes<8/\(a1E mo p e).sends=0/\(a1E mo p e).recvs=0:=by
  unfold a1E
  split
  ·have hc:e.act=1∨e.act=2∨e.act=4∨e.act=5:=by
    by_cases c:e.act=0∨e.act=3
    ·have:=heo.ex0 c;omega
    ·have:=heo.act;omega
   obtain ⟨k,h1,h2,_⟩:=heo.ex1 hc
   obtain ⟨g,b,h3,h4⟩:=hW.w k h2
   rw [h1,Int.toNat_natCast,<- b5A h3 (by omega)]
   exact b4S (by simpa using hnc) _
  ·exact ⟨(by decide:(0:Nat)<8),rfl,rfl⟩
 have h4:∀c:Nat,c<mo.chans.length->Z5 (c:Int)<=4:=fun c hc=>by
  rw [a2L]
  have:c=0∨c=1∨c=2:=by omega
  rcases this with h | h | h<;>rw [h]<;>decide
 rw [a5w]
 unfold a1g
 split
 ·exact ⟨hx.1,by simp only;omega,by simp only;omega⟩
 split
 ·rename_i a
  obtain ⟨c,h1,h2⟩:=heo.c1 (.inl a)
  refine ⟨hx.1,?_,by simp only;omega⟩
  simp only
  rw [h1]
  exact h4 c h2
 split
 ·rename_i a
  obtain ⟨c,h1,h2⟩:=heo.c1 (.inr a)
  refine ⟨hx.1,by simp only;omega,?_⟩
  simp only
  rw [h1]
  exact h4 c h2
 ·exact ⟨hx.1,by omega,by omega⟩
theorem b7B (hm:MoF m mo ps) {p:Nat} (hp:p<mo.procs.length):PZ (.agg [.str (pAt mo.procs p).name,.int .i64 ((pAt mo.procs p).copy:Int),(prX ps p).dl,.int .i64 ((pAt mo.procs p).places:Int),(prX ps p).dr,(prX ps p).de,(prX ps p).dn,(prX ps p).dv]):=a4l fun d hd=>by
 have h:=a1z hm hp
 simp only [List.mem_cons,List.not_mem_nil,or_false] at hd
 rcases hd with rfl | rfl | rfl | rfl | rfl | rfl | rfl | rfl
 ·exact ⟨rfl,fun _ _=>rfl⟩
 ·exact ⟨rfl,fun _ _=>rfl⟩
 ·exact ⟨h.l.pure,FL.ic h.l⟩
 ·exact ⟨rfl,fun _ _=>rfl⟩
 ·exact ⟨h.r.pure,FL.ic h.r⟩
 ·exact ⟨h.e.pure,FL.ic h.e⟩
 ·exact ⟨h.n.pure,FL.ic h.n⟩
 ·exact ⟨h.v.pure,FL.ic h.v⟩
theorem b4q (hm:MoF m mo ps) (ho:O4 mo) (hq:MoQ mo) (hN:MoN mo) (hW:MoW mo) {p k:Nat} (hp:p<mo.procs.length):Eqc vfs 19 [.agg [m.dt,.int .i64 m.g,m.dc,m.dv,m.dp,m.ds,.bool m.b],.int .i64 (p:Int),.int .i64 (k:Int)] (.bool (mo.quiet p k)):=by
 have om:=hm.ones
 have fm:=a0N hm
 have hpo:=ho.pr _ (a0l hp)
 have hel:=hpo.el
 have c1:¬ mo.procs.length<=p:=by omega
 have hpz:PZ (.agg [.str (pAt mo.procs p).name,.int .i64 ((pAt mo.procs p).copy:Int),(prX ps p).dl,.int .i64 ((pAt mo.procs p).places:Int),(prX ps p).dr,(prX ps p).de,(prX ps p).dn,(prX ps p).dv]):=b7B hm hp
 refine P4 ?_
 refine N3 (vf:=a3l) rfl ?_
 unfold a3l;refine zF ?_
 refine zY (aN om (aN hp c1)) ?_
 have hp0:Hp (((f6.empty.push (.cells [m.dt,.int .i64 m.g,m.dc,m.dv,m.dp,m.ds,.bool m.b])).push (.cells [.str (bs []),.int .i64 0,.nils,.int .i64 0,.nils,.nils,.nils,.nils])).set 1 (some (.cells [.str (pAt mo.procs p).name,.int .i64 ((pAt mo.procs p).copy:Int),(prX ps p).dl,.int .i64 ((pAt mo.procs p).places:Int),(prX ps p).dr,(prX ps p).de,(prX ps p).dn,(prX ps p).dv]))) [] [(0,[m.dt,.int .i64 m.g,m.dc,m.dv,m.dp,m.ds,.bool m.b]),(1,[.str (pAt mo.procs p).name,.int .i64 ((pAt mo.procs p).copy:Int),(prX ps p).dl,.int .i64 ((pAt mo.procs p).places:Int),(prX ps p).dr,(prX ps p).de,(prX ps p).dn,(prX ps p).dv])]:=⟨List.nodup_nil,by simp,by simp [Has],by
  intro y hy
  simp only [List.mem_cons,List.not_mem_nil,or_false] at hy
  rcases hy with rfl | rfl
  ·exact zZ0
  ·simp (disch:=(first|exact Rf.mk rfl|with_reducible assumption|omega|((repeat (first|rw [nP]|rw [nS]|rw [M7]))<;>omega)|decide)) only [go_sem,↓reduceIte]⟩
 generalize ((f6.empty.push (.cells [m.dt,.int .i64 m.g,m.dc,m.dv,m.dp,m.ds,.bool m.b])).push (.cells [.str (bs []),.int .i64 0,.nils,.int .i64 0,.nils,.nils,.nils,.nils])).set 1 (some (.cells [.str (pAt mo.procs p).name,.int .i64 ((pAt mo.procs p).copy:Int),(prX ps p).dl,.int .i64 ((pAt mo.procs p).places:Int),(prX ps p).dr,(prX ps p).de,(prX ps p).dn,(prX ps p).dv]))=s0 at *
 have g0:s0.get 0=some (.cells [m.dt,.int .i64 m.g,m.dc,m.dv,m.dp,m.ds,.bool m.b]):=hp0.r (0,_) (by simp)
 have g1:s0.get 1=some (.cells [.str (pAt mo.procs p).name,.int .i64 ((pAt mo.procs p).copy:Int),(prX ps p).dl,.int .i64 ((pAt mo.procs p).places:Int),(prX ps p).dr,(prX ps p).de,(prX ps p).dn,(prX ps p).dv]):=hp0.r (1,_) (by simp)
 refine P6 [0,1,2,3,7,23] 0 (pAt mo.procs p).edges.length (fun j f s=>f 12=.int .i64 (j:Int)/\f 8=.int .i64 ((lvT (pAt mo.procs p) k j).length:Int)/\f 9=.int .i64 (a1q (lvT (pAt mo.procs p) k j):Int)/\f 10=.int .i64 (a0P (lvT (pAt mo.procs p) k j))/\f 11=.int .i64 (a06 (lvT (pAt mo.procs p) k j))/\(∀q,q<j->(eAt (pAt mo.procs p).edges q).frm=k->a0u mo (pAt mo.procs p) (eAt (pAt mo.procs p).edges q)=true)/\s.get 0=some (.cells [m.dt,.int .i64 m.g,m.dc,m.dv,m.dp,m.ds,.bool m.b])/\s.get 1=some (.cells [.str (pAt mo.procs p).name,.int .i64 ((pAt mo.procs p).copy:Int),(prX ps p).dl,.int .i64 ((pAt mo.procs p).places:Int),(prX ps p).dr,(prX ps p).de,(prX ps p).dn,(prX ps p).dv])) (.mk rfl) (by omega) ⟨rfl,rfl,rfl,rfl,rfl,fun q h=>by omega,g0,g1⟩ ?_
 clear g0 g1 hp0
 rintro j f s hj ⟨hE,h8,h9,h10,h11,hall,g0,g1⟩
 have l0:=M5 g0
 have l1:=M5 g1
 have hll:=a8X (pAt mo.procs p) k j
 have hsl:=c4D (L:=lvT (pAt mo.procs p) k j)
 by_cases cj:j<(pAt mo.procs p).edges.length
 rotate_left
 ·obtain rfl:j=(pAt mo.procs p).edges.length:=by omega
  have hyes:=b4j (mo:=mo) (k:=k) hp fun e he hk=>by
   obtain ⟨q,hq,rfl⟩:=List.getElem_of_mem he
   rw [<- a15 hq] at hk ⊢
   exact hall q hq hk
  rw [hyes,<- b0W]
  rw [b8z,c4q hpo fun e he=>b9i he]
  generalize lvT (pAt mo.procs p) k (pAt mo.procs p).edges.length=L at *
  have hle:=a9i hm hp
  by_cases c0:L.length=0
  ·have c1:a1q L=0:=by omega
   rw [c0] at h8
   rw [c1] at h9
   have e0:decide (0<L.length)=false:=by rw [c0];rfl
   have e2:decide (L.length=2)=false:=by rw [c0];rfl
   rw [e0,e2,Bool.false_and,Bool.false_and,Bool.false_and,Bool.false_or]
   exact zZ (aN hE (aN h8 (aN h9 (aN h10 (aN h11 (aN om (aN g0 (aN g1 hle))))))))
  have c0':(0:Int)<(L.length:Int):=by omega
  have e0:decide (0<L.length)=true:=decide_eq_true (by omega)
  rw [e0]
  by_cases cs:a1q L=L.length
  ·rw [decide_eq_true cs]
   rw [cs] at h9
   exact zZ (aN hE (aN h8 (aN h9 (aN h10 (aN h11 (aN om (aN g0 (aN g1 (aN hle c0')))))))))
  have cs':¬ (a1q L:Int)=(L.length:Int):=by omega
  rw [decide_eq_false cs]
  by_cases c2:L.length=2
  rotate_left
  ·have c2':¬ (L.length:Int)=2:=by omega
   rw [decide_eq_false c2,Bool.false_and,Bool.false_and,Bool.and_false,Bool.false_or]
   exact zZ (aN hE (aN h8 (aN h9 (aN h10 (aN h11 (aN om (aN g0 (aN g1 (aN hle (aN c0' (aN cs' c2')))))))))))
  rw [c2] at h8
  have cs':¬ (a1q L:Int)=2:=by omega
  rw [Bool.and_false,Bool.false_or]
  rw [decide_eq_true c2]
  by_cases c3:0<=a0P L
  rotate_left
  ·rw [decide_eq_false c3,Bool.and_false,Bool.false_and]
   exact zZ (aN hE (aN h8 (aN h9 (aN h10 (aN h11 (aN om (aN g0 (aN g1 (aN hle (aN cs' c3))))))))))
  rw [decide_eq_true c3]
  by_cases c4:a0P L=a06 L
  ·rw [decide_eq_true c4]
   rw [c4] at h10 c3
   rw [Bool.and_self,Bool.and_self]
   exact zZ (aN hE (aN h8 (aN h9 (aN h10 (aN h11 (aN om (aN g0 (aN g1 (aN hle (aN cs' c3))))))))))
  ·rw [decide_eq_false c4,Bool.and_false]
   exact zZ (aN hE (aN h8 (aN h9 (aN h10 (aN h11 (aN om (aN g0 (aN g1 (aN hle (aN cs' (aN c3 c4)))))))))))
 have hls:=b2f (k:=k) cj
 have hmem:=a1P cj
 have hll':=hpo.el
 by_cases cf:(eAt (pAt mo.procs p).edges j).frm=k
 rotate_left
 ·rw [if_neg cf,List.append_nil] at hls
  refine zY (aN hE (aN h8 (aN h9 (aN h10 (aN h11 (aN om (aN g0 (aN g1 (aN cj cf))))))))) ?_
  rw [hls]
  refine ⟨rfl,rfl,rfl,rfl,fun q hq hf=>?_⟩
  by_cases eq:q=j
  ·subst eq;exact absurd hf cf
  ·exact hall q (by omega) hf
 rw [if_pos cf] at hls
 have heo:=hpo.inv.ed _ hmem
 have hb:=c6x hm ho hN hW hp hmem
 obtain ⟨_,hok⟩:=b50 hm ho hp cj
 obtain ⟨k1,k2,k3⟩:=c2r ho hW hpo hmem
 have hs1:IntKind.u32.wrap (((O1 mo (pAt mo.procs p) (eAt (pAt mo.procs p).edges j)).sends:Int)+((O1 mo (pAt mo.procs p) (eAt (pAt mo.procs p).edges j)).recvs:Int))=(((O1 mo (pAt mo.procs p) (eAt (pAt mo.procs p).edges j)).sends+(O1 mo (pAt mo.procs p) (eAt (pAt mo.procs p).edges j)).recvs:Nat):Int):=by
  rw [IntKind.wrap_u32];omega
 have hs2:IntKind.u32.wrap ((((O1 mo (pAt mo.procs p) (eAt (pAt mo.procs p).edges j)).sends+(O1 mo (pAt mo.procs p) (eAt (pAt mo.procs p).edges j)).recvs:Nat):Int)+((O1 mo (pAt mo.procs p) (eAt (pAt mo.procs p).edges j)).sizes:Int))=(((O1 mo (pAt mo.procs p) (eAt (pAt mo.procs p).edges j)).sends+(O1 mo (pAt mo.procs p) (eAt (pAt mo.procs p).edges j)).recvs+(O1 mo (pAt mo.procs p) (eAt (pAt mo.procs p).edges j)).sizes:Nat):Int):=by
  rw [IntKind.wrap_u32];omega
 have hlr:=b5u hm ho hq hp hok.r
 have hlw:=b5u hm ho hq hp hok.w
 have hown:=c6P (p:=pAt mo.procs p) (f:=O1 mo (pAt mo.procs p) (eAt (pAt mo.procs p).edges j))
 have pe:=b0E (e:=eAt (pAt mo.procs p).edges j)
 unfold Ft.row at hb
 have no:a0u mo (pAt mo.procs p) (eAt (pAt mo.procs p).edges j)=false->mo.quiet p k=false:=b5r hmem cf
 rw [cf] at hb pe
 by_cases qk:(eAt (pAt mo.procs p).edges j).keep=true
 ·rw [no (by unfold a0u;rw [qk];rfl)]
  rw [qk] at hb pe
  exact zZ (aN hE (aN om (aN fm (aN g0 (aN g1 (aN cj (aN cf (aN pe (aN hb qk)))))))))
 have qk:(eAt (pAt mo.procs p).edges j).keep=false:=by simpa using qk
 rw [qk] at hb pe
 by_cases qp:(O1 mo (pAt mo.procs p) (eAt (pAt mo.procs p).edges j)).part=true
 ·rw [no (by unfold a0u;rw [qp];simp)]
  rw [qp] at hb
  exact zZ (aN hE (aN om (aN fm (aN g0 (aN g1 (aN cj (aN cf (aN pe (aN hb qk)))))))))
 have qp:(O1 mo (pAt mo.procs p) (eAt (pAt mo.procs p).edges j)).part=false:=by simpa using qp
 rw [qp] at hb
 by_cases qz:(O1 mo (pAt mo.procs p) (eAt (pAt mo.procs p).edges j)).sends+(O1 mo (pAt mo.procs p) (eAt (pAt mo.procs p).edges j)).recvs+(O1 mo (pAt mo.procs p) (eAt (pAt mo.procs p).edges j)).sizes=0
 rotate_left
 ·rw [no (by unfold a0u;by_cases a:(O1 mo (pAt mo.procs p) (eAt (pAt mo.procs p).edges j)).sends=0<;>by_cases b:(O1 mo (pAt mo.procs p) (eAt (pAt mo.procs p).edges j)).recvs=0<;>by_cases c:(O1 mo (pAt mo.procs p) (eAt (pAt mo.procs p).edges j)).sizes=0<;>simp [a,b,c]<;>omega)]
  have qz':(0:Int)<(((O1 mo (pAt mo.procs p) (eAt (pAt mo.procs p).edges j)).sends+(O1 mo (pAt mo.procs p) (eAt (pAt mo.procs p).edges j)).recvs+(O1 mo (pAt mo.procs p) (eAt (pAt mo.procs p).edges j)).sizes:Nat):Int):=by omega
  exact zZ (aN hE (aN om (aN fm (aN g0 (aN g1 (aN cj (aN cf (aN pe (aN hb (aN qk (aN hs1 (aN hs2 qz'))))))))))))
 rw [qz] at hs2
 by_cases ql:a1M (pAt mo.procs p) (O1 mo (pAt mo.procs p) (eAt (pAt mo.procs p).edges j)).reads=true
 rotate_left
 ·have ql:a1M (pAt mo.procs p) (O1 mo (pAt mo.procs p) (eAt (pAt mo.procs p).edges j)).reads=false:=by simpa using ql
  rw [no (by unfold a0u;rw [hown,ql];simp)]
  rw [ql] at hlr
  exact zZ (aN hE (aN om (aN fm (aN g0 (aN g1 (aN cj (aN cf (aN pe (aN hb (aN qk (aN hs1 (aN hs2 (aN hpz hlr)))))))))))))
 rw [ql] at hlr
 by_cases qm:a1M (pAt mo.procs p) (O1 mo (pAt mo.procs p) (eAt (pAt mo.procs p).edges j)).writes=true
 rotate_left
 ·have qm:a1M (pAt mo.procs p) (O1 mo (pAt mo.procs p) (eAt (pAt mo.procs p).edges j)).writes=false:=by simpa using qm
  rw [no (by unfold a0u;rw [hown,qm];simp)]
  rw [qm] at hlw
  exact zZ (aN hE (aN om (aN fm (aN g0 (aN g1 (aN cj (aN cf (aN pe (aN hb (aN qk (aN hs1 (aN hs2 (aN hpz (aN hlr hlw))))))))))))))
 rw [qm] at hlw
 by_cases qt:(eAt (pAt mo.procs p).edges j).to=1∨k<(eAt (pAt mo.procs p).edges j).to
 rotate_left
 ·rw [no (by unfold a0u;rw [cf];simp;omega)]
  have t1:¬ ((eAt (pAt mo.procs p).edges j).to:Int)=1:=by omega
  have t2:(eAt (pAt mo.procs p).edges j).to<=k:=by omega
  exact zZ (aN hE (aN om (aN fm (aN g0 (aN g1 (aN cj (aN cf (aN pe (aN hb (aN qk (aN hs1 (aN hs2 (aN hpz (aN hlr (aN hlw (aN t1 t2))))))))))))))))
 have hqe:a0u mo (pAt mo.procs p) (eAt (pAt mo.procs p).edges j)=true:=by
  unfold a0u
  rw [hown,ql,qm,qk,qp,cf]
  simp
  omega
 have hL:(lvT (pAt mo.procs p) k (j+1)).length=(lvT (pAt mo.procs p) k j).length+1:=by rw [hls];simp
 have hS:a1q (lvT (pAt mo.procs p) k (j+1))=a1q (lvT (pAt mo.procs p) k j)+if (eAt (pAt mo.procs p).edges j).act<=1 then 1 else 0:=by rw [hls,c29]
 have hW':a0P (lvT (pAt mo.procs p) k (j+1))=if (lvT (pAt mo.procs p) k j).length=0 then (if (eAt (pAt mo.procs p).edges j).act=4 then (eAt (pAt mo.procs p).edges j).expr else -1) else a0P (lvT (pAt mo.procs p) k j):=by rw [hls,c5I]
 have hO:a06 (lvT (pAt mo.procs p) k (j+1))=if (lvT (pAt mo.procs p) k j).length=1 then (if (eAt (pAt mo.procs p).edges j).act=5 then (eAt (pAt mo.procs p).edges j).expr else -1) else a06 (lvT (pAt mo.procs p) k j):=by rw [hls,c5c]
 have hall':∀q,q<j+1->(eAt (pAt mo.procs p).edges q).frm=k->a0u mo (pAt mo.procs p) (eAt (pAt mo.procs p).edges q)=true:=fun q hq hf=>by
  by_cases eq:q=j
  ·subst eq;exact hqe
  ·exact hall q (by omega) hf
 clear hls hall
 have hact:=heo.act
 have w0:(lvT (pAt mo.procs p) k j).length=0->a0P (lvT (pAt mo.procs p) k j)=-1:=fun h=>by unfold a0P;rw [if_neg (by omega)]
 have w1:(lvT (pAt mo.procs p) k j).length<=1->a06 (lvT (pAt mo.procs p) k j)=-1:=fun h=>by unfold a06;rw [if_neg (by omega)]
 generalize lvT (pAt mo.procs p) k j=L at *
 obtain ⟨a,ha,hai⟩:∃a:Int,((eAt (pAt mo.procs p).edges j).act:Int)=a/\(a=0∨a=1∨a=2∨a=3∨a=4∨a=5):=⟨_,rfl,by omega⟩
 have hS:a1q (lvT (pAt mo.procs p) k (j+1))=a1q L+if a<=1 then 1 else 0:=by
  rw [hS];congr 1;by_cases c:a<=1
  ·rw [if_pos c,if_pos (by omega)]
  ·rw [if_neg c,if_neg (by omega)]
 have e4:(eAt (pAt mo.procs p).edges j).act=4↔a=4:=by omega
 have e5:(eAt (pAt mo.procs p).edges j).act=5↔a=5:=by omega
 simp only [e4,e5] at hW' hO
 rw [ha] at hb pe
 by_cases t1:((eAt (pAt mo.procs p).edges j).to:Int)=1
 rotate_left
 have t2:¬ (eAt (pAt mo.procs p).edges j).to<=k:=by omega
 rotate_left
 have t2:=t1
 rw [t1] at hb pe
 all_goals
  rcases (show (a=0∨a=1∨a=2∨a=3)∨a=4∨a=5 by omega) with ha3 | rfl | rfl
  ·have hW4:a0P (lvT (pAt mo.procs p) k (j+1))=a0P L:=by
    rw [hW'];by_cases c:L.length=0
    ·rw [if_pos c,if_neg (by omega),w0 c]
    ·rw [if_neg c]
   have hO5:a06 (lvT (pAt mo.procs p) k (j+1))=a06 L:=by
    rw [hO];by_cases c:L.length=1
    ·rw [if_pos c,if_neg (by omega),w1 (by omega)]
    ·rw [if_neg c]
   rcases ha3 with rfl | rfl | rfl | rfl<;>(simp (disch:=(first|exact Rf.mk rfl|with_reducible assumption|omega|((repeat (first|rw [nP]|rw [nS]|rw [M7]))<;>omega)|decide)) only [go_sem,↓reduceIte,hE,h8,h9,h10,h11,om,fm,g0,g1,cj,cf,pe,hb,qk,hs1,hs2,hpz,hlr,hlw,t1,t2,ha])<;>(repeat' apply And.intro)<;>first | exact hall' | (rw [hL];omega) | (rw [hL];done) | (rw [hS];simp;done) | (rw [hW4];done) | (rw [hO5];done)
  ·have hO5:a06 (lvT (pAt mo.procs p) k (j+1))=a06 L:=by
    rw [hO];by_cases c:L.length=1
    ·rw [if_pos c,if_neg (by omega),w1 (by omega)]
    ·rw [if_neg c]
   by_cases l0:L.length=0
   ·have hW4:a0P (lvT (pAt mo.procs p) k (j+1))=(eAt (pAt mo.procs p).edges j).expr:=by rw [hW',if_pos l0,if_pos rfl]
    rw [l0] at h8 hL
    (simp (disch:=(first|exact Rf.mk rfl|with_reducible assumption|omega|((repeat (first|rw [nP]|rw [nS]|rw [M7]))<;>omega)|decide)) only [go_sem,↓reduceIte,hE,h8,h9,h10,h11,om,fm,g0,g1,cj,cf,pe,hb,qk,hs1,hs2,hpz,hlr,hlw,t1,t2,ha])<;>(repeat' apply And.intro)<;>first | exact hall' | (rw [hL];omega) | (rw [hL];done) | (rw [hS];simp;done) | (rw [hW4];done) | (rw [hO5];done)
   have hW4:a0P (lvT (pAt mo.procs p) k (j+1))=a0P L:=by rw [hW',if_neg l0]
   have n1:¬ L.length+1=1:=by omega
   have n2:¬ ((L.length+1:Nat):Int)=1:=by omega
   have n3:¬ (L.length:Int)+1=1:=by omega
   (simp (disch:=(first|exact Rf.mk rfl|with_reducible assumption|omega|((repeat (first|rw [nP]|rw [nS]|rw [M7]))<;>omega)|decide)) only [go_sem,↓reduceIte,hE,h8,h9,h10,h11,om,fm,g0,g1,cj,cf,pe,hb,qk,hs1,hs2,hpz,hlr,hlw,t1,t2,ha,n1,n2,n3])<;>(repeat' apply And.intro)<;>first | exact hall' | (rw [hL];omega) | (rw [hL];done) | (rw [hS];simp;done) | (rw [hW4];done) | (rw [hO5];done)
  ·have hW4:a0P (lvT (pAt mo.procs p) k (j+1))=a0P L:=by
    rw [hW'];by_cases c:L.length=0
    ·rw [if_pos c,if_neg (by omega),w0 c]
    ·rw [if_neg c]
   by_cases l1:L.length=1
   ·have hO5:a06 (lvT (pAt mo.procs p) k (j+1))=(eAt (pAt mo.procs p).edges j).expr:=by rw [hO,if_pos l1,if_pos rfl]
    rw [l1] at h8 hL
    (simp (disch:=(first|exact Rf.mk rfl|with_reducible assumption|omega|((repeat (first|rw [nP]|rw [nS]|rw [M7]))<;>omega)|decide)) only [go_sem,↓reduceIte,hE,h8,h9,h10,h11,om,fm,g0,g1,cj,cf,pe,hb,qk,hs1,hs2,hpz,hlr,hlw,t1,t2,ha])<;>(repeat' apply And.intro)<;>first | exact hall' | (rw [hL];omega) | (rw [hL];done) | (rw [hS];simp;done) | (rw [hW4];done) | (rw [hO5];done)
   have hO5:a06 (lvT (pAt mo.procs p) k (j+1))=a06 L:=by rw [hO,if_neg l1]
   have n1:¬ L.length+1=2:=by omega
   have n2:¬ ((L.length+1:Nat):Int)=2:=by omega
   have n3:¬ (L.length:Int)+1=2:=by omega
   (simp (disch:=(first|exact Rf.mk rfl|with_reducible assumption|omega|((repeat (first|rw [nP]|rw [nS]|rw [M7]))<;>omega)|decide)) only [go_sem,↓reduceIte,hE,h8,h9,h10,h11,om,fm,g0,g1,cj,cf,pe,hb,qk,hs1,hs2,hpz,hlr,hlw,t1,t2,ha,n1,n2,n3])<;>(repeat' apply And.intro)<;>first | exact hall' | (rw [hL];omega) | (rw [hL];done) | (rw [hS];simp;done) | (rw [hW4];done) | (rw [hO5];done)
end Go.Proofs.YtnjlhebkhjcagaaGreat
namespace Go.V
variable {mo:Mo} {M:Stt->List Mv}
def Mo.fst (mo:Mo):Stt:=⟨List.replicate mo.procs.length 0,mo.vals,List.replicate mo.chans.length [],-1⟩
theorem c41 {n i:Nat}:nAt (List.replicate n 0) i=0:=by
 unfold nAt
 by_cases h:i<n
 ·simp [List.getD,h]
 ·simp [List.getD,h]
theorem b8A (ho:O4 mo) (hf:X8 mo):Fit mo mo.fst:=by
 refine a3n.1 ⟨by simp [Mo.fst],by simp [Mo.fst,Mo.vals],by simp [Mo.fst],fun i hi=>?_,fun i hi=>?_,fun i hi=>?_,fun i hi n hn=>?_,by simp only [Mo.fst];omega⟩
 ·have:=(ho.pr _ (a0l hi)).inv.two
  show nAt (List.replicate _ 0) i<_
  rw [c41];omega
 ·show O6 (zAt mo.vals i) _=zAt mo.vals i
  rw [b00 hi]
  exact (hf.vr _ (a4P hi)).2.2
 ·show ((cAt (List.replicate _ []) i).length:Int)<=_
  rw [a6G]
  have:=(hf.ch _ (a47 hi)).1
  simp only [List.length_nil];omega
 ·have hn:n∈cAt (List.replicate _ []) i:=hn
  rw [a6G] at hn;cases hn
theorem c20 (ho:O4 mo) (hf:X8 mo):a3y mo mo.fst:=⟨b8A ho hf,fun j hj=>by simp only [Mo.fst] at hj;omega⟩
def Rch (mo:Mo) (M:Stt->List Mv) (t:Stt):Prop:=∃n,a2P mo M n mo.fst t
theorem a2P.snoc:∀ {n:Nat} {s t:Stt} {v:Mv},a2P mo M n s t->v∈M t->a2P mo M (n+1) s (mo.doS t v)
 | 0,s,t,v,h,hv=>by cases h;exact ⟨v,hv,rfl⟩
 | n+1,s,t,v,⟨w,hw,h⟩,hv=>⟨w,hw,h.snoc hv⟩
theorem Rch.step {t:Stt} {v:Mv} (h:Rch mo M t) (hv:v∈M t):Rch mo M (mo.doS t v):=by
 obtain ⟨n,h⟩:=h
 exact ⟨n+1,h.snoc hv⟩
theorem a2P.mono {M':Stt->List Mv} (hs:∀s v,v∈M s->v∈M' s):∀ {n:Nat} {s t:Stt},a2P mo M n s t->a2P mo M' n s t
 | 0,s,t,h=>h
 | n+1,s,t,⟨w,hw,h⟩=>⟨w,hs _ _ hw,h.mono hs⟩
theorem Rch.mono {M':Stt->List Mv} (hs:∀s v,v∈M s->v∈M' s) {t:Stt} (h:Rch mo M t):Rch mo M' t:=by
 obtain ⟨n,h⟩:=h
 exact ⟨n,h.mono hs⟩
theorem Rch.inv (ho:O4 mo) (hf:X8 mo) (hs:∀s v,v∈M s->v∈mo.moves s) {t:Stt} (h:Rch mo M t):a3y mo t:=by
 obtain ⟨n,h⟩:=h
 exact (h.mono hs).inv ho hf (c20 ho hf)
theorem b8Z {L:List Stt} (h0:mo.fst∈L) (hc:∀s∈L,∀v∈M s,mo.doS s v∈L) {t:Stt} (h:Rch mo M t):t∈L:=by
 obtain ⟨n,h⟩:=h
 have key:∀ {n:Nat} {s t:Stt},s∈L->a2P mo M n s t->t∈L:=by
  intro n
  induction n with
  | zero=>intro s t hs h;cases h;exact hs
  | succ n ih=>intro s t hs h;obtain ⟨v,hv,h⟩:=h;exact ih (hc s hs v hv) h
 exact key h0 h
def c1c (mo:Mo) (M:Stt->List Mv) (a b:Bool):Prop :=
 (a=true/\b=true/\∃t,Rch mo M t/\mo.badS t=true)∨(a=false/\b=true/\∃L:List Stt,L.length<=120/\∀t,Rch mo M t->t∈L/\mo.badS t=false)∨(a=false/\b=false)
abbrev QL:=List (StD×Stt)
def qAt (l:QL) (i:Nat):StD×Stt:=l.getD i ⟨⟨.nils,.nils,.nils⟩,⟨[],[],[],0⟩⟩
theorem a8r {l:QL} {i:Nat} (h:i<l.length):qAt l i=l[i]:=by simp [qAt,List.getD,h]
theorem b24 {l:QL} {q:StD×Stt} (h:q∈l):∃i,i<l.length/\qAt l i=q:=by
 obtain ⟨i,hi,e⟩:=List.getElem_of_mem h
 exact ⟨i,hi,by rw [a8r hi,e]⟩
theorem b3a {l r:QL} {i:Nat} (h:i<l.length):qAt (l++r) i=qAt l i:=by
 rw [a8r h,a8r (by simp;omega),List.getElem_append_left h]
structure a3a (mo:Mo) (M:Stt->List Mv) (L:QL) (i:Nat):Prop where
 fst:mo.fst∈L.map Prod.snd
 rch:∀q∈L,Rch mo M q.2
 f:∀q∈L,StF q.1 q.2
 ok:∀j,j<i->mo.badS (qAt L j).2=false
 cl:∀j,j<i->∀v∈M (qAt L j).2,mo.doS (qAt L j).2 v∈L.map Prod.snd
 nd:(L.map Prod.snd).Nodup
theorem a3a.app {L:QL} {i:Nat} (h:a3a mo M L i) (hi:i<=L.length) {q:StD×Stt} (hr:Rch mo M q.2) (hf:StF q.1 q.2) (hn:q.2∉L.map Prod.snd):a3a mo M (L++[q]) i:=by
 refine ⟨by rw [List.map_append];exact List.mem_append_left _ h.fst,fun p hp=>?_,fun p hp=>?_,fun j hj=>?_,fun j hj v hv=>?_,?_⟩
 ·rcases List.mem_append.1 hp with hp | hp
  ·exact h.rch p hp
  ·rw [List.mem_singleton.1 hp];exact hr
 ·rcases List.mem_append.1 hp with hp | hp
  ·exact h.f p hp
  ·rw [List.mem_singleton.1 hp];exact hf
 ·rw [b3a (by omega)];exact h.ok j hj
 ·rw [b3a (by omega)] at hv ⊢
  rw [List.map_append]
  exact List.mem_append_left _ (h.cl j hj v hv)
 ·rw [List.map_append]
  refine List.nodup_append.2 ⟨h.nd,by simp,fun a ha b hb=>?_⟩
  simp only [List.map_cons,List.map_nil,List.mem_singleton] at hb
  rw [hb]
  exact fun e=>hn (e▸ha)
theorem a3a.next {L:QL} {i:Nat} (h:a3a mo M L i) (hb:mo.badS (qAt L i).2=false) (hc:∀v∈M (qAt L i).2,mo.doS (qAt L i).2 v∈L.map Prod.snd):a3a mo M L (i+1):=by
 refine ⟨h.fst,h.rch,h.f,fun j hj=>?_,fun j hj=>?_,h.nd⟩
 ·by_cases e:j=i
  ·rw [e];exact hb
  ·exact h.ok j (by omega)
 ·by_cases e:j=i
  ·rw [e];exact hc
  ·exact h.cl j (by omega)
theorem a3a.all {L:QL} {i:Nat} (h:a3a mo M L i) (hi:¬ i<L.length):∀t,Rch mo M t->t∈L.map Prod.snd/\mo.badS t=false:=by
 intro t ht
 have hm:=b8Z (L:=L.map Prod.snd) h.fst (fun s hs v hv=>by
  obtain ⟨q,hq,rfl⟩:=List.mem_map.1 hs
  obtain ⟨j,hj,rfl⟩:=b24 hq
  exact h.cl j (by omega) v hv) ht
 refine ⟨hm,?_⟩
 obtain ⟨q,hq,rfl⟩:=List.mem_map.1 hm
 obtain ⟨j,hj,rfl⟩:=b24 hq
 exact h.ok j (by omega)
theorem a3a.none {L:QL} {i:Nat} (h:a3a mo M L i) (hi:¬ i<L.length) (hl:L.length<=120):c1c mo M false true :=
 .inr (.inl ⟨rfl,rfl,L.map Prod.snd,by rw [List.length_map];exact hl,h.all hi⟩)
end Go.V
namespace Go.V
variable {mo:Mo} {π τ:Nat->Nat} {s s':Stt}
structure Sym (mo:Mo) (π τ:Nat->Nat):Prop where
 pi:∀v,π (π v)=v
 pg:∀v,v<mo.globals->π v=v
 pl:∀v,v<mo.vars.length->π v<mo.vars.length
 pw:∀v,v<mo.vars.length->(vAt mo.vars (π v)).width=(vAt mo.vars v).width
 tt:∀j,τ (τ j)=j
 tl:∀j,j<mo.procs.length->τ j<mo.procs.length
 nm:∀j,j<mo.procs.length->(pAt mo.procs (τ j)).names=(pAt mo.procs j).names
 vr:∀j,j<mo.procs.length->(pAt mo.procs (τ j)).vars=(pAt mo.procs j).vars.map π
 ed:∀j,j<mo.procs.length->(pAt mo.procs (τ j)).edges=(pAt mo.procs j).edges.map (a4D π)
 rs:∀j,j<mo.procs.length->(pAt mo.procs (τ j)).rest=(pAt mo.procs j).rest
structure SR (mo:Mo) (π τ:Nat->Nat) (s s':Stt):Prop where
 al:s.at'.length=mo.procs.length
 al':s'.at'.length=mo.procs.length
 at':∀j,j<mo.procs.length->nAt s'.at' (τ j)=nAt s.at' j
 vl:s.vars.length=mo.vars.length
 vl':s'.vars.length=mo.vars.length
 vr:∀v,v<mo.vars.length->zAt s'.vars (π v)=zAt s.vars v
 ch:s'.chans=s.chans
 hd:(s.hold<0/\s'.hold=s.hold)∨∃j,j<mo.procs.length/\s.hold=(j:Int)/\s'.hold=((τ j:Nat):Int)
theorem Sym.pe (h:Sym mo π τ) {a b:Nat}:π a=π b↔a=b:=⟨fun e=>by rw [<- h.pi a,e,h.pi],fun e=>by rw [e]⟩
theorem SR.symm (h:Sym mo π τ) (r:SR mo π τ s s'):SR mo π τ s' s:=by
 refine ⟨r.al',r.al,fun j hj=>?_,r.vl',r.vl,fun v hv=>?_,r.ch.symm,?_⟩
 ·rw [<- r.at' (τ j) (h.tl j hj),h.tt]
 ·rw [<- r.vr (π v) (h.pl v hv),h.pi]
 ·rcases r.hd with ⟨a,b⟩ | ⟨j,hj,a,b⟩
  ·exact .inl ⟨by rw [b];exact a,b.symm⟩
  ·exact .inr ⟨τ j,h.tl j hj,b,by rw [h.tt];exact a⟩
def mapM (τ:Nat->Nat) (v:Mv):Mv:=if v.kind=0 then { v with proc:=τ v.proc } else v
theorem a5d {c:Nat} {v:Mv} (h:v∈mo.movesC s c):v.kind=1∨v.kind=2:=by
 unfold Mo.movesC at h
 rw [List.mem_append] at h
 rcases h with h | h
 ·split at h
  ·have:=List.mem_singleton.1 h
   left;rw [this]
  ·cases h
 ·split at h
  ·have:=List.mem_singleton.1 h
   right;rw [this]
  ·cases h
end Go.V
namespace Go.V
variable {mo:Mo}
theorem b5L {l r:List Vr} {i:Nat} (h:i<l.length):vAt (l++r) i=vAt l i:=by
 rw [a2p h,a2p (by simp;omega),List.getElem_append_left h]
theorem b9Z {l r:List Vr} {i:Nat} (h:i<r.length):vAt (l++r) (l.length+i)=vAt r i:=by
 rw [a2p h,a2p (by simp;omega),List.getElem_append_right (by omega)]
 congr 1;omega
def a5o (t:List Nd) (k i:Nat):Vr:=a1o ((W0 t (nd t k)).getD i default)
theorem b03 {t:List Nd} {ch:List ByteArray} {k seen:Nat} {a:List Vr×List Pr}:∀c,(U6 t ch k seen c a).1.length=a.1.length+c*N4 t (nd t k)
 | 0=>by simp [U6]
 | c+1=>by
   simp only [U6,List.length_append,List.length_map,a2H,b03 c]
   rw [Nat.succ_mul];omega
theorem b1y {t:List Nd} {ch:List ByteArray} {k seen:Nat} {a:List Vr×List Pr}:∀c,∀j,j<c->∀i,i<N4 t (nd t k)->vAt (U6 t ch k seen c a).1 (a.1.length+j*N4 t (nd t k)+i)=a5o t k i
 | 0,j,h,_,_=>by omega
 | c+1,j,h,i,hi=>by
   have hl:=b03 (t:=t) (ch:=ch) (k:=k) (seen:=seen) (a:=a) c
   simp only [U6]
   by_cases e:j=c
   ·subst e
    rw [<- hl,b9Z (by simpa using hi),a2p (by simpa using hi)]
    simp [a5o,List.getD,hi]
   ·have h2:(j+1)*N4 t (nd t k)<=c*N4 t (nd t k):=Nat.mul_le_mul_right _ (by omega)
    rw [Nat.succ_mul] at h2
    rw [b5L (by omega)]
    exact b1y c j (by omega) i hi
theorem b18 (t:List Nd):∀n,n<=(nd t 0).ks.length->∀o∈(a0e t ((nd t 0).ks.take n)).l,o.nv+N4 t (nd t o.k)<=(a0f t (chs t) (gat t).vs ((nd t 0).ks.take n)).vs.length/\∀i,i<N4 t (nd t o.k)->vAt (a0f t (chs t) (gat t).vs ((nd t 0).ks.take n)).vs (o.nv+i)=a5o t o.k i
 | 0,_,o,ho=>by simp [a0e] at ho
 | n+1,hn,o,ho=>by
   have ih:=b18 t n (by omega)
   have hg:=a7p t n (by omega)
   have e:(nd t 0).ks.take (n+1)=(nd t 0).ks.take n++[(nd t 0).ks[n]]:=List.take_succ_eq_append_getElem (by omega)
   rw [e,b1e] at ho
   rw [e,a8J]
   generalize (nd t 0).ks[n]=k at *
   generalize a0f t (chs t) (gat t).vs ((nd t 0).ks.take n)=b at *
   generalize a0e t ((nd t 0).ks.take n)=a at *
   have hnv:=hg.nv
   obtain ⟨m,hm⟩:=b5l t (chs t) b k
   have old:o∈a.l->o.nv+N4 t (nd t o.k)<=(a0X t (chs t) b k).vs.length/\∀i,i<N4 t (nd t o.k)->vAt (a0X t (chs t) b k).vs (o.nv+i)=a5o t o.k i:=fun h=>by
    obtain ⟨h1,h2⟩:=ih o h
    rw [hm]
    refine ⟨by rw [List.length_append];omega,fun i hi=>?_⟩
    rw [b5L (by omega)]
    exact h2 i hi
   unfold a17 at ho
   by_cases c3:(nd t k).kind=3
   ·rw [if_pos c3] at ho
    rcases List.mem_append.1 ho with h | h
    ·exact old h
    ·unfold a2o at h
     obtain ⟨c,hc,rfl⟩:=List.mem_map.1 h
     rw [List.mem_range] at hc
     unfold a0X
     rw [if_pos c3]
     simp only
     have hl:=b03 (t:=t) (ch:=chs t) (k:=k) (seen:=b.seen) (a:=(b.vs,b.ps)) ((nd t k).num 0).toNat
     have h2:(c+1)*N4 t (nd t k)<=((nd t k).num 0).toNat*N4 t (nd t k):=Nat.mul_le_mul_right _ (by omega)
     rw [Nat.succ_mul] at h2
     simp only at hl
     rw [<- hnv]
     refine ⟨by omega,fun i hi=>?_⟩
     exact b1y (a:=(b.vs,b.ps)) _ c hc i hi
   ·rw [if_neg c3] at ho
    by_cases c2:(nd t k).kind=2
    ·rw [if_pos c2] at ho;exact old ho
    ·rw [if_neg c2] at ho;exact old ho
theorem b2z {t:List Nd} {o:Org} (ho:o∈T8 t):∀i,i<N4 t (nd t o.k)->vAt (gbt t).vs (o.nv+i)=a5o t o.k i:=by
 have h:=b18 t (nd t 0).ks.length (Nat.le_refl _) o
 rw [List.take_length] at h
 exact (h ho).2
structure Cop (mo:Mo) (q n lo:Nat):Prop where
 lt:q+1<mo.procs.length
 gl:mo.globals<=lo
 hi:lo+n+n<=mo.vars.length
 l0:(pAt mo.procs q).locals=(List.range n).map (lo+·)
 l1:(pAt mo.procs (q+1)).locals=(List.range n).map (lo+n+·)
 vr:∀v∈(pAt mo.procs q).vars,v<mo.globals∨v∈(pAt mo.procs q).locals
 re:pAt mo.procs (q+1)=ren (a4Z mo.globals n) (pAt mo.procs (q+1)).locals (pAt mo.procs (q+1)).copy (pAt mo.procs q)
 w:∀i,i<n->vAt mo.vars (lo+n+i)=vAt mo.vars (lo+i)
theorem b8o {t:List Nd} (h:N6 t) (hS:a0s t) {p:Nat} (hp:p<(S5 t).procs.length) (hc:0<(pAt (S5 t).procs p).copy):∃q n lo,p=q+1/\Cop (S5 t) q n lo:=by
 have e:(S5 t).procs=(T8 t).map (a0j t):=(a3z t).1
 have hpl:p<(T8 t).length:=by rw [e,List.length_map] at hp;exact hp
 have ep:∀i (hi:i<(T8 t).length),pAt (S5 t).procs i=a0j t (T8 t)[i]:=fun i hi=>by
  rw [a19 (by rw [e,List.length_map];exact hi)];simp [e]
 have hom:=List.getElem_mem hpl
 have ec:=c3N t _ h hS hom
 rw [ep p hpl,ec] at hc
 obtain ⟨q,hq,rfl,h1,h2,h3,h4⟩:=c5b t p hpl hc
 have hoq:=List.getElem_mem hq
 have g0:=(a3g h hS hoq).2
 have g1:=(a3g h hS hom).2
 have ok0:=a2G hoq
 have ok1:=a2G hom
 have l0:(a0j t (T8 t)[q]).locals=(List.range (N4 t (nd t (T8 t)[q].k))).map ((T8 t)[q].nv+·):=by rw [g0.locals];rfl
 have l1:(a0j t (T8 t)[q+1]).locals=(List.range (N4 t (nd t (T8 t)[q+1].k))).map ((T8 t)[q+1].nv+·):=by rw [g1.locals];rfl
 have v0:=b2z hoq
 have v1:=b2z hom
 have hr:=c58 h hS hoq (o':=(T8 t)[q+1]) h1.symm h2.symm (by omega)
 have hlo:=ok0.lo
 have hhi:=ok1.hi
 have hnv:(T8 t)[q+1].nv=(T8 t)[q].nv+N4 t (nd t (T8 t)[q].k):=by rw [h1];omega
 refine ⟨q,N4 t (nd t (T8 t)[q].k),(T8 t)[q].nv,rfl,by omega,hlo,?_,?_,?_,?_,?_,?_⟩
 ·rw [<- h1,hnv] at hhi;exact hhi
 ·rw [ep q hq];exact l0
 ·rw [ep _ hpl,l1,hnv,h1]
 ·rw [ep q hq]
  obtain ⟨vs,w1,w2,w3,w4⟩:=a6I hoq
  rw [g0.vars,g0.locals]
  intro v hv
  simp only [pr1,List.mem_append,List.mem_range,List.mem_map] at hv ⊢
  rcases hv with hv | hv
  ·exact .inl (by show v<(gat t).vs.length;omega)
  ·exact .inr hv
 ·rw [ep _ hpl,ep q hq]
  have hd:(T8 t)[q+1].nv-(T8 t)[q].nv=N4 t (nd t (T8 t)[q].k):=by omega
  rw [hd] at hr
  rw [g1.locals,g1.copy]
  exact hr
 ·intro i hi
  have a:=v0 i hi
  have b:=v1 i (by rw [<- h1];exact hi)
  rw [hnv,<- h1] at b
  show vAt (gbt t).vs _=vAt (gbt t).vs _
  rw [a,b]
end Go.V
namespace Go.V
variable {mo:Mo} {s:Stt}
def a1R (p:Pr):Bool:=p.edges.all fun e=>decide (e.to≠0)
def Mo.barred (mo:Mo) (st:Stt) (i:Nat):Bool:=decide (0<(pAt mo.procs i).copy)&&a1R (pAt mo.procs i)&&decide (nAt st.at' i=0)&&decide (nAt st.at' (i-1)=0)
def Mo.freeM (mo:Mo) (st:Stt) (v:Mv):Bool:=!(decide (v.kind=0)&&mo.barred st v.proc)
def Mo.someM (mo:Mo) (am:Bool) (st:Stt):List Mv:=(if am then mo.ample st else mo.moves st).filter (mo.freeM st)
def a7m (mo:Mo) (s:Stt):Prop:=∀j,j<mo.procs.length->a1R (pAt mo.procs j)=true->nAt s.at' j=0->s.hold≠(j:Int)/\∀v∈(pAt mo.procs j).locals,zAt s.vars v=(vAt mo.vars v).value
structure MoC (mo:Mo):Prop where
 tw:∀p,p<mo.procs.length->0<(pAt mo.procs p).copy->∃q n lo,p=q+1/\Cop mo q n lo
theorem b9B {t:List Nd} (h:N6 t) (hS:a0s t):MoC (S5 t):=⟨fun _ hp hc=>b8o h hS hp hc⟩
theorem b7x {l:List Int} {i j:Nat} {x:Int} (h:i≠j):zAt (l.set i x) j=zAt l j:=by
 unfold zAt
 simp [List.getD,List.getElem?_set,h]
theorem b3n {i:Nat} {p:Pr} {e:Ed}:(mo.edgeS s i p e).at'=s.at'.set i e.to:=by
 unfold Mo.edgeS Mo.actS
 repeat' split
 all_goals rfl
theorem c3j {i:Nat} {p:Pr} (hp:a2Q mo p) {e:Ed} (he:e∈p.edges) {w:Nat} (hw:w∉p.vars):zAt (mo.edgeS s i p e).vars w=zAt s.vars w:=by
 have key:∀a,e.act=1∨e.act=3->zAt (s.vars.set e.var.toNat a) w=zAt s.vars w:=fun a ha=>by
  obtain ⟨b,hb,hv⟩:=(hp.inv.ed e he).v1 ha
  rw [hv,Int.toNat_natCast]
  exact b7x fun c=>hw (c▸hb)
 unfold Mo.edgeS Mo.actS
 split
 ·rename_i c;exact key _ (.inl c)
 split
 ·rfl
 split
 ·rename_i c;exact key _ (.inr c)
 ·rfl
theorem a7m.step (ho:O4 mo) (hq:MoQ mo) (hI:Fit mo s) (hF:a7m mo s) {v:Mv} (hv:v∈mo.moves s):a7m mo (mo.doS s v):=by
 rcases a3Q.1 hv with ⟨k0,_,hp,he,_,_⟩ | ⟨_,_,c⟩
 ·have hd:mo.doS s v=mo.doE s v.proc (pAt mo.procs v.proc) (eAt (pAt mo.procs v.proc).edges v.edge):=by
   unfold Mo.doS;rw [if_neg (by omega),if_neg (by omega)]
  have hem:=a1P he
  rw [hd]
  generalize eAt (pAt mo.procs v.proc).edges v.edge=e at *
  have hpo:=ho.pr _ (a0l hp)
  intro j hj hb ha
  have ha:nAt (mo.edgeS s v.proc (pAt mo.procs v.proc) e).at' j=0:=ha
  rw [b3n] at ha
  by_cases c:j=v.proc
  ·exfalso
   subst c
   have hl:=hI.at'
   rw [a54 (by omega),if_pos rfl] at ha
   unfold a1R at hb
   have:=List.all_eq_true.1 hb e hem
   simp [ha] at this
  ·have hl:=hI.at'
   rw [a54 (by omega),if_neg c] at ha
   obtain ⟨h1,h2⟩:=hF j hj hb ha
   refine ⟨?_,fun w hw=>?_⟩
   ·unfold Mo.doE
    simp only
    split<;>omega
   ·have:zAt (mo.edgeS s v.proc (pAt mo.procs v.proc) e).vars w=zAt s.vars w:=c3j hpo hem (hq.own j v.proc hj hp c w hw)
    exact this.trans (h2 w hw)
 ·have hk:=a5d c
  intro j hj hb ha
  have e1:(mo.doS s v).at'=s.at'/\(mo.doS s v).vars=s.vars/\(mo.doS s v).hold=s.hold:=by
   unfold Mo.doS
   split
   ·exact ⟨rfl,rfl,rfl⟩
   ·rw [if_pos (by omega)];exact ⟨rfl,rfl,rfl⟩
  rw [e1.1] at ha
  rw [e1.2.1,e1.2.2]
  exact hF j hj hb ha
theorem c5y {q n lo:Nat} (h:Cop mo q n lo):a1R (pAt mo.procs (q+1))=a1R (pAt mo.procs q):=by
 rw [h.re]
 unfold a1R
 show ((pAt mo.procs q).edges.map _).all _=_
 rw [List.all_map]
 rfl
theorem b0c {am:Bool} {v:Mv} (h:v∈mo.someM am s):v∈mo.moves s:=by
 unfold Mo.someM at h
 have:=(List.mem_filter.1 h).1
 cases am
 ·exact this
 ·exact a7a this
end Go.V
namespace Go.V
theorem b7T {v w:Mv}:a0H [.i,.i,.i,.i] [.int .i64 (v.kind:Int),.int .i64 (v.proc:Int),.int .i64 (v.edge:Int),.int .i64 (v.chan:Int)] [.int .i64 (w.kind:Int),.int .i64 (w.proc:Int),.int .i64 (w.edge:Int),.int .i64 (w.chan:Int)]=some (decide (v=w)):=by
 have e:∀a b:Nat,((a:Int)==(b:Int))=decide (a=b):=fun a b=>by
  by_cases h:a=b
  ·subst h;simp
  ·rw [decide_eq_false h];simp;omega
 cases v;cases w
 simp [a0H,a3X,e,Bool.decide_and]
attribute [go_sem] b7T
end Go.V
namespace Go.V
variable {mo:Mo} {s:Stt}
def a6Y (mo:Mo) (s:Stt):Prop:=∀p,p<mo.procs.length->0<(pAt mo.procs p).copy->a1R (pAt mo.procs p)=true->nAt s.at' (p-1)=0->nAt s.at' p=0
theorem a6Y.step (hC:MoC mo) (hI:Fit mo s) (hO:a6Y mo s) {am:Bool} {v:Mv} (hv:v∈mo.someM am s):a6Y mo (mo.doS s v):=by
 have hm:=b0c hv
 have hfree:mo.freeM s v=true:=by unfold Mo.someM at hv;exact (List.mem_filter.1 hv).2
 rcases a3Q.1 hm with ⟨k0,_,hp,he,_,_⟩ | ⟨_,_,c⟩
 ·have hd:mo.doS s v=mo.doE s v.proc (pAt mo.procs v.proc) (eAt (pAt mo.procs v.proc).edges v.edge):=by
   unfold Mo.doS;rw [if_neg (by omega),if_neg (by omega)]
  have hem:=a1P he
  have hl:=hI.at'
  have hat:(mo.doS s v).at'=s.at'.set v.proc (eAt (pAt mo.procs v.proc).edges v.edge).to:=by rw [hd];exact b3n
  intro p hpl hc hb h0
  obtain ⟨q,n,lo,rfl,hcop⟩:=hC.tw p hpl hc
  rw [hat,a54 (by omega)] at h0 ⊢
  simp only [Nat.add_sub_cancel] at h0
  have hb0:=hb
  rw [c5y hcop] at hb0
  by_cases c:q=v.proc
  ·exfalso
   rw [if_pos c] at h0
   rw [c] at hb0
   unfold a1R at hb0
   have:=List.all_eq_true.1 hb0 _ hem
   simp [h0] at this
  ·rw [if_neg c] at h0
   have h1:=hO (q+1) hpl hc hb (by simpa using h0)
   by_cases c1:q+1=v.proc
   ·exfalso
    unfold Mo.freeM at hfree
    have:mo.barred s v.proc=true:=by
     rw [<- c1]
     unfold Mo.barred
     simp [hc,hb,h1,h0]
    rw [this,k0] at hfree
    simp at hfree
   ·rw [if_neg c1];exact h1
 ·have hk:=a5d c
  have e1:(mo.doS s v).at'=s.at':=by
   unfold Mo.doS
   split
   ·rfl
   ·rw [if_pos (by omega)]
  intro p hpl hc hb h0
  rw [e1] at h0 ⊢
  exact hO p hpl hc hb h0
structure a8o (mo:Mo) (s:Stt):Prop where
 inv:a3y mo s
 un:a7m mo s
 ord:a6Y mo s
theorem a8o.step (ho:O4 mo) (hf:X8 mo) (hq:MoQ mo) (hC:MoC mo) (h:a8o mo s) {am:Bool} {v:Mv} (hv:v∈mo.someM am s):a8o mo (mo.doS s v) :=
 ⟨h.inv.step ho hf (b0c hv),h.un.step ho hq h.inv.fit (b0c hv),h.ord.step hC h.inv.fit hv⟩
end Go.V
namespace Go.Proofs.YtnjlhebkhjcagaaGreat
open Go.V
set_option maxRecDepth 100000
set_option maxHeartbeats 4000000
variable {m:MdX} {mo:Mo} {ps:List (Pr×PrD)} {x:StD} {st:Stt}
theorem b0B {p:Pr}:a1R p=true↔∀j,j<p.edges.length->(eAt p.edges j).to≠0:=by
 unfold a1R
 rw [List.all_eq_true]
 constructor
 ·intro h j hj
  simpa using h _ (a1P hj)
 ·intro h e he
  obtain ⟨j,hj,rfl⟩:=List.getElem_of_mem he
  have:=h j hj
  rw [a15 hj] at this
  simpa using this
theorem b5E {p:Pr} {j:Nat} (hj:j<p.edges.length) (h:(eAt p.edges j).to=0):a1R p=false:=by
 cases hb:a1R p
 ·rfl
 ·exact absurd h (b0B.1 hb j hj)
theorem b1O (hm:MoF m mo ps) (ho:O4 mo) (hC:MoC mo) (hx:Y6 mo x st) {p:Nat} (hp:p<mo.procs.length):Eqc vfs 52 [.agg [m.dt,.int .i64 m.g,m.dc,m.dv,m.dp,m.ds,.bool m.b],.agg [x.da,x.dv,x.dc,.int .i64 st.hold],.int .i64 (p:Int)] (.bool (mo.barred st p)):=by
 have om:=hm.ones
 have ox:=hx.f.ones
 have hxa:=hx.f.a
 have hnp:=ho.np
 have hal:=hx.fit.at'
 have hel:=(ho.pr _ (a0l hp)).el
 have hp1:p<st.at'.length:=by omega
 have hp2:p-1<st.at'.length:=by omega
 refine P4 ?_
 by_cases c1:(pAt mo.procs p).copy=0
 ·have e:mo.barred st p=false:=by unfold Mo.barred;rw [decide_eq_false (by omega)];rfl
  rw [e]
  refine N3 (vf:=a3q) rfl ?_
  unfold a3q;refine zF ?_
  exact zZ (aN om (aN ox (aN hp c1)))
 have c1':¬ ((pAt mo.procs p).copy:Int)<=0:=by omega
 obtain ⟨q,n,lo,hpq,_⟩:=hC.tw p hp (by omega)
 have c2:¬ (p:Int)=0:=by omega
 have e2:IntKind.i64.wrap ((p:Int)-1)=((p-1:Nat):Int):=by rw [O7 (by omega) (by omega)];omega
 by_cases c3:nAt st.at' p=0
 rotate_left
 ·have c3':¬ (nAt st.at' p:Int)=0:=by omega
  have e:mo.barred st p=false:=by unfold Mo.barred;rw [decide_eq_false c3];simp
  rw [e]
  refine N3 (vf:=a3q) rfl ?_
  unfold a3q;refine zF ?_
  exact zZ (aN om (aN ox (aN hp (aN c1' (aN c2 (aN hp1 c3'))))))
 by_cases c4:nAt st.at' (p-1)=0
 rotate_left
 ·have c4':¬ (nAt st.at' (p-1):Int)=0:=by omega
  have e:mo.barred st p=false:=by unfold Mo.barred;rw [decide_eq_false c4];simp
  rw [e]
  refine N3 (vf:=a3q) rfl ?_
  unfold a3q;refine zF ?_
  exact zZ (aN om (aN ox (aN hp (aN c1' (aN c2 (aN hp1 (aN hp2 (aN c3 (aN e2 c4')))))))))
 have e:mo.barred st p=a1R (pAt mo.procs p):=by
  unfold Mo.barred
  rw [decide_eq_true c3,decide_eq_true c4,decide_eq_true (by omega)]
  simp
 rw [e]
 refine N3 (vf:=a3q) rfl ?_
 unfold a3q;refine zF ?_
 refine zY (aN om (aN ox (aN hp (aN c1' (aN c2 (aN hp1 (aN hp2 (aN c3 (aN e2 c4))))))))) ?_
 refine P6 [0,1,2,3,4,7,38,40,41] 0 (pAt mo.procs p).edges.length (fun j f s=>f 42=.int .i64 (j:Int)/\∀i,i<j->(eAt (pAt mo.procs p).edges i).to≠0) (.mk rfl) (by omega) ⟨rfl,fun i h=>by omega⟩ ?_
 rintro j f s hj ⟨hE,hall⟩
 by_cases cj:j<(pAt mo.procs p).edges.length
 rotate_left
 ·have:=b0B.2 fun i hi=>hall i (by omega)
  rw [this]
  exact zZ (aN hE cj)
 by_cases c5:(eAt (pAt mo.procs p).edges j).to=0
 ·rw [b5E cj c5]
  exact zZ (aN hE (aN cj c5))
 ·have c5':¬ ((eAt (pAt mo.procs p).edges j).to:Int)=0:=by omega
  refine zY (aN hE (aN cj c5')) ?_
  intro i hi
  by_cases eq:i=j
  ·subst eq;exact c5
  ·exact hall i (by omega)
theorem b2l (hm:MoF m mo ps) (ho:O4 mo) (hf:X8 mo) (hx:Y6 mo x st):Eqc vfs 51 [.agg [m.dt,.int .i64 m.g,m.dc,m.dv,m.dp,m.ds,.bool m.b],.agg [x.da,x.dv,x.dc,.int .i64 st.hold]] (.bool true):=by
 have h:=a74 hm ho hf (a8c ho hx)
 rw [decide_eq_true hx.fit.hold] at h
 exact h
theorem c4V (hm:MoF m mo ps) (ho:O4 mo) (hf:X8 mo) (hC:MoC mo) (hx:Y6 mo x st) {p:Nat} (hp:p<mo.procs.length):Eqc vfs 30 [.agg [m.dt,.int .i64 m.g,m.dc,m.dv,m.dp,m.ds,.bool m.b],.agg [x.da,x.dv,x.dc,.int .i64 st.hold],.int .i64 (p:Int)] (.bool (mo.barred st p)):=by
 have om:=hm.ones
 have ox:=hx.f.ones
 have fm:=a0N hm
 have fx:=a1A hx.f
 have hb:=b1O hm ho hC hx hp
 have hfb:=b2l hm ho hf hx
 have hp':¬ mo.procs.length<=p:=by omega
 refine P4 ?_
 refine N3 (vf:=a2U) rfl ?_
 unfold a2U;refine zF ?_
 exact zZ (aN om (aN ox (aN fm (aN fx (aN hb (aN hfb hp'))))))
theorem b4i {d d':D} {l r:List Mv} (hd:FL 4 d (U3 l)) (hd':FL 4 d' (U3 r)) (hl:l.length<=1000000):Eqc vfs 15 [d,d'] (.bool (decide (l=r))):=by
 refine P4 ?_
 by_cases c:l.length=r.length
 rotate_left
 ·have c':¬ (l.length:Int)=(r.length:Int):=by omega
  rw [decide_eq_false fun e=>c (by rw [e])]
  refine N3 (vf:=a6b) rfl ?_
  unfold a6b;refine zF ?_
  exact zZ (aN hd (aN hd' c'))
 have c':(l.length:Int)=(r.length:Int):=by omega
 refine N3 (vf:=a6b) rfl ?_
 unfold a6b;refine zF ?_
 refine zY (aN hd (aN hd' c')) ?_
 refine P6 [0,1,10] 0 l.length (fun i f s=>f 5=.int .i64 (i:Int)/\s=f6.empty/\∀j,j<i->O0 l j=O0 r j) (.mk rfl) (by omega) ⟨rfl,rfl,fun j h=>by omega⟩ ?_
 rintro i f s hi ⟨hE,rfl,hj⟩
 by_cases ci:i<l.length
 rotate_left
 ·have:l=r:=List.ext_getElem c fun j h1 h2=>by
   rw [<- a37 h1,<- a37 h2];exact hj j (by omega)
  rw [decide_eq_true this]
  have ci2:¬ i<r.length:=by omega
  exact zZ (aN hE (aN ci (aN ci2 (aN hd (aN hd' c')))))
 have ci':i<r.length:=by omega
 by_cases ce:O0 l i=O0 r i
 ·refine zY (aN hE (aN ci (aN ci' (aN hd (aN hd' (aN ce c')))))) ?_
  intro j hj'
  by_cases e:j=i
  ·subst e;exact ce
  ·exact hj j (by omega)
 ·have:l≠r:=fun e=>ce (by rw [e])
  rw [decide_eq_false this]
  exact zZ (aN hE (aN ci (aN ci' (aN hd (aN hd' (aN ce c'))))))
end Go.Proofs.YtnjlhebkhjcagaaGreat
namespace Go.Proofs.YtnjlhebkhjcagaaGreat
open Go.V
set_option maxRecDepth 100000
set_option maxHeartbeats 4000000
variable {m:MdX} {mo:Mo} {ps:List (Pr×PrD)} {x:StD} {st:Stt}
theorem b6Q (hm:MoF m mo ps) (ho:O4 mo) (hf:X8 mo) (hq:MoQ mo) (hN:MoN mo) (hW:MoW mo) (hx:Y6 mo x st):a31 vfs 16 [.agg [m.dt,.int .i64 m.g,m.dc,m.dv,m.dp,m.ds,.bool m.b],.agg [x.da,x.dv,x.dc,.int .i64 st.hold]] fun d=>FL 4 d (U3 (mo.ample st)):=by
 have fm:=a0N hm
 have fx:=a1A hx.f
 have om:=hm.ones
 have ox:=hx.f.ones
 have hxa:=hx.f.a
 have hnp:=ho.np
 have hh:=hx.fit.hold
 have hal:=hx.fit.at'
 have hml:=a4q ho (st:=st)
 obtain ⟨dm,hmv,hfl⟩:=a86 hm ho hx
 have hmv:=P4 hmv
 have oe:=FL.one hfl
 have pe:=FL.pz hfl
 refine a16 (vf:=b06) rfl ?_
 unfold b06;refine zF ?_
 refine zY (aN om (aN ox (aN fm (aN fx hmv)))) ?_
 have hp0:Hp ((f6.empty.push (.cells [m.dt,.int .i64 m.g,m.dc,m.dv,m.dp,m.ds,.bool m.b])).push (.cells [x.da,x.dv,x.dc,.int .i64 st.hold])) [] [(0,[m.dt,.int .i64 m.g,m.dc,m.dv,m.dp,m.ds,.bool m.b]),(1,[x.da,x.dv,x.dc,.int .i64 st.hold])]:=⟨List.nodup_nil,by simp,by simp [Has],by
  intro y hy
  simp only [List.mem_cons,List.not_mem_nil,or_false] at hy
  rcases hy with rfl | rfl
  ·exact zZ0
  ·simp (disch:=(first|exact Rf.mk rfl|with_reducible assumption|omega|((repeat (first|rw [nP]|rw [nS]|rw [M7]))<;>omega)|decide)) only [go_sem,↓reduceIte]⟩
 generalize (f6.empty.push (.cells [m.dt,.int .i64 m.g,m.dc,m.dv,m.dp,m.ds,.bool m.b])).push (.cells [x.da,x.dv,x.dc,.int .i64 st.hold])=s0 at *
 have hg:∀ {s E},Hp s E [(0,[m.dt,.int .i64 m.g,m.dc,m.dv,m.dp,m.ds,.bool m.b]),(1,[x.da,x.dv,x.dc,.int .i64 st.hold])]->s.get 0=some (.cells [m.dt,.int .i64 m.g,m.dc,m.dv,m.dp,m.ds,.bool m.b])/\s.get 1=some (.cells [x.da,x.dv,x.dc,.int .i64 st.hold]):=fun h=>⟨h.r (0,_) (by simp),h.r (1,_) (by simp)⟩
 obtain ⟨g0,g1⟩:=hg hp0
 have l0:=M5 g0
 have l1:=M5 g1
 refine P6 [0,1,2,3,5] 0 mo.procs.length (fun i f s=>f 6=.int .i64 (i:Int)/\s=s0/\∀q,q<i->mo.quiet q (nAt st.at' q)=false) (.mk rfl) (by omega) ⟨rfl,rfl,fun q h=>by omega⟩ ?_
 rintro i f s hi ⟨hE,rfl,hall⟩
 by_cases ci:i<mo.procs.length
 rotate_left
 ·have hF:=b1G (mo:=mo) (st:=st) fun q h=>hall q (by omega)
  have e:mo.ample st=mo.moves st:=by
   unfold Mo.ample
   rw [hF]
   simp
  refine zY (aN hE (aN ci (aN hal (aN g0 om)))) ?_
  rw [e]
  exact ⟨_,rfl,hfl⟩
 by_cases c2:st.hold=-1
 rotate_left
 ·have e:mo.ample st=mo.moves st:=by
   unfold Mo.ample
   rw [if_neg (by omega)]
  have c3:¬ st.hold<0:=by omega
  refine zY (aN hE (aN ci (aN hal (aN g0 (aN g1 (aN om (aN ox c3))))))) ?_
  rw [e]
  exact ⟨_,rfl,hfl⟩
 have c3:st.hold<0:=by omega
 have ci':i<st.at'.length:=by omega
 have hqb:=b4q hm ho hq hN hW (k:=nAt st.at' i) ci
 cases hqv:mo.quiet i (nAt st.at' i)
 ·rw [hqv] at hqb
  refine zY (aN hE (aN ci (aN ci' (aN hal (aN g0 (aN g1 (aN om (aN ox (aN fm (aN hxa (aN hqb c3))))))))))) ?_
  intro q hq'
  by_cases eq:q=i
  ·subst eq;exact hqv
  ·exact hall q (by omega)
 rw [hqv] at hqb
 have hF:=b1M ci hqv hall
 have e:mo.ample st=(mo.moves st).filter (isP i):=by
  unfold Mo.ample isP
  rw [hF,if_pos (by omega)]
 refine zY (aN hE (aN ci (aN ci' (aN hal (aN g0 (aN g1 (aN om (aN ox (aN fm (aN hxa (aN hqb (aN hfl c3)))))))))))) ?_
 refine P6 [0,1,2,3,4,5,6,21,31] 0 (mo.moves st).length (fun j f s=>f 8=.int .i64 (j:Int)/\∃E,Rp (f 7) 4 (U3 (((mo.moves st).take j).filter (isP i))) E/\Hp s E [(0,[m.dt,.int .i64 m.g,m.dc,m.dv,m.dp,m.ds,.bool m.b]),(1,[x.da,x.dv,x.dc,.int .i64 st.hold])]) (.mk rfl) (by omega) ⟨rfl,[],.inl ⟨rfl,rfl,rfl⟩,hp0⟩ ?_
 rintro j f s hj ⟨hE,E,hr,hp⟩
 by_cases cj:j<(mo.moves st).length
 rotate_left
 ·obtain rfl:j=(mo.moves st).length:=by omega
  rw [List.take_length] at hr
  obtain ⟨d',h1,h2⟩:=a2S hr hp (fun e h=>h) (a1O _) (a3k _)
  refine zY (aN hE (aN cj h1)) ?_
  rw [e]
  exact ⟨_,rfl,h2⟩
 have hsu:=a44 (P:=isP i) cj
 by_cases k0:((O0 (mo.moves st) j).kind:Int)=0
 rotate_left
 ·have:isP i (O0 (mo.moves st) j)=false:=by
   unfold isP
   rw [decide_eq_false (by omega),Bool.false_and]
  rw [this,if_neg (by simp),List.append_nil] at hsu
  refine zY (aN hE (aN cj (aN hfl k0))) ?_
  rw [hsu]
  exact ⟨E,hr,hp⟩
 by_cases k1:(O0 (mo.moves st) j).proc=i
 rotate_left
 ·have:isP i (O0 (mo.moves st) j)=false:=by
   unfold isP
   rw [decide_eq_false k1,Bool.and_false]
  rw [this,if_neg (by simp),List.append_nil] at hsu
  refine zY (aN hE (aN cj (aN hfl (aN k0 k1)))) ?_
  rw [hsu]
  exact ⟨E,hr,hp⟩
 have:isP i (O0 (mo.moves st) j)=true:=by
  unfold isP
  rw [decide_eq_true (by omega),decide_eq_true k1]
  rfl
 rw [this,if_pos rfl] at hsu
 refine zY (aN hE (aN cj (aN hfl (aN k0 k1)))) ?_
 refine a1n (O0 (mo.moves st) j) ?_ hr hp (by decide) (by have:=a23 (l:=mo.moves st) (P:=isP i) (j:=j);omega) ?_
 ·unfold Mv.row
  rw [k0,k1]
 rintro d1 s1 E1 hr1 hp1
 refine zY (aN hE cj) ?_
 rw [hsu]
 exact ⟨E1,hr1,hp1⟩
theorem b2N (hm:MoF m mo ps) (ho:O4 mo) (hf:X8 mo) (hq:MoQ mo) (hN:MoN mo) (hW:MoW mo) (hx:Y6 mo x st):∃d,Eqc vfs 16 [.agg [m.dt,.int .i64 m.g,m.dc,m.dv,m.dp,m.ds,.bool m.b],.agg [x.da,x.dv,x.dc,.int .i64 st.hold]] d/\FL 4 d (U3 (mo.ample st)):=by
 obtain ⟨d,h1,h2⟩:=b6Q hm ho hf hq hN hW hx
 exact ⟨d,P4 h1,h2⟩
end Go.Proofs.YtnjlhebkhjcagaaGreat
namespace Go.Proofs.YtnjlhebkhjcagaaGreat
open Go.V
set_option maxRecDepth 100000
set_option maxHeartbeats 4000000
variable {m:MdX} {mo:Mo} {ps:List (Pr×PrD)} {x:StD} {st:Stt}
theorem b5v {z:Int} (hx:Y6 mo x st) (h0:st.hold=-1) (hz:a0w z):a63 mo x { st with hold:=z } :=
 ⟨⟨hx.f.a,hx.f.v,hx.f.c⟩,⟨hx.e.v,hx.e.c⟩,by have:=hx.fit;cases st;simp only at h0;subst h0;exact this,hz⟩
end Go.Proofs.YtnjlhebkhjcagaaGreat
namespace Go.Proofs.YtnjlhebkhjcagaaGreat
open Go.V
set_option maxRecDepth 100000
set_option maxHeartbeats 4000000
variable {m:MdX} {mo:Mo} {ps:List (Pr×PrD)} {x:StD} {st:Stt}
theorem b3C (hm:MoF m mo ps) (ho:O4 mo) (hC:MoC mo) (hx:Y6 mo x st) {p:Nat} (hp:p<mo.procs.length):Eqc vfs 29 [.agg [m.dt,.int .i64 m.g,m.dc,m.dv,m.dp,m.ds,.bool m.b],.agg [x.da,x.dv,x.dc,.int .i64 st.hold],.int .i64 (p:Int)] (.bool (mo.barred st p)):=by
 have om:=hm.ones
 have ox:=hx.f.ones
 have hxa:=hx.f.a
 have hnp:=ho.np
 have hal:=hx.fit.at'
 have hel:=(ho.pr _ (a0l hp)).el
 have hp1:p<st.at'.length:=by omega
 have hp2:p-1<st.at'.length:=by omega
 refine P4 ?_
 refine N3 (vf:=a9H) rfl ?_
 unfold a9H;refine zF ?_
 refine zY (aN om (aN ox hp)) ?_
 have hp0:Hp (((f6.empty.push (.cells [m.dt,.int .i64 m.g,m.dc,m.dv,m.dp,m.ds,.bool m.b])).push (.cells [x.da,x.dv,x.dc,.int .i64 st.hold])).push (.cells [.str (bs []),.int .i64 0,.nils,.int .i64 0,.nils,.nils,.nils,.nils]) |>.set 2 (some (.cells [.str (pAt mo.procs p).name,.int .i64 ((pAt mo.procs p).copy:Int),(prX ps p).dl,.int .i64 ((pAt mo.procs p).places:Int),(prX ps p).dr,(prX ps p).de,(prX ps p).dn,(prX ps p).dv]))) [] [(0,[m.dt,.int .i64 m.g,m.dc,m.dv,m.dp,m.ds,.bool m.b]),(1,[x.da,x.dv,x.dc,.int .i64 st.hold]),(2,[.str (pAt mo.procs p).name,.int .i64 ((pAt mo.procs p).copy:Int),(prX ps p).dl,.int .i64 ((pAt mo.procs p).places:Int),(prX ps p).dr,(prX ps p).de,(prX ps p).dn,(prX ps p).dv])]:=⟨List.nodup_nil,by simp,by simp [Has],by
  intro y hy
  simp only [List.mem_cons,List.not_mem_nil,or_false] at hy
  rcases hy with rfl | rfl | rfl
  ·exact zZ0
  ·exact zZ0
  ·simp (disch:=(first|exact Rf.mk rfl|with_reducible assumption|omega|((repeat (first|rw [nP]|rw [nS]|rw [M7]))<;>omega)|decide)) only [go_sem,↓reduceIte]⟩
 generalize (((f6.empty.push (.cells [m.dt,.int .i64 m.g,m.dc,m.dv,m.dp,m.ds,.bool m.b])).push (.cells [x.da,x.dv,x.dc,.int .i64 st.hold])).push (.cells [.str (bs []),.int .i64 0,.nils,.int .i64 0,.nils,.nils,.nils,.nils])).set 2 (some (.cells [.str (pAt mo.procs p).name,.int .i64 ((pAt mo.procs p).copy:Int),(prX ps p).dl,.int .i64 ((pAt mo.procs p).places:Int),(prX ps p).dr,(prX ps p).de,(prX ps p).dn,(prX ps p).dv]))=s0 at *
 have g1:s0.get 1=some (.cells [x.da,x.dv,x.dc,.int .i64 st.hold]):=hp0.r (1,_) (by simp)
 have g2:s0.get 2=some (.cells [.str (pAt mo.procs p).name,.int .i64 ((pAt mo.procs p).copy:Int),(prX ps p).dl,.int .i64 ((pAt mo.procs p).places:Int),(prX ps p).dr,(prX ps p).de,(prX ps p).dn,(prX ps p).dv]):=hp0.r (2,_) (by simp)
 have l1:=M5 g1
 have l2:=M5 g2
 refine P6 [0,1,2,3,4,7] 0 (pAt mo.procs p).edges.length (fun j f s=>f 8=.int .i64 (j:Int)/\s=s0/\∀i,i<j->(eAt (pAt mo.procs p).edges i).to≠0) (.mk rfl) (by omega) ⟨rfl,rfl,fun i h=>by omega⟩ ?_
 rintro j f s hj ⟨hE,rfl,hall⟩
 by_cases cj:j<(pAt mo.procs p).edges.length
 ·by_cases c5:(eAt (pAt mo.procs p).edges j).to=0
  ·have e:mo.barred st p=false:=by unfold Mo.barred;rw [b5E cj c5];simp
   rw [e]
   exact zZ (aN hE (aN cj (aN c5 g2)))
  ·have c5':¬ ((eAt (pAt mo.procs p).edges j).to:Int)=0:=by omega
   refine zY (aN hE (aN cj (aN c5' g2))) ?_
   intro i hi
   by_cases eq:i=j
   ·subst eq;exact c5
   ·exact hall i (by omega)
 have hnb:=b0B.2 fun i hi=>hall i (by omega)
 by_cases c1:(pAt mo.procs p).copy=0
 ·have e:mo.barred st p=false:=by unfold Mo.barred;rw [decide_eq_false (by omega)];rfl
  rw [e]
  exact zZ (aN hE (aN cj (aN g1 (aN g2 (aN ox c1)))))
 have c1':0<((pAt mo.procs p).copy:Int):=by omega
 obtain ⟨q,n,lo,hpq,_⟩:=hC.tw p hp (by omega)
 have e2:IntKind.i64.wrap ((p:Int)-1)=((p-1:Nat):Int):=by rw [O7 (by omega) (by omega)];omega
 by_cases c3:nAt st.at' p=0
 rotate_left
 ·have c3':¬ (nAt st.at' p:Int)=0:=by omega
  have e:mo.barred st p=false:=by unfold Mo.barred;rw [decide_eq_false c3];simp
  rw [e]
  exact zZ (aN hE (aN cj (aN g1 (aN g2 (aN ox (aN c1' (aN hp1 c3')))))))
 by_cases c4:nAt st.at' (p-1)=0
 rotate_left
 ·have c4':¬ (nAt st.at' (p-1):Int)=0:=by omega
  have e:mo.barred st p=false:=by unfold Mo.barred;rw [decide_eq_false c4];simp
  rw [e]
  exact zZ (aN hE (aN cj (aN g1 (aN g2 (aN ox (aN c1' (aN hp1 (aN hp2 (aN c3 (aN e2 c4'))))))))))
 have e:mo.barred st p=true:=by
  unfold Mo.barred
  rw [decide_eq_true c3,decide_eq_true c4,decide_eq_true (by omega),hnb]
  rfl
 rw [e]
 exact zZ (aN hE (aN cj (aN g1 (aN g2 (aN ox (aN c1' (aN hp1 (aN hp2 (aN c3 (aN e2 c4))))))))))
end Go.Proofs.YtnjlhebkhjcagaaGreat
namespace Go.Proofs.YtnjlhebkhjcagaaGreat
open Go.V
set_option maxRecDepth 100000
set_option maxHeartbeats 4000000
variable {m:MdX} {mo:Mo} {ps:List (Pr×PrD)} {x:StD} {st:Stt}
theorem b42 (n:Nat):a1y [.int .i64 0] n=S2 (List.replicate n 0):=by
 induction n with
 | zero=>rfl
 | succ n ih=>simp only [a1y,ih,List.replicate_succ,S2,List.map_cons];rfl
def a24 (mo:Mo) (am al:Bool) (st:Stt):List Mv:=if al then mo.someM am st else if am then mo.ample st else mo.moves st
theorem b0R (ho:O4 mo):(mo.ample st).length<=1000000:=by
 have:=a4q ho (st:=st)
 refine Nat.le_trans (m:=(mo.moves st).length) ?_ (by omega)
 rcases a9g mo st with e | ⟨i,_,_,_,e⟩
 ·rw [e];exact Nat.le_refl _
 ·rw [e];exact List.length_filter_le _ _
theorem c4g (hm:MoF m mo ps) (ho:O4 mo) (hf:X8 mo) (hq:MoQ mo) (hC:MoC mo) (hx:Y6 mo x st) (am al:Bool):a31 vfs 27 [.agg [m.dt,.int .i64 m.g,m.dc,m.dv,m.dp,m.ds,.bool m.b],.agg [x.da,x.dv,x.dc,.int .i64 st.hold],.bool am,.bool al] fun d=>FL 4 d (U3 (a24 mo am al st)):=by
 have om:=hm.ones
 have ox:=hx.f.ones
 have fm:=a0N hm
 have fx:=a1A hx.f
 have hnp:=ho.np
 have hfb:=b2l hm ho hf hx
 obtain ⟨da,ha1,ha2⟩:=b4y hm ho hf hq hx
 obtain ⟨dm,hm1,hm2⟩:=b13 hm ho hf hx
 have pa:=FL.pz ha2
 have pm:=FL.pz hm2
 have la:=b0R ho (st:=st)
 have lm:=a4q ho (st:=st)
 cases al
 ·cases am
  ·refine a16 (vf:=a2E) rfl ?_
   unfold a2E;refine zF ?_
   refine zY (aN om (aN ox (aN fm (aN fx (aN hfb (aN hm1 pm)))))) ?_
   exact ⟨_,rfl,hm2⟩
  ·refine a16 (vf:=a2E) rfl ?_
   unfold a2E;refine zF ?_
   refine zY (aN om (aN ox (aN fm (aN fx (aN hfb (aN ha1 pa)))))) ?_
   exact ⟨_,rfl,ha2⟩
 have hp0:Hp ((f6.empty.push (.cells [m.dt,.int .i64 m.g,m.dc,m.dv,m.dp,m.ds,.bool m.b])).push (.cells [x.da,x.dv,x.dc,.int .i64 st.hold])) [] [(0,[m.dt,.int .i64 m.g,m.dc,m.dv,m.dp,m.ds,.bool m.b]),(1,[x.da,x.dv,x.dc,.int .i64 st.hold])]:=⟨List.nodup_nil,by simp,by simp [Has],by
  intro y hy
  simp only [List.mem_cons,List.not_mem_nil,or_false] at hy
  rcases hy with rfl | rfl
  ·exact zZ0
  ·simp (disch:=(first|exact Rf.mk rfl|with_reducible assumption|omega|((repeat (first|rw [nP]|rw [nS]|rw [M7]))<;>omega)|decide)) only [go_sem,↓reduceIte]⟩
 have hbr:∀p,p<mo.procs.length->Eqc vfs 52 [.agg [m.dt,.int .i64 m.g,m.dc,m.dv,m.dp,m.ds,.bool m.b],.agg [x.da,x.dv,x.dc,.int .i64 st.hold],.int .i64 (p:Int)] (.bool (mo.barred st p)):=fun p hp=>b1O hm ho hC hx hp
 have hms:8*(mo.procs.length:Int)<=2 ^ 47/\(mo.procs.length:Int)<2 ^ 62:=⟨by omega,by omega⟩
 cases am
 ·refine a16 (vf:=a2E) rfl ?_
  unfold a2E;refine zF ?_
  refine zY (aN om (aN ox (aN fm (aN fx (aN hfb (aN hm1 hms)))))) ?_
  have hp1:Hp (((f6.empty.push (.cells [m.dt,.int .i64 m.g,m.dc,m.dv,m.dp,m.ds,.bool m.b])).push (.cells [x.da,x.dv,x.dc,.int .i64 st.hold])).push (.cells (a1y [.int .i64 0] mo.procs.length))) [(2,S2 (List.replicate mo.procs.length 0))] [(0,[m.dt,.int .i64 m.g,m.dc,m.dv,m.dp,m.ds,.bool m.b]),(1,[x.da,x.dv,x.dc,.int .i64 st.hold])]:=by
   rw [b42]
   exact hp0.pushW _
  generalize ((f6.empty.push (.cells [m.dt,.int .i64 m.g,m.dc,m.dv,m.dp,m.ds,.bool m.b])).push (.cells [x.da,x.dv,x.dc,.int .i64 st.hold])).push (.cells (a1y [.int .i64 0] mo.procs.length))=s0 at *
  clear hp0
  refine a0O [0,1,2,3,4,5,8,9,10,12,14,18,19,27,35,47,48,49,50,63] (fun f s=>∃h,h.length=mo.procs.length/\(∀j,j<mo.procs.length->zAt h j=if mo.barred st j=true then 1 else 0)/\Hp s [(2,S2 h)] [(0,[m.dt,.int .i64 m.g,m.dc,m.dv,m.dp,m.ds,.bool m.b]),(1,[x.da,x.dv,x.dc,.int .i64 st.hold])]) ?_ ?_
  ·refine P6 [0,1,2,3,4,5,8,9,10,12,14,18,19,27,35,47,48,49,50,63] 0 mo.procs.length (fun i f s=>f 36=.int .i64 (i:Int)/\∃h,h.length=mo.procs.length/\(∀j,j<mo.procs.length->zAt h j=if j<i/\mo.barred st j=true then 1 else 0)/\Hp s [(2,S2 h)] [(0,[m.dt,.int .i64 m.g,m.dc,m.dv,m.dp,m.ds,.bool m.b]),(1,[x.da,x.dv,x.dc,.int .i64 st.hold])]) (.mk rfl) (by omega) ⟨rfl,List.replicate mo.procs.length 0,by simp,fun j hj=>by rw [if_neg (by omega)];simp [zAt,hj],hp1⟩ ?_
   rintro i f s hi ⟨hE,h,hl,hz,hp⟩
   have g0:s.get 0=some (.cells [m.dt,.int .i64 m.g,m.dc,m.dv,m.dp,m.ds,.bool m.b]):=hp.r (0,_) (by simp)
   have g1:=hp.rt.rh
   have g2:=hp.hd
   by_cases ci:i<mo.procs.length
   rotate_left
   ·refine zY (aN hE ci) ?_
    exact ⟨h,hl,fun j hj=>by rw [hz j hj];simp [show j<i by omega],hp⟩
   have ci':i<h.length:=by omega
   have hb:=hbr i ci
   cases hbi:mo.barred st i
   ·rw [hbi] at hb
    refine zY (aN hE (aN ci (aN g0 (aN g1 (aN om (aN ox (aN fm (aN fx hb)))))))) ?_
    refine ⟨h,hl,fun j hj=>?_,hp⟩
    rw [hz j hj]
    by_cases e:j=i
    ·subst e;simp [hbi]
    ·simp [show (j<i+1)=(j<i) by apply propext;omega]
   ·rw [hbi] at hb
    refine zY (aN hE (aN ci (aN g0 (aN g1 (aN om (aN ox (aN fm (aN fx (aN hb (aN g2 ci')))))))))) ?_
    refine ⟨h.set i 1,by simp [hl],fun j hj=>?_,Hp.set (A:=[]) hp _⟩
    rw [a68 ci',hz j hj]
    by_cases e:j=i
    ·subst e;simp [hbi]
    ·rw [if_neg e];simp [show (j<i+1)=(j<i) by apply propext;omega]
  rintro f s ⟨h,hl,hz,hp⟩
  refine zY hm2 ?_
  refine P6 [0,1,2,3,4,5,8,9,10,11,18,19,27,35,36,37,42,47,48] 0 (mo.moves st).length (fun j f s=>f 49=.int .i64 (j:Int)/\∃E,Rp (f 12) 4 (U3 (((mo.moves st).take j).filter (mo.freeM st))) E/\Hp s (E++[(2,S2 h)]) [(0,[m.dt,.int .i64 m.g,m.dc,m.dv,m.dp,m.ds,.bool m.b]),(1,[x.da,x.dv,x.dc,.int .i64 st.hold])]) (.mk rfl) (by omega) ⟨rfl,[],.inl ⟨rfl,rfl,rfl⟩,hp⟩ ?_
  rintro j f s hj ⟨hE,E,hr,hp⟩
  by_cases cj:j<(mo.moves st).length
  rotate_left
  ·obtain rfl:j=(mo.moves st).length:=by omega
   rw [List.take_length] at hr
   obtain ⟨d',h1,h2⟩:=a2S hr hp (fun e h=>by simp [h]) (a1O _) (a3k _)
   refine zY (aN hE (aN cj h1)) ?_
   exact ⟨_,rfl,h2⟩
  have hp2:=hp.fr (a2l (z:=.cells [.int .i64 0,.int .i64 0,.int .i64 0,.int .i64 0]) (o:=.cells [.int .i64 ((O0 (mo.moves st) j).kind:Int),.int .i64 ((O0 (mo.moves st) j).proc:Int),.int .i64 ((O0 (mo.moves st) j).edge:Int),.int .i64 ((O0 (mo.moves st) j).chan:Int)]))
  have hsu:=a44 (P:=mo.freeM st) cj
  have gh:s.get 2=some (.cells (S2 h)):=hp.w (2,S2 h) (by simp)
  have lh:=M5 gh
  by_cases k0:(O0 (mo.moves st) j).kind=0
  rotate_left
  ·have k0':¬ ((O0 (mo.moves st) j).kind:Int)=0:=by omega
   have:mo.freeM st (O0 (mo.moves st) j)=true:=by unfold Mo.freeM;rw [decide_eq_false k0];rfl
   rw [if_pos this] at hsu
   refine zY (aN hE (aN cj (aN hm2 k0'))) ?_
   refine a56 (A:=[]) (B:=[(2,S2 h)]) hr (by simpa using hp2) rfl (a1O _) (by decide) (by have:=a23 (l:=(mo.moves st)) (P:=mo.freeM st) (j:=j);simp;omega) ?_
   rintro d1 s1 E1 hr1 hp1 hn1
   refine zY (aN hE cj) ?_
   rw [hsu]
   exact ⟨E1,by simpa [U3,Mv.row] using hr1,by simpa using hp1⟩
  have k0':((O0 (mo.moves st) j).kind:Int)=0:=by omega
  have hpr:(O0 (mo.moves st) j).proc<h.length:=by
   have hv:O0 (mo.moves st) j∈mo.moves st:=a65 cj
   rcases a3Q.1 hv with ⟨_,_,y,_⟩ | ⟨_,_,y⟩
   ·omega
   ·have:=a5d y;omega
  have hzp:=hz _ (show (O0 (mo.moves st) j).proc<mo.procs.length by omega)
  cases hbp:mo.barred st (O0 (mo.moves st) j).proc
  ·have:mo.freeM st (O0 (mo.moves st) j)=true:=by unfold Mo.freeM;rw [hbp,Bool.and_false];rfl
   rw [if_pos this] at hsu
   rw [hbp,if_neg (by simp)] at hzp
   refine zY (aN hE (aN cj (aN hm2 (aN k0' (aN gh (aN hpr hzp)))))) ?_
   refine a56 (A:=[]) (B:=[(2,S2 h)]) hr (by simpa [k0'] using hp2) rfl (a1O _) (by decide) (by have:=a23 (l:=(mo.moves st)) (P:=mo.freeM st) (j:=j);simp;omega) ?_
   rintro d1 s1 E1 hr1 hp1 hn1
   refine zY (aN hE cj) ?_
   rw [hsu]
   exact ⟨E1,by simpa [U3,Mv.row,k0'] using hr1,by simpa using hp1⟩
  ·have:mo.freeM st (O0 (mo.moves st) j)=false:=by unfold Mo.freeM;rw [hbp,decide_eq_true k0];rfl
   rw [if_neg (by rw [this];simp),List.append_nil] at hsu
   rw [hbp,if_pos rfl] at hzp
   refine zY (aN hE (aN cj (aN hm2 (aN k0' (aN gh (aN hpr hzp)))))) ?_
   rw [hsu]
   exact ⟨E,hr,by simpa [k0'] using hp2⟩
 ·refine a16 (vf:=a2E) rfl ?_
  unfold a2E;refine zF ?_
  refine zY (aN om (aN ox (aN fm (aN fx (aN hfb (aN ha1 hms)))))) ?_
  have hp1:Hp (((f6.empty.push (.cells [m.dt,.int .i64 m.g,m.dc,m.dv,m.dp,m.ds,.bool m.b])).push (.cells [x.da,x.dv,x.dc,.int .i64 st.hold])).push (.cells (a1y [.int .i64 0] mo.procs.length))) [(2,S2 (List.replicate mo.procs.length 0))] [(0,[m.dt,.int .i64 m.g,m.dc,m.dv,m.dp,m.ds,.bool m.b]),(1,[x.da,x.dv,x.dc,.int .i64 st.hold])]:=by
   rw [b42]
   exact hp0.pushW _
  generalize ((f6.empty.push (.cells [m.dt,.int .i64 m.g,m.dc,m.dv,m.dp,m.ds,.bool m.b])).push (.cells [x.da,x.dv,x.dc,.int .i64 st.hold])).push (.cells (a1y [.int .i64 0] mo.procs.length))=s0 at *
  clear hp0
  refine a0O [0,1,2,3,4,5,8,9,10,12,14,18,19,27,35,47,48,49,50,63] (fun f s=>∃h,h.length=mo.procs.length/\(∀j,j<mo.procs.length->zAt h j=if mo.barred st j=true then 1 else 0)/\Hp s [(2,S2 h)] [(0,[m.dt,.int .i64 m.g,m.dc,m.dv,m.dp,m.ds,.bool m.b]),(1,[x.da,x.dv,x.dc,.int .i64 st.hold])]) ?_ ?_
  ·refine P6 [0,1,2,3,4,5,8,9,10,12,14,18,19,27,35,47,48,49,50,63] 0 mo.procs.length (fun i f s=>f 36=.int .i64 (i:Int)/\∃h,h.length=mo.procs.length/\(∀j,j<mo.procs.length->zAt h j=if j<i/\mo.barred st j=true then 1 else 0)/\Hp s [(2,S2 h)] [(0,[m.dt,.int .i64 m.g,m.dc,m.dv,m.dp,m.ds,.bool m.b]),(1,[x.da,x.dv,x.dc,.int .i64 st.hold])]) (.mk rfl) (by omega) ⟨rfl,List.replicate mo.procs.length 0,by simp,fun j hj=>by rw [if_neg (by omega)];simp [zAt,hj],hp1⟩ ?_
   rintro i f s hi ⟨hE,h,hl,hz,hp⟩
   have g0:s.get 0=some (.cells [m.dt,.int .i64 m.g,m.dc,m.dv,m.dp,m.ds,.bool m.b]):=hp.r (0,_) (by simp)
   have g1:=hp.rt.rh
   have g2:=hp.hd
   by_cases ci:i<mo.procs.length
   rotate_left
   ·refine zY (aN hE ci) ?_
    exact ⟨h,hl,fun j hj=>by rw [hz j hj];simp [show j<i by omega],hp⟩
   have ci':i<h.length:=by omega
   have hb:=hbr i ci
   cases hbi:mo.barred st i
   ·rw [hbi] at hb
    refine zY (aN hE (aN ci (aN g0 (aN g1 (aN om (aN ox (aN fm (aN fx hb)))))))) ?_
    refine ⟨h,hl,fun j hj=>?_,hp⟩
    rw [hz j hj]
    by_cases e:j=i
    ·subst e;simp [hbi]
    ·simp [show (j<i+1)=(j<i) by apply propext;omega]
   ·rw [hbi] at hb
    refine zY (aN hE (aN ci (aN g0 (aN g1 (aN om (aN ox (aN fm (aN fx (aN hb (aN g2 ci')))))))))) ?_
    refine ⟨h.set i 1,by simp [hl],fun j hj=>?_,Hp.set (A:=[]) hp _⟩
    rw [a68 ci',hz j hj]
    by_cases e:j=i
    ·subst e;simp [hbi]
    ·rw [if_neg e];simp [show (j<i+1)=(j<i) by apply propext;omega]
  rintro f s ⟨h,hl,hz,hp⟩
  refine zY ha2 ?_
  refine P6 [0,1,2,3,4,5,8,9,10,11,18,19,27,35,36,37,42,47,48] 0 (mo.ample st).length (fun j f s=>f 49=.int .i64 (j:Int)/\∃E,Rp (f 12) 4 (U3 (((mo.ample st).take j).filter (mo.freeM st))) E/\Hp s (E++[(2,S2 h)]) [(0,[m.dt,.int .i64 m.g,m.dc,m.dv,m.dp,m.ds,.bool m.b]),(1,[x.da,x.dv,x.dc,.int .i64 st.hold])]) (.mk rfl) (by omega) ⟨rfl,[],.inl ⟨rfl,rfl,rfl⟩,hp⟩ ?_
  rintro j f s hj ⟨hE,E,hr,hp⟩
  by_cases cj:j<(mo.ample st).length
  rotate_left
  ·obtain rfl:j=(mo.ample st).length:=by omega
   rw [List.take_length] at hr
   obtain ⟨d',h1,h2⟩:=a2S hr hp (fun e h=>by simp [h]) (a1O _) (a3k _)
   refine zY (aN hE (aN cj h1)) ?_
   exact ⟨_,rfl,h2⟩
  have hp2:=hp.fr (a2l (z:=.cells [.int .i64 0,.int .i64 0,.int .i64 0,.int .i64 0]) (o:=.cells [.int .i64 ((O0 (mo.ample st) j).kind:Int),.int .i64 ((O0 (mo.ample st) j).proc:Int),.int .i64 ((O0 (mo.ample st) j).edge:Int),.int .i64 ((O0 (mo.ample st) j).chan:Int)]))
  have hsu:=a44 (P:=mo.freeM st) cj
  have gh:s.get 2=some (.cells (S2 h)):=hp.w (2,S2 h) (by simp)
  have lh:=M5 gh
  by_cases k0:(O0 (mo.ample st) j).kind=0
  rotate_left
  ·have k0':¬ ((O0 (mo.ample st) j).kind:Int)=0:=by omega
   have:mo.freeM st (O0 (mo.ample st) j)=true:=by unfold Mo.freeM;rw [decide_eq_false k0];rfl
   rw [if_pos this] at hsu
   refine zY (aN hE (aN cj (aN ha2 k0'))) ?_
   refine a56 (A:=[]) (B:=[(2,S2 h)]) hr (by simpa using hp2) rfl (a1O _) (by decide) (by have:=a23 (l:=(mo.ample st)) (P:=mo.freeM st) (j:=j);simp;omega) ?_
   rintro d1 s1 E1 hr1 hp1 hn1
   refine zY (aN hE cj) ?_
   rw [hsu]
   exact ⟨E1,by simpa [U3,Mv.row] using hr1,by simpa using hp1⟩
  have k0':((O0 (mo.ample st) j).kind:Int)=0:=by omega
  have hpr:(O0 (mo.ample st) j).proc<h.length:=by
   have hv:O0 (mo.ample st) j∈mo.moves st:=a7a (a65 cj)
   rcases a3Q.1 hv with ⟨_,_,y,_⟩ | ⟨_,_,y⟩
   ·omega
   ·have:=a5d y;omega
  have hzp:=hz _ (show (O0 (mo.ample st) j).proc<mo.procs.length by omega)
  cases hbp:mo.barred st (O0 (mo.ample st) j).proc
  ·have:mo.freeM st (O0 (mo.ample st) j)=true:=by unfold Mo.freeM;rw [hbp,Bool.and_false];rfl
   rw [if_pos this] at hsu
   rw [hbp,if_neg (by simp)] at hzp
   refine zY (aN hE (aN cj (aN ha2 (aN k0' (aN gh (aN hpr hzp)))))) ?_
   refine a56 (A:=[]) (B:=[(2,S2 h)]) hr (by simpa [k0'] using hp2) rfl (a1O _) (by decide) (by have:=a23 (l:=(mo.ample st)) (P:=mo.freeM st) (j:=j);simp;omega) ?_
   rintro d1 s1 E1 hr1 hp1 hn1
   refine zY (aN hE cj) ?_
   rw [hsu]
   exact ⟨E1,by simpa [U3,Mv.row,k0'] using hr1,by simpa using hp1⟩
  ·have:mo.freeM st (O0 (mo.ample st) j)=false:=by unfold Mo.freeM;rw [hbp,decide_eq_true k0];rfl
   rw [if_neg (by rw [this];simp),List.append_nil] at hsu
   rw [hbp,if_pos rfl] at hzp
   refine zY (aN hE (aN cj (aN ha2 (aN k0' (aN gh (aN hpr hzp)))))) ?_
   rw [hsu]
   exact ⟨E,hr,by simpa [k0'] using hp2⟩
end Go.Proofs.YtnjlhebkhjcagaaGreat
namespace Go.Proofs.YtnjlhebkhjcagaaGreat
open Go.V
set_option maxRecDepth 100000
set_option maxHeartbeats 4000000
variable {m:MdX} {mo:Mo} {ps:List (Pr×PrD)} {x:StD} {st:Stt}
theorem c6j (hm:MoF m mo ps) (ho:O4 mo) (hf:X8 mo) (hq:MoQ mo) (hC:MoC mo) (hx:Y6 mo x st) (am al:Bool):∃d,Eqc vfs 27 [.agg [m.dt,.int .i64 m.g,m.dc,m.dv,m.dp,m.ds,.bool m.b],.agg [x.da,x.dv,x.dc,.int .i64 st.hold],.bool am,.bool al] d/\FL 4 d (U3 (a24 mo am al st)):=by
 obtain ⟨d,h1,h2⟩:=c4g hm ho hf hq hC hx am al
 exact ⟨d,P4 h1,h2⟩
theorem c5T (ho:O4 mo) {am al:Bool}:(a24 mo am al st).length<=1000000:=by
 have h1:=b0R ho (st:=st)
 have h2:=a4q ho (st:=st)
 unfold a24 Mo.someM
 cases al<;>cases am
 ·simp;omega
 ·simp;omega
 ·exact Nat.le_trans (List.length_filter_le _ _) (by simp;omega)
 ·exact Nat.le_trans (List.length_filter_le _ _) (by simp;omega)
end Go.Proofs.YtnjlhebkhjcagaaGreat
namespace Go.Proofs.YtnjlhebkhjcagaaGreat
open Go.V
set_option maxRecDepth 100000
set_option maxHeartbeats 4000000
variable {m:MdX} {mo:Mo} {ps:List (Pr×PrD)} {x:StD} {st:Stt}
theorem b8V (hm:MoF m mo ps) (ho:O4 mo) (hf:X8 mo) (hq:MoQ mo) (hN:MoN mo) (hW:MoW mo) (hC:MoC mo) (hx:Y6 mo x st) (am al:Bool):a31 vfs 28 [.agg [m.dt,.int .i64 m.g,m.dc,m.dv,m.dp,m.ds,.bool m.b],.agg [x.da,x.dv,x.dc,.int .i64 st.hold],.bool am,.bool al] fun d=>FL 4 d (U3 (a24 mo am al st)):=by
 have om:=hm.ones
 have ox:=hx.f.ones
 have fm:=a0N hm
 have fx:=a1A hx.f
 have hnp:=ho.np
 obtain ⟨dm,hmv,hm2⟩:=a86 hm ho hx
 have hm1:=P4 hmv
 obtain ⟨da,ha1,ha2⟩:=b2N hm ho hf hq hN hW hx
 have pa:=FL.pz ha2
 have pm:=FL.pz hm2
 have la:=b0R ho (st:=st)
 have lm:=a4q ho (st:=st)
 have hp0:Hp ((f6.empty.push (.cells [m.dt,.int .i64 m.g,m.dc,m.dv,m.dp,m.ds,.bool m.b])).push (.cells [x.da,x.dv,x.dc,.int .i64 st.hold])) [] [(0,[m.dt,.int .i64 m.g,m.dc,m.dv,m.dp,m.ds,.bool m.b]),(1,[x.da,x.dv,x.dc,.int .i64 st.hold])]:=⟨List.nodup_nil,by simp,by simp [Has],by
  intro y hy
  simp only [List.mem_cons,List.not_mem_nil,or_false] at hy
  rcases hy with rfl | rfl
  ·exact zZ0
  ·simp (disch:=(first|exact Rf.mk rfl|with_reducible assumption|omega|((repeat (first|rw [nP]|rw [nS]|rw [M7]))<;>omega)|decide)) only [go_sem,↓reduceIte]⟩
 have hbr:∀p,p<mo.procs.length->Eqc vfs 29 [.agg [m.dt,.int .i64 m.g,m.dc,m.dv,m.dp,m.ds,.bool m.b],.agg [x.da,x.dv,x.dc,.int .i64 st.hold],.int .i64 (p:Int)] (.bool (mo.barred st p)):=fun p hp=>b3C hm ho hC hx hp
 cases am
 ·refine a16 (vf:=a6o) rfl ?_
  unfold a6o;refine zF ?_
  refine zY (aN om (aN ox (aN fm (aN fx hm1)))) ?_
  generalize (f6.empty.push (.cells [m.dt,.int .i64 m.g,m.dc,m.dv,m.dp,m.ds,.bool m.b])).push (.cells [x.da,x.dv,x.dc,.int .i64 st.hold])=s0 at *
  have hfin:a24 mo false al st=if al then (mo.moves st).filter (mo.freeM st) else mo.moves st:=by unfold a24 Mo.someM;cases al<;>rfl
  have hkeep:∀v∈mo.moves st,v.kind=0->v.proc<mo.procs.length:=fun v hv hk=>by
   rcases a3Q.1 hv with ⟨_,_,y,_⟩ | ⟨_,_,y⟩
   ·omega
   ·have:=a5d y;omega
  rw [hfin]
  clear hfin
  refine P6 [0,1,2,3,4,5,8,9,15] 0 (mo.moves st).length (fun j f s=>f 11=.int .i64 (j:Int)/\∃E,Rp (f 10) 4 (U3 (if al then ((mo.moves st).take j).filter (mo.freeM st) else (mo.moves st).take j)) E/\Hp s E [(0,[m.dt,.int .i64 m.g,m.dc,m.dv,m.dp,m.ds,.bool m.b]),(1,[x.da,x.dv,x.dc,.int .i64 st.hold])]) (.mk rfl) (by omega) ⟨rfl,[],by cases al<;>exact .inl ⟨rfl,rfl,rfl⟩,hp0⟩ ?_
  rintro j f s hj ⟨hE,E,hr,hp⟩
  by_cases cj:j<(mo.moves st).length
  rotate_left
  ·obtain rfl:j=(mo.moves st).length:=by omega
   rw [List.take_length] at hr
   obtain ⟨d',h1,h2⟩:=a2S hr hp (fun e h=>h) (a1O _) (a3k _)
   refine zY (aN hE (aN cj (aN hm2 h1))) ?_
   exact ⟨_,rfl,h2⟩
  have g0:s.get 0=some (.cells [m.dt,.int .i64 m.g,m.dc,m.dv,m.dp,m.ds,.bool m.b]):=hp.r (0,_) (by simp)
  have g1:s.get 1=some (.cells [x.da,x.dv,x.dc,.int .i64 st.hold]):=hp.r (1,_) (by simp)
  have l0:=M5 g0
  have l1:=M5 g1
  cases al
  ·have hsu:(mo.moves st).take (j+1)=(mo.moves st).take j++[O0 (mo.moves st) j]:=by rw [List.take_succ_eq_append_getElem cj,a37 cj]
   simp only [Bool.false_eq_true,if_false] at hr ⊢
   refine zY (aN hE (aN cj hm2)) ?_
   refine a1n (O0 (mo.moves st) j) rfl hr hp (by decide) (by simp;omega) ?_
   rintro d1 s1 E1 hr1 hp1
   refine zY (aN hE cj) ?_
   rw [hsu]
   exact ⟨E1,hr1,hp1⟩
  have hsu:=a44 (P:=mo.freeM st) cj
  simp only [if_true] at hr ⊢
  by_cases k0:(O0 (mo.moves st) j).kind=0
  rotate_left
  ·have k0':¬ ((O0 (mo.moves st) j).kind:Int)=0:=by omega
   have:mo.freeM st (O0 (mo.moves st) j)=true:=by unfold Mo.freeM;rw [decide_eq_false k0];rfl
   rw [if_pos this] at hsu
   refine zY (aN hE (aN cj (aN hm2 k0'))) ?_
   refine a1n (O0 (mo.moves st) j) rfl hr hp (by decide) (by have:=a23 (l:=mo.moves st) (P:=mo.freeM st) (j:=j);simp;omega) ?_
   rintro d1 s1 E1 hr1 hp1
   refine zY (aN hE cj) ?_
   rw [hsu]
   exact ⟨E1,hr1,hp1⟩
  have k0':((O0 (mo.moves st) j).kind:Int)=0:=by omega
  have hb:=hbr _ (hkeep _ (a65 cj) k0)
  cases hbp:mo.barred st (O0 (mo.moves st) j).proc
  ·have:mo.freeM st (O0 (mo.moves st) j)=true:=by unfold Mo.freeM;rw [hbp,Bool.and_false];rfl
   rw [if_pos this] at hsu
   rw [hbp] at hb
   refine zY (aN hE (aN cj (aN hm2 (aN k0' (aN g0 (aN g1 (aN om (aN ox (aN fm (aN fx hb)))))))))) ?_
   refine a1n (O0 (mo.moves st) j) (by unfold Mv.row;rw [k0']) hr hp (by decide) (by have:=a23 (l:=mo.moves st) (P:=mo.freeM st) (j:=j);simp;omega) ?_
   rintro d1 s1 E1 hr1 hp1
   refine zY (aN hE cj) ?_
   rw [hsu]
   exact ⟨E1,hr1,hp1⟩
  ·have:mo.freeM st (O0 (mo.moves st) j)=false:=by unfold Mo.freeM;rw [hbp,decide_eq_true k0];rfl
   rw [if_neg (by rw [this];simp),List.append_nil] at hsu
   rw [hbp] at hb
   refine zY (aN hE (aN cj (aN hm2 (aN k0' (aN g0 (aN g1 (aN om (aN ox (aN fm (aN fx hb)))))))))) ?_
   rw [hsu]
   exact ⟨E,hr,hp⟩
 ·refine a16 (vf:=a6o) rfl ?_
  unfold a6o;refine zF ?_
  refine zY (aN om (aN ox (aN fm (aN fx (aN hm1 (aN pm ha1)))))) ?_
  generalize (f6.empty.push (.cells [m.dt,.int .i64 m.g,m.dc,m.dv,m.dp,m.ds,.bool m.b])).push (.cells [x.da,x.dv,x.dc,.int .i64 st.hold])=s0 at *
  have hfin:a24 mo true al st=if al then (mo.ample st).filter (mo.freeM st) else mo.ample st:=by unfold a24 Mo.someM;cases al<;>rfl
  have hkeep:∀v∈mo.ample st,v.kind=0->v.proc<mo.procs.length:=fun v hv hk=>by
   rcases a3Q.1 (a7a hv) with ⟨_,_,y,_⟩ | ⟨_,_,y⟩
   ·omega
   ·have:=a5d y;omega
  rw [hfin]
  clear hfin
  refine P6 [0,1,2,3,4,5,8,9,15] 0 (mo.ample st).length (fun j f s=>f 11=.int .i64 (j:Int)/\∃E,Rp (f 10) 4 (U3 (if al then ((mo.ample st).take j).filter (mo.freeM st) else (mo.ample st).take j)) E/\Hp s E [(0,[m.dt,.int .i64 m.g,m.dc,m.dv,m.dp,m.ds,.bool m.b]),(1,[x.da,x.dv,x.dc,.int .i64 st.hold])]) (.mk rfl) (by omega) ⟨rfl,[],by cases al<;>exact .inl ⟨rfl,rfl,rfl⟩,hp0⟩ ?_
  rintro j f s hj ⟨hE,E,hr,hp⟩
  by_cases cj:j<(mo.ample st).length
  rotate_left
  ·obtain rfl:j=(mo.ample st).length:=by omega
   rw [List.take_length] at hr
   obtain ⟨d',h1,h2⟩:=a2S hr hp (fun e h=>h) (a1O _) (a3k _)
   refine zY (aN hE (aN cj (aN ha2 h1))) ?_
   exact ⟨_,rfl,h2⟩
  have g0:s.get 0=some (.cells [m.dt,.int .i64 m.g,m.dc,m.dv,m.dp,m.ds,.bool m.b]):=hp.r (0,_) (by simp)
  have g1:s.get 1=some (.cells [x.da,x.dv,x.dc,.int .i64 st.hold]):=hp.r (1,_) (by simp)
  have l0:=M5 g0
  have l1:=M5 g1
  cases al
  ·have hsu:(mo.ample st).take (j+1)=(mo.ample st).take j++[O0 (mo.ample st) j]:=by rw [List.take_succ_eq_append_getElem cj,a37 cj]
   simp only [Bool.false_eq_true,if_false] at hr ⊢
   refine zY (aN hE (aN cj ha2)) ?_
   refine a1n (O0 (mo.ample st) j) rfl hr hp (by decide) (by simp;omega) ?_
   rintro d1 s1 E1 hr1 hp1
   refine zY (aN hE cj) ?_
   rw [hsu]
   exact ⟨E1,hr1,hp1⟩
  have hsu:=a44 (P:=mo.freeM st) cj
  simp only [if_true] at hr ⊢
  by_cases k0:(O0 (mo.ample st) j).kind=0
  rotate_left
  ·have k0':¬ ((O0 (mo.ample st) j).kind:Int)=0:=by omega
   have:mo.freeM st (O0 (mo.ample st) j)=true:=by unfold Mo.freeM;rw [decide_eq_false k0];rfl
   rw [if_pos this] at hsu
   refine zY (aN hE (aN cj (aN ha2 k0'))) ?_
   refine a1n (O0 (mo.ample st) j) rfl hr hp (by decide) (by have:=a23 (l:=mo.ample st) (P:=mo.freeM st) (j:=j);simp;omega) ?_
   rintro d1 s1 E1 hr1 hp1
   refine zY (aN hE cj) ?_
   rw [hsu]
   exact ⟨E1,hr1,hp1⟩
  have k0':((O0 (mo.ample st) j).kind:Int)=0:=by omega
  have hb:=hbr _ (hkeep _ (a65 cj) k0)
  cases hbp:mo.barred st (O0 (mo.ample st) j).proc
  ·have:mo.freeM st (O0 (mo.ample st) j)=true:=by unfold Mo.freeM;rw [hbp,Bool.and_false];rfl
   rw [if_pos this] at hsu
   rw [hbp] at hb
   refine zY (aN hE (aN cj (aN ha2 (aN k0' (aN g0 (aN g1 (aN om (aN ox (aN fm (aN fx hb)))))))))) ?_
   refine a1n (O0 (mo.ample st) j) (by unfold Mv.row;rw [k0']) hr hp (by decide) (by have:=a23 (l:=mo.ample st) (P:=mo.freeM st) (j:=j);simp;omega) ?_
   rintro d1 s1 E1 hr1 hp1
   refine zY (aN hE cj) ?_
   rw [hsu]
   exact ⟨E1,hr1,hp1⟩
  ·have:mo.freeM st (O0 (mo.ample st) j)=false:=by unfold Mo.freeM;rw [hbp,decide_eq_true k0];rfl
   rw [if_neg (by rw [this];simp),List.append_nil] at hsu
   rw [hbp] at hb
   refine zY (aN hE (aN cj (aN ha2 (aN k0' (aN g0 (aN g1 (aN om (aN ox (aN fm (aN fx hb)))))))))) ?_
   rw [hsu]
   exact ⟨E,hr,hp⟩
theorem b7Z (hm:MoF m mo ps) (ho:O4 mo) (hf:X8 mo) (hq:MoQ mo) (hN:MoN mo) (hW:MoW mo) (hC:MoC mo) (hx:Y6 mo x st) (am al:Bool):∃d,Eqc vfs 28 [.agg [m.dt,.int .i64 m.g,m.dc,m.dv,m.dp,m.ds,.bool m.b],.agg [x.da,x.dv,x.dc,.int .i64 st.hold],.bool am,.bool al] d/\FL 4 d (U3 (a24 mo am al st)):=by
 obtain ⟨d,h1,h2⟩:=b8V hm ho hf hq hN hW hC hx am al
 exact ⟨d,P4 h1,h2⟩
end Go.Proofs.YtnjlhebkhjcagaaGreat
namespace Go.Proofs.YtnjlhebkhjcagaaGreat
open Go.V
set_option maxRecDepth 100000
set_option maxHeartbeats 4000000
variable {m:MdX} {mo:Mo} {ps:List (Pr×PrD)} {x:StD} {st:Stt}
theorem b5d (hm:MoF m mo ps) (hx:Y6 mo x st) {p:Int} (hp:p<0∨(mo.procs.length:Int)<=p):Eqc vfs 30 [.agg [m.dt,.int .i64 m.g,m.dc,m.dv,m.dp,m.ds,.bool m.b],.agg [x.da,x.dv,x.dc,.int .i64 st.hold],.int .i64 p] (.bool false):=by
 have om:=hm.ones
 have ox:=hx.f.ones
 refine P4 ?_
 by_cases c:p<0
 ·refine N3 (vf:=a2U) rfl ?_
  unfold a2U;refine zF ?_
  exact zZ (aN om (aN ox c))
 ·have c2:(mo.procs.length:Int)<=p:=by omega
  refine N3 (vf:=a2U) rfl ?_
  unfold a2U;refine zF ?_
  exact zZ (aN om (aN ox (aN c c2)))
theorem c14 {d0 d1:D} {t:List Nd} {raw:List Int} (hT:N7 d0 t) (hd:FI d1 raw) (hraw:∀n∈raw,a0w n):EvP vfs 7 [d0,d1] f6.empty fun r _=>r=.bool true:=by
 have haw:Eqc vfs 25 [] (.bool true):=a2c c31 rfl
 have pT:PZ d0:=hT.fl.pz
 have pd:=a9t hd
 have oT:=FL.one hT.fl
 have od:=FL.one hd
 obtain ⟨d',h1,h2⟩:=c3X hT
 by_cases hl:(60:Int)<(raw.length:Int)
 ·refine Y5 (vf:=vf7) rfl ?_
  unfold vf7;refine zF ?_
  refine zY (aN haw (aN hd hl)) ?_
  exact rfl
 rcases h2 with rfl | ⟨m,ps,rfl,hR,hS,hY,hm⟩
 ·refine Y5 (vf:=vf7) rfl ?_
  unfold vf7;refine zF ?_
  refine zY (aN haw (aN hd (aN hl (aN h1 pT)))) ?_
  exact rfl
 have ho:=b4l hR hS hY
 have hf:=b3L hR hY
 have hq:=b1j hR hS
 have hN:=b2t hR hS
 have hW:=b28 hR
 have hC:=b9B hR hS
 generalize S5 t=mo at *
 have om:=hm.ones
 have fm:=a0N hm
 have hnp:=ho.np
 obtain ⟨x,st,hh,hx,hold⟩:=b4v hm ho hf hd hraw
 have fx:=a1A hx.f
 have ox:=hx.f.ones
 unfold N8 at h1
 refine Y5 (vf:=vf7) rfl ?_
 unfold vf7;refine zF ?_
 refine zY (aN haw (aN hd (aN hl (aN h1 (aN pT (aN pd (aN om (aN ox (aN fm (aN fx hh)))))))))) ?_
 have hp0:Hp ((((f6.empty.push (.cells [.nils,.int .i64 0,.nils,.nils,.nils,.nils,.bool false])).set 0 (some (.cells [m.dt,.int .i64 m.g,m.dc,m.dv,m.dp,m.ds,.bool m.b]))).push (.cells [.nils,.nils,.nils,.int .i64 0])).set 1 (some (.cells [x.da,x.dv,x.dc,.int .i64 st.hold]))) [] [(0,[m.dt,.int .i64 m.g,m.dc,m.dv,m.dp,m.ds,.bool m.b]),(1,[x.da,x.dv,x.dc,.int .i64 st.hold])]:=⟨List.nodup_nil,by simp,by simp [Has],by
  intro y hy
  simp only [List.mem_cons,List.not_mem_nil,or_false] at hy
  rcases hy with rfl | rfl
  ·exact zZ0
  ·simp (disch:=(first|exact Rf.mk rfl|with_reducible assumption|omega|((repeat (first|rw [nP]|rw [nS]|rw [M7]))<;>omega)|decide)) only [go_sem,↓reduceIte]⟩
 generalize (((f6.empty.push (.cells [.nils,.int .i64 0,.nils,.nils,.nils,.nils,.bool false])).set 0 (some (.cells [m.dt,.int .i64 m.g,m.dc,m.dv,m.dp,m.ds,.bool m.b]))).push (.cells [.nils,.nils,.nils,.int .i64 0])).set 1 (some (.cells [x.da,x.dv,x.dc,.int .i64 st.hold]))=s0 at *
 have g0:s0.get 0=some (.cells [m.dt,.int .i64 m.g,m.dc,m.dv,m.dp,m.ds,.bool m.b]):=hp0.r (0,_) (by simp)
 have g1:s0.get 1=some (.cells [x.da,x.dv,x.dc,.int .i64 st.hold]):=hp0.r (1,_) (by simp)
 clear hp0
 refine a0O [0,1,5,6,7,9,10,17,25,55,78] (fun f s=>s.get 0=some (.cells [m.dt,.int .i64 m.g,m.dc,m.dv,m.dp,m.ds,.bool m.b])/\s.get 1=some (.cells [x.da,x.dv,x.dc,.int .i64 st.hold])) ?_ ?_
 ·refine P6 [0,1,5,6,7,9,10,17,25,55,78] 0 4 (fun i f s=>f 8=.int .i64 (i:Int)/\s.get 0=some (.cells [m.dt,.int .i64 m.g,m.dc,m.dv,m.dp,m.ds,.bool m.b])/\s.get 1=some (.cells [x.da,x.dv,x.dc,.int .i64 st.hold])) (.mk rfl) (by omega) ⟨rfl,g0,g1⟩ ?_
  clear g0 g1
  rintro i f s hi ⟨hE,g0,g1⟩
  have l0:=M5 g0
  have l1:=M5 g1
  by_cases ci:i<4
  rotate_left
  ·have ci':¬ (i:Int)<4:=by omega
   exact zZ (aN hE (aN g0 (aN g1 (aN om ci'))))
  obtain ⟨am,al,hA⟩:∃am al:Bool,(i,am,al)∈[(0,false,false),(1,true,false),(2,false,true),(3,true,true)]:=by
   rcases (show i=0∨i=1∨i=2∨i=3 by omega) with rfl | rfl | rfl | rfl
   ·exact ⟨false,false,by simp⟩
   ·exact ⟨true,false,by simp⟩
   ·exact ⟨false,true,by simp⟩
   ·exact ⟨true,true,by simp⟩
  obtain ⟨da,ha1,ha2⟩:=c6j hm ho hf hq hC hx am al
  obtain ⟨dr,hr1,hr2⟩:=b7Z hm ho hf hq hN hW hC hx am al
  have hsm:=b4i ha2 hr2 (c5T ho)
  rw [decide_eq_true rfl] at hsm
  have pa:=FL.pz ha2
  have pr:=FL.pz hr2
  simp only [List.mem_cons,Prod.mk.injEq,List.not_mem_nil,or_false] at hA
  have t0:Int.tmod 0 2=0:=rfl
  have t1:Int.tmod 1 2=1:=rfl
  have t2:Int.tmod 2 2=0:=rfl
  have t3:Int.tmod 3 2=1:=rfl
  rcases hA with ⟨rfl,rfl,rfl⟩ | ⟨rfl,rfl,rfl⟩ | ⟨rfl,rfl,rfl⟩ | ⟨rfl,rfl,rfl⟩<;>simp (disch:=(first|exact Rf.mk rfl|with_reducible assumption|omega|((repeat (first|rw [nP]|rw [nS]|rw [M7]))<;>omega)|decide)) only [go_sem,↓reduceIte,hE,g0,g1,om,ox,fm,fx,ha1,hr1,pa,pr,hsm,t0,t1,t2,t3]
 clear g0 g1
 rintro f s ⟨g0,g1⟩
 have l0:=M5 g0
 have l1:=M5 g1
 refine zY (aN g0 g1) ?_
 refine a0O [0,1,5,6,7,8,17,25,30,50] (fun f s=>s.get 0=some (.cells [m.dt,.int .i64 m.g,m.dc,m.dv,m.dp,m.ds,.bool m.b])/\s.get 1=some (.cells [x.da,x.dv,x.dc,.int .i64 st.hold])) ?_ ?_
 ·refine P6 [0,1,5,6,7,8,17,25,30,50] 0 (mo.procs.length+2) (fun i f s=>f 9=.int .i64 ((i:Int)-1)/\s.get 0=some (.cells [m.dt,.int .i64 m.g,m.dc,m.dv,m.dp,m.ds,.bool m.b])/\s.get 1=some (.cells [x.da,x.dv,x.dc,.int .i64 st.hold])) (.mk rfl) (by omega) ⟨rfl,g0,g1⟩ ?_
  clear g0 g1 l0 l1
  rintro i f s hi ⟨hE,g0,g1⟩
  have l0:=M5 g0
  have l1:=M5 g1
  have e1:((i:Int)-1<=(mo.procs.length:Int))=(i<mo.procs.length+2):=by apply propext;omega
  have e2:IntKind.i64.wrap ((i:Int)-1+1)=((i+1:Nat):Int)-1:=by rw [O7 (by omega) (by omega)];omega
  by_cases ci:i<mo.procs.length+2
  rotate_left
  ·exact zZ (aN hE (aN g0 (aN g1 (aN om (aN e1 ci)))))
  by_cases c0:i=0
  ·subst c0
   have hb:=b5d hm hx (p:=-1) (.inl (by omega))
   have e5:(-1:Int)<=(mo.procs.length:Int):=by omega
   exact zZ (aN hE (aN g0 (aN g1 (aN om (aN ox (aN fm (aN fx (aN e5 hb))))))))
  obtain ⟨p,rfl⟩:∃p:Nat,i=p+1:=⟨i-1,by omega⟩
  have e3:((p+1:Nat):Int)-1=(p:Int):=by omega
  rw [e3] at hE e1 e2
  by_cases cp:p<mo.procs.length
  rotate_left
  ·obtain rfl:p=mo.procs.length:=by omega
   have hb:=b5d hm hx (p:=(mo.procs.length:Int)) (.inr (by omega))
   refine zY (aN hE (aN g0 (aN g1 (aN om (aN ox (aN fm (aN fx (aN e1 (aN e2 (aN ci hb)))))))))) ?_
   omega
  have hb:=c4V hm ho hf hC hx cp
  have hb2:=b3C hm ho hC hx cp
  cases hbv:mo.barred st p<;>rw [hbv] at hb hb2<;>simp (disch:=(first|exact Rf.mk rfl|with_reducible assumption|omega|((repeat (first|rw [nP]|rw [nS]|rw [M7]))<;>omega)|decide)) only [go_sem,↓reduceIte,hE,g0,g1,om,ox,fm,fx,e1,e2,ci,cp,hb,hb2]
  all_goals omega
 clear g0 g1 l0 l1
 rintro f s ⟨g0,g1⟩
 have l0:=M5 g0
 have l1:=M5 g1
 have hnh:=b5v (z:=99) hx hold ⟨by omega,by omega⟩
 have fx2:=a1A hnh.f
 have hfb:=a74 hm ho hf hnh
 rw [decide_eq_false (by simp only;omega)] at hfb
 have hmv:Eqc vfs 27 [.agg [m.dt,.int .i64 m.g,m.dc,m.dv,m.dp,m.ds,.bool m.b],.agg [x.da,x.dv,x.dc,.int .i64 99],.bool true,.bool true] .nils:=by
  refine P4 ?_
  refine N3 (vf:=a2E) rfl ?_
  unfold a2E;refine zF ?_
  exact zZ (aN om (aN ox (aN fm (aN fx2 hfb))))
 have hbr:Eqc vfs 30 [.agg [m.dt,.int .i64 m.g,m.dc,m.dv,m.dp,m.ds,.bool m.b],.agg [x.da,x.dv,x.dc,.int .i64 99],.int .i64 0] (.bool false):=by
  by_cases c0:mo.procs.length=0
  ·refine P4 ?_
   refine N3 (vf:=a2U) rfl ?_
   unfold a2U;refine zF ?_
   exact zZ (aN om (aN ox c0))
  have c0':¬ (mo.procs.length:Int)<=0:=by omega
  refine P4 ?_
  refine N3 (vf:=a2U) rfl ?_
  unfold a2U;refine zF ?_
  exact zZ (aN om (aN ox (aN fm (aN fx2 (aN hfb (aN c0 c0'))))))
 refine zY (aN g0 (aN g1 (aN om (aN ox (aN fm (aN fx2 (aN hmv hbr))))))) ?_
 exact rfl
theorem c65 {d0 d1:D} (h0:a3A Ty.tree d0) (h1:a3A (.slice 1 (.int .i64)) d1):EvP vfs 7 [d0,d1] f6.empty fun r _=>r=.bool true:=by
 obtain ⟨t,hT⟩:=b2y h0
 obtain ⟨l,hl,hn,hi⟩:=b1v h1
 exact c14 hT hl hi
end Go.Proofs.YtnjlhebkhjcagaaGreat
