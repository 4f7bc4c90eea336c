/- Texts one behind the other. -/
import Derived.Test.YtnjlhebkhjcagaaGreatZ5
set_option linter.unusedSimpArgs false
set_option linter.unusedVariables false
namespace Go.Proofs.YtnjlhebkhjcagaaGreat
open Go.V
set_option maxRecDepth 100000
set_option maxHeartbeats 4000000
end Go.Proofs.YtnjlhebkhjcagaaGreat
namespace Go.V
variable {fs:FuncId->Option t5}
theorem b21 (l:List Bool):(P2 l).flatten=a0W l:=by
 induction l with
 | nil=>rfl
 | cons b l ih=>show [.bool b]++(P2 l).flatten=_;rw [ih];rfl
structure GrB (s0 s:k4) (ids:List Nat) (A B R:Hs) (d:D) (l:List Bool) (E:Hs):Prop where
 rp:Rp d 1 (P2 l) E
 hp:Hp s (A++E++B) R
 fr:Fr ids s0 s
 nw:∀e∈E,e.1∈ids∨s0.next<=e.1
theorem GrB.frz {s0 s:k4} {ids:List Nat} {A B R E:Hs} {d:D} {l:List Bool} (h:GrB s0 s ids A B R d l E):∃d',ice s.get 20 d=some d'/\FL 1 d' (P2 l):=a7k h.rp h.hp (fun e he=>by simp [he]) (a3n _) (b1J _)
theorem b14 {l:List Bool} {i:Nat} (h:i<l.length):(a0W l)[i]?=some (.bool (aB l i)):=by rw [b99 h];simp [a0W,h]
attribute [go_sem] b14 b3J
def GrL (s0 s:k4) (R:Hs) (d:D) (l:List Bool) (E:Hs):Prop:=GrB s0 s [] [] [] R d l E
theorem GrB.base {s0 s s':k4} {R R' E E':Hs} {d d':D} {l l':List Bool} (h:GrB s s' (E.map Prod.fst) [] [] R' d' l' E') (h0:GrL s0 s R d l E):GrL s0 s' R' d' l' E':=by
 have nE:∀i∈E.map Prod.fst,s0.next<=i:=fun i hi=>by
  obtain ⟨e,he,rfl⟩:=List.mem_map.1 hi
  rcases h0.nw e he with h | h
  ·simp at h
  ·exact h
 refine ⟨h.rp,h.hp,⟨Nat.le_trans h0.fr.1 h.fr.1,fun j hj _=>?_⟩,fun e he=>.inr ?_⟩
 ·rw [h.fr.2 j (Nat.lt_of_lt_of_le hj h0.fr.1) fun hc=>by have:=nE j hc;omega,h0.fr.2 j hj (by simp)]
 ·rcases h.nw e he with h | h
  ·exact nE _ h
  ·exact Nat.le_trans h0.fr.1 h
theorem GrL.mv {s0 s s':k4} {R E:Hs} {d:D} {l:List Bool} (h:GrL s0 s R d l E) (hf:Fr [] s s'):GrL s0 s' R d l E :=
 ⟨h.rp,h.hp.fr hf,h.fr.trans hf (by simp),h.nw⟩
theorem GrL.nil {s0 s:k4} {R:Hs} (h:Has s R) (hf:Fr [] s0 s):GrL s0 s R .nils [] []:=⟨.inl ⟨rfl,rfl,rfl⟩,⟨List.nodup_nil,by simp,by simp [Has],h⟩,hf,by simp⟩
theorem a4b {s:k4} {z o:N4}:Fr [] s ((s.push z).set s.next (some o)):=(Fr.push _).thenSet _ (.inr (Nat.le_refl _))
theorem GrL.lt {s0 s:k4} {R E:Hs} {d:D} {l:List Bool} (h:GrL s0 s R d l E) {id:Nat} (hm:id∈E.map Prod.fst):id<s.next:=by
 obtain ⟨e,he,h1⟩:=List.mem_map.1 hm
 rw [<- h1]
 exact M1 (h.hp.w e (by simp [he]))
theorem GrL.sub {s0 s:k4} {R R' E:Hs} {d:D} {l:List Bool} (h:GrL s0 s R d l E) (hr:∀x∈R',x∈R):GrL s0 s R' d l E :=
 ⟨h.rp,h.hp.sub (List.Sublist.refl _) hr,h.fr,h.nw⟩
theorem GrL.box {s0 s:k4} {R E:Hs} {d:D} {l:List Bool} (h:GrL s0 s R d l E) {z:N4} {cs:List D}:GrL s0 ((s.push z).set s.next (some (.cells cs))) ((s.next,cs)::R) d l E:=by
 have h2:=h.mv (a4b (z:=z) (o:=.cells cs))
 refine ⟨h.rp,h2.hp.addR1 (P5 (by simp)) fun w hw heq=>?_,h.fr.trans a4b (by simp),h.nw⟩
 have hw':w∈E:=by simpa using hw
 have:=h.lt (List.mem_map_of_mem hw')
 omega
theorem c4q {d:D} {l:List Bool} {i:Nat} {k:IntKind} (h:FL 1 d (P2 l)) (hi:i<l.length):M8 1 d (.int k (i:Int))=some (.fp [.bool (aB l i)] 0):=by rw [b3j h hi];rfl
theorem b7K {l:List Bool} {i:Nat}:bAt l i=aB l i:=rfl
attribute [go_sem] b7K
def Rdr (s:k4) (r:Nat) (l:List Bool):Prop:=∃d,s.get r=some (.cells [d])/\FL 1 d (P2 l)
theorem b5i (l:List Bool) (n:Nat):P2 (l.take n)=(P2 l).take n:=by simp [P2,List.map_take]
theorem b68 (l:List Bool) (n:Nat):P2 (l.drop n)=(P2 l).drop n:=by simp [P2,List.map_drop]
theorem Hp.frI {s s':k4} {W R:Hs} {ids:List Nat} (h:Hp s W R) (hf:Fr ids s s') (hn:∀w∈W++R,w.1∉ids):Hp s' W R :=
 ⟨h.nd,h.ap,fun w hw=>by rw [hf.2 _ (M1 (h.w w hw)) (hn w (by simp [hw])),h.w w hw],fun w hw=>by rw [hf.2 _ (M1 (h.r w hw)) (hn w (by simp [hw])),h.r w hw]⟩
structure GrZ (n0:Nat) (s:k4) (R:Hs) (d:D) (l:List Int) (E:Hs):Prop where
 rp:Rp d 1 (U8 l) E
 hp:Hp s E R
 nw:∀e∈E,n0<=e.1
theorem GrZ.fr {n0:Nat} {s s':k4} {R E:Hs} {d:D} {l:List Int} {ids:List Nat} (h:GrZ n0 s R d l E) (hf:Fr ids s s') (h1:∀i∈ids,i<n0) (h2:∀x∈R,x.1∉ids):GrZ n0 s' R d l E :=
 ⟨h.rp,h.hp.frI hf fun w hw hi=>by
  rcases List.mem_append.1 hw with hw | hw
  ·have:=h.nw w hw
   have:=h1 _ hi
   omega
  ·exact h2 w hw hi,h.nw⟩
structure UnW (mcs:List D) (s:k4) (dA dV dC:D) (W:Hs):Prop where
 hp:Hp s ((3,[dA,dV,dC,.int .i64 0])::(1,[.nils,.nils,.nils,.int .i64 0])::W) [(0,mcs)]
 nw:∀e∈W,4<=e.1
theorem UnW.lt {mcs:List D} {s:k4} {dA dV dC:D} {W:Hs} (h:UnW mcs s dA dV dC W):3<s.next:=M1 (h.hp.w (3,[dA,dV,dC,.int .i64 0]) (by simp))
theorem UnW.fr {mcs:List D} {s s':k4} {dA dV dC:D} {W:Hs} {ids:List Nat} (h:UnW mcs s dA dV dC W) (hf:Fr ids s s') (hi:∀i∈ids,i=2):UnW mcs s' dA dV dC W :=
 ⟨h.hp.frI hf fun w hw hn=>by
  have:=hi _ hn
  simp only [List.cons_append,List.mem_cons,List.mem_append,List.not_mem_nil,or_false] at hw
  rcases hw with rfl | rfl | hw | rfl
  ·simp at this
  ·simp at this
  ·have:=h.nw w hw;omega
  ·simp at this,h.nw⟩
theorem Rdr.fr {s s':k4} {l:List Bool} {r:Nat} (h:Rdr s r l) (hf:Fr [] s s'):Rdr s' r l:=by
 obtain ⟨d,h1,h2⟩:=h
 exact ⟨d,by rw [hf.2 _ (M1 h1) (by simp),h1],h2⟩
end Go.V
namespace Go.Proofs.YtnjlhebkhjcagaaGreat
open Go.V
set_option maxRecDepth 100000
set_option maxHeartbeats 4000000
variable {m:MdX} {mo:Mo} {ps:List (Pr×PrD)} {x:StD} {st:Stt}
end Go.Proofs.YtnjlhebkhjcagaaGreat
namespace Go.Proofs.YtnjlhebkhjcagaaGreat
open Go.V
set_option maxRecDepth 100000
set_option maxHeartbeats 4000000
variable {m:MdX} {mo:Mo} {ps:List (Pr×PrD)} {x:StD} {st:Stt}
end Go.Proofs.YtnjlhebkhjcagaaGreat
namespace Go.Proofs.YtnjlhebkhjcagaaGreat
open Go.V
set_option maxRecDepth 100000
set_option maxHeartbeats 4000000
variable {m:MdX} {mo:Mo} {ps:List (Pr×PrD)} {x:StD} {st:Stt}
end Go.Proofs.YtnjlhebkhjcagaaGreat
namespace Go.Proofs.YtnjlhebkhjcagaaGreat
open Go.V
set_option maxRecDepth 100000
set_option maxHeartbeats 4000000
variable {m:MdX} {mo:Mo} {ps:List (Pr×PrD)} {x:StD} {st:Stt}
end Go.Proofs.YtnjlhebkhjcagaaGreat
namespace Go.Proofs.YtnjlhebkhjcagaaGreat
open Go.V
set_option maxRecDepth 100000
set_option maxHeartbeats 4000000
variable {m:MdX} {mo:Mo} {ps:List (Pr×PrD)} {x:StD} {st:Stt}
end Go.Proofs.YtnjlhebkhjcagaaGreat
namespace Go.V
structure a0g (p:Pr):Prop where
 two:2<=p.places
 ed:∀e∈p.edges,e.frm≠1
theorem a0g.put {p:Pr} (h:a0g p) {frm to act node:Nat} {x v c:Int} (hf:frm≠1):a0g (p.put frm to act node x v c) :=
 ⟨h.two,fun e he=>by
  simp only [Pr.put,List.mem_append,List.mem_singleton] at he
  rcases he with he | rfl
  ·exact h.ed e he
  ·exact hf⟩
theorem a0g.place {p:Pr} (h:a0g p):a0g p.place:=⟨Nat.le_succ_of_le h.two,h.ed⟩
theorem a0g.idle {p:Pr} (h:a0g p) (n:Nat) (i:Int):a0g (p.idle n i):=by
 unfold Pr.idle
 split
 ·exact ⟨h.two,h.ed⟩
 ·exact h
theorem a0g.mark {p:Pr} (h:a0g p) (n to:Nat):a0g { p with edges:=a0C n to p.edges } :=
 ⟨h.two,fun e he=>by
  simp only [a0C,List.mem_append,List.mem_map] at he
  rcases he with he | ⟨e',he,rfl⟩
  ·exact h.ed e (List.mem_of_mem_take he)
  ·exact h.ed e' (List.mem_of_mem_drop he)⟩
def StN (st:Pr->Nat->Nat->Nat->Pr):Prop:=∀p k frm to,a0g p->frm≠1->a0g (st p k frm to)
theorem a7N {st:Pr->Nat->Nat->Nat->Pr} (hs:StN st) {node:Nat}:∀ {ks:List Nat} {p:Pr} {frm to:Nat},a0g p->frm≠1->a0g (a1A st node p ks frm to)
 | [],p,frm,to,h,hf=>h.put hf
 | [k],p,frm,to,h,hf=>hs p k frm to h hf
 | k::k'::ks,p,frm,to,h,hf=>a7N hs (ks:=k'::ks) (hs _ k frm _ h.place hf) (by have:=h.two;omega)
theorem a3Q {t:List Nd} {st:Pr->Nat->Nat->Nat->Pr} (hs:StN st) {p:Pr} {b frm to:Nat} (h:a0g p) (hf:frm≠1):a0g (W1 t st p b frm to):=a7N hs h hf
theorem b3z {t:List Nd} {st:Pr->Nat->Nat->Nat->Pr} (hs:StN st) {frm to:Nat} (hf:frm≠1):∀ {ks:List Nat} {p:Pr},a0g p->a0g (Y7 t st frm to p ks)
 | [],p,h=>h
 | k::ks,p,h=>by
   unfold Y7
   refine b3z hs hf ?_
   split
   ·exact a3Q hs (h.place.put hf) (by have:=h.two;omega)
   ·exact a3Q hs h hf
theorem b0o (t:List Nd) (ch:List ByteArray):∀f,StN (M5 t ch f)
 | 0=>fun p k frm to h _=>h
 | f+1=>by
   have hs:=b0o t ch f
   intro p k frm to h hf
   have h2:=h.two
   have hp1:∀ {act node:Nat} {x v c:Int},a0g (W1 t (M5 t ch f) (p.place.put frm p.places act node x v c) ((nd t k).kid 1) p.places to):=a3Q hs (h.place.put hf) (by omega)
   unfold M5
   simp only
   repeat' split
   all_goals first
    | exact h.put hf
    | exact (h.idle _ _).put hf
    | exact b3z hs hf (h.idle _ _)
    | exact hp1.put hf
    | exact (a3Q hs h hf).mark _ _
    | exact a3Q hs ((h.place.put hf).put hf) (by omega)
    | exact a3Q hs (hp1.place.put hf) (by have:=(hp1 (act:=4) (node:=k) (x:=((nd t k).kid 0:Nat)) (v:=-1) (c:=-1)).two;omega)
theorem c4u (t:List Nd) (o:Org):a0g (a1m t o):=a7N (b0o t _ _) ⟨Nat.le_refl _,fun e he=>by simp [pr1] at he⟩ (by decide)
structure a6g (t:List Nd) (a:Gc):Prop where
 pw:a.l.Pairwise fun o o'=>o.nv+N6 t (nd t o.k)<=o'.nv
 le:∀o∈a.l,o.nv+N6 t (nd t o.k)<=a.nv
theorem c2u {t:List Nd} {a:Gc} {k:Nat} (h:a6g t a):a6g t (a2A t a k):=by
 unfold a2A
 split
 ·refine ⟨List.pairwise_append.2 ⟨h.pw,?_,fun o ho o' ho'=>?_⟩,fun o ho=>?_⟩
  ·unfold a4e
   rw [List.pairwise_map]
   refine List.Pairwise.imp ?_ List.pairwise_lt_range
   intro c c' hc
   have:(c+1)*N6 t (nd t k)<=c'*N6 t (nd t k):=Nat.mul_le_mul_right _ hc
   rw [Nat.succ_mul] at this
   simp only
   omega
  ·obtain ⟨c,hc,rfl⟩:=List.mem_map.1 ho'
   have:=h.le o ho
   simp only
   omega
  ·rcases List.mem_append.1 ho with ho | ho
   ·have:=h.le o ho
    simp only;omega
   ·obtain ⟨c,hc,rfl⟩:=List.mem_map.1 ho
    rw [List.mem_range] at hc
    have:(c+1)*N6 t (nd t k)<=((nd t k).num 0).toNat*N6 t (nd t k):=Nat.mul_le_mul_right _ hc
    rw [Nat.succ_mul] at this
    simp only
    omega
 ·split
  ·exact ⟨h.pw,h.le⟩
  ·exact h
theorem c4w (t:List Nd):(a0L t).Pairwise fun o o'=>o.nv+N6 t (nd t o.k)<=o'.nv:=by
 have:a6g t (a0p t (nd t 0).ks):=by
  unfold a0p
  exact a4z (P:=a6g t) ⟨List.Pairwise.nil,fun o ho=>by simp at ho⟩ fun a k _ ha=>c2u ha
 exact this.pw
theorem b6i {t:List Nd}:∀o∈a0L t,o.seen<=(gat t).vs.length/\(gat t).vs.length<=o.nv:=fun o ho=>by
 obtain ⟨_,_,_,h1,_⟩:=a9Q ho
 exact ⟨h1,(a3J ho).lo⟩
structure MoQ (mo:Mo):Prop where
 one:∀i,i<mo.procs.length->∀e∈(pAt mo.procs i).edges,e.frm≠1
 own:∀i j,i<mo.procs.length->j<mo.procs.length->i≠j->∀v∈(pAt mo.procs i).locals,v∉(pAt mo.procs j).vars
 ll:∀i,i<mo.procs.length->(pAt mo.procs i).locals.length<=mo.vars.length
theorem c1r {t:List Nd} (h:N5 t) (hS:a1j t):MoQ (S5 t):=by
 have e:(S5 t).procs=(a0L t).map (a1m t):=(a4k t).1
 have el:(S5 t).procs.length=(a0L t).length:=by rw [e,List.length_map]
 have ep:∀i (hi:i<(a0L t).length),pAt (S5 t).procs i=a1m t (a0L t)[i]:=fun i hi=>by
  rw [a2N (by omega)];simp [e]
 refine ⟨fun i hi ed hed=>?_,fun i j hi hj hij v hv hv'=>?_,fun i hi=>?_⟩
 ·rw [ep i (by omega)] at hed
  exact (c4u t _).ed ed hed
 ·rw [el] at hi hj
  rw [ep i hi] at hv
  rw [ep j hj] at hv'
  have g1:=(a5q h hS (List.getElem_mem hi)).2
  have g2:=(a5q h hS (List.getElem_mem hj)).2
  rw [g1.locals] at hv
  rw [g2.vars] at hv'
  have lo:=b6i (t:=t)
  simp only [pr1,List.mem_map,List.mem_range,List.mem_append] at hv hv'
  obtain ⟨a,ha,rfl⟩:=hv
  obtain ⟨l1,l2⟩:=lo _ (List.getElem_mem hi)
  obtain ⟨l3,l4⟩:=lo _ (List.getElem_mem hj)
  have pw:=List.pairwise_iff_getElem.1 (c4w t)
  rcases hv' with hv' | ⟨b,hb,hv'⟩
  ·omega
  ·by_cases c:i<j
   ·have:=pw i j hi hj c
    omega
   ·have:=pw j i hj hi (by omega)
    omega
 ·rw [el] at hi
  rw [ep i hi,(a5q h hS (List.getElem_mem hi)).2.locals]
  have h1:=(a3J (List.getElem_mem hi)).hi
  have h2:(S5 t).vars.length=(gbt t).vs.length:=rfl
  simp only [pr1,List.length_map,List.length_range]
  omega
end Go.V
namespace Go.V
variable {mo:Mo} {st:Stt}
def a6w (p:Pr) (f:Ft):Bool:=(List.range 32).all fun b=>!((f.reads ||| f.writes).testBit b)||p.locals.contains b
def a1R (mo:Mo) (p:Pr) (e:Ed):Bool :=
 !e.keep&&!(O6 mo p e).part&&decide ((O6 mo p e).sends=0)&&decide ((O6 mo p e).recvs=0)&&decide ((O6 mo p e).sizes=0)&&a6w p (O6 mo p e)&&(decide (e.to=1)||decide (e.frm<e.to))
def lvE (p:Pr) (k:Nat):List Ed:=p.edges.filter fun e=>decide (e.frm=k)
def a2w (l:List Ed):Bool:=l.all (fun e=>decide (e.act<=1))&&decide (0<l.length)
def forkE (l:List Ed):Bool:=decide (l.length=2)&&decide ((eAt l 0).act=4)&&decide ((eAt l 1).act=5)&&decide ((eAt l 0).expr=(eAt l 1).expr)
def Mo.quiet (mo:Mo) (i k:Nat):Bool:=decide (i<mo.procs.length)&&((lvE (pAt mo.procs i) k).all (a1R mo (pAt mo.procs i))&&(a2w (lvE (pAt mo.procs i) k)||forkE (lvE (pAt mo.procs i) k)))
structure QE (mo:Mo) (p:Pr) (e:Ed):Prop where
 keep:e.keep=false
 part:(O6 mo p e).part=false
 s0:(O6 mo p e).sends=0
 r0:(O6 mo p e).recvs=0
 z0:(O6 mo p e).sizes=0
 rd:∀b,(O6 mo p e).reads.testBit b=true->b∈p.locals
 wr:∀b,(O6 mo p e).writes.testBit b=true->b∈p.locals
 to:e.to=1∨e.frm<e.to
theorem b0T (ho:P7 mo) {p:Pr} (hp:a1I mo p) {e:Ed} (he:e∈p.edges) (h:a1R mo p e=true):QE mo p e:=by
 unfold a1R a6w at h
 simp only [Bool.and_eq_true,Bool.not_eq_true',decide_eq_true_eq,List.all_eq_true,List.mem_range,Bool.or_eq_true,List.contains_iff_mem] at h
 obtain ⟨⟨⟨⟨⟨⟨h1,h2⟩,h3⟩,h4⟩,h5⟩,h6⟩,h7⟩:=h
 have hown:=b3X ho hp he
 have hv:=ho.nv
 refine ⟨h1,h2,h3,h4,h5,fun b hb=>?_,fun b hb=>?_,h7⟩
 ·have:=hp.var b (hown.reads b hb)
  rcases h6 b (by omega) with h | h
  ·rw [Nat.testBit_or,hb] at h;cases h
  ·exact h
 ·have:=hp.var b (hown.writes b hb)
  rcases h6 b (by omega) with h | h
  ·rw [Nat.testBit_or,hb,Bool.or_true] at h;cases h
  ·exact h
theorem c2R {x y:Nat} (h:∀b,x.testBit b=true->y.testBit b=true->False):x &&& y=0:=Nat.eq_of_testBit_eq fun b=>by
 rw [Nat.testBit_and,Nat.zero_testBit]
 cases hx:x.testBit b
 ·rfl
 ·cases hy:y.testBit b
  ·rfl
  ·exact (h b hx hy).elim
theorem QE.act {p:Pr} (hp:a1I mo p) {e:Ed} (he:e∈p.edges) (h:QE mo p e):e.act≠2/\e.act≠3:=by
 have key:¬ (e.act=2∨e.act=3):=fun ha=>by
  have:=b2d hp he ha
  rw [h.s0,h.r0] at this
  simp at this
 omega
theorem a1D.refl (f:Ft) (st:Stt):a1D f st st:=⟨fun _ _=>rfl,fun _ _=>rfl⟩
theorem b8x (ho:P7 mo) {i:Nat} {p:Pr} (hp:a1I mo p) {e:Ed} (he:e∈p.edges) (z:Int):mo.can { st with hold:=z } i p e=mo.can st i p e:=by
 have h:=b5f ho hp he ((a1D.refl (O6 mo p e) st).hold z) 0
 unfold Mo.can
 rw [<- h]
theorem b9s {st st':Stt} {i:Nat} {p:Pr} (h:∀e∈p.edges,mo.can st i p e=mo.can st' i p e):mo.someS st i p=mo.someS st' i p:=by
 unfold Mo.someS
 rw [Bool.eq_iff_iff,List.any_eq_true,List.any_eq_true]
 constructor
 ·rintro ⟨e,he,hc⟩;exact ⟨e,he,by rw [<- h e he];exact hc⟩
 ·rintro ⟨e,he,hc⟩;exact ⟨e,he,by rw [h e he];exact hc⟩
def Mo.eff (mo:Mo) (i:Nat) (e:Ed) (st:Stt):Stt:={ mo.edgeS st i (pAt mo.procs i) e with hold:=st.hold }
end Go.V
namespace Go.V
variable {mo:Mo} {st:Stt}
theorem a4Z {v:Mv}:v∈mo.moves st↔(v.kind=0/\v.chan=0/\v.proc<mo.procs.length/\v.edge<(pAt mo.procs v.proc).edges.length/\mo.can st v.proc (pAt mo.procs v.proc) (eAt (pAt mo.procs v.proc).edges v.edge)=true/\¬ (0<=st.hold/\st.hold≠(v.proc:Int)))∨(st.hold<0/\v.chan<mo.chans.length/\v∈mo.movesC st v.chan):=by
 unfold Mo.moves
 rw [List.mem_append]
 constructor
 ·rintro (h | h)
  ·obtain ⟨i,hi,hv⟩:=List.mem_flatMap.1 h
   obtain ⟨h1,h2⟩:=b0R hv
   obtain ⟨a,b,c,d⟩:=b0H h1
   subst b
   have hc:v.chan=0:=by
    unfold Mo.mvE at h1
    obtain ⟨k,_,e⟩:=List.mem_map.1 h1
    rw [<- e]
   exact .inl ⟨a,hc,List.mem_range.1 hi,c,d,h2⟩
  ·split at h
   ·rename_i hh
    obtain ⟨c,hc,hv⟩:=List.mem_flatMap.1 h
    obtain ⟨_,rfl,_⟩:=a8s hv
    exact .inr ⟨hh,List.mem_range.1 hc,hv⟩
   ·cases h
 ·rintro (⟨a,b,c,d,e,f⟩ | ⟨a,b,c⟩)
  ·refine .inl (List.mem_flatMap.2 ⟨v.proc,List.mem_range.2 c,?_⟩)
   rw [Mo.movesP_eq,if_neg f]
   unfold Mo.mvE
   refine List.mem_map.2 ⟨v.edge,List.mem_filter.2 ⟨List.mem_range.2 d,e⟩,?_⟩
   cases v
   simp only at a b
   subst a b
   rfl
  ·rw [if_pos a]
   exact .inr (List.mem_flatMap.2 ⟨v.chan,List.mem_range.2 b,c⟩)
structure a3d (mo:Mo) (st:Stt):Prop where
 fit:Fit mo st
 keep:∀j:Nat,st.hold=(j:Int)->mo.someS st j (pAt mo.procs j)=true
theorem c09 (ho:P7 mo) {i:Nat} (hi:i<mo.procs.length) (z:Int):mo.someS { st with hold:=z } i (pAt mo.procs i)=mo.someS st i (pAt mo.procs i):=b9s fun _ he=>b8x ho (ho.pr _ (a0P hi)) he z
theorem a3d.step (ho:P7 mo) (hf:a1d mo) (h:a3d mo st) {v:Mv} (hv:v∈mo.moves st):a3d mo (mo.doS st v):=by
 refine ⟨b0j ho hf h.fit (b1s hv),fun j hj=>?_⟩
 rcases a4Z.1 hv with ⟨a,_,b,_,_,_⟩ | ⟨a,b,c⟩
 ·rw [b2o a] at hj ⊢
  unfold Mo.doE at hj ⊢
  simp only at hj
  split at hj
  ·rename_i hk
   obtain rfl:j=v.proc:=by omega
   rw [c09 ho b]
   rw [Bool.and_eq_true] at hk
   exact hk.2
  ·omega
 ·obtain ⟨k,_⟩:=a8s c
  have:(mo.doS st v).hold=st.hold:=by
   unfold Mo.doS
   rcases k with k | k
   ·rw [if_pos k]
   ·rw [if_neg (by omega),if_pos k]
  omega
def a2c (mo:Mo) (M:Stt->List Mv):Nat->Stt->Stt->Prop
 | 0,s,t=>s=t
 | n+1,s,t=>∃v∈M s,a2c mo M n (mo.doS s v) t
theorem a2c.inv (ho:P7 mo) (hf:a1d mo):∀ {n:Nat} {s t:Stt},a2c mo mo.moves n s t->a3d mo s->a3d mo t
 | 0,s,t,h,hi=>by cases h;exact hi
 | n+1,s,t,⟨v,hv,h⟩,hi=>h.inv ho hf (hi.step ho hf hv)
structure QP (mo:Mo) (i k:Nat):Prop where
 lt:i<mo.procs.length
 ed:∀e∈(pAt mo.procs i).edges,e.frm=k->QE mo (pAt mo.procs i) e
end Go.V
namespace Go.V
variable {mo:Mo} {st:Stt}
theorem b7z {i:Nat} {p:Pr} {e:Ed} (h:mo.can st i p e=true):nAt st.at' i=e.frm:=by
 unfold Mo.can at h
 simp only [Bool.and_eq_true,decide_eq_true_eq] at h
 exact h.1.1
theorem a9A (ho:P7 mo) {i k:Nat} (h:mo.quiet i k=true):QP mo i k:=by
 unfold Mo.quiet at h
 simp only [Bool.and_eq_true,decide_eq_true_eq] at h
 refine ⟨h.1,fun e he hk=>b0T ho (ho.pr _ (a0P h.1)) he ?_⟩
 exact List.all_eq_true.1 h.2.1 e (List.mem_filter.2 ⟨he,by simpa using hk⟩)
theorem c1t {i:Nat} (hi:i<mo.procs.length) {e:Ed} (he:e∈(pAt mo.procs i).edges) (hc:mo.can st i (pAt mo.procs i) e=true) (hh:¬ (0<=st.hold/\st.hold≠(i:Int))):∃v,v∈mo.moves st/\v.kind=0/\v.proc=i/\mo.doS st v=mo.doE st i (pAt mo.procs i) e:=by
 obtain ⟨j,hj,rfl⟩:=List.getElem_of_mem he
 refine ⟨⟨0,i,j,0⟩,a4Z.2 (.inl ⟨rfl,rfl,hi,hj,by simp only;rw [a2U hj];exact hc,hh⟩),rfl,rfl,?_⟩
 rw [b2o rfl]
 simp only
 rw [a2U hj]
theorem c4J (ho:P7 mo) {i:Nat} {e:Ed} (hk:e.keep=false) (hh:st.hold=-1):mo.doE st i (pAt mo.procs i) e=mo.eff i e st:=by
 rw [b7g hk]
 unfold Mo.eff
 rw [a4C,hh]
def Mo.rk (mo:Mo) (st:Stt):Nat:=((List.range mo.procs.length).map fun i=>if nAt st.at' i=1 then 0 else (pAt mo.procs i).places-nAt st.at' i).sum
theorem b7Z {b:Nat} (h:mo.askF.reads.testBit b=true):b<mo.globals:=by
 apply Decidable.byContradiction
 intro hb
 have:mo.askF.reads.testBit b=false:=by
  unfold Mo.askF
  refine a4z (P:=fun f:Ft=>f.reads.testBit b=false) (by simp) fun f k _ hf=>a8L (fun w=>?_) _ k f hf
  unfold Mo.varG
  split
  ·rw [Nat.testBit_two_pow]
   exact decide_eq_false (by omega)
  ·simp
 rw [this] at h
 cases h
theorem c0L (ho:P7 mo) {i:Nat} (hi:i<mo.procs.length) {e:Ed} (he:e∈(pAt mo.procs i).edges) (h:QE mo (pAt mo.procs i) e):mo.safeS (mo.eff i e st)=mo.safeS st:=by
 have hp:=ho.pr _ (a0P hi)
 refine (b4G ho ((b83 hp he ?_ ?_).hold _)).symm
 ·refine c2R fun b h1 h2=>?_
  have:=(hp.loc b (h.wr b h1)).2
  have:=b7Z h2
  omega
 ·rw [h.s0,h.r0];simp
def Mo.deadS (mo:Mo) (st:Stt):Bool:=decide (mo.moves st=[])&&!((List.range mo.procs.length).all fun i=>(pAt mo.procs i).rest.getD (nAt st.at' i) false)
def Mo.badS (mo:Mo) (st:Stt):Bool:=!mo.safeS st||mo.dead&&mo.deadS st
def Mo.firstQ (mo:Mo) (st:Stt):Option Nat:=(List.range mo.procs.length).find? fun i=>mo.quiet i (nAt st.at' i)
def Mo.ample (mo:Mo) (st:Stt):List Mv:=if st.hold<0 then match mo.firstQ st with
    | some i=>(mo.moves st).filter fun v=>decide (v.kind=0)&&decide (v.proc=i)
    | none=>mo.moves st
 else mo.moves st
theorem b74 {v:Mv} (h:v∈mo.ample st):v∈mo.moves st:=by
 unfold Mo.ample at h
 split at h
 ·split at h
  ·exact (List.mem_filter.1 h).1
  ·exact h
 ·exact h
def b1j (mo:Mo):Prop:=∀i st,mo.quiet i (nAt st.at' i)=true->∃e∈(pAt mo.procs i).edges,e.frm=nAt st.at' i/\mo.can st i (pAt mo.procs i) e=true
end Go.V
namespace Go.V
def ExP (P:Nat->Prop) (p:Pr):Prop:=∀e∈p.edges,∀n:Nat,e.expr=(n:Int)->P n
variable {P:Nat->Prop}
theorem ExP.put {p:Pr} (h:ExP P p) {frm to act node:Nat} {x v c:Int} (hx:∀n:Nat,x=(n:Int)->P n):ExP P (p.put frm to act node x v c):=fun e he=>by
 simp only [Pr.put,List.mem_append,List.mem_singleton] at he
 rcases he with he | rfl
 ·exact h e he
 ·exact hx
theorem a54:∀n:Nat,(-1:Int)=(n:Int)->P n:=fun n h=>by omega
theorem ExP.idle {p:Pr} (h:ExP P p) (n:Nat) (i:Int):ExP P (p.idle n i):=by
 unfold Pr.idle
 split
 ·exact h
 ·exact h
theorem ExP.mark {p:Pr} (h:ExP P p) (n to:Nat):ExP P { p with edges:=a0C n to p.edges }:=fun e he=>by
 simp only [a0C,List.mem_append,List.mem_map] at he
 rcases he with he | ⟨e',he,rfl⟩
 ·exact h e (List.mem_of_mem_take he)
 ·exact h e' (List.mem_of_mem_drop he)
def StX (P:Nat->Prop) (st:Pr->Nat->Nat->Nat->Pr) (k:Nat):Prop:=∀p frm to,ExP P p->ExP P (st p k frm to)
theorem a2X {st:Pr->Nat->Nat->Nat->Pr} {node:Nat}:∀ {ks:List Nat} {p:Pr} {frm to:Nat},(∀k∈ks,StX P st k)->ExP P p->ExP P (a1A st node p ks frm to)
 | [],p,frm,to,_,h=>h.put a54
 | [k],p,frm,to,hs,h=>hs k (by simp) p frm to h
 | k::k'::ks,p,frm,to,hs,h=>a2X (ks:=k'::ks) (fun x hx=>hs x (by simp only [List.mem_cons] at hx ⊢;exact .inr hx)) (hs k (by simp) p.place frm _ h)
theorem a92 {t:List Nd} {st:Pr->Nat->Nat->Nat->Pr} {frm to:Nat}:∀ {ks:List Nat} {p:Pr},(∀b∈ks,∀k∈(nd t b).ks,StX P st k)->ExP P p->ExP P (Y7 t st frm to p ks)
 | [],p,_,h=>h
 | k::ks,p,hs,h=>by
   unfold Y7
   refine a92 (fun b hb=>hs b (by simp [hb])) ?_
   split
   ·exact a2X (hs k (by simp)) (ExP.put (p:=p.place) h a54)
   ·exact a2X (hs k (by simp)) h
theorem b3a {t:List Nd} (ht:X7 t) (ch:List ByteArray) (hc:∀j,j<t.length->P j->∀k∈(nd t j).ks,P k):∀f k,k<t.length->P k->a1Y (nd t k).kind->StX P (M5 t ch f) k
 | 0,k,_,_,_=>fun p frm to h=>h
 | f+1,k,hk,hP,hst=>by
   intro p frm to h
   have hno:=ht.node k hk
   have hks:=ht.ks hk
   have bl:∀b∈(nd t k).ks,(nd t b).kind=16->∀x∈(nd t b).ks,StX P (M5 t ch f) x:=fun b hb hb16 x hx=>by
    have h1:=hks b hb
    have h2:=ht.ks h1.2 x hx
    exact b3a ht ch hc f x h2.2 (hc b h1.2 (hc k hk hP b hb) x hx) ((ht.node b h1.2).block hb16 x hx)
   have k0:1<=(nd t k).kids.length->∀n:Nat,(((nd t k).kid 0:Nat):Int)=(n:Int)->P n:=fun h1 n e=>by
    obtain rfl:(nd t k).kid 0=n:=by omega
    exact hc k hk hP _ (V4 (by omega))
   unfold M5
   simp only
   by_cases c6:(nd t k).kind=6
   ·rw [if_pos c6];exact h.put (k0 (by have:=hno.one (by omega);omega))
   rw [if_neg c6]
   by_cases c7:(nd t k).kind=7
   ·rw [if_pos c7];exact h.put (k0 (by have:=hno.one (by omega);omega))
   rw [if_neg c7]
   by_cases c8:(nd t k).kind=8
   ·rw [if_pos c8];exact (h.idle _ _).put a54
   rw [if_neg c8]
   by_cases c9:(nd t k).kind=9
   ·rw [if_pos c9];exact (h.idle _ _).put (k0 (by have:=hno.one (by omega);omega))
   rw [if_neg c9]
   by_cases c10:(nd t k).kind=10
   ·rw [if_pos c10];exact a92 (fun b hb=>bl b hb ((hno.choose c10).2 b hb)) (h.idle _ _)
   rw [if_neg c10]
   by_cases c11:(nd t k).kind=11
   ·rw [if_pos c11]
    obtain ⟨l1,l2,l3,l4⟩:=hno.cond c11
    have k0:=k0 (by omega)
    have m1:=V4 (x:=nd t k) (i:=1) (by omega)
    have i1:ExP P (p.place.put frm p.places 4 k ((nd t k).kid 0:Nat) (-1) (-1)):=ExP.put (p:=p.place) h k0
    have s1:=a2X (node:=(nd t k).kid 1) (frm:=p.places) (to:=to) (bl _ m1 l3) i1
    split
    ·exact ExP.put s1 k0
    ·have m2:=V4 (x:=nd t k) (i:=2) (by omega)
     exact a2X (bl _ m2 (l4 (by omega))) (ExP.put (p:=Pr.place _) s1 k0)
   rw [if_neg c11]
   by_cases c12:(nd t k).kind=12
   ·rw [if_pos c12]
    obtain ⟨l1,l2,l3⟩:=hno.loop c12
    have k0:=k0 (by omega)
    exact a2X (bl _ (V4 (x:=nd t k) (i:=1) (by omega)) l3) (ExP.put (ExP.put (p:=p.place) h k0) k0)
   rw [if_neg c12]
   by_cases c13:(nd t k).kind=13
   ·rw [if_pos c13]
    obtain ⟨l1,l2⟩:=hno.atom c13
    exact ExP.mark (a2X (bl _ (V4 (x:=nd t k) (i:=0) (by omega)) l2) h) _ _
   rw [if_neg c13]
   split<;>exact h.put a54
theorem b2a {ch:List ByteArray} {vb:ByteArray->Nat} {x:Nd} {f:Ft} (h:(U7 ch vb x f).part=false):f.part=false/\¬ (x.kind=22/\(x.num 0=7∨x.num 0=8)):=by
 unfold U7 at h
 split at h
 ·exact ⟨h,fun e=>by omega⟩
 split at h
 ·exact ⟨h,fun e=>by omega⟩
 split at h
 ·cases h
 ·rename_i c;exact ⟨h,c⟩
theorem a7L {g:Ft->Nat->Ft} (hg:∀f k,(g f k).part=false->f.part=false):∀ {l:List Nat} {f:Ft},(l.foldl g f).part=false->f.part=false/\∀k∈l,∃f',(g f' k).part=false
 | [],f,h=>⟨h,fun k hk=>by simp at hk⟩
 | x::l,f,h=>by
   obtain ⟨h1,h2⟩:=a7L hg (l:=l) (f:=g f x) h
   refine ⟨hg f x h1,fun k hk=>?_⟩
   rcases List.mem_cons.1 hk with rfl | hk
   ·exact ⟨f,h1⟩
   ·exact h2 k hk
theorem b1Y {t:List Nd} {ch:List ByteArray} {vb:ByteArray->Nat}:∀n k f,(Y0 t ch vb n k f).part=false->f.part=false
 | 0,k,f,h=>h
 | n+1,k,f,h=>by
   unfold Y0 at h
   exact (b2a (a7L (fun f k=>b1Y n k f) h).1).1
theorem b3E {t:List Nd} (ht:X7 t) {ch ch':List ByteArray} {vb:ByteArray->Nat} {look:ByteArray->Option Nat} {st:Stt} (hc:∀j,j<t.length->P j->∀k∈(nd t j).ks,P k) (hv:∀k,P k->(nd t k).kind=18->look ((nd t k).word 0)≠none) (hl:∀k,P k->(nd t k).kind=19->idxB ch ((nd t k).word 0)<ch.length):∀ (n k:Nat) (f:Ft),k<t.length->a0J (nd t k).kind->P k->t.length<=k+n->(Y0 t ch' vb n k f).part=false->(V2 t ch look st n k).2=true
 | 0,k,f,hk,_,_,hn,_=>by omega
 | n+1,k,f,hk,hx,hP,hn,hp=>by
   have hno:=ht.node k hk
   obtain ⟨_,hkx⟩:=a57 hno hx
   unfold Y0 at hp
   obtain ⟨p1,p2⟩:=a7L (fun f k=>b1Y n k f) hp
   have p1:=(b2a p1).2
   have hkid:∀i,i<(nd t k).kids.length->(V2 t ch look st n ((nd t k).kid i)).2=true:=fun i hi=>by
    have hm:=V4 hi
    have h2:=ht.ks hk _ hm
    obtain ⟨f',hf'⟩:=p2 _ hm
    exact b3E ht hc hv hl n _ f' h2.2 (hkx i hi) (hc k hk hP _ hm) (by omega) hf'
   unfold V2
   simp only
   by_cases q17:(nd t k).kind=17
   ·simp only [q17,if_true]
   simp only [q17,if_false]
   by_cases q18:(nd t k).kind=18
   ·simp only [q18,if_true]
    cases hlk:look ((nd t k).word 0) with
    | none=>exact absurd hlk (hv k hP q18)
    | some v=>rfl
   simp only [q18,if_false]
   by_cases q19:(nd t k).kind=19
   ·simp only [q19,if_true,hl k hP q19]
   simp only [q19,if_false]
   by_cases q20:(nd t k).kind=20
   ·have:=(hno.one (by omega)).1
    simp only [q20,if_true,hkid 0 (by omega)]
   simp only [q20,if_false]
   by_cases q21:(nd t k).kind=21
   ·have:=(hno.one (by omega)).1
    simp only [q21,if_true,hkid 0 (by omega)]
   simp only [q21,if_false]
   by_cases q22:(nd t k).kind=22
   ·obtain ⟨b1,_,_,b4,b5⟩:=hno.bin q22
    simp only [q22,if_true,hkid 0 (by omega),hkid 1 (by omega),Bool.and_self]
    unfold a0X
    rw [if_neg (by omega)]
    repeat' split
    all_goals rfl
   unfold a0J at hx
   omega
end Go.V
namespace Go.V
theorem c4z {t:List Nd} (h:N5 t) (hS:a1j t) {o:Org} (ho:o∈a0L t):∃P:Nat->Prop,(∀j,j<t.length->P j->∀k∈(nd t j).ks,P k)/\ExP P (a1m t o)/\(∀k,P k->(nd t k).kind=18->(nd t k).word 0∈(pr1 t o).names)/\(∀k,P k->(nd t k).kind=19->(nd t k).word 0∈chs t):=by
 obtain ⟨b,b1,hsub,k2,_,_⟩:=a80 h hS ho
 have hok:=a3J ho
 have hpc:=a5A ((h.ok.node o.k k2).proc hok.kind)
 have hclo:∀j,j<t.length->(o.k<=j/\j<b)->∀k∈(nd t j).ks,o.k<=k/\k<b:=fun j _ hj k hk=>by
  obtain ⟨z,hz,rfl⟩:=List.mem_map.1 hk
  have:=hsub.down j hj.1 hj.2 z hz
  omega
 obtain ⟨i,hi,e,hseen⟩:=hok.at'
 have hkm:o.k∈(nd t 0).ks:=e▸List.getElem_mem hi
 have hle:=hsub.le
 obtain ⟨r,hr⟩:=a71 t ((nd t 0).ks.take i) ((nd t 0).ks.drop i)
 rw [List.take_append_drop] at hr
 have hg:(gat t).vs=(U0 t ((nd t 0).ks.take i)).vs++r:=hr
 have hv:(gat t).vs.take o.seen=(U0 t ((nd t 0).ks.take i)).vs:=by rw [hg,hseen,List.take_left]
 refine ⟨fun j=>o.k<=j/\j<b,hclo,a2X (fun k hk=>?_) fun ed he=>by simp [pr1] at he,fun k hP h18=>?_,fun k hP h19=>?_⟩
 ·have hkk:=h.ok.ks k2 k (List.mem_of_mem_drop hk)
  exact b3a h.ok _ hclo _ k hkk.2 (hclo o.k k2 ⟨Nat.le_refl _,hsub.lt⟩ k (List.mem_of_mem_drop hk)) (hpc.1 k hk)
 ·have:=b3U h hi (by rw [e];exact hok.kind) (by rw [e];exact hsub) (by rw [e];exact a3M h hkm hsub) (j:=k) (by rw [e];exact hP.1) hP.2 (hS.use k (by omega) (.inr h18))
  rw [e,<- hv] at this
  exact List.mem_append.2 this
 ·exact b1O h (by omega) (hS.chan k (by omega) (.inr (.inl h19)))
theorem b2v {l:List ByteArray} {w:ByteArray} (h:w∈l):idxB l w<l.length:=List.findIdx_lt_length_of_exists ⟨w,h,by simp⟩
theorem c2m {mo:Mo} {p:Pr} {e:Ed}:(O6 mo p e).part=(a3V mo p e).part:=by
 rw [a6u]
 unfold a5a
 repeat' split
 all_goals rfl
theorem c0v {t:List Nd} (h:N5 t) (hS:a1j t) (hoM:P7 (S5 t)) {i:Nat} (hi:i<(S5 t).procs.length) {e:Ed} (he:e∈(pAt (S5 t).procs i).edges) (hp:(O6 (S5 t) (pAt (S5 t).procs i) e).part=false) (st:Stt):((S5 t).ex (pAt (S5 t).procs i) st e 0).2=true:=by
 have e0:(S5 t).procs=(a0L t).map (a1m t):=(a4k t).1
 have hi':i<(a0L t).length:=by rw [e0,List.length_map] at hi;exact hi
 have ep:pAt (S5 t).procs i=a1m t (a0L t)[i]:=by rw [a2N hi];simp [e0]
 have hpo:=hoM.pr _ (a0P hi)
 have heo:=hpo.inv.ed e he
 unfold Mo.ex
 split
 ·rename_i h0
  have hx:e.act=1∨e.act=2∨e.act=4∨e.act=5:=by
   have:=heo.ex0
   have:=heo.act
   omega
  obtain ⟨n,hn,hn2,hn3⟩:=heo.ex1 hx
  obtain ⟨P,hc,hex,hv,hl⟩:=c4z h hS (List.getElem_mem hi')
  rw [c2m] at hp
  unfold a3V at hp
  rw [if_pos h0,hn,Int.toNat_natCast] at hp
  rw [hn,Int.toNat_natCast]
  have hnm:=(a5q h hS (List.getElem_mem hi')).2.names
  refine b3E h.ok hc (fun k hk h18=>?_) (fun k hk h19=>?_) _ n ⟨0,0,0,0,0,false⟩ hn2 hn3 ?_ (by show t.length<=_+(t.length+1);omega) hp
  ·have:=b2v (hv k hk h18)
   rw [<- hnm,<- ep] at this
   unfold W7
   rw [if_pos this]
   simp
  ·exact b2v (hl k hk h19)
  ·rw [ep] at he
   exact hex e he n hn
 ·rfl
theorem c2k {t:List Nd} (h:N5 t) (hS:a1j t) (hoM:P7 (S5 t)):b1j (S5 t):=by
 intro i st hq
 have hqq:=hq
 unfold Mo.quiet at hq
 simp only [Bool.and_eq_true,decide_eq_true_eq] at hq
 obtain ⟨hi,hall,hor⟩:=hq
 have hQ:=a9A hoM hqq
 have mem:∀e∈lvE (pAt (S5 t).procs i) (nAt st.at' i),e∈(pAt (S5 t).procs i).edges/\e.frm=nAt st.at' i:=fun e he=>by
  obtain ⟨a,b⟩:=List.mem_filter.1 he
  exact ⟨a,by simpa using b⟩
 have dx:∀e∈lvE (pAt (S5 t).procs i) (nAt st.at' i),((S5 t).ex (pAt (S5 t).procs i) st e 0).2=true:=fun e he=>c0v h hS hoM hi (mem e he).1 (hQ.ed e (mem e he).1 (mem e he).2).part st
 rw [Bool.or_eq_true] at hor
 rcases hor with hor | hor
 ·unfold a2w at hor
  simp only [Bool.and_eq_true,decide_eq_true_eq,List.all_eq_true] at hor
  have hm:=List.getElem_mem hor.2
  refine ⟨_,(mem _ hm).1,(mem _ hm).2,?_⟩
  have ha:=hor.1 _ hm
  unfold Mo.can
  rw [dx _ hm,(mem _ hm).2,if_neg (by omega),if_neg (by omega),if_neg (by omega),if_neg (by omega)]
  simp
 ·unfold forkE at hor
  simp only [Bool.and_eq_true,decide_eq_true_eq] at hor
  obtain ⟨⟨⟨f1,f2⟩,f3⟩,f4⟩:=hor
  have m0:=a1N (l:=lvE (pAt (S5 t).procs i) (nAt st.at' i)) (i:=0) (by omega)
  have m1:=a1N (l:=lvE (pAt (S5 t).procs i) (nAt st.at' i)) (i:=1) (by omega)
  generalize eAt (lvE (pAt (S5 t).procs i) (nAt st.at' i)) 0=a at *
  generalize eAt (lvE (pAt (S5 t).procs i) (nAt st.at' i)) 1=b at *
  have hab:(S5 t).ex (pAt (S5 t).procs i) st b 0=(S5 t).ex (pAt (S5 t).procs i) st a 0:=by
   unfold Mo.ex
   rw [f4]
  by_cases c:((S5 t).ex (pAt (S5 t).procs i) st a 0).1=0
  ·refine ⟨b,(mem _ m1).1,(mem _ m1).2,?_⟩
   unfold Mo.can
   rw [dx _ m1,(mem _ m1).2,hab,c,f3]
   simp
  ·refine ⟨a,(mem _ m0).1,(mem _ m0).2,?_⟩
   unfold Mo.can
   rw [dx _ m0,(mem _ m0).2,f2]
   simp [c]
end Go.V
namespace Go.V
variable {mo:Mo}
theorem b1t {x y b:Nat} (hx:x<4294967296) (hy:y<4294967296) (h1:x.testBit b=true) (h2:y.testBit b=false):¬ IntKind.u32.wrap (a46 .u32 (x:Int) (y:Int))=0:=by
 intro h
 unfold a46 at h
 have hb:b<32:=by
  apply Decidable.byContradiction
  intro hn
  have:x<2 ^ b:=Nat.lt_of_lt_of_le (show x<2 ^ 32 from hx) (Nat.pow_le_pow_right (n:=2) (by decide) (by omega:32<=b))
  rw [Nat.testBit_lt_two_pow this] at h1
  cases h1
 have hlt:=(BitVec.ofInt IntKind.u32.bits (x:Int) &&& ~~~ BitVec.ofInt IntKind.u32.bits (y:Int)).isLt
 rw [IntKind.wrap_u32] at h
 have h0:(BitVec.ofInt IntKind.u32.bits (x:Int) &&& ~~~ BitVec.ofInt IntKind.u32.bits (y:Int)).toNat=0:=by
  have:(2:Nat) ^ IntKind.u32.bits=4294967296:=rfl
  omega
 have h3:(BitVec.ofInt IntKind.u32.bits (x:Int) &&& ~~~ BitVec.ofInt IntKind.u32.bits (y:Int)).getLsbD b=false:=by
  rw [BitVec.getLsbD,h0,Nat.zero_testBit]
 rw [BitVec.getLsbD_and,BitVec.getLsbD_not] at h3
 have e1:(BitVec.ofInt IntKind.u32.bits (x:Int)).getLsbD b=x.testBit b:=by rw [BitVec.getLsbD,a36 hx]
 have e2:(BitVec.ofInt IntKind.u32.bits (y:Int)).getLsbD b=y.testBit b:=by rw [BitVec.getLsbD,a36 hy]
 rw [e1,e2,h1,h2] at h3
 have:decide (b<IntKind.u32.bits)=true:=decide_eq_true hb
 rw [this] at h3
 cases h3
def lvT (p:Pr) (k j:Nat):List Ed:=(p.edges.take j).filter fun e=>decide (e.frm=k)
theorem b2Q (p:Pr) (k:Nat):lvT p k p.edges.length=lvE p k:=by unfold lvT lvE;rw [List.take_length]
theorem c2z {p:Pr} {k j:Nat} (h:j<p.edges.length):lvT p k (j+1)=lvT p k j++if (eAt p.edges j).frm=k then [eAt p.edges j] else []:=by
 unfold lvT
 rw [List.take_succ_eq_append_getElem h,List.filter_append,a2U h]
 congr 1
 by_cases c:p.edges[j].frm=k<;>simp [c]
theorem b3e (p:Pr) (k j:Nat):(lvT p k j).length<=p.edges.length:=by
 unfold lvT
 refine Nat.le_trans (List.length_filter_le _ _) ?_
 rw [List.length_take];omega
theorem a7j (ho:P7 mo) {p:Pr} (hp:a1I mo p) {e:Ed} (he:e∈p.edges):a6w p (O6 mo p e)=true↔∀b,((O6 mo p e).reads ||| (O6 mo p e).writes).testBit b=true->b∈p.locals:=by
 unfold a6w
 simp only [List.all_eq_true,List.mem_range,Bool.or_eq_true,Bool.not_eq_true',List.contains_iff_mem]
 have hown:=b3X ho hp he
 have hv:=ho.nv
 constructor
 ·intro h b hb
  have hb32:b<32:=by
   have hb2:=hb
   rw [Nat.testBit_or,Bool.or_eq_true] at hb2
   have:=hp.var b (hb2.elim (hown.reads b) (hown.writes b))
   omega
  rcases h b hb32 with h | h
  ·rw [hb] at h;cases h
  ·exact h
 ·intro h b _
  cases hb:((O6 mo p e).reads ||| (O6 mo p e).writes).testBit b
  ·exact .inl rfl
  ·exact .inr (h b hb)
theorem c1S {i k:Nat} {e:Ed} (he:e∈(pAt mo.procs i).edges) (hk:e.frm=k) (h:a1R mo (pAt mo.procs i) e=false):mo.quiet i k=false:=by
 have:(lvE (pAt mo.procs i) k).all (a1R mo (pAt mo.procs i))=false:=by
  rw [Bool.eq_false_iff]
  intro hall
  have:=List.all_eq_true.1 hall e (List.mem_filter.2 ⟨he,by simpa using hk⟩)
  rw [h] at this;cases this
 unfold Mo.quiet
 rw [this,Bool.false_and,Bool.and_false]
theorem b7i {i k:Nat} (hi:i<mo.procs.length) (h:∀e∈(pAt mo.procs i).edges,e.frm=k->a1R mo (pAt mo.procs i) e=true):mo.quiet i k=(a2w (lvE (pAt mo.procs i) k)||forkE (lvE (pAt mo.procs i) k)):=by
 have:(lvE (pAt mo.procs i) k).all (a1R mo (pAt mo.procs i))=true:=by
  rw [List.all_eq_true]
  intro e he
  obtain ⟨a,b⟩:=List.mem_filter.1 he
  exact h e a (by simpa using b)
 unfold Mo.quiet
 rw [this,Bool.true_and,decide_eq_true hi,Bool.true_and]
theorem c37 (ho:P7 mo) {i k:Nat} (hi:i<mo.procs.length) (hk:(pAt mo.procs i).places<=k):mo.quiet i k=false:=by
 have hl:lvE (pAt mo.procs i) k=[]:=by
  unfold lvE
  rw [List.filter_eq_nil_iff]
  intro e he
  have:=((ho.pr _ (a0P hi)).inv.ed e he).f
  simp only [decide_eq_true_eq]
  omega
 unfold Mo.quiet
 rw [hl]
 simp [a2w,forkE]
end Go.V
namespace Go.Proofs.YtnjlhebkhjcagaaGreat
open Go.V
set_option maxRecDepth 100000
set_option maxHeartbeats 4000000
variable {m:MdX} {mo:Mo} {ps:List (Pr×PrD)} {x:StD} {st:Stt}
theorem b9x (hm:MoF m mo ps) (ho:P7 mo) {p i:Nat} (hp:p<mo.procs.length) (hi:i<(pAt mo.procs p).edges.length) :
 Eqc vfs 41 [.agg [m.dt,.int .i64 m.g,m.dc,m.dv,m.dp,m.ds,.bool m.b],.int .i64 (p:Int),.int .i64 (i:Int)] (.tup [.agg (O6 mo (pAt mo.procs p) (eAt (pAt mo.procs p).edges i)).row,.bool true])/\(O6 mo (pAt mo.procs p) (eAt (pAt mo.procs p).edges i)).Ok:=by
 rw [a2U hi]
 have e:pAt mo.procs p=mo.procs[p]:=a2N hp
 simp only [e] at hi ⊢
 obtain ⟨⟨s,h⟩,hok⟩:=b6a hm ho hp hi
 exact ⟨Z5 ⟨_,s,h,rfl⟩,hok⟩
theorem b6A {d:D} {l:List Ed} (hd:FL 8 d (S2 l)) (hl:l.length<=4000):Eqc vfs 42 [d] (.bool (a2w l)):=by
 have hln:=a8I hd
 refine Z5 ?_
 refine W3 (vf:=a8N) rfl ?_
 unfold a8N;refine zF ?_
 refine zY hln ?_
 refine a0d [0,5,6] 0 l.length (fun i f s=>f 7=.int .i64 (i:Int)/\∀j,j<i->(eAt l j).act<=1) (.mk rfl) (by omega) ⟨rfl,fun j h=>by omega⟩ ?_
 rintro i f s hi ⟨hE,hall⟩
 by_cases ci:i<l.length
 ·have hx:=a4H hd ci (k:=.i64)
  have no:¬ (eAt l i).act<=1->a2w l=false:=fun h=>by
   unfold a2w
   have:l.all (fun e=>decide (e.act<=1))=false:=by
    rw [Bool.eq_false_iff]
    intro ha
    exact h (by simpa using List.all_eq_true.1 ha _ (a1N ci))
   rw [this,Bool.false_and]
  have yes:(eAt l i).act<=1->∀j,j<i+1->(eAt l j).act<=1:=fun h j hj=>by
   by_cases ej:j=i
   ·subst ej;exact h
   ·exact hall j (by omega)
  by_cases a0:((eAt l i).act:Int)=0
  ·refine zY (aN hE (aN hln (aN ci (aN hx a0)))) ?_
   exact yes (by omega)
  by_cases a1:((eAt l i).act:Int)=1
  ·refine zY (aN hE (aN hln (aN ci (aN hx (aN a0 a1))))) ?_
   exact yes (by omega)
  ·refine zY (aN hE (aN hln (aN ci (aN hx (aN a0 a1))))) ?_
   exact (no (by omega)).symm
 ·obtain rfl:i=l.length:=by omega
  refine zY (aN hE (aN hln ci)) ?_
  unfold a2w
  have:l.all (fun e=>decide (e.act<=1))=true:=by
   rw [List.all_eq_true]
   intro e he
   obtain ⟨j,hj,rfl⟩:=List.getElem_of_mem he
   have:=hall j hj
   rw [a2U hj] at this
   simpa using this
  rw [this,Bool.true_and]
theorem c3p {d:D} {l:List Ed} (hd:FL 8 d (S2 l)) (hl:l.length<=4000):Eqc vfs 43 [d] (.bool (forkE l)):=by
 have hln:=a8I hd
 refine Z5 ?_
 unfold forkE
 by_cases c2:l.length=2
 ·have h0:=a4H hd (i:=0) (by omega) (k:=.i64)
  have h1:=a4H hd (i:=1) (by omega) (k:=.i64)
  have z0:((0:Nat):Int)=0:=rfl
  have z1:((1:Nat):Int)=1:=rfl
  rw [z0] at h0
  rw [z1] at h1
  refine W3 (vf:=a45) rfl ?_
  unfold a45;refine zF ?_
  refine zY (aN hln (aN c2 (aN h0 h1))) ?_
  repeat' (first|(refine a1F (fun c=>?_) (fun c=>?_)<;>(try simp only [Y6,Z1,Y8,Z2] at c)<;>simp (disch:=(first|exact Rf.mk rfl|with_reducible assumption|omega|((repeat (first|rw [nP]|rw [nS]|rw [M7]))<;>omega)|decide)) only [go_sem,↓reduceIte,hln,c2,h0,h1,c])|(refine a1U (fun c=>?_) (fun c=>?_)<;>(try simp only [Y6,Z1,Y8,Z2] at c)<;>simp (disch:=(first|exact Rf.mk rfl|with_reducible assumption|omega|((repeat (first|rw [nP]|rw [nS]|rw [M7]))<;>omega)|decide)) only [go_sem,↓reduceIte,hln,c2,h0,h1,c]))
  all_goals first | (simp_all;done) | (simp_all;omega)
 ·have c3:¬ (l.length:Int)=2:=by omega
  refine W3 (vf:=a45) rfl ?_
  unfold a45;refine zF ?_
  refine zY (aN hln c3) ?_
  simp [c2]
end Go.Proofs.YtnjlhebkhjcagaaGreat
namespace Go.Proofs.YtnjlhebkhjcagaaGreat
open Go.V
set_option maxRecDepth 100000
set_option maxHeartbeats 4000000
variable {m:MdX} {mo:Mo} {ps:List (Pr×PrD)} {x:StD} {st:Stt}
theorem c1v (hm:MoF m mo ps) (ho:P7 mo) (hq:MoQ mo) {i k:Nat} (hi:i<mo.procs.length):Eqc vfs 18 [.agg [m.dt,.int .i64 m.g,m.dc,m.dv,m.dp,m.ds,.bool m.b],.int .i64 (i:Int),.int .i64 (k:Int)] (.bool (mo.quiet i k)):=by
 have om:=hm.ones
 have fm:=a3e hm
 have hpo:=ho.pr _ (a0P hi)
 have hel:=hpo.el
 have hnv:=ho.nv
 have c1:¬ mo.procs.length<=i:=by omega
 refine Z5 ?_
 by_cases hk:(pAt mo.procs i).places<=k
 ·rw [c37 ho hi hk]
  refine W3 (vf:=a5N) rfl ?_
  unfold a5N;refine zF ?_
  exact zZ (aN om (aN hi (aN c1 hk)))
 have hv32:∀v∈(pAt mo.procs i).locals,v<32:=fun v hv=>by have:=hpo.var v (hpo.loc v hv).1;omega
 have hll:(pAt mo.procs i).locals.length<=1000000:=by have:=hq.ll i hi;omega
 refine W3 (vf:=a5N) rfl ?_
 unfold a5N;refine zF ?_
 refine zY (aN om (aN hi (aN c1 hk))) ?_
 have hp0:Hp (((k4.empty.push (.cells [m.dt,.int .i64 m.g,m.dc,m.dv,m.dp,m.ds,.bool m.b])).push (.cells [.str (bs []),.int .i64 0,.nils,.int .i64 0,.nils,.nils,.nils,.nils])).set 1 (some (.cells [.str (pAt mo.procs i).name,.int .i64 ((pAt mo.procs i).copy:Int),(prX ps i).dl,.int .i64 ((pAt mo.procs i).places:Int),(prX ps i).dr,(prX ps i).de,(prX ps i).dn,(prX ps i).dv]))) [] [(0,[m.dt,.int .i64 m.g,m.dc,m.dv,m.dp,m.ds,.bool m.b]),(1,[.str (pAt mo.procs i).name,.int .i64 ((pAt mo.procs i).copy:Int),(prX ps i).dl,.int .i64 ((pAt mo.procs i).places:Int),(prX ps i).dr,(prX ps i).de,(prX ps i).dn,(prX ps i).dv])]:=⟨List.nodup_nil,by simp,by simp [Has],by
  intro y hy
  simp only [List.mem_cons,List.not_mem_nil,or_false] at hy
  rcases hy with rfl | rfl
  ·exact zZ0
  ·simp (disch:=(first|exact Rf.mk rfl|with_reducible assumption|omega|((repeat (first|rw [nP]|rw [nS]|rw [M7]))<;>omega)|decide)) only [go_sem,↓reduceIte]⟩
 generalize ((k4.empty.push (.cells [m.dt,.int .i64 m.g,m.dc,m.dv,m.dp,m.ds,.bool m.b])).push (.cells [.str (bs []),.int .i64 0,.nils,.int .i64 0,.nils,.nils,.nils,.nils])).set 1 (some (.cells [.str (pAt mo.procs i).name,.int .i64 ((pAt mo.procs i).copy:Int),(prX ps i).dl,.int .i64 ((pAt mo.procs i).places:Int),(prX ps i).dr,(prX ps i).de,(prX ps i).dn,(prX ps i).dv]))=s0 at *
 have hg:∀ {s E},Hp s E [(0,[m.dt,.int .i64 m.g,m.dc,m.dv,m.dp,m.ds,.bool m.b]),(1,[.str (pAt mo.procs i).name,.int .i64 ((pAt mo.procs i).copy:Int),(prX ps i).dl,.int .i64 ((pAt mo.procs i).places:Int),(prX ps i).dr,(prX ps i).de,(prX ps i).dn,(prX ps i).dv])]->s.get 0=some (.cells [m.dt,.int .i64 m.g,m.dc,m.dv,m.dp,m.ds,.bool m.b])/\s.get 1=some (.cells [.str (pAt mo.procs i).name,.int .i64 ((pAt mo.procs i).copy:Int),(prX ps i).dl,.int .i64 ((pAt mo.procs i).places:Int),(prX ps i).dr,(prX ps i).de,(prX ps i).dn,(prX ps i).dv]):=fun h=>⟨h.r (0,_) (by simp),h.r (1,_) (by simp)⟩
 refine a2f [0,1,2,3,6,7,11,12,13,14,15,38,45,46,58,59,60,61,68,92,119] (fun f s'=>f 8=.int .u32 (setF (pAt mo.procs i).locals:Int)/\s'=s0) ?_ ?_
 ·obtain ⟨g0,g1⟩:=hg hp0
  refine a0d [0,1,2,3,6,7,11,12,13,14,15,38,45,46,58,59,60,61,68,92,119] 0 (pAt mo.procs i).locals.length (fun j f s'=>f 47=.int .i64 (j:Int)/\f 8=.int .u32 (setF ((pAt mo.procs i).locals.take j):Int)/\s'=s0) (.mk rfl) (by omega) ⟨rfl,rfl,rfl⟩ ?_
  rintro j f s' hj ⟨hE,hE8,rfl⟩
  by_cases cj:j<(pAt mo.procs i).locals.length
  ·have hb:nAt (pAt mo.procs i).locals j<32:=by rw [a1w cj];exact hv32 _ (List.getElem_mem cj)
   have hu:IntKind.u64.wrap (nAt (pAt mo.procs i).locals j:Int)=(nAt (pAt mo.procs i).locals j:Int):=by rw [IntKind.wrap_u64];omega
   have hsh:=b32 hb
   have hlt:=a58 (l:=(pAt mo.procs i).locals.take j) fun v hv=>hv32 v (List.mem_of_mem_take hv)
   have hor:=a4L hlt (a4q hb)
   have hsn:setF ((pAt mo.procs i).locals.take j) ||| 2 ^ nAt (pAt mo.procs i).locals j=setF ((pAt mo.procs i).locals.take (j+1)):=by rw [List.take_succ_eq_append_getElem cj,b97,a1w cj]
   rw [hsn] at hor
   exact zZ (aN hE (aN hE8 (aN cj (aN g0 (aN g1 (aN om (aN hu (aN hsh hor))))))))
  ·obtain rfl:j=(pAt mo.procs i).locals.length:=by omega
   rw [List.take_length] at hE8
   exact zZ (aN hE (aN hE8 cj))
 rintro f s ⟨hE8,rfl⟩
 obtain ⟨g0,g1⟩:=hg hp0
 refine zY (aN g0 (aN g1 om)) ?_
 refine a2f [0,1,2,3,7,8,10,38,45,46,47,48,58,59] (fun f s=>(∃E,Rp (f 11) 8 (S2 (lvE (pAt mo.procs i) k)) E/\Hp s E [(0,[m.dt,.int .i64 m.g,m.dc,m.dv,m.dp,m.ds,.bool m.b]),(1,[.str (pAt mo.procs i).name,.int .i64 ((pAt mo.procs i).copy:Int),(prX ps i).dl,.int .i64 ((pAt mo.procs i).places:Int),(prX ps i).dr,(prX ps i).de,(prX ps i).dn,(prX ps i).dv])])/\mo.quiet i k=(a2w (lvE (pAt mo.procs i) k)||forkE (lvE (pAt mo.procs i) k))) ?_ ?_
 ·refine a0d [0,1,2,3,7,8,10,38,45,46,47,48,58,59] 0 (pAt mo.procs i).edges.length (fun j f s=>f 60=.int .i64 (j:Int)/\(∃E,Rp (f 11) 8 (S2 (lvT (pAt mo.procs i) k j)) E/\Hp s E [(0,[m.dt,.int .i64 m.g,m.dc,m.dv,m.dp,m.ds,.bool m.b]),(1,[.str (pAt mo.procs i).name,.int .i64 ((pAt mo.procs i).copy:Int),(prX ps i).dl,.int .i64 ((pAt mo.procs i).places:Int),(prX ps i).dr,(prX ps i).de,(prX ps i).dn,(prX ps i).dv])])/\∀q,q<j->(eAt (pAt mo.procs i).edges q).frm=k->a1R mo (pAt mo.procs i) (eAt (pAt mo.procs i).edges q)=true) (.mk rfl) (by omega) ⟨rfl,⟨[],.inl ⟨rfl,rfl,rfl⟩,hp0⟩,fun q h=>by omega⟩ ?_
  clear g0 g1
  rintro j f s hj ⟨hE,⟨E,hr,hp⟩,hall⟩
  obtain ⟨g0,g1⟩:=hg hp
  have l0:=M1 g0
  have l1:=M1 g1
  by_cases cj:j<(pAt mo.procs i).edges.length
  ·have hp2:=hp.fr (a4b (z:=.cells [.int .i64 0,.int .i64 0,.int .i64 0,.int .i64 0,.int .i64 0,.int .i64 0,.bool false,.int .i64 0]) (o:=.cells [.int .i64 ((eAt (pAt mo.procs i).edges j).frm:Int),.int .i64 ((eAt (pAt mo.procs i).edges j).to:Int),.int .i64 ((eAt (pAt mo.procs i).edges j).act:Int),.int .i64 (eAt (pAt mo.procs i).edges j).expr,.int .i64 (eAt (pAt mo.procs i).edges j).var,.int .i64 (eAt (pAt mo.procs i).edges j).chan,.bool (eAt (pAt mo.procs i).edges j).keep,.int .i64 ((eAt (pAt mo.procs i).edges j).node:Int)]))
   have hls:=c2z (k:=k) cj
   by_cases cf:(eAt (pAt mo.procs i).edges j).frm=k
   rotate_left
   ·rw [if_neg cf,List.append_nil] at hls
    refine zY (aN hE (aN cj (aN g0 (aN g1 (aN om cf))))) ?_
    rw [hls]
    refine ⟨⟨E,hr,hp2⟩,fun q hq hf=>?_⟩
    by_cases eq:q=j
    ·subst eq;exact absurd hf cf
    ·exact hall q (by omega) hf
   rw [if_pos cf] at hls
   obtain ⟨hb,hok⟩:=b9x hm ho hi cj
   have hmem:=a1N cj
   by_cases hqe:a1R mo (pAt mo.procs i) (eAt (pAt mo.procs i).edges j)=true
   ·have q:=b0T ho hpo hmem hqe
    have hown:=(a7j ho hpo hmem).1 (by
     unfold a1R at hqe
     simp only [Bool.and_eq_true] at hqe
     exact hqe.1.2)
    have hclr:=c1B (a3p hok.r hok.w) (a58 hv32) fun b hb=>a72.2 (hown b hb)
    have hor:=a4L hok.r hok.w
    unfold Ft.row at hb
    rw [q.part,q.s0,q.r0,q.z0] at hb
    have qk:=q.keep
    have z0:((0:Nat):Int)=0:=rfl
    rw [z0] at hb
    have q1:¬ ((eAt (pAt mo.procs i).edges j).to:Int)=1->¬ (eAt (pAt mo.procs i).edges j).to<=k:=fun h=>by have:=q.to;omega
    have hrow:S2 (lvT (pAt mo.procs i) k (j+1))=S2 (lvT (pAt mo.procs i) k j)++[[.int .i64 ((eAt (pAt mo.procs i).edges j).frm:Int),.int .i64 ((eAt (pAt mo.procs i).edges j).to:Int),.int .i64 ((eAt (pAt mo.procs i).edges j).act:Int),.int .i64 (eAt (pAt mo.procs i).edges j).expr,.int .i64 (eAt (pAt mo.procs i).edges j).var,.int .i64 (eAt (pAt mo.procs i).edges j).chan,.bool (eAt (pAt mo.procs i).edges j).keep,.int .i64 ((eAt (pAt mo.procs i).edges j).node:Int)]]:=by rw [hls];simp [S2,Ed.row]
    rw [cf,qk] at hrow
    by_cases ct:((eAt (pAt mo.procs i).edges j).to:Int)=1
    rotate_left
    have q1:=q1 ct
    have hr1:=hrow
    rotate_left
    have hr1:=hrow
    rw [ct] at hr1
    all_goals
     refine zY (aN hE (aN cj (aN g0 (aN g1 (aN om (aN cf (aN hb (aN fm (aN qk (aN hE8 (aN ct (aN q1 (aN hor hclr))))))))))))) ?_
     refine a6m (A:=[]) (B:=[]) hr (by rw [List.nil_append,List.append_nil];exact (hp.fr a4b).fr a4b) rfl (a26 _) (by decide) (by have:=b3e (pAt mo.procs i) k j;simp;omega) ?_
     intro s' h1 h2 h3 h4
     refine zY (aN hE cj) ?_
     rw [hr1]
     refine ⟨⟨_,h1,by simpa using h2⟩,fun q hq hf=>?_⟩
     by_cases eq:q=j
     ·subst eq;exact hqe
     ·exact hall q (by omega) hf
   ·rw [c1S hmem cf (by simpa using hqe)]
    have hor:=a4L hok.r hok.w
    unfold Ft.row at hb
    by_cases qk:(eAt (pAt mo.procs i).edges j).keep=true
    ·exact zZ (aN hE (aN cj (aN g0 (aN g1 (aN om (aN cf (aN hb (aN fm (aN qk hE8)))))))))
    have qk:(eAt (pAt mo.procs i).edges j).keep=false:=by simpa using qk
    by_cases ct:((eAt (pAt mo.procs i).edges j).to:Int)=1
    ·have q0:=ct
     by_cases qp:(O6 mo (pAt mo.procs i) (eAt (pAt mo.procs i).edges j)).part=true
     ·exact zZ (aN hE (aN cj (aN g0 (aN g1 (aN om (aN cf (aN hb (aN fm (aN qk (aN hE8 (aN ct qp)))))))))))
     have qp:(O6 mo (pAt mo.procs i) (eAt (pAt mo.procs i).edges j)).part=false:=by simpa using qp
     by_cases qs:((O6 mo (pAt mo.procs i) (eAt (pAt mo.procs i).edges j)).sends:Int)=0
     rotate_left
     ·exact zZ (aN hE (aN cj (aN g0 (aN g1 (aN om (aN cf (aN hb (aN fm (aN qk (aN hE8 (aN ct (aN qp qs))))))))))))
     by_cases qr:((O6 mo (pAt mo.procs i) (eAt (pAt mo.procs i).edges j)).recvs:Int)=0
     rotate_left
     ·exact zZ (aN hE (aN cj (aN g0 (aN g1 (aN om (aN cf (aN hb (aN fm (aN qk (aN hE8 (aN ct (aN qp (aN qs qr)))))))))))))
     by_cases qz:((O6 mo (pAt mo.procs i) (eAt (pAt mo.procs i).edges j)).sizes:Int)=0
     rotate_left
     ·exact zZ (aN hE (aN cj (aN g0 (aN g1 (aN om (aN cf (aN hb (aN fm (aN qk (aN hE8 (aN ct (aN qp (aN qs (aN qr qz))))))))))))))
     have qo:¬ ∀b,((O6 mo (pAt mo.procs i) (eAt (pAt mo.procs i).edges j)).reads ||| (O6 mo (pAt mo.procs i) (eAt (pAt mo.procs i).edges j)).writes).testBit b=true->b∈(pAt mo.procs i).locals:=fun ho2=>hqe (by
      have h1:=(a7j ho hpo hmem).2 ho2
      unfold a1R
      simp only [qk,qp,h1,Bool.not_false,Bool.and_true,Bool.true_and,Bool.and_eq_true,Bool.or_eq_true,decide_eq_true_eq]
      omega)
     obtain ⟨b,hb2⟩:=Classical.not_forall.1 qo
     obtain ⟨hb3,hb4⟩:=Classical.not_imp.1 hb2
     have hclr:=b1t (a3p hok.r hok.w) (a58 hv32) hb3 (by rw [Bool.eq_false_iff];exact fun h=>hb4 (a72.1 h))
     exact zZ (aN hE (aN cj (aN g0 (aN g1 (aN om (aN cf (aN hb (aN fm (aN qk (aN hE8 (aN ct (aN qp (aN qs (aN qr (aN qz (aN hor hclr))))))))))))))))
    by_cases ct2:(eAt (pAt mo.procs i).edges j).to<=k
    ·exact zZ (aN hE (aN cj (aN g0 (aN g1 (aN om (aN cf (aN hb (aN fm (aN qk (aN hE8 (aN ct ct2)))))))))))
    by_cases qp:(O6 mo (pAt mo.procs i) (eAt (pAt mo.procs i).edges j)).part=true
    ·exact zZ (aN hE (aN cj (aN g0 (aN g1 (aN om (aN cf (aN hb (aN fm (aN qk (aN hE8 (aN ct (aN ct2 qp))))))))))))
    have qp:(O6 mo (pAt mo.procs i) (eAt (pAt mo.procs i).edges j)).part=false:=by simpa using qp
    by_cases qs:((O6 mo (pAt mo.procs i) (eAt (pAt mo.procs i).edges j)).sends:Int)=0
    rotate_left
    ·exact zZ (aN hE (aN cj (aN g0 (aN g1 (aN om (aN cf (aN hb (aN fm (aN qk (aN hE8 (aN ct (aN ct2 (aN qp qs)))))))))))))
    by_cases qr:((O6 mo (pAt mo.procs i) (eAt (pAt mo.procs i).edges j)).recvs:Int)=0
    rotate_left
    ·exact zZ (aN hE (aN cj (aN g0 (aN g1 (aN om (aN cf (aN hb (aN fm (aN qk (aN hE8 (aN ct (aN ct2 (aN qp (aN qs qr))))))))))))))
    by_cases qz:((O6 mo (pAt mo.procs i) (eAt (pAt mo.procs i).edges j)).sizes:Int)=0
    rotate_left
    ·exact zZ (aN hE (aN cj (aN g0 (aN g1 (aN om (aN cf (aN hb (aN fm (aN qk (aN hE8 (aN ct (aN ct2 (aN qp (aN qs (aN qr qz)))))))))))))))
    have qo:¬ ∀b,((O6 mo (pAt mo.procs i) (eAt (pAt mo.procs i).edges j)).reads ||| (O6 mo (pAt mo.procs i) (eAt (pAt mo.procs i).edges j)).writes).testBit b=true->b∈(pAt mo.procs i).locals:=fun ho2=>hqe (by
     have h1:=(a7j ho hpo hmem).2 ho2
     unfold a1R
     simp only [qk,qp,h1,Bool.not_false,Bool.and_true,Bool.true_and,Bool.and_eq_true,Bool.or_eq_true,decide_eq_true_eq]
     omega)
    obtain ⟨b,hb2⟩:=Classical.not_forall.1 qo
    obtain ⟨hb3,hb4⟩:=Classical.not_imp.1 hb2
    have hclr:=b1t (a3p hok.r hok.w) (a58 hv32) hb3 (by rw [Bool.eq_false_iff];exact fun h=>hb4 (a72.1 h))
    exact zZ (aN hE (aN cj (aN g0 (aN g1 (aN om (aN cf (aN hb (aN fm (aN qk (aN hE8 (aN ct (aN ct2 (aN qp (aN qs (aN qr (aN qz (aN hor hclr)))))))))))))))))
  ·obtain rfl:j=(pAt mo.procs i).edges.length:=by omega
   rw [b2Q] at hr
   refine zY (aN hE cj) ?_
   refine ⟨⟨E,hr,hp⟩,b7i hi fun e he hf=>?_⟩
   obtain ⟨q,hq',rfl⟩:=List.getElem_of_mem he
   have:=hall q hq'
   rw [a2U hq'] at this
   exact this hf
 ·rintro f s ⟨⟨E,hr,hp⟩,hqv⟩
  obtain ⟨d',h1,h2⟩:=a7k hr hp (fun e h=>h) (a26 _) (b2u _)
  have hic:∀l,M6 (V.ice s.get 20) (f 11::l)=(M6 (V.ice s.get 20) l).map (d'::·):=fun l=>a9a h1
  have hlen:(lvE (pAt mo.procs i) k).length<=4000:=by rw [<- b2Q];exact Nat.le_trans (b3e _ _ _) hel
  have hpl:=b6A h2 hlen
  have hfk:=c3p h2 hlen
  rw [hqv]
  generalize a2w (lvE (pAt mo.procs i) k)=pl at *
  generalize forkE (lvE (pAt mo.procs i) k)=fk at *
  cases pl
  ·rw [Bool.false_or]
   simp (disch:=(first|exact Rf.mk rfl|with_reducible assumption|omega|((repeat (first|rw [nP]|rw [nS]|rw [M7]))<;>omega)|decide)) only [go_sem,↓reduceIte,hic,Bool.true_or,hpl,hfk]
  ·simp (disch:=(first|exact Rf.mk rfl|with_reducible assumption|omega|((repeat (first|rw [nP]|rw [nS]|rw [M7]))<;>omega)|decide)) only [go_sem,↓reduceIte,hic,Bool.true_or,hpl,hfk]
end Go.Proofs.YtnjlhebkhjcagaaGreat
namespace Go.Proofs.YtnjlhebkhjcagaaGreat
open Go.V
set_option maxRecDepth 100000
set_option maxHeartbeats 4000000
variable {m:MdX} {mo:Mo} {ps:List (Pr×PrD)} {x:StD} {st:Stt}
def isP (i:Nat) (v:Mv):Bool:=decide (v.kind=0)&&decide (v.proc=i)
theorem c27 {l:List Mv} {P:Mv->Bool} {j:Nat} (h:j<l.length):(l.take (j+1)).filter P=(l.take j).filter P++if P (a0v l j)=true then [a0v l j] else []:=by
 rw [List.take_succ_eq_append_getElem h,List.filter_append,a74 h]
 congr 1
 by_cases c:P l[j]=true<;>simp [c]
theorem b8k {l:List Mv} {P:Mv->Bool} {j:Nat}:((l.take j).filter P).length<=l.length:=by
 refine Nat.le_trans (List.length_filter_le _ _) ?_
 rw [List.length_take];omega
end Go.Proofs.YtnjlhebkhjcagaaGreat
namespace Go.Proofs.YtnjlhebkhjcagaaGreat
open Go.V
set_option maxRecDepth 100000
set_option maxHeartbeats 4000000
variable {m:MdX} {mo:Mo} {ps:List (Pr×PrD)} {x:StD} {st:Stt}
theorem b7x {f:Nat} {args:List D} {P:Stt->Prop} (h:EvP vfs f args k4.empty fun r s=>∃cs st,r=.agg cs/\a0t s cs st/\P st):∃x st,a1t vfs f args (.agg [x.da,x.dv,x.dc,.int .i64 st.hold])/\StF x st/\P st:=by
 obtain ⟨d,s',h1,cs,st,rfl,h2,h3⟩:=h
 obtain ⟨x,h4,h5⟩:=h2.frz
 exact ⟨x,st,⟨_,_,h1,h4⟩,h5,h3⟩
theorem b6s (hm:MoF m mo ps) (ho:P7 mo) (hf:a1d mo) {d:D} {raw:List Int} (hd:FI d raw) (hraw:∀n∈raw,a1C n):∃x st,Eqc vfs 13 [.agg [m.dt,.int .i64 m.g,m.dc,m.dv,m.dp,m.ds,.bool m.b],d] (.agg [x.da,x.dv,x.dc,.int .i64 st.hold])/\a2z mo x st/\st.hold=-1:=by
 obtain ⟨x,st,h1,h2,h3,h4⟩:=b7x (c1i hm ho hf hd hraw)
 exact ⟨x,st,Z5 h1,⟨h2,b05 hf h3,h3⟩,h4⟩
theorem b7a {da db:D} {a b:List Nat} (ha:FL 1 da (O5 a)) (hb:FL 1 db (O5 b)) (hl:a.length<=1000000):Eqc vfs 50 [da,db] (.bool (decide (a=b))):=by
 have e:∀l:List Nat,O5 l=(l.map fun (n:Nat)=>(n:Int)).map fun n=>[.int .i64 n]:=fun l=>by simp [O5]
 rw [e] at ha hb
 have h:=a7J (a:=a.map fun (n:Nat)=>(n:Int)) (b:=b.map fun (n:Nat)=>(n:Int)) ha hb (by simpa using hl)
 have e2:decide ((a.map fun (n:Nat)=>(n:Int))=b.map fun (n:Nat)=>(n:Int))=decide (a=b):=by
  congr 1
  apply propext
  constructor
  ·intro h
   exact List.map_inj_right (f:=fun (n:Nat)=>(n:Int)) (fun x y h=>by omega) |>.1 h
  ·intro h;rw [h]
 rwa [e2] at h
theorem b7P {x':StD} {st':Stt} (hx:StF x st) (hx':StF x' st') (h1:st.at'.length<=1000) (h2:st.vars.length<=1000) (h3:∀l∈st.chans,l.length<=1000) (h4:st.chans.length<=1000):Eqc vfs 24 [.agg [x.da,x.dv,x.dc,.int .i64 st.hold],.agg [x'.da,x'.dv,x'.dc,.int .i64 st'.hold]] (.bool (decide (st=st'))):=by
 refine Z5 ?_
 have ox:=hx.ones
 have ox':=hx'.ones
 have p1:=hx.a.pz
 have p2:=hx'.a.pz
 have p3:=a4o hx.v
 have p4:=a4o hx'.v
 have i1:=b7a hx.a hx'.a (by omega)
 have i2:=a7J hx.v hx'.v (by omega)
 refine W3 (vf:=a7u) rfl ?_
 unfold a7u;refine zF ?_
 refine zY (aN ox (aN ox' (aN i1 i2))) ?_
 repeat' (first|(refine a1F (fun c=>?_) (fun c=>?_)<;>(try simp only [Y6,Z1,Y8,Z2] at c)<;>simp (disch:=(first|exact Rf.mk rfl|with_reducible assumption|omega|((repeat (first|rw [nP]|rw [nS]|rw [M7]))<;>omega)|decide)) only [go_sem,↓reduceIte,ox,ox',i1,i2,c])|(refine a1U (fun c=>?_) (fun c=>?_)<;>(try simp only [Y6,Z1,Y8,Z2] at c)<;>simp (disch:=(first|exact Rf.mk rfl|with_reducible assumption|omega|((repeat (first|rw [nP]|rw [nS]|rw [M7]))<;>omega)|decide)) only [go_sem,↓reduceIte,ox,ox',i1,i2,c]))
 ·exact (decide_eq_false fun h=>c (by rw [h])).symm
 ·exact (decide_eq_false fun h=>c (by rw [h])).symm
 ·exact (decide_eq_false fun h=>c (by rw [h])).symm
 ·exact (decide_eq_false fun h=>c (by rw [h])).symm
 rename_i ca cv cl
 refine a0d [0,1,2,3,35] 0 st.chans.length (fun i f s=>f 5=.int .i64 (i:Int)/\s=((k4.empty.push (.cells [x.da,x.dv,x.dc,.int .i64 st'.hold])).push (.cells [x'.da,x'.dv,x'.dc,.int .i64 st'.hold]))/\∀j,j<i->cAt st.chans j=cAt st'.chans j) (.mk rfl) (by omega) ⟨rfl,rfl,fun j h=>by omega⟩ ?_
 rintro i f s hi ⟨hE,rfl,hj⟩
 by_cases ci:i<st.chans.length
 ·have ci':i<st'.chans.length:=by omega
  have q1:=a4o (a3v hx ci)
  have q2:=a4o (a3v hx' ci')
  have i3:=a7J (a3v hx ci) (a3v hx' ci') (by have:=h3 _ (b2Z ci);omega)
  refine zY (aN ox (aN ox' (aN hE (aN ci (aN ci' (aN i3 (aN q1 q2))))))) ?_
  repeat' (first|(refine a1F (fun c=>?_) (fun c=>?_)<;>(try simp only [Y6,Z1,Y8,Z2] at c)<;>simp (disch:=(first|exact Rf.mk rfl|with_reducible assumption|omega|((repeat (first|rw [nP]|rw [nS]|rw [M7]))<;>omega)|decide)) only [go_sem,↓reduceIte,ox,ox',hE,ci,ci',i3,q1,q2,c])|(refine a1U (fun c=>?_) (fun c=>?_)<;>(try simp only [Y6,Z1,Y8,Z2] at c)<;>simp (disch:=(first|exact Rf.mk rfl|with_reducible assumption|omega|((repeat (first|rw [nP]|rw [nS]|rw [M7]))<;>omega)|decide)) only [go_sem,↓reduceIte,ox,ox',hE,ci,ci',i3,q1,q2,c]))
  ·exact (decide_eq_false fun h=>c (by rw [h])).symm
  ·intro j hj'
   by_cases e:j=i
   ·subst e;exact c
   ·exact hj j (by omega)
 ·have e:i=st.chans.length:=by omega
  have hl:¬ i<st.chans.length:=by omega
  refine zY (aN ox (aN ox' (aN hE hl))) ?_
  symm
  rw [decide_eq_true_eq]
  have e1:st.chans=st'.chans:=List.ext_getElem cl fun j h1 h2=>by
   rw [<- a1O h1,<- a1O h2];exact hj j (by omega)
  cases st;cases st';simp_all
end Go.Proofs.YtnjlhebkhjcagaaGreat
namespace Go.Proofs.YtnjlhebkhjcagaaGreat
open Go.V
set_option maxRecDepth 100000
set_option maxHeartbeats 4000000
variable {m:MdX} {mo:Mo} {ps:List (Pr×PrD)} {x:StD} {st:Stt}
theorem c2X {d:D} {t:List Nd} (hT:N2 d t):∃d',Eqc vfs 12 [d] d'/\b2R t d':=by
 have pT:PZ d:=hT.fl.pz
 obtain ⟨b,hb,_⟩:=c2n hT
 have hb:=a2s hb rfl
 cases b
 ·refine ⟨.tup [.agg [.nils,.int .i64 0,.nils,.nils,.nils,.nils,.bool false],.bool false],Z5 ?_,.inl rfl⟩
  refine W3 (vf:=a2L) rfl ?_
  unfold a2L;refine zF ?_
  refine zY (aN pT hb) ?_
  rfl
 obtain ⟨c,hc,hR⟩:=c1m hT
 have hc:=a2s hc rfl
 cases c
 ·refine ⟨.tup [.agg [.nils,.int .i64 0,.nils,.nils,.nils,.nils,.bool false],.bool false],Z5 ?_,.inl rfl⟩
  refine W3 (vf:=a2L) rfl ?_
  unfold a2L;refine zF ?_
  refine zY (aN pT (aN hb hc)) ?_
  rfl
 obtain ⟨r,s1,d',h1,h2,h3⟩:=b4Q hT (hR rfl)
 have hmk:Eqc vfs 34 [d] d':=Z5 ⟨_,_,h1,h2⟩
 refine ⟨d',Z5 ?_,h3⟩
 rcases h3 with rfl | ⟨m,ps,rfl,hR,hS,hY,hm⟩
 ·refine W3 (vf:=a2L) rfl ?_
  unfold a2L;refine zF ?_
  refine zY (aN pT (aN hb (aN hc hmk))) ?_
  rfl
 ·have om:=hm.ones
  have fm:=a3e hm
  unfold N1 at hmk ⊢
  refine W3 (vf:=a2L) rfl ?_
  unfold a2L;refine zF ?_
  refine zY (aN pT (aN hb (aN hc (aN hmk om)))) ?_
  trivial
end Go.Proofs.YtnjlhebkhjcagaaGreat
