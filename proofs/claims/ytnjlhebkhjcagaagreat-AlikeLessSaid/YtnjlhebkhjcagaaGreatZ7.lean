/- Texts one behind the other. -/
import Derived.Test.YtnjlhebkhjcagaaGreatZ6
import Derived.Test.YtnjlhebkhjcagaaGreatZ5
set_option linter.unusedSimpArgs false
set_option linter.unusedVariables false
namespace Go.V
variable {mo:Mo} {M:Stt->List Mv}
def Mo.fst (mo:Mo):Stt:=⟨List.replicate mo.procs.length 0,mo.vals,List.replicate mo.chans.length [],-1⟩
theorem b6t {n i:Nat}:nAt (List.replicate n 0) i=0:=by
 unfold nAt
 by_cases h:i<n
 ·simp [List.getD,h]
 ·simp [List.getD,h]
theorem b5B (ho:N1 mo) (hf:W6 mo):Fit mo mo.fst:=by
 refine a0F.1 ⟨by simp [Mo.fst],by simp [Mo.fst,Mo.vals],by simp [Mo.fst],fun i hi=>?_,fun i hi=>?_,fun i hi=>?_,fun i hi n hn=>?_,by simp only [Mo.fst];omega⟩
 ·have:=(ho.pr _ (V1 hi)).inv.two
  show nAt (List.replicate _ 0) i<_
  rw [b6t];omega
 ·show N4 (zAt mo.vals i) _=zAt mo.vals i
  rw [a7K hi]
  exact (hf.vr _ (a3x hi)).2.2
 ·show ((cAt (List.replicate _ []) i).length:Int)<=_
  rw [a6s]
  have:=(hf.ch _ (a25 hi)).1
  simp only [List.length_nil];omega
 ·have hn:n∈cAt (List.replicate _ []) i:=hn
  rw [a6s] at hn;cases hn
theorem b0n (ho:N1 mo) (hf:W6 mo):a1d mo mo.fst:=⟨b5B ho hf,fun j hj=>by simp only [Mo.fst] at hj;omega⟩
def Rch (mo:Mo) (M:Stt->List Mv) (t:Stt):Prop:=∃n,Z4 mo M n mo.fst t
theorem Z4.snoc:∀ {n:Nat} {s t:Stt} {v:Mv},Z4 mo M n s t->v∈M t->Z4 mo M (n+1) s (mo.doS t v)
 | 0,s,t,v,h,hv=>by cases h;exact ⟨v,hv,rfl⟩
 | n+1,s,t,v,⟨w,hw,h⟩,hv=>⟨w,hw,h.snoc hv⟩
theorem Rch.step {t:Stt} {v:Mv} (h:Rch mo M t) (hv:v∈M t):Rch mo M (mo.doS t v):=by
 obtain ⟨n,h⟩:=h
 exact ⟨n+1,h.snoc hv⟩
theorem Z4.mono {M':Stt->List Mv} (hs:∀s v,v∈M s->v∈M' s):∀ {n:Nat} {s t:Stt},Z4 mo M n s t->Z4 mo M' n s t
 | 0,s,t,h=>h
 | n+1,s,t,⟨w,hw,h⟩=>⟨w,hs _ _ hw,h.mono hs⟩
theorem Rch.mono {M':Stt->List Mv} (hs:∀s v,v∈M s->v∈M' s) {t:Stt} (h:Rch mo M t):Rch mo M' t:=by
 obtain ⟨n,h⟩:=h
 exact ⟨n,h.mono hs⟩
theorem Rch.inv (ho:N1 mo) (hf:W6 mo) (hs:∀s v,v∈M s->v∈mo.moves s) {t:Stt} (h:Rch mo M t):a1d mo t:=by
 obtain ⟨n,h⟩:=h
 exact (h.mono hs).inv ho hf (b0n ho hf)
theorem c4c {L:List Stt} (h0:mo.fst∈L) (hc:∀s∈L,∀v∈M s,mo.doS s v∈L) {t:Stt} (h:Rch mo M t):t∈L:=by
 obtain ⟨n,h⟩:=h
 have key:∀ {n:Nat} {s t:Stt},s∈L->Z4 mo M n s t->t∈L:=by
  intro n
  induction n with
  | zero=>intro s t hs h;cases h;exact hs
  | succ n ih=>intro s t hs h;obtain ⟨v,hv,h⟩:=h;exact ih (hc s hs v hv) h
 exact key h0 h
def a9u (mo:Mo) (M:Stt->List Mv) (a b:Bool):Prop :=
 (a=true/\b=true/\∃t,Rch mo M t/\mo.badS t=true)∨(a=false/\b=true/\∃L:List Stt,L.length<=120/\∀t,Rch mo M t->t∈L/\mo.badS t=false)∨(a=false/\b=false)
abbrev QL:=List (StD×Stt)
def qAt (l:QL) (i:Nat):StD×Stt:=l.getD i ⟨⟨.nils,.nils,.nils⟩,⟨[],[],[],0⟩⟩
theorem a46 {l:QL} {i:Nat} (h:i<l.length):qAt l i=l[i]:=by simp [qAt,List.getD,h]
theorem b4m {l:QL} {q:StD×Stt} (h:q∈l):∃i,i<l.length/\qAt l i=q:=by
 obtain ⟨i,hi,e⟩:=List.getElem_of_mem h
 exact ⟨i,hi,by rw [a46 hi,e]⟩
theorem a8f {l r:QL} {i:Nat} (h:i<l.length):qAt (l++r) i=qAt l i:=by
 rw [a46 h,a46 (by simp;omega),List.getElem_append_left h]
structure a0G (mo:Mo) (M:Stt->List Mv) (L:QL) (i:Nat):Prop where
 fst:mo.fst∈L.map Prod.snd
 rch:∀q∈L,Rch mo M q.2
 f:∀q∈L,StF q.1 q.2
 ok:∀j,j<i->mo.badS (qAt L j).2=false
 cl:∀j,j<i->∀v∈M (qAt L j).2,mo.doS (qAt L j).2 v∈L.map Prod.snd
 nd:(L.map Prod.snd).Nodup
theorem a0G.app {L:QL} {i:Nat} (h:a0G mo M L i) (hi:i<=L.length) {q:StD×Stt} (hr:Rch mo M q.2) (hf:StF q.1 q.2) (hn:q.2∉L.map Prod.snd):a0G mo M (L++[q]) i:=by
 refine ⟨by rw [List.map_append];exact List.mem_append_left _ h.fst,fun p hp=>?_,fun p hp=>?_,fun j hj=>?_,fun j hj v hv=>?_,?_⟩
 ·rcases List.mem_append.1 hp with hp | hp
  ·exact h.rch p hp
  ·rw [List.mem_singleton.1 hp];exact hr
 ·rcases List.mem_append.1 hp with hp | hp
  ·exact h.f p hp
  ·rw [List.mem_singleton.1 hp];exact hf
 ·rw [a8f (by omega)];exact h.ok j hj
 ·rw [a8f (by omega)] at hv ⊢
  rw [List.map_append]
  exact List.mem_append_left _ (h.cl j hj v hv)
 ·rw [List.map_append]
  refine List.nodup_append.2 ⟨h.nd,by simp,fun a ha b hb=>?_⟩
  simp only [List.map_cons,List.map_nil,List.mem_singleton] at hb
  rw [hb]
  exact fun e=>hn (e▸ha)
theorem a0G.next {L:QL} {i:Nat} (h:a0G mo M L i) (hb:mo.badS (qAt L i).2=false) (hc:∀v∈M (qAt L i).2,mo.doS (qAt L i).2 v∈L.map Prod.snd):a0G mo M L (i+1):=by
 refine ⟨h.fst,h.rch,h.f,fun j hj=>?_,fun j hj=>?_,h.nd⟩
 ·by_cases e:j=i
  ·rw [e];exact hb
  ·exact h.ok j (by omega)
 ·by_cases e:j=i
  ·rw [e];exact hc
  ·exact h.cl j (by omega)
theorem a0G.all {L:QL} {i:Nat} (h:a0G mo M L i) (hi:¬ i<L.length):∀t,Rch mo M t->t∈L.map Prod.snd/\mo.badS t=false:=by
 intro t ht
 have hm:=c4c (L:=L.map Prod.snd) h.fst (fun s hs v hv=>by
  obtain ⟨q,hq,rfl⟩:=List.mem_map.1 hs
  obtain ⟨j,hj,rfl⟩:=b4m hq
  exact h.cl j (by omega) v hv) ht
 refine ⟨hm,?_⟩
 obtain ⟨q,hq,rfl⟩:=List.mem_map.1 hm
 obtain ⟨j,hj,rfl⟩:=b4m hq
 exact h.ok j (by omega)
theorem a0G.none {L:QL} {i:Nat} (h:a0G mo M L i) (hi:¬ i<L.length) (hl:L.length<=120):a9u mo M false true :=
 .inr (.inl ⟨rfl,rfl,L.map Prod.snd,by rw [List.length_map];exact hl,h.all hi⟩)
end Go.V
namespace Go.V
variable {mo:Mo} {π τ:Nat->Nat} {s s':Stt}
structure Sym (mo:Mo) (π τ:Nat->Nat):Prop where
 pi:∀v,π (π v)=v
 pg:∀v,v<mo.globals->π v=v
 pl:∀v,v<mo.vars.length->π v<mo.vars.length
 pw:∀v,v<mo.vars.length->(vAt mo.vars (π v)).width=(vAt mo.vars v).width
 tt:∀j,τ (τ j)=j
 tl:∀j,j<mo.procs.length->τ j<mo.procs.length
 nm:∀j,j<mo.procs.length->(pAt mo.procs (τ j)).names=(pAt mo.procs j).names
 vr:∀j,j<mo.procs.length->(pAt mo.procs (τ j)).vars=(pAt mo.procs j).vars.map π
 ed:∀j,j<mo.procs.length->(pAt mo.procs (τ j)).edges=(pAt mo.procs j).edges.map (V2 π)
 rs:∀j,j<mo.procs.length->(pAt mo.procs (τ j)).rest=(pAt mo.procs j).rest
structure SR (mo:Mo) (π τ:Nat->Nat) (s s':Stt):Prop where
 al:s.at'.length=mo.procs.length
 al':s'.at'.length=mo.procs.length
 at':∀j,j<mo.procs.length->nAt s'.at' (τ j)=nAt s.at' j
 vl:s.vars.length=mo.vars.length
 vl':s'.vars.length=mo.vars.length
 vr:∀v,v<mo.vars.length->zAt s'.vars (π v)=zAt s.vars v
 ch:s'.chans=s.chans
 hd:(s.hold<0/\s'.hold=s.hold)∨∃j,j<mo.procs.length/\s.hold=(j:Int)/\s'.hold=((τ j:Nat):Int)
theorem Sym.pe (h:Sym mo π τ) {a b:Nat}:π a=π b↔a=b:=⟨fun e=>by rw [<- h.pi a,e,h.pi],fun e=>by rw [e]⟩
theorem SR.symm (h:Sym mo π τ) (r:SR mo π τ s s'):SR mo π τ s' s:=by
 refine ⟨r.al',r.al,fun j hj=>?_,r.vl',r.vl,fun v hv=>?_,r.ch.symm,?_⟩
 ·rw [<- r.at' (τ j) (h.tl j hj),h.tt]
 ·rw [<- r.vr (π v) (h.pl v hv),h.pi]
 ·rcases r.hd with ⟨a,b⟩ | ⟨j,hj,a,b⟩
  ·exact .inl ⟨by rw [b];exact a,b.symm⟩
  ·exact .inr ⟨τ j,h.tl j hj,b,by rw [h.tt];exact a⟩
def mapM (τ:Nat->Nat) (v:Mv):Mv:=if v.kind=0 then { v with proc:=τ v.proc } else v
theorem a3I {c:Nat} {v:Mv} (h:v∈mo.movesC s c):v.kind=1∨v.kind=2:=by
 unfold Mo.movesC at h
 rw [List.mem_append] at h
 rcases h with h | h
 ·split at h
  ·have:=List.mem_singleton.1 h
   left;rw [this]
  ·cases h
 ·split at h
  ·have:=List.mem_singleton.1 h
   right;rw [this]
  ·cases h
end Go.V
namespace Go.V
variable {mo:Mo}
theorem b6V {l r:List Vr} {i:Nat} (h:i<l.length):vAt (l++r) i=vAt l i:=by
 rw [a2H h,a2H (by simp;omega),List.getElem_append_left h]
theorem b8U {l r:List Vr} {i:Nat} (h:i<r.length):vAt (l++r) (l.length+i)=vAt r i:=by
 rw [a2H h,a2H (by simp;omega),List.getElem_append_right (by omega)]
 congr 1;omega
def a53 (t:List Nd) (k i:Nat):Vr:=a1X ((X6 t (nd t k)).getD i default)
theorem b14 {t:List Nd} {ch:List ByteArray} {k seen:Nat} {a:List Vr×List Pr}:∀c,(V6 t ch k seen c a).1.length=a.1.length+c*N7 t (nd t k)
 | 0=>by simp [V6]
 | c+1=>by
   simp only [V6,List.length_append,List.length_map,a2Y,b14 c]
   rw [Nat.succ_mul];omega
theorem b4g {t:List Nd} {ch:List ByteArray} {k seen:Nat} {a:List Vr×List Pr}:∀c,∀j,j<c->∀i,i<N7 t (nd t k)->vAt (V6 t ch k seen c a).1 (a.1.length+j*N7 t (nd t k)+i)=a53 t k i
 | 0,j,h,_,_=>by omega
 | c+1,j,h,i,hi=>by
   have hl:=b14 (t:=t) (ch:=ch) (k:=k) (seen:=seen) (a:=a) c
   simp only [V6]
   by_cases e:j=c
   ·subst e
    rw [<- hl,b8U (by simpa using hi),a2H (by simpa using hi)]
    simp [a53,List.getD,hi]
   ·have h2:(j+1)*N7 t (nd t k)<=c*N7 t (nd t k):=Nat.mul_le_mul_right _ (by omega)
    rw [Nat.succ_mul] at h2
    rw [b6V (by omega)]
    exact b4g c j (by omega) i hi
theorem b7i (t:List Nd):∀n,n<=(nd t 0).ks.length->∀o∈(a0s t ((nd t 0).ks.take n)).l,o.nv+N7 t (nd t o.k)<=(a0r t (chs t) (gat t).vs ((nd t 0).ks.take n)).vs.length/\∀i,i<N7 t (nd t o.k)->vAt (a0r t (chs t) (gat t).vs ((nd t 0).ks.take n)).vs (o.nv+i)=a53 t o.k i
 | 0,_,o,ho=>by simp [a0s] at ho
 | n+1,hn,o,ho=>by
   have ih:=b7i t n (by omega)
   have hg:=a7W t n (by omega)
   have e:(nd t 0).ks.take (n+1)=(nd t 0).ks.take n++[(nd t 0).ks[n]]:=List.take_succ_eq_append_getElem (by omega)
   rw [e,a9z] at ho
   rw [e,a9j]
   generalize (nd t 0).ks[n]=k at *
   generalize a0r t (chs t) (gat t).vs ((nd t 0).ks.take n)=b at *
   generalize a0s t ((nd t 0).ks.take n)=a at *
   have hnv:=hg.nv
   obtain ⟨m,hm⟩:=b3r t (chs t) b k
   have old:o∈a.l->o.nv+N7 t (nd t o.k)<=(a08 t (chs t) b k).vs.length/\∀i,i<N7 t (nd t o.k)->vAt (a08 t (chs t) b k).vs (o.nv+i)=a53 t o.k i:=fun h=>by
    obtain ⟨h1,h2⟩:=ih o h
    rw [hm]
    refine ⟨by rw [List.length_append];omega,fun i hi=>?_⟩
    rw [b6V (by omega)]
    exact h2 i hi
   unfold a2o at ho
   by_cases c3:(nd t k).kind=3
   ·rw [if_pos c3] at ho
    rcases List.mem_append.1 ho with h | h
    ·exact old h
    ·unfold a2T at h
     obtain ⟨c,hc,rfl⟩:=List.mem_map.1 h
     rw [List.mem_range] at hc
     unfold a08
     rw [if_pos c3]
     simp only
     have hl:=b14 (t:=t) (ch:=chs t) (k:=k) (seen:=b.seen) (a:=(b.vs,b.ps)) ((nd t k).num 0).toNat
     have h2:(c+1)*N7 t (nd t k)<=((nd t k).num 0).toNat*N7 t (nd t k):=Nat.mul_le_mul_right _ (by omega)
     rw [Nat.succ_mul] at h2
     simp only at hl
     rw [<- hnv]
     refine ⟨by omega,fun i hi=>?_⟩
     exact b4g (a:=(b.vs,b.ps)) _ c hc i hi
   ·rw [if_neg c3] at ho
    by_cases c2:(nd t k).kind=2
    ·rw [if_pos c2] at ho;exact old ho
    ·rw [if_neg c2] at ho;exact old ho
theorem b6o {t:List Nd} {o:Org} (ho:o∈U4 t):∀i,i<N7 t (nd t o.k)->vAt (gbt t).vs (o.nv+i)=a53 t o.k i:=by
 have h:=b7i t (nd t 0).ks.length (Nat.le_refl _) o
 rw [List.take_length] at h
 exact (h ho).2
structure Cop (mo:Mo) (q n lo:Nat):Prop where
 lt:q+1<mo.procs.length
 gl:mo.globals<=lo
 hi:lo+n+n<=mo.vars.length
 l0:(pAt mo.procs q).locals=(List.range n).map (lo+·)
 l1:(pAt mo.procs (q+1)).locals=(List.range n).map (lo+n+·)
 vr:∀v∈(pAt mo.procs q).vars,v<mo.globals∨v∈(pAt mo.procs q).locals
 re:pAt mo.procs (q+1)=ren (X4 mo.globals n) (pAt mo.procs (q+1)).locals (pAt mo.procs (q+1)).copy (pAt mo.procs q)
 w:∀i,i<n->vAt mo.vars (lo+n+i)=vAt mo.vars (lo+i)
theorem c0h {t:List Nd} (h:O2 t) (hS:a1k t) {p:Nat} (hp:p<(U2 t).procs.length) (hc:0<(pAt (U2 t).procs p).copy):∃q n lo,p=q+1/\Cop (U2 t) q n lo:=by
 have e:(U2 t).procs=(U4 t).map (a0I t):=(a4F t).1
 have hpl:p<(U4 t).length:=by rw [e,List.length_map] at hp;exact hp
 have ep:∀i (hi:i<(U4 t).length),pAt (U2 t).procs i=a0I t (U4 t)[i]:=fun i hi=>by
  rw [a2M (by rw [e,List.length_map];exact hi)];simp [e]
 have hom:=List.getElem_mem hpl
 have ec:=c37 t _ h hS hom
 rw [ep p hpl,ec] at hc
 obtain ⟨q,hq,rfl,h1,h2,h3,h4⟩:=b79 t p hpl hc
 have hoq:=List.getElem_mem hq
 have g0:=(a3V h hS hoq).2
 have g1:=(a3V h hS hom).2
 have ok0:=a3b hoq
 have ok1:=a3b hom
 have l0:(a0I t (U4 t)[q]).locals=(List.range (N7 t (nd t (U4 t)[q].k))).map ((U4 t)[q].nv+·):=by rw [g0.locals];rfl
 have l1:(a0I t (U4 t)[q+1]).locals=(List.range (N7 t (nd t (U4 t)[q+1].k))).map ((U4 t)[q+1].nv+·):=by rw [g1.locals];rfl
 have v0:=b6o hoq
 have v1:=b6o hom
 have hr:=c1Z h hS hoq (o':=(U4 t)[q+1]) h1.symm h2.symm (by omega)
 have hlo:=ok0.lo
 have hhi:=ok1.hi
 have hnv:(U4 t)[q+1].nv=(U4 t)[q].nv+N7 t (nd t (U4 t)[q].k):=by rw [h1];omega
 refine ⟨q,N7 t (nd t (U4 t)[q].k),(U4 t)[q].nv,rfl,by omega,hlo,?_,?_,?_,?_,?_,?_⟩
 ·rw [<- h1,hnv] at hhi;exact hhi
 ·rw [ep q hq];exact l0
 ·rw [ep _ hpl,l1,hnv,h1]
 ·rw [ep q hq]
  obtain ⟨vs,w1,w2,w3,w4⟩:=a5O hoq
  rw [g0.vars,g0.locals]
  intro v hv
  simp only [pr1,List.mem_append,List.mem_range,List.mem_map] at hv ⊢
  rcases hv with hv | hv
  ·exact .inl (by show v<(gat t).vs.length;omega)
  ·exact .inr hv
 ·rw [ep _ hpl,ep q hq]
  have hd:(U4 t)[q+1].nv-(U4 t)[q].nv=N7 t (nd t (U4 t)[q].k):=by omega
  rw [hd] at hr
  rw [g1.locals,g1.copy]
  exact hr
 ·intro i hi
  have a:=v0 i hi
  have b:=v1 i (by rw [<- h1];exact hi)
  rw [hnv,<- h1] at b
  show vAt (gbt t).vs _=vAt (gbt t).vs _
  rw [a,b]
end Go.V
namespace Go.V
variable {mo:Mo} {s:Stt}
def a1w (p:Pr):Bool:=p.edges.all fun e=>decide (e.to≠0)
def Mo.barred (mo:Mo) (st:Stt) (i:Nat):Bool:=decide (0<(pAt mo.procs i).copy)&&a1w (pAt mo.procs i)&&decide (nAt st.at' i=0)&&decide (nAt st.at' (i-1)=0)
def Mo.freeM (mo:Mo) (st:Stt) (v:Mv):Bool:=!(decide (v.kind=0)&&mo.barred st v.proc)
def Mo.someM (mo:Mo) (am:Bool) (st:Stt):List Mv:=(if am then mo.ample st else mo.moves st).filter (mo.freeM st)
def a11 (mo:Mo) (s:Stt):Prop:=∀j,j<mo.procs.length->a1w (pAt mo.procs j)=true->nAt s.at' j=0->s.hold≠(j:Int)/\∀v∈(pAt mo.procs j).locals,zAt s.vars v=(vAt mo.vars v).value
structure MoC (mo:Mo):Prop where
 tw:∀p,p<mo.procs.length->0<(pAt mo.procs p).copy->∃q n lo,p=q+1/\Cop mo q n lo
theorem b1O {t:List Nd} (h:O2 t) (hS:a1k t):MoC (U2 t):=⟨fun _ hp hc=>c0h h hS hp hc⟩
theorem c4W {l:List Int} {i j:Nat} {x:Int} (h:i≠j):zAt (l.set i x) j=zAt l j:=by
 unfold zAt
 simp [List.getD,List.getElem?_set,h]
theorem b2Z {i:Nat} {p:Pr} {e:Ed}:(mo.edgeS s i p e).at'=s.at'.set i e.to:=by
 unfold Mo.edgeS Mo.actS
 repeat' split
 all_goals rfl
theorem c4r {i:Nat} {p:Pr} (hp:a0l mo p) {e:Ed} (he:e∈p.edges) {w:Nat} (hw:w∉p.vars):zAt (mo.edgeS s i p e).vars w=zAt s.vars w:=by
 have key:∀a,e.act=1∨e.act=3->zAt (s.vars.set e.var.toNat a) w=zAt s.vars w:=fun a ha=>by
  obtain ⟨b,hb,hv⟩:=(hp.inv.ed e he).v1 ha
  rw [hv,Int.toNat_natCast]
  exact c4W fun c=>hw (c▸hb)
 unfold Mo.edgeS Mo.actS
 split
 ·rename_i c;exact key _ (.inl c)
 split
 ·rfl
 split
 ·rename_i c;exact key _ (.inr c)
 ·rfl
theorem a11.step (ho:N1 mo) (hq:MoQ mo) (hI:Fit mo s) (hF:a11 mo s) {v:Mv} (hv:v∈mo.moves s):a11 mo (mo.doS s v):=by
 rcases a1L.1 hv with ⟨k0,_,hp,he,_,_⟩ | ⟨_,_,c⟩
 ·have hd:mo.doS s v=mo.doE s v.proc (pAt mo.procs v.proc) (eAt (pAt mo.procs v.proc).edges v.edge):=by
   unfold Mo.doS;rw [if_neg (by omega),if_neg (by omega)]
  have hem:=a1A he
  rw [hd]
  generalize eAt (pAt mo.procs v.proc).edges v.edge=e at *
  have hpo:=ho.pr _ (V1 hp)
  intro j hj hb ha
  have ha:nAt (mo.edgeS s v.proc (pAt mo.procs v.proc) e).at' j=0:=ha
  rw [b2Z] at ha
  by_cases c:j=v.proc
  ·exfalso
   subst c
   have hl:=hI.at'
   rw [a4j (by omega),if_pos rfl] at ha
   unfold a1w at hb
   have:=List.all_eq_true.1 hb e hem
   simp [ha] at this
  ·have hl:=hI.at'
   rw [a4j (by omega),if_neg c] at ha
   obtain ⟨h1,h2⟩:=hF j hj hb ha
   refine ⟨?_,fun w hw=>?_⟩
   ·unfold Mo.doE
    simp only
    split<;>omega
   ·have:zAt (mo.edgeS s v.proc (pAt mo.procs v.proc) e).vars w=zAt s.vars w:=c4r hpo hem (hq.own j v.proc hj hp c w hw)
    exact this.trans (h2 w hw)
 ·have hk:=a3I c
  intro j hj hb ha
  have e1:(mo.doS s v).at'=s.at'/\(mo.doS s v).vars=s.vars/\(mo.doS s v).hold=s.hold:=by
   unfold Mo.doS
   split
   ·exact ⟨rfl,rfl,rfl⟩
   ·rw [if_pos (by omega)];exact ⟨rfl,rfl,rfl⟩
  rw [e1.1] at ha
  rw [e1.2.1,e1.2.2]
  exact hF j hj hb ha
theorem b3D {q n lo:Nat} (h:Cop mo q n lo):a1w (pAt mo.procs (q+1))=a1w (pAt mo.procs q):=by
 rw [h.re]
 unfold a1w
 show ((pAt mo.procs q).edges.map _).all _=_
 rw [List.all_map]
 rfl
theorem a24 {am:Bool} {v:Mv} (h:v∈mo.someM am s):v∈mo.moves s:=by
 unfold Mo.someM at h
 have:=(List.mem_filter.1 h).1
 cases am
 ·exact this
 ·exact a36 this
end Go.V
namespace Go.V
theorem b84 {v w:Mv}:a0S [.i,.i,.i,.i] [.int .i64 (v.kind:Int),.int .i64 (v.proc:Int),.int .i64 (v.edge:Int),.int .i64 (v.chan:Int)] [.int .i64 (w.kind:Int),.int .i64 (w.proc:Int),.int .i64 (w.edge:Int),.int .i64 (w.chan:Int)]=some (decide (v=w)):=by
 have e:∀a b:Nat,((a:Int)==(b:Int))=decide (a=b):=fun a b=>by
  by_cases h:a=b
  ·subst h;simp
  ·rw [decide_eq_false h];simp;omega
 cases v;cases w
 simp [a0S,a39,e,Bool.decide_and]
attribute [go_sem] b84
end Go.V
namespace Go.V
variable {mo:Mo} {s:Stt}
def a6v (mo:Mo) (s:Stt):Prop:=∀p,p<mo.procs.length->0<(pAt mo.procs p).copy->a1w (pAt mo.procs p)=true->nAt s.at' (p-1)=0->nAt s.at' p=0
theorem a6v.step (hC:MoC mo) (hI:Fit mo s) (hO:a6v mo s) {am:Bool} {v:Mv} (hv:v∈mo.someM am s):a6v mo (mo.doS s v):=by
 have hm:=a24 hv
 have hfree:mo.freeM s v=true:=by unfold Mo.someM at hv;exact (List.mem_filter.1 hv).2
 rcases a1L.1 hm with ⟨k0,_,hp,he,_,_⟩ | ⟨_,_,c⟩
 ·have hd:mo.doS s v=mo.doE s v.proc (pAt mo.procs v.proc) (eAt (pAt mo.procs v.proc).edges v.edge):=by
   unfold Mo.doS;rw [if_neg (by omega),if_neg (by omega)]
  have hem:=a1A he
  have hl:=hI.at'
  have hat:(mo.doS s v).at'=s.at'.set v.proc (eAt (pAt mo.procs v.proc).edges v.edge).to:=by rw [hd];exact b2Z
  intro p hpl hc hb h0
  obtain ⟨q,n,lo,rfl,hcop⟩:=hC.tw p hpl hc
  rw [hat,a4j (by omega)] at h0 ⊢
  simp only [Nat.add_sub_cancel] at h0
  have hb0:=hb
  rw [b3D hcop] at hb0
  by_cases c:q=v.proc
  ·exfalso
   rw [if_pos c] at h0
   rw [c] at hb0
   unfold a1w at hb0
   have:=List.all_eq_true.1 hb0 _ hem
   simp [h0] at this
  ·rw [if_neg c] at h0
   have h1:=hO (q+1) hpl hc hb (by simpa using h0)
   by_cases c1:q+1=v.proc
   ·exfalso
    unfold Mo.freeM at hfree
    have:mo.barred s v.proc=true:=by
     rw [<- c1]
     unfold Mo.barred
     simp [hc,hb,h1,h0]
    rw [this,k0] at hfree
    simp at hfree
   ·rw [if_neg c1];exact h1
 ·have hk:=a3I c
  have e1:(mo.doS s v).at'=s.at':=by
   unfold Mo.doS
   split
   ·rfl
   ·rw [if_pos (by omega)]
  intro p hpl hc hb h0
  rw [e1] at h0 ⊢
  exact hO p hpl hc hb h0
structure a3E (mo:Mo) (s:Stt):Prop where
 inv:a1d mo s
 un:a11 mo s
 ord:a6v mo s
theorem a3E.step (ho:N1 mo) (hf:W6 mo) (hq:MoQ mo) (hC:MoC mo) (h:a3E mo s) {am:Bool} {v:Mv} (hv:v∈mo.someM am s):a3E mo (mo.doS s v) :=
 ⟨h.inv.step ho hf (a24 hv),h.un.step ho hq h.inv.fit (a24 hv),h.ord.step hC h.inv.fit hv⟩
end Go.V
namespace Go.Proofs.YtnjlhebkhjcagaaGreat
open Go.V
set_option maxRecDepth 100000
set_option maxHeartbeats 4000000
variable {m:MdX} {mo:Mo} {ps:List (Pr×PrD)} {x:StD} {st:Stt}
theorem b3x {p:Pr}:a1w p=true↔∀j,j<p.edges.length->(eAt p.edges j).to≠0:=by
 unfold a1w
 rw [List.all_eq_true]
 constructor
 ·intro h j hj
  simpa using h _ (a1A hj)
 ·intro h e he
  obtain ⟨j,hj,rfl⟩:=List.getElem_of_mem he
  have:=h j hj
  rw [a16 hj] at this
  simpa using this
theorem c14 {p:Pr} {j:Nat} (hj:j<p.edges.length) (h:(eAt p.edges j).to=0):a1w p=false:=by
 cases hb:a1w p
 ·rfl
 ·exact absurd h (b3x.1 hb j hj)
theorem c74 (hm:MoF m mo ps) (ho:N1 mo) (hC:MoC mo) (hx:X2 mo x st) {p:Nat} (hp:p<mo.procs.length):Eqc vfs 52 [.agg [m.dt,.int .i64 m.g,m.dc,m.dv,m.dp,m.ds,.bool m.b],.agg [x.da,x.dv,x.dc,.int .i64 st.hold],.int .i64 (p:Int)] (.bool (mo.barred st p)):=by
 have om:=hm.ones
 have ox:=hx.f.ones
 have hxa:=hx.f.a
 have hnp:=ho.np
 have hal:=hx.fit.at'
 have hel:=(ho.pr _ (V1 hp)).el
 have hp1:p<st.at'.length:=by omega
 have hp2:p-1<st.at'.length:=by omega
 refine S4 ?_
 by_cases c1:(pAt mo.procs p).copy=0
 ·have e:mo.barred st p=false:=by unfold Mo.barred;rw [decide_eq_false (by omega)];rfl
  rw [e]
  refine O7 (vf:=a3t) rfl ?_
  unfold a3t;refine zF ?_
  exact zZ (aN om (aN ox (aN hp c1)))
 have c1':¬ ((pAt mo.procs p).copy:Int)<=0:=by omega
 obtain ⟨q,n,lo,hpq,_⟩:=hC.tw p hp (by omega)
 have c2:¬ (p:Int)=0:=by omega
 have e2:IntKind.i64.wrap ((p:Int)-1)=((p-1:Nat):Int):=by rw [P0 (by omega) (by omega)];omega
 by_cases c3:nAt st.at' p=0
 rotate_left
 ·have c3':¬ (nAt st.at' p:Int)=0:=by omega
  have e:mo.barred st p=false:=by unfold Mo.barred;rw [decide_eq_false c3];simp
  rw [e]
  refine O7 (vf:=a3t) rfl ?_
  unfold a3t;refine zF ?_
  exact zZ (aN om (aN ox (aN hp (aN c1' (aN c2 (aN hp1 c3'))))))
 by_cases c4:nAt st.at' (p-1)=0
 rotate_left
 ·have c4':¬ (nAt st.at' (p-1):Int)=0:=by omega
  have e:mo.barred st p=false:=by unfold Mo.barred;rw [decide_eq_false c4];simp
  rw [e]
  refine O7 (vf:=a3t) rfl ?_
  unfold a3t;refine zF ?_
  exact zZ (aN om (aN ox (aN hp (aN c1' (aN c2 (aN hp1 (aN hp2 (aN c3 (aN e2 c4')))))))))
 have e:mo.barred st p=a1w (pAt mo.procs p):=by
  unfold Mo.barred
  rw [decide_eq_true c3,decide_eq_true c4,decide_eq_true (by omega)]
  simp
 rw [e]
 refine O7 (vf:=a3t) rfl ?_
 unfold a3t;refine zF ?_
 refine zY (aN om (aN ox (aN hp (aN c1' (aN c2 (aN hp1 (aN hp2 (aN c3 (aN e2 c4))))))))) ?_
 refine S2 [0,1,2,3,4,7,38,40,41] 0 (pAt mo.procs p).edges.length (fun j f s=>f 42=.int .i64 (j:Int)/\∀i,i<j->(eAt (pAt mo.procs p).edges i).to≠0) (.mk rfl) (by omega) ⟨rfl,fun i h=>by omega⟩ ?_
 rintro j f s hj ⟨hE,hall⟩
 by_cases cj:j<(pAt mo.procs p).edges.length
 rotate_left
 ·have:=b3x.2 fun i hi=>hall i (by omega)
  rw [this]
  exact zZ (aN hE cj)
 by_cases c5:(eAt (pAt mo.procs p).edges j).to=0
 ·rw [c14 cj c5]
  exact zZ (aN hE (aN cj c5))
 ·have c5':¬ ((eAt (pAt mo.procs p).edges j).to:Int)=0:=by omega
  refine zY (aN hE (aN cj c5')) ?_
  intro i hi
  by_cases eq:i=j
  ·subst eq;exact c5
  ·exact hall i (by omega)
theorem c7I (hm:MoF m mo ps) (ho:N1 mo) (hf:W6 mo) (hx:X2 mo x st):Eqc vfs 51 [.agg [m.dt,.int .i64 m.g,m.dc,m.dv,m.dp,m.ds,.bool m.b],.agg [x.da,x.dv,x.dc,.int .i64 st.hold]] (.bool true):=by
 have h:=a90 hm ho hf (b1I ho hx)
 rw [decide_eq_true hx.fit.hold] at h
 exact h
theorem c4N {d d':D} {l r:List Mv} (hd:FL 4 d (V0 l)) (hd':FL 4 d' (V0 r)) (hl:l.length<=1000000):Eqc vfs 15 [d,d'] (.bool (decide (l=r))):=by
 refine S4 ?_
 by_cases c:l.length=r.length
 rotate_left
 ·have c':¬ (l.length:Int)=(r.length:Int):=by omega
  rw [decide_eq_false fun e=>c (by rw [e])]
  refine O7 (vf:=a5M) rfl ?_
  unfold a5M;refine zF ?_
  exact zZ (aN hd (aN hd' c'))
 have c':(l.length:Int)=(r.length:Int):=by omega
 refine O7 (vf:=a5M) rfl ?_
 unfold a5M;refine zF ?_
 refine zY (aN hd (aN hd' c')) ?_
 refine S2 [0,1,10] 0 l.length (fun i f s=>f 5=.int .i64 (i:Int)/\s=k4.empty/\∀j,j<i->O4 l j=O4 r j) (.mk rfl) (by omega) ⟨rfl,rfl,fun j h=>by omega⟩ ?_
 rintro i f s hi ⟨hE,rfl,hj⟩
 by_cases ci:i<l.length
 rotate_left
 ·have:l=r:=List.ext_getElem c fun j h1 h2=>by
   rw [<- a3z h1,<- a3z h2];exact hj j (by omega)
  rw [decide_eq_true this]
  have ci2:¬ i<r.length:=by omega
  exact zZ (aN hE (aN ci (aN ci2 (aN hd (aN hd' c')))))
 have ci':i<r.length:=by omega
 by_cases ce:O4 l i=O4 r i
 ·refine zY (aN hE (aN ci (aN ci' (aN hd (aN hd' (aN ce c')))))) ?_
  intro j hj'
  by_cases e:j=i
  ·subst e;exact ce
  ·exact hj j (by omega)
 ·have:l≠r:=fun e=>ce (by rw [e])
  rw [decide_eq_false this]
  exact zZ (aN hE (aN ci (aN ci' (aN hd (aN hd' (aN ce c'))))))
end Go.Proofs.YtnjlhebkhjcagaaGreat
namespace Go.Proofs.YtnjlhebkhjcagaaGreat
open Go.V
set_option maxRecDepth 100000
set_option maxHeartbeats 4000000
variable {m:MdX} {mo:Mo} {ps:List (Pr×PrD)} {x:StD} {st:Stt}
theorem b36 (n:Nat):a1G [.int .i64 0] n=O6 (List.replicate n 0):=by
 induction n with
 | zero=>rfl
 | succ n ih=>simp only [a1G,ih,List.replicate_succ,O6,List.map_cons];rfl
def a3L (mo:Mo) (am al:Bool) (st:Stt):List Mv:=if al then mo.someM am st else if am then mo.ample st else mo.moves st
theorem b3m (ho:N1 mo):(mo.ample st).length<=1000000:=by
 have:=a3X ho (st:=st)
 refine Nat.le_trans (m:=(mo.moves st).length) ?_ (by omega)
 rcases b44 mo st with e | ⟨i,_,_,_,e⟩
 ·rw [e];exact Nat.le_refl _
 ·rw [e];exact List.length_filter_le _ _
theorem c7R (hm:MoF m mo ps) (ho:N1 mo) (hf:W6 mo) (hq:MoQ mo) (hC:MoC mo) (hx:X2 mo x st) (am al:Bool):a4m vfs 27 [.agg [m.dt,.int .i64 m.g,m.dc,m.dv,m.dp,m.ds,.bool m.b],.agg [x.da,x.dv,x.dc,.int .i64 st.hold],.bool am,.bool al] fun d=>FL 4 d (V0 (a3L mo am al st)):=by
 have om:=hm.ones
 have ox:=hx.f.ones
 have fm:=a1b hm
 have fx:=a0p hx.f
 have hnp:=ho.np
 have hfb:=c7I hm ho hf hx
 obtain ⟨da,ha1,ha2⟩:=b8K hm ho hf hq hx
 obtain ⟨dm,hm1,hm2⟩:=b28 hm ho hf hx
 have pa:=FL.pz ha2
 have pm:=FL.pz hm2
 have la:=b3m ho (st:=st)
 have lm:=a3X ho (st:=st)
 cases al
 ·cases am
  ·refine a2U (vf:=a3v) rfl ?_
   unfold a3v;refine zF ?_
   refine zY (aN om (aN ox (aN fm (aN fx (aN hfb (aN hm1 pm)))))) ?_
   exact ⟨_,rfl,hm2⟩
  ·refine a2U (vf:=a3v) rfl ?_
   unfold a3v;refine zF ?_
   refine zY (aN om (aN ox (aN fm (aN fx (aN hfb (aN ha1 pa)))))) ?_
   exact ⟨_,rfl,ha2⟩
 have hp0:Hp ((k4.empty.push (.cells [m.dt,.int .i64 m.g,m.dc,m.dv,m.dp,m.ds,.bool m.b])).push (.cells [x.da,x.dv,x.dc,.int .i64 st.hold])) [] [(0,[m.dt,.int .i64 m.g,m.dc,m.dv,m.dp,m.ds,.bool m.b]),(1,[x.da,x.dv,x.dc,.int .i64 st.hold])]:=⟨List.nodup_nil,by simp,by simp [Has],by
  intro y hy
  simp only [List.mem_cons,List.not_mem_nil,or_false] at hy
  rcases hy with rfl | rfl
  ·exact zZ0
  ·simp (disch:=(first|exact Rf.mk rfl|with_reducible assumption|omega|((repeat (first|rw [nP]|rw [nS]|rw [M3]))<;>omega)|decide)) only [go_sem,↓reduceIte]⟩
 have hbr:∀p,p<mo.procs.length->Eqc vfs 52 [.agg [m.dt,.int .i64 m.g,m.dc,m.dv,m.dp,m.ds,.bool m.b],.agg [x.da,x.dv,x.dc,.int .i64 st.hold],.int .i64 (p:Int)] (.bool (mo.barred st p)):=fun p hp=>c74 hm ho hC hx hp
 have hms:8*(mo.procs.length:Int)<=2 ^ 47/\(mo.procs.length:Int)<2 ^ 62:=⟨by omega,by omega⟩
 cases am
 ·refine a2U (vf:=a3v) rfl ?_
  unfold a3v;refine zF ?_
  refine zY (aN om (aN ox (aN fm (aN fx (aN hfb (aN hm1 hms)))))) ?_
  have hp1:Hp (((k4.empty.push (.cells [m.dt,.int .i64 m.g,m.dc,m.dv,m.dp,m.ds,.bool m.b])).push (.cells [x.da,x.dv,x.dc,.int .i64 st.hold])).push (.cells (a1G [.int .i64 0] mo.procs.length))) [(2,O6 (List.replicate mo.procs.length 0))] [(0,[m.dt,.int .i64 m.g,m.dc,m.dv,m.dp,m.ds,.bool m.b]),(1,[x.da,x.dv,x.dc,.int .i64 st.hold])]:=by
   rw [b36]
   exact hp0.pushW _
  generalize ((k4.empty.push (.cells [m.dt,.int .i64 m.g,m.dc,m.dv,m.dp,m.ds,.bool m.b])).push (.cells [x.da,x.dv,x.dc,.int .i64 st.hold])).push (.cells (a1G [.int .i64 0] mo.procs.length))=s0 at *
  clear hp0
  refine a1c [0,1,2,3,4,5,8,9,10,12,14,18,19,27,35,47,48,49,50,63] (fun f s=>∃h,h.length=mo.procs.length/\(∀j,j<mo.procs.length->zAt h j=if mo.barred st j=true then 1 else 0)/\Hp s [(2,O6 h)] [(0,[m.dt,.int .i64 m.g,m.dc,m.dv,m.dp,m.ds,.bool m.b]),(1,[x.da,x.dv,x.dc,.int .i64 st.hold])]) ?_ ?_
  ·refine S2 [0,1,2,3,4,5,8,9,10,12,14,18,19,27,35,47,48,49,50,63] 0 mo.procs.length (fun i f s=>f 36=.int .i64 (i:Int)/\∃h,h.length=mo.procs.length/\(∀j,j<mo.procs.length->zAt h j=if j<i/\mo.barred st j=true then 1 else 0)/\Hp s [(2,O6 h)] [(0,[m.dt,.int .i64 m.g,m.dc,m.dv,m.dp,m.ds,.bool m.b]),(1,[x.da,x.dv,x.dc,.int .i64 st.hold])]) (.mk rfl) (by omega) ⟨rfl,List.replicate mo.procs.length 0,by simp,fun j hj=>by rw [if_neg (by omega)];simp [zAt,hj],hp1⟩ ?_
   rintro i f s hi ⟨hE,h,hl,hz,hp⟩
   have g0:s.get 0=some (.cells [m.dt,.int .i64 m.g,m.dc,m.dv,m.dp,m.ds,.bool m.b]):=hp.r (0,_) (by simp)
   have g1:=hp.rt.rh
   have g2:=hp.hd
   by_cases ci:i<mo.procs.length
   rotate_left
   ·refine zY (aN hE ci) ?_
    exact ⟨h,hl,fun j hj=>by rw [hz j hj];simp [show j<i by omega],hp⟩
   have ci':i<h.length:=by omega
   have hb:=hbr i ci
   cases hbi:mo.barred st i
   ·rw [hbi] at hb
    refine zY (aN hE (aN ci (aN g0 (aN g1 (aN om (aN ox (aN fm (aN fx hb)))))))) ?_
    refine ⟨h,hl,fun j hj=>?_,hp⟩
    rw [hz j hj]
    by_cases e:j=i
    ·subst e;simp [hbi]
    ·simp [show (j<i+1)=(j<i) by apply propext;omega]
   ·rw [hbi] at hb
    refine zY (aN hE (aN ci (aN g0 (aN g1 (aN om (aN ox (aN fm (aN fx (aN hb (aN g2 ci')))))))))) ?_
    refine ⟨h.set i 1,by simp [hl],fun j hj=>?_,Hp.set (A:=[]) hp _⟩
    rw [a5k ci',hz j hj]
    by_cases e:j=i
    ·subst e;simp [hbi]
    ·rw [if_neg e];simp [show (j<i+1)=(j<i) by apply propext;omega]
  rintro f s ⟨h,hl,hz,hp⟩
  refine zY hm2 ?_
  refine S2 [0,1,2,3,4,5,8,9,10,11,18,19,27,35,36,37,42,47,48] 0 (mo.moves st).length (fun j f s=>f 49=.int .i64 (j:Int)/\∃E,Rp (f 12) 4 (V0 (((mo.moves st).take j).filter (mo.freeM st))) E/\Hp s (E++[(2,O6 h)]) [(0,[m.dt,.int .i64 m.g,m.dc,m.dv,m.dp,m.ds,.bool m.b]),(1,[x.da,x.dv,x.dc,.int .i64 st.hold])]) (.mk rfl) (by omega) ⟨rfl,[],.inl ⟨rfl,rfl,rfl⟩,hp⟩ ?_
  rintro j f s hj ⟨hE,E,hr,hp⟩
  by_cases cj:j<(mo.moves st).length
  rotate_left
  ·obtain rfl:j=(mo.moves st).length:=by omega
   rw [List.take_length] at hr
   obtain ⟨d',h1,h2⟩:=a3A hr hp (fun e h=>by simp [h]) (a2X _) (a4e _)
   refine zY (aN hE (aN cj h1)) ?_
   exact ⟨_,rfl,h2⟩
  have hp2:=hp.fr (a2i (z:=.cells [.int .i64 0,.int .i64 0,.int .i64 0,.int .i64 0]) (o:=.cells [.int .i64 ((O4 (mo.moves st) j).kind:Int),.int .i64 ((O4 (mo.moves st) j).proc:Int),.int .i64 ((O4 (mo.moves st) j).edge:Int),.int .i64 ((O4 (mo.moves st) j).chan:Int)]))
  have hsu:=b1x (P:=mo.freeM st) cj
  have gh:s.get 2=some (.cells (O6 h)):=hp.w (2,O6 h) (by simp)
  have lh:=M7 gh
  by_cases k0:(O4 (mo.moves st) j).kind=0
  rotate_left
  ·have k0':¬ ((O4 (mo.moves st) j).kind:Int)=0:=by omega
   have:mo.freeM st (O4 (mo.moves st) j)=true:=by unfold Mo.freeM;rw [decide_eq_false k0];rfl
   rw [if_pos this] at hsu
   refine zY (aN hE (aN cj (aN hm2 k0'))) ?_
   refine a6r (A:=[]) (B:=[(2,O6 h)]) hr (by simpa using hp2) rfl (a2X _) (by decide) (by have:=a51 (l:=(mo.moves st)) (P:=mo.freeM st) (j:=j);simp;omega) ?_
   rintro d1 s1 E1 hr1 hp1 hn1
   refine zY (aN hE cj) ?_
   rw [hsu]
   exact ⟨E1,by simpa [V0,Mv.row] using hr1,by simpa using hp1⟩
  have k0':((O4 (mo.moves st) j).kind:Int)=0:=by omega
  have hpr:(O4 (mo.moves st) j).proc<h.length:=by
   have hv:O4 (mo.moves st) j∈mo.moves st:=a5u cj
   rcases a1L.1 hv with ⟨_,_,y,_⟩ | ⟨_,_,y⟩
   ·omega
   ·have:=a3I y;omega
  have hzp:=hz _ (show (O4 (mo.moves st) j).proc<mo.procs.length by omega)
  cases hbp:mo.barred st (O4 (mo.moves st) j).proc
  ·have:mo.freeM st (O4 (mo.moves st) j)=true:=by unfold Mo.freeM;rw [hbp,Bool.and_false];rfl
   rw [if_pos this] at hsu
   rw [hbp,if_neg (by simp)] at hzp
   refine zY (aN hE (aN cj (aN hm2 (aN k0' (aN gh (aN hpr hzp)))))) ?_
   refine a6r (A:=[]) (B:=[(2,O6 h)]) hr (by simpa [k0'] using hp2) rfl (a2X _) (by decide) (by have:=a51 (l:=(mo.moves st)) (P:=mo.freeM st) (j:=j);simp;omega) ?_
   rintro d1 s1 E1 hr1 hp1 hn1
   refine zY (aN hE cj) ?_
   rw [hsu]
   exact ⟨E1,by simpa [V0,Mv.row,k0'] using hr1,by simpa using hp1⟩
  ·have:mo.freeM st (O4 (mo.moves st) j)=false:=by unfold Mo.freeM;rw [hbp,decide_eq_true k0];rfl
   rw [if_neg (by rw [this];simp),List.append_nil] at hsu
   rw [hbp,if_pos rfl] at hzp
   refine zY (aN hE (aN cj (aN hm2 (aN k0' (aN gh (aN hpr hzp)))))) ?_
   rw [hsu]
   exact ⟨E,hr,by simpa [k0'] using hp2⟩
 ·refine a2U (vf:=a3v) rfl ?_
  unfold a3v;refine zF ?_
  refine zY (aN om (aN ox (aN fm (aN fx (aN hfb (aN ha1 hms)))))) ?_
  have hp1:Hp (((k4.empty.push (.cells [m.dt,.int .i64 m.g,m.dc,m.dv,m.dp,m.ds,.bool m.b])).push (.cells [x.da,x.dv,x.dc,.int .i64 st.hold])).push (.cells (a1G [.int .i64 0] mo.procs.length))) [(2,O6 (List.replicate mo.procs.length 0))] [(0,[m.dt,.int .i64 m.g,m.dc,m.dv,m.dp,m.ds,.bool m.b]),(1,[x.da,x.dv,x.dc,.int .i64 st.hold])]:=by
   rw [b36]
   exact hp0.pushW _
  generalize ((k4.empty.push (.cells [m.dt,.int .i64 m.g,m.dc,m.dv,m.dp,m.ds,.bool m.b])).push (.cells [x.da,x.dv,x.dc,.int .i64 st.hold])).push (.cells (a1G [.int .i64 0] mo.procs.length))=s0 at *
  clear hp0
  refine a1c [0,1,2,3,4,5,8,9,10,12,14,18,19,27,35,47,48,49,50,63] (fun f s=>∃h,h.length=mo.procs.length/\(∀j,j<mo.procs.length->zAt h j=if mo.barred st j=true then 1 else 0)/\Hp s [(2,O6 h)] [(0,[m.dt,.int .i64 m.g,m.dc,m.dv,m.dp,m.ds,.bool m.b]),(1,[x.da,x.dv,x.dc,.int .i64 st.hold])]) ?_ ?_
  ·refine S2 [0,1,2,3,4,5,8,9,10,12,14,18,19,27,35,47,48,49,50,63] 0 mo.procs.length (fun i f s=>f 36=.int .i64 (i:Int)/\∃h,h.length=mo.procs.length/\(∀j,j<mo.procs.length->zAt h j=if j<i/\mo.barred st j=true then 1 else 0)/\Hp s [(2,O6 h)] [(0,[m.dt,.int .i64 m.g,m.dc,m.dv,m.dp,m.ds,.bool m.b]),(1,[x.da,x.dv,x.dc,.int .i64 st.hold])]) (.mk rfl) (by omega) ⟨rfl,List.replicate mo.procs.length 0,by simp,fun j hj=>by rw [if_neg (by omega)];simp [zAt,hj],hp1⟩ ?_
   rintro i f s hi ⟨hE,h,hl,hz,hp⟩
   have g0:s.get 0=some (.cells [m.dt,.int .i64 m.g,m.dc,m.dv,m.dp,m.ds,.bool m.b]):=hp.r (0,_) (by simp)
   have g1:=hp.rt.rh
   have g2:=hp.hd
   by_cases ci:i<mo.procs.length
   rotate_left
   ·refine zY (aN hE ci) ?_
    exact ⟨h,hl,fun j hj=>by rw [hz j hj];simp [show j<i by omega],hp⟩
   have ci':i<h.length:=by omega
   have hb:=hbr i ci
   cases hbi:mo.barred st i
   ·rw [hbi] at hb
    refine zY (aN hE (aN ci (aN g0 (aN g1 (aN om (aN ox (aN fm (aN fx hb)))))))) ?_
    refine ⟨h,hl,fun j hj=>?_,hp⟩
    rw [hz j hj]
    by_cases e:j=i
    ·subst e;simp [hbi]
    ·simp [show (j<i+1)=(j<i) by apply propext;omega]
   ·rw [hbi] at hb
    refine zY (aN hE (aN ci (aN g0 (aN g1 (aN om (aN ox (aN fm (aN fx (aN hb (aN g2 ci')))))))))) ?_
    refine ⟨h.set i 1,by simp [hl],fun j hj=>?_,Hp.set (A:=[]) hp _⟩
    rw [a5k ci',hz j hj]
    by_cases e:j=i
    ·subst e;simp [hbi]
    ·rw [if_neg e];simp [show (j<i+1)=(j<i) by apply propext;omega]
  rintro f s ⟨h,hl,hz,hp⟩
  refine zY ha2 ?_
  refine S2 [0,1,2,3,4,5,8,9,10,11,18,19,27,35,36,37,42,47,48] 0 (mo.ample st).length (fun j f s=>f 49=.int .i64 (j:Int)/\∃E,Rp (f 12) 4 (V0 (((mo.ample st).take j).filter (mo.freeM st))) E/\Hp s (E++[(2,O6 h)]) [(0,[m.dt,.int .i64 m.g,m.dc,m.dv,m.dp,m.ds,.bool m.b]),(1,[x.da,x.dv,x.dc,.int .i64 st.hold])]) (.mk rfl) (by omega) ⟨rfl,[],.inl ⟨rfl,rfl,rfl⟩,hp⟩ ?_
  rintro j f s hj ⟨hE,E,hr,hp⟩
  by_cases cj:j<(mo.ample st).length
  rotate_left
  ·obtain rfl:j=(mo.ample st).length:=by omega
   rw [List.take_length] at hr
   obtain ⟨d',h1,h2⟩:=a3A hr hp (fun e h=>by simp [h]) (a2X _) (a4e _)
   refine zY (aN hE (aN cj h1)) ?_
   exact ⟨_,rfl,h2⟩
  have hp2:=hp.fr (a2i (z:=.cells [.int .i64 0,.int .i64 0,.int .i64 0,.int .i64 0]) (o:=.cells [.int .i64 ((O4 (mo.ample st) j).kind:Int),.int .i64 ((O4 (mo.ample st) j).proc:Int),.int .i64 ((O4 (mo.ample st) j).edge:Int),.int .i64 ((O4 (mo.ample st) j).chan:Int)]))
  have hsu:=b1x (P:=mo.freeM st) cj
  have gh:s.get 2=some (.cells (O6 h)):=hp.w (2,O6 h) (by simp)
  have lh:=M7 gh
  by_cases k0:(O4 (mo.ample st) j).kind=0
  rotate_left
  ·have k0':¬ ((O4 (mo.ample st) j).kind:Int)=0:=by omega
   have:mo.freeM st (O4 (mo.ample st) j)=true:=by unfold Mo.freeM;rw [decide_eq_false k0];rfl
   rw [if_pos this] at hsu
   refine zY (aN hE (aN cj (aN ha2 k0'))) ?_
   refine a6r (A:=[]) (B:=[(2,O6 h)]) hr (by simpa using hp2) rfl (a2X _) (by decide) (by have:=a51 (l:=(mo.ample st)) (P:=mo.freeM st) (j:=j);simp;omega) ?_
   rintro d1 s1 E1 hr1 hp1 hn1
   refine zY (aN hE cj) ?_
   rw [hsu]
   exact ⟨E1,by simpa [V0,Mv.row] using hr1,by simpa using hp1⟩
  have k0':((O4 (mo.ample st) j).kind:Int)=0:=by omega
  have hpr:(O4 (mo.ample st) j).proc<h.length:=by
   have hv:O4 (mo.ample st) j∈mo.moves st:=a36 (a5u cj)
   rcases a1L.1 hv with ⟨_,_,y,_⟩ | ⟨_,_,y⟩
   ·omega
   ·have:=a3I y;omega
  have hzp:=hz _ (show (O4 (mo.ample st) j).proc<mo.procs.length by omega)
  cases hbp:mo.barred st (O4 (mo.ample st) j).proc
  ·have:mo.freeM st (O4 (mo.ample st) j)=true:=by unfold Mo.freeM;rw [hbp,Bool.and_false];rfl
   rw [if_pos this] at hsu
   rw [hbp,if_neg (by simp)] at hzp
   refine zY (aN hE (aN cj (aN ha2 (aN k0' (aN gh (aN hpr hzp)))))) ?_
   refine a6r (A:=[]) (B:=[(2,O6 h)]) hr (by simpa [k0'] using hp2) rfl (a2X _) (by decide) (by have:=a51 (l:=(mo.ample st)) (P:=mo.freeM st) (j:=j);simp;omega) ?_
   rintro d1 s1 E1 hr1 hp1 hn1
   refine zY (aN hE cj) ?_
   rw [hsu]
   exact ⟨E1,by simpa [V0,Mv.row,k0'] using hr1,by simpa using hp1⟩
  ·have:mo.freeM st (O4 (mo.ample st) j)=false:=by unfold Mo.freeM;rw [hbp,decide_eq_true k0];rfl
   rw [if_neg (by rw [this];simp),List.append_nil] at hsu
   rw [hbp,if_pos rfl] at hzp
   refine zY (aN hE (aN cj (aN ha2 (aN k0' (aN gh (aN hpr hzp)))))) ?_
   rw [hsu]
   exact ⟨E,hr,by simpa [k0'] using hp2⟩
end Go.Proofs.YtnjlhebkhjcagaaGreat
namespace Go.Proofs.YtnjlhebkhjcagaaGreat
open Go.V
set_option maxRecDepth 100000
set_option maxHeartbeats 4000000
variable {m:MdX} {mo:Mo} {ps:List (Pr×PrD)} {x:StD} {st:Stt}
theorem c8k {d:D} (h:a2e (.int .u8) d):∃n,d=.int .u8 n/\0<=n/\n<256:=by
 have h:X1 (.int .u8) [d]:=h
 simp only [X1] at h
 obtain ⟨n,e,w⟩:=h
 simp at e
 simp only [Lit.wf,Bool.and_eq_true,decide_eq_true_eq] at w
 have h1:IntKind.u8.min=0:=rfl
 have h2:IntKind.u8.max=255:=rfl
 rw [h1,h2] at w
 exact ⟨n,e,w.1,by omega⟩
theorem a9w (hm:MoF m mo ps) (ho:N1 mo) (hf:W6 mo) (hq:MoQ mo) (hC:MoC mo) (hx:X2 mo x st) (am al:Bool):∃d,Eqc vfs 27 [.agg [m.dt,.int .i64 m.g,m.dc,m.dv,m.dp,m.ds,.bool m.b],.agg [x.da,x.dv,x.dc,.int .i64 st.hold],.bool am,.bool al] d/\FL 4 d (V0 (a3L mo am al st)):=by
 obtain ⟨d,h1,h2⟩:=c7R hm ho hf hq hC hx am al
 exact ⟨d,S4 h1,h2⟩
theorem b9d {am al:Bool} {v:Mv} (h:v∈a3L mo am al st):v∈mo.moves st:=by
 unfold a3L at h
 cases al
 ·cases am
  ·exact h
  ·exact a36 h
 ·exact a24 h
theorem c4P (ho:N1 mo) {am al:Bool}:(a3L mo am al st).length<=1000000:=by
 have h1:=b3m ho (st:=st)
 have h2:=a3X ho (st:=st)
 unfold a3L Mo.someM
 cases al<;>cases am
 ·simp;omega
 ·simp;omega
 ·exact Nat.le_trans (List.length_filter_le _ _) (by simp;omega)
 ·exact Nat.le_trans (List.length_filter_le _ _) (by simp;omega)
theorem c3O {d0 d1:D} {t:List Nd} {raw:List Int} {n:Int} (hT:O0 d0 t) (hd:FI d1 raw) (hraw:∀n∈raw,a0K n) (hn0:0<=n) (hn1:n<256):EvP vfs 10 [d0,d1,.int .u8 n] k4.empty fun r _=>r=.bool true:=by
 have haw:Eqc vfs 25 [] (.bool true):=a2q a9O rfl
 have pT:PZ d0:=hT.fl.pz
 have pd:=a35 hd
 have oT:=FL.one hT.fl
 have od:=FL.one hd
 obtain ⟨d',h1,h2⟩:=b0q hT
 by_cases hl:(60:Int)<(raw.length:Int)
 ·refine Y5 (vf:=a4n) rfl ?_
  unfold a4n;refine zF ?_
  refine zY (aN haw (aN hd hl)) ?_
  exact rfl
 rcases h2 with rfl | ⟨m,ps,rfl,hR,hS,hY,hm⟩
 ·refine Y5 (vf:=a4n) rfl ?_
  unfold a4n;refine zF ?_
  refine zY (aN haw (aN hd (aN hl (aN h1 pT)))) ?_
  exact rfl
 have ho:=b1Y hR hS hY
 have hf:=b1q hR hY
 have hq:=b1K hR hS
 have hC:=b1O hR hS
 generalize U2 t=mo at *
 have om:=hm.ones
 have fm:=a1b hm
 have hnp:=ho.np
 obtain ⟨x,st,hh,hx,hold⟩:=c4z hm ho hf hd hraw
 have fx:=a0p hx.f
 have ox:=hx.f.ones
 have hml:=a3X ho (st:=st)
 obtain ⟨da,ha1,ha2⟩:=a6K hm ho hx
 have ha1:=S4 ha1
 obtain ⟨ds,hs1,hs2⟩:=a9w hm ho hf hq hC hx (decide (n.tmod 2=1)) (decide ((n.tdiv 2).tmod 2=1))
 have hsub:=fun v=>b9d (mo:=mo) (st:=st) (v:=v) (am:=decide (n.tmod 2=1)) (al:=decide ((n.tdiv 2).tmod 2=1))
 have hsl:=c4P ho (st:=st) (am:=decide (n.tmod 2=1)) (al:=decide ((n.tdiv 2).tmod 2=1))
 have hsame:=c4N ha2 hs2 (by omega)
 have heq:n.tmod 4=0->mo.moves st=a3L mo (decide (n.tmod 2=1)) (decide ((n.tdiv 2).tmod 2=1)) st:=fun h=>by
  obtain ⟨k,rfl⟩:=Int.eq_ofNat_of_zero_le hn0
  have t4:(k:Int).tmod 4=((k % 4:Nat):Int):=rfl
  have t2:(k:Int).tmod 2=((k % 2:Nat):Int):=rfl
  have d2:(k:Int).tdiv 2=((k / 2:Nat):Int):=rfl
  have d3:((k / 2:Nat):Int).tmod 2=((k / 2 % 2:Nat):Int):=rfl
  rw [t4] at h
  rw [t2,d2,d3]
  have e1:¬ ((k % 2:Nat):Int)=1:=by omega
  have e2:¬ ((k / 2 % 2:Nat):Int)=1:=by omega
  rw [decide_eq_false e1,decide_eq_false e2]
  rfl
 generalize a3L mo (decide (n.tmod 2=1)) (decide ((n.tdiv 2).tmod 2=1)) st=some' at *
 have pa:=FL.pz ha2
 have ps':=FL.pz hs2
 have hw8:IntKind.u8.wrap (n.tdiv 2)=n.tdiv 2:=by
  obtain ⟨k,rfl⟩:=Int.eq_ofNat_of_zero_le hn0
  have d2:(k:Int).tdiv 2=((k / 2:Nat):Int):=rfl
  rw [d2]
  simp [IntKind.wrap,IntKind.bits,IntKind.signed]
  omega
 unfold N8 at h1
 refine Y5 (vf:=a4n) rfl ?_
 unfold a4n;refine zF ?_
 refine zY (aN haw (aN hd (aN hl (aN h1 (aN pT (aN pd (aN om (aN ox (aN fm (aN fx (aN hh (aN ha1 (aN hs1 hw8))))))))))))) ?_
 generalize (((k4.empty.push (.cells [.nils,.int .i64 0,.nils,.nils,.nils,.nils,.bool false])).set 0 (some (.cells [m.dt,.int .i64 m.g,m.dc,m.dv,m.dp,m.ds,.bool m.b]))).push (.cells [.nils,.nils,.nils,.int .i64 0])).set 1 (some (.cells [x.da,x.dv,x.dc,.int .i64 st.hold]))=s0 at *
 generalize hall:mo.moves st=all at *
 refine S2 [0,1,2,7,8,9,10,11,21,29] 0 some'.length (fun i f s=>f 12=.int .i64 (i:Int)/\s=s0) (.mk rfl) (by omega) ⟨rfl,rfl⟩ ?_
 rintro i f s hi ⟨hE,rfl⟩
 by_cases ci:i<some'.length
 rotate_left
 ·by_cases c4:n.tmod 4=0
  ·rw [decide_eq_true (heq c4)] at hsame
   refine zY (aN hE (aN ci (aN hs2 (aN ha2 (aN c4 (aN hsame (aN pa ps'))))))) ?_
   exact rfl
  ·refine zY (aN hE (aN ci (aN hs2 c4))) ?_
   exact rfl
 have hv:=hsub _ (a5u ci)
 refine zY (aN hE (aN ci hs2)) ?_
 refine a1c [0,1,2,6,7,8,9,10,11,12,21,29,49,71] (fun f s'=>f 13=.bool true/\s'=s) ?_ ?_
 ·refine S2 [0,1,2,6,7,8,9,10,11,12,21,29,49,71] 0 all.length (fun j f s'=>f 14=.int .i64 (j:Int)/\f 13=.bool (decide (O4 some' i∈all.take j))/\s'=s) (.mk rfl) (by omega) ⟨rfl,by rw [List.take_zero,decide_eq_false List.not_mem_nil];rfl,rfl⟩ ?_
  rintro j f s hj ⟨hJ,hK,rfl⟩
  by_cases cj:j<all.length
  rotate_left
  ·obtain rfl:j=all.length:=by omega
   rw [List.take_length,decide_eq_true hv] at hK
   exact zZ (aN hJ (aN hK (aN cj ha2)))
  have hsu:all.take (j+1)=all.take j++[O4 all j]:=by rw [List.take_succ_eq_append_getElem cj,a3z cj]
  by_cases ck:O4 some' i∈all.take j
  ·rw [decide_eq_true ck] at hK
   refine zY (aN hE (aN hJ (aN hK (aN cj ha2)))) ?_
   rw [hsu]
   simp [ck]
  ·rw [decide_eq_false ck] at hK
   refine zY (aN hE (aN hJ (aN hK (aN cj (aN ci (aN ha2 hs2)))))) ?_
   rw [hsu]
   simp [ck,eq_comm]
 rintro f s' ⟨hK,rfl⟩
 refine zY (aN hE hK) ?_
 exact ci
theorem c8F {d0 d1 d2:D} (h0:a2e Ty.tree d0) (h1:a2e (.slice 1 (.int .i64)) d1) (h2:a2e (.int .u8) d2):EvP vfs 10 [d0,d1,d2] k4.empty fun r _=>r=.bool true:=by
 obtain ⟨t,hT⟩:=b1h h0
 obtain ⟨l,hl,hn,hi⟩:=b4W h1
 obtain ⟨n,rfl,hn0,hn1⟩:=c8k h2
 exact c3O hT hl hi hn0 hn1
end Go.Proofs.YtnjlhebkhjcagaaGreat
