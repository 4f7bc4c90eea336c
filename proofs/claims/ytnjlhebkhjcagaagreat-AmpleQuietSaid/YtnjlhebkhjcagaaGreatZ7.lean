/- Texts one behind the other. -/
import Derived.Test.YtnjlhebkhjcagaaGreatZ5
import Derived.Test.YtnjlhebkhjcagaaGreatZ6
set_option linter.unusedSimpArgs false
set_option linter.unusedVariables false
namespace Go.Proofs.YtnjlhebkhjcagaaGreat
open Go.V
set_option maxRecDepth 100000
set_option maxHeartbeats 4000000
variable {m:MdX} {mo:Mo} {ps:List (Pr×PrD)} {x:StD} {st:Stt}
theorem b9g {x w:Int} (h1:-4294967296<=x) (h2:x<=4294967296) (h3:1<=w) (h4:w<=8):Eqc vfs 38 [.int .i64 x,.int .i64 w] (.int .i64 (N8 x w.toNat)):=a2s (a6I (x:=x) (n:=w) (w:=w.toNat) (by omega) ⟨by omega,by omega⟩) rfl
end Go.Proofs.YtnjlhebkhjcagaaGreat
namespace Go.V
variable {mo:Mo} {M:Stt->List Mv}
def Mo.fst (mo:Mo):Stt:=⟨List.replicate mo.procs.length 0,mo.vals,List.replicate mo.chans.length [],-1⟩
theorem b4B {n i:Nat}:nAt (List.replicate n 0) i=0:=by
 unfold nAt
 by_cases h:i<n
 ·simp [List.getD,h]
 ·simp [List.getD,h]
theorem c4O (ho:P7 mo) (hf:a1d mo):Fit mo mo.fst:=by
 refine a4N.1 ⟨by simp [Mo.fst],by simp [Mo.fst,Mo.vals],by simp [Mo.fst],fun i hi=>?_,fun i hi=>?_,fun i hi=>?_,fun i hi n hn=>?_,by simp only [Mo.fst];omega⟩
 ·have:=(ho.pr _ (a0P hi)).inv.two
  show nAt (List.replicate _ 0) i<_
  rw [b4B];omega
 ·show N8 (zAt mo.vals i) _=zAt mo.vals i
  rw [a7t hi]
  exact (hf.vr _ (a3T hi)).2.2
 ·show ((cAt (List.replicate _ []) i).length:Int)<=_
  rw [a5d]
  have:=(hf.ch _ (a5M hi)).1
  simp only [List.length_nil];omega
 ·have hn:n∈cAt (List.replicate _ []) i:=hn
  rw [a5d] at hn;cases hn
theorem b85 (ho:P7 mo) (hf:a1d mo):a3d mo mo.fst:=⟨c4O ho hf,fun j hj=>by simp only [Mo.fst] at hj;omega⟩
def Rch (mo:Mo) (M:Stt->List Mv) (t:Stt):Prop:=∃n,a2c mo M n mo.fst t
theorem a2c.snoc:∀ {n:Nat} {s t:Stt} {v:Mv},a2c mo M n s t->v∈M t->a2c mo M (n+1) s (mo.doS t v)
 | 0,s,t,v,h,hv=>by cases h;exact ⟨v,hv,rfl⟩
 | n+1,s,t,v,⟨w,hw,h⟩,hv=>⟨w,hw,h.snoc hv⟩
theorem Rch.step {t:Stt} {v:Mv} (h:Rch mo M t) (hv:v∈M t):Rch mo M (mo.doS t v):=by
 obtain ⟨n,h⟩:=h
 exact ⟨n+1,h.snoc hv⟩
theorem a2c.mono {M':Stt->List Mv} (hs:∀s v,v∈M s->v∈M' s):∀ {n:Nat} {s t:Stt},a2c mo M n s t->a2c mo M' n s t
 | 0,s,t,h=>h
 | n+1,s,t,⟨w,hw,h⟩=>⟨w,hs _ _ hw,h.mono hs⟩
theorem Rch.mono {M':Stt->List Mv} (hs:∀s v,v∈M s->v∈M' s) {t:Stt} (h:Rch mo M t):Rch mo M' t:=by
 obtain ⟨n,h⟩:=h
 exact ⟨n,h.mono hs⟩
theorem Rch.inv (ho:P7 mo) (hf:a1d mo) (hs:∀s v,v∈M s->v∈mo.moves s) {t:Stt} (h:Rch mo M t):a3d mo t:=by
 obtain ⟨n,h⟩:=h
 exact (h.mono hs).inv ho hf (b85 ho hf)
theorem b58 {L:List Stt} (h0:mo.fst∈L) (hc:∀s∈L,∀v∈M s,mo.doS s v∈L) {t:Stt} (h:Rch mo M t):t∈L:=by
 obtain ⟨n,h⟩:=h
 have key:∀ {n:Nat} {s t:Stt},s∈L->a2c mo M n s t->t∈L:=by
  intro n
  induction n with
  | zero=>intro s t hs h;cases h;exact hs
  | succ n ih=>intro s t hs h;obtain ⟨v,hv,h⟩:=h;exact ih (hc s hs v hv) h
 exact key h0 h
def c4M (mo:Mo) (M:Stt->List Mv) (a b:Bool):Prop :=
 (a=true/\b=true/\∃t,Rch mo M t/\mo.badS t=true)∨(a=false/\b=true/\∃L:List Stt,L.length<=120/\∀t,Rch mo M t->t∈L/\mo.badS t=false)∨(a=false/\b=false)
abbrev QL:=List (StD×Stt)
def qAt (l:QL) (i:Nat):StD×Stt:=l.getD i ⟨⟨.nils,.nils,.nils⟩,⟨[],[],[],0⟩⟩
theorem a7n {l:QL} {i:Nat} (h:i<l.length):qAt l i=l[i]:=by simp [qAt,List.getD,h]
theorem b3D {l:QL} {q:StD×Stt} (h:q∈l):∃i,i<l.length/\qAt l i=q:=by
 obtain ⟨i,hi,e⟩:=List.getElem_of_mem h
 exact ⟨i,hi,by rw [a7n hi,e]⟩
theorem b2B {l r:QL} {i:Nat} (h:i<l.length):qAt (l++r) i=qAt l i:=by
 rw [a7n h,a7n (by simp;omega),List.getElem_append_left h]
structure a2v (mo:Mo) (M:Stt->List Mv) (L:QL) (i:Nat):Prop where
 fst:mo.fst∈L.map Prod.snd
 rch:∀q∈L,Rch mo M q.2
 f:∀q∈L,StF q.1 q.2
 ok:∀j,j<i->mo.badS (qAt L j).2=false
 cl:∀j,j<i->∀v∈M (qAt L j).2,mo.doS (qAt L j).2 v∈L.map Prod.snd
 nd:(L.map Prod.snd).Nodup
theorem a2v.app {L:QL} {i:Nat} (h:a2v mo M L i) (hi:i<=L.length) {q:StD×Stt} (hr:Rch mo M q.2) (hf:StF q.1 q.2) (hn:q.2∉L.map Prod.snd):a2v mo M (L++[q]) i:=by
 refine ⟨by rw [List.map_append];exact List.mem_append_left _ h.fst,fun p hp=>?_,fun p hp=>?_,fun j hj=>?_,fun j hj v hv=>?_,?_⟩
 ·rcases List.mem_append.1 hp with hp | hp
  ·exact h.rch p hp
  ·rw [List.mem_singleton.1 hp];exact hr
 ·rcases List.mem_append.1 hp with hp | hp
  ·exact h.f p hp
  ·rw [List.mem_singleton.1 hp];exact hf
 ·rw [b2B (by omega)];exact h.ok j hj
 ·rw [b2B (by omega)] at hv ⊢
  rw [List.map_append]
  exact List.mem_append_left _ (h.cl j hj v hv)
 ·rw [List.map_append]
  refine List.nodup_append.2 ⟨h.nd,by simp,fun a ha b hb=>?_⟩
  simp only [List.map_cons,List.map_nil,List.mem_singleton] at hb
  rw [hb]
  exact fun e=>hn (e▸ha)
theorem a2v.next {L:QL} {i:Nat} (h:a2v mo M L i) (hb:mo.badS (qAt L i).2=false) (hc:∀v∈M (qAt L i).2,mo.doS (qAt L i).2 v∈L.map Prod.snd):a2v mo M L (i+1):=by
 refine ⟨h.fst,h.rch,h.f,fun j hj=>?_,fun j hj=>?_,h.nd⟩
 ·by_cases e:j=i
  ·rw [e];exact hb
  ·exact h.ok j (by omega)
 ·by_cases e:j=i
  ·rw [e];exact hc
  ·exact h.cl j (by omega)
theorem a2v.all {L:QL} {i:Nat} (h:a2v mo M L i) (hi:¬ i<L.length):∀t,Rch mo M t->t∈L.map Prod.snd/\mo.badS t=false:=by
 intro t ht
 have hm:=b58 (L:=L.map Prod.snd) h.fst (fun s hs v hv=>by
  obtain ⟨q,hq,rfl⟩:=List.mem_map.1 hs
  obtain ⟨j,hj,rfl⟩:=b3D hq
  exact h.cl j (by omega) v hv) ht
 refine ⟨hm,?_⟩
 obtain ⟨q,hq,rfl⟩:=List.mem_map.1 hm
 obtain ⟨j,hj,rfl⟩:=b3D hq
 exact h.ok j (by omega)
theorem a2v.none {L:QL} {i:Nat} (h:a2v mo M L i) (hi:¬ i<L.length) (hl:L.length<=120):c4M mo M false true :=
 .inr (.inl ⟨rfl,rfl,L.map Prod.snd,by rw [List.length_map];exact hl,h.all hi⟩)
end Go.V
namespace Go.V
variable {mo:Mo} {π τ:Nat->Nat} {s s':Stt}
structure Sym (mo:Mo) (π τ:Nat->Nat):Prop where
 pi:∀v,π (π v)=v
 pg:∀v,v<mo.globals->π v=v
 pl:∀v,v<mo.vars.length->π v<mo.vars.length
 pw:∀v,v<mo.vars.length->(vAt mo.vars (π v)).width=(vAt mo.vars v).width
 tt:∀j,τ (τ j)=j
 tl:∀j,j<mo.procs.length->τ j<mo.procs.length
 nm:∀j,j<mo.procs.length->(pAt mo.procs (τ j)).names=(pAt mo.procs j).names
 vr:∀j,j<mo.procs.length->(pAt mo.procs (τ j)).vars=(pAt mo.procs j).vars.map π
 ed:∀j,j<mo.procs.length->(pAt mo.procs (τ j)).edges=(pAt mo.procs j).edges.map (b2J π)
 rs:∀j,j<mo.procs.length->(pAt mo.procs (τ j)).rest=(pAt mo.procs j).rest
structure SR (mo:Mo) (π τ:Nat->Nat) (s s':Stt):Prop where
 al:s.at'.length=mo.procs.length
 al':s'.at'.length=mo.procs.length
 at':∀j,j<mo.procs.length->nAt s'.at' (τ j)=nAt s.at' j
 vl:s.vars.length=mo.vars.length
 vl':s'.vars.length=mo.vars.length
 vr:∀v,v<mo.vars.length->zAt s'.vars (π v)=zAt s.vars v
 ch:s'.chans=s.chans
 hd:(s.hold<0/\s'.hold=s.hold)∨∃j,j<mo.procs.length/\s.hold=(j:Int)/\s'.hold=((τ j:Nat):Int)
theorem SR.symm (h:Sym mo π τ) (r:SR mo π τ s s'):SR mo π τ s' s:=by
 refine ⟨r.al',r.al,fun j hj=>?_,r.vl',r.vl,fun v hv=>?_,r.ch.symm,?_⟩
 ·rw [<- r.at' (τ j) (h.tl j hj),h.tt]
 ·rw [<- r.vr (π v) (h.pl v hv),h.pi]
 ·rcases r.hd with ⟨a,b⟩ | ⟨j,hj,a,b⟩
  ·exact .inl ⟨by rw [b];exact a,b.symm⟩
  ·exact .inr ⟨τ j,h.tl j hj,b,by rw [h.tt];exact a⟩
def mapM (τ:Nat->Nat) (v:Mv):Mv:=if v.kind=0 then { v with proc:=τ v.proc } else v
theorem a85 {c:Nat} {v:Mv} (h:v∈mo.movesC s c):v.kind=1∨v.kind=2:=by
 unfold Mo.movesC at h
 rw [List.mem_append] at h
 rcases h with h | h
 ·split at h
  ·have:=List.mem_singleton.1 h
   left;rw [this]
  ·cases h
 ·split at h
  ·have:=List.mem_singleton.1 h
   right;rw [this]
  ·cases h
end Go.V
namespace Go.V
variable {mo:Mo}
structure Cop (mo:Mo) (q n lo:Nat):Prop where
 lt:q+1<mo.procs.length
 gl:mo.globals<=lo
 hi:lo+n+n<=mo.vars.length
 l0:(pAt mo.procs q).locals=(List.range n).map (lo+·)
 l1:(pAt mo.procs (q+1)).locals=(List.range n).map (lo+n+·)
 vr:∀v∈(pAt mo.procs q).vars,v<mo.globals∨v∈(pAt mo.procs q).locals
 re:pAt mo.procs (q+1)=ren (c17 mo.globals n) (pAt mo.procs (q+1)).locals (pAt mo.procs (q+1)).copy (pAt mo.procs q)
 w:∀i,i<n->vAt mo.vars (lo+n+i)=vAt mo.vars (lo+i)
end Go.V
namespace Go.V
variable {mo:Mo} {s:Stt}
def a3a (p:Pr):Bool:=p.edges.all fun e=>decide (e.to≠0)
def Mo.barred (mo:Mo) (st:Stt) (i:Nat):Bool:=decide (0<(pAt mo.procs i).copy)&&a3a (pAt mo.procs i)&&decide (nAt st.at' i=0)&&decide (nAt st.at' (i-1)=0)
def Mo.freeM (mo:Mo) (st:Stt) (v:Mv):Bool:=!(decide (v.kind=0)&&mo.barred st v.proc)
def Mo.someM (mo:Mo) (am:Bool) (st:Stt):List Mv:=(if am then mo.ample st else mo.moves st).filter (mo.freeM st)
def a7h (mo:Mo) (s:Stt):Prop:=∀j,j<mo.procs.length->a3a (pAt mo.procs j)=true->nAt s.at' j=0->s.hold≠(j:Int)/\∀v∈(pAt mo.procs j).locals,zAt s.vars v=(vAt mo.vars v).value
structure MoC (mo:Mo):Prop where
 tw:∀p,p<mo.procs.length->0<(pAt mo.procs p).copy->∃q n lo,p=q+1/\Cop mo q n lo
theorem b3n {l:List Int} {i j:Nat} {x:Int} (h:i≠j):zAt (l.set i x) j=zAt l j:=by
 unfold zAt
 simp [List.getD,List.getElem?_set,h]
theorem b1d {i:Nat} {p:Pr} {e:Ed}:(mo.edgeS s i p e).at'=s.at'.set i e.to:=by
 unfold Mo.edgeS Mo.actS
 repeat' split
 all_goals rfl
theorem b7n {i:Nat} {p:Pr} (hp:a1I mo p) {e:Ed} (he:e∈p.edges) {w:Nat} (hw:w∉p.vars):zAt (mo.edgeS s i p e).vars w=zAt s.vars w:=by
 have key:∀a,e.act=1∨e.act=3->zAt (s.vars.set e.var.toNat a) w=zAt s.vars w:=fun a ha=>by
  obtain ⟨b,hb,hv⟩:=(hp.inv.ed e he).v1 ha
  rw [hv,Int.toNat_natCast]
  exact b3n fun c=>hw (c▸hb)
 unfold Mo.edgeS Mo.actS
 split
 ·rename_i c;exact key _ (.inl c)
 split
 ·rfl
 split
 ·rename_i c;exact key _ (.inr c)
 ·rfl
theorem a7h.step (ho:P7 mo) (hq:MoQ mo) (hI:Fit mo s) (hF:a7h mo s) {v:Mv} (hv:v∈mo.moves s):a7h mo (mo.doS s v):=by
 rcases a4Z.1 hv with ⟨k0,_,hp,he,_,_⟩ | ⟨_,_,c⟩
 ·have hd:mo.doS s v=mo.doE s v.proc (pAt mo.procs v.proc) (eAt (pAt mo.procs v.proc).edges v.edge):=by
   unfold Mo.doS;rw [if_neg (by omega),if_neg (by omega)]
  have hem:=a1N he
  rw [hd]
  generalize eAt (pAt mo.procs v.proc).edges v.edge=e at *
  have hpo:=ho.pr _ (a0P hp)
  intro j hj hb ha
  have ha:nAt (mo.edgeS s v.proc (pAt mo.procs v.proc) e).at' j=0:=ha
  rw [b1d] at ha
  by_cases c:j=v.proc
  ·exfalso
   subst c
   have hl:=hI.at'
   rw [a4G (by omega),if_pos rfl] at ha
   unfold a3a at hb
   have:=List.all_eq_true.1 hb e hem
   simp [ha] at this
  ·have hl:=hI.at'
   rw [a4G (by omega),if_neg c] at ha
   obtain ⟨h1,h2⟩:=hF j hj hb ha
   refine ⟨?_,fun w hw=>?_⟩
   ·unfold Mo.doE
    simp only
    split<;>omega
   ·have:zAt (mo.edgeS s v.proc (pAt mo.procs v.proc) e).vars w=zAt s.vars w:=b7n hpo hem (hq.own j v.proc hj hp c w hw)
    exact this.trans (h2 w hw)
 ·have hk:=a85 c
  intro j hj hb ha
  have e1:(mo.doS s v).at'=s.at'/\(mo.doS s v).vars=s.vars/\(mo.doS s v).hold=s.hold:=by
   unfold Mo.doS
   split
   ·exact ⟨rfl,rfl,rfl⟩
   ·rw [if_pos (by omega)];exact ⟨rfl,rfl,rfl⟩
  rw [e1.1] at ha
  rw [e1.2.1,e1.2.2]
  exact hF j hj hb ha
theorem b40 {q n lo:Nat} (h:Cop mo q n lo):a3a (pAt mo.procs (q+1))=a3a (pAt mo.procs q):=by
 rw [h.re]
 unfold a3a
 show ((pAt mo.procs q).edges.map _).all _=_
 rw [List.all_map]
 rfl
theorem a7x {am:Bool} {v:Mv} (h:v∈mo.someM am s):v∈mo.moves s:=by
 unfold Mo.someM at h
 have:=(List.mem_filter.1 h).1
 cases am
 ·exact this
 ·exact b74 this
end Go.V
namespace Go.V
end Go.V
namespace Go.V
variable {mo:Mo} {st:Stt}
theorem a11.put {s S:k4} {n n' a v:Nat} {dC:D} {ids:List Nat} (h:a11 s n a v dC ids st) {A:List Nat} {V:List Int} {hd:Int} (hn:n'<=n)
 (ga:S.get a=some (.cells (U5 A))) (gv:S.get v=some (.cells (S1 V))) (hq:∀j,n<=j->j<s.next->j≠a->j≠v->S.get j=s.get j):a11 S n' a v dC ids ⟨A,V,st.chans,hd⟩:=by
 refine ⟨h.len,ga,gv,?_,fun j hj=>?_,h.inj,h.av,Nat.le_trans hn h.na,Nat.le_trans hn h.nv⟩
 ·rcases h.gc with h | ⟨c,h1,h2,h3,h4,h5,h6⟩
  ·exact .inl h
  ·exact .inr ⟨c,h1,by rw [hq c h3 (M1 h2) h4 h5];exact h2,Nat.le_trans hn h3,h4,h5,h6⟩
 ·obtain ⟨h1,h2,h3,h4⟩:=h.gq j hj
  exact ⟨by rw [hq _ h2 (M1 h1) h3 h4];exact h1,Nat.le_trans hn h2,h3,h4⟩
theorem b49 (ho:P7 mo) {v:Mv} (hk:v.kind=0) (hp:v.proc<mo.procs.length) (he:v.edge<(pAt mo.procs v.proc).edges.length) (h:QE mo (pAt mo.procs v.proc) (eAt (pAt mo.procs v.proc).edges v.edge)) :
 ∃V,mo.doS st v=⟨st.at'.set v.proc (eAt (pAt mo.procs v.proc).edges v.edge).to,V,st.chans,-1⟩/\V.length=st.vars.length/\∀w,w∉(pAt mo.procs v.proc).locals->zAt V w=zAt st.vars w:=by
 have hpo:=ho.pr _ (a0P hp)
 have hem:=a1N he
 have hd:mo.doS st v=mo.doE st v.proc (pAt mo.procs v.proc) (eAt (pAt mo.procs v.proc).edges v.edge):=by
  unfold Mo.doS;rw [if_neg (by omega),if_neg (by omega)]
 rw [hd]
 generalize eAt (pAt mo.procs v.proc).edges v.edge=e at *
 obtain ⟨a2,a3⟩:=h.act hpo hem
 unfold Mo.doE
 rw [h.keep,a4C]
 simp only [Bool.false_and,Bool.false_eq_true,if_false]
 refine ⟨_,by rw [show mo.wC (cAt st.chans e.chan.toNat) e (mo.ex (pAt mo.procs v.proc) st e 0).1=none by unfold Mo.wC;rw [if_neg a2,if_neg a3]];rfl,?_,fun w hw=>?_⟩
 ·unfold Mo.wV
  repeat' split
  all_goals simp [setO]
 ·cases hwv:mo.wV (cAt st.chans e.chan.toNat) e (mo.ex (pAt mo.procs v.proc) st e 0).1 with
  | none=>rfl
  | some y =>
    obtain ⟨i,z⟩:=y
    have:=h.wr i (b0J hpo hem hwv)
    exact b3n fun c=>hw (c▸this)
theorem c3t (ho:P7 mo) {v:Mv} (hk:v.kind=0) (hp:v.proc<mo.procs.length) (he:v.edge<(pAt mo.procs v.proc).edges.length) (h:QE mo (pAt mo.procs v.proc) (eAt (pAt mo.procs v.proc).edges v.edge)) (hh:st.hold=-1):mo.safeS (mo.doS st v)=mo.safeS st:=by
 have hd:mo.doS st v=mo.eff v.proc (eAt (pAt mo.procs v.proc).edges v.edge) st:=by
  rw [<- c4J ho h.keep hh]
  unfold Mo.doS;rw [if_neg (by omega),if_neg (by omega)]
 rw [hd]
 exact c0L ho hp (a1N he) h
theorem c4D (hs:b1j mo) (ho:P7 mo) {i:Nat} (h:mo.quiet i (nAt st.at' i)=true) (hh:st.hold=-1):∃v∈mo.moves st,v.kind=0/\v.proc=i:=by
 obtain ⟨e,he,hk,hc⟩:=hs i st h
 obtain ⟨v,v1,v2,v3,_⟩:=c1t (a9A ho h).lt he hc (by omega)
 exact ⟨v,v1,v2,v3⟩
end Go.V
namespace Go.Proofs.YtnjlhebkhjcagaaGreat
open Go.V
set_option maxRecDepth 100000
set_option maxHeartbeats 4000000
variable {m:MdX} {mo:Mo} {ps:List (Pr×PrD)} {x:StD} {st:Stt}
theorem b5L (hm:MoF m mo ps) (ho:P7 mo) (hf:a1d mo) (hx:a2z mo x st) {v:Mv} (hk:v.kind=0) (hp:v.proc<mo.procs.length) (he:v.edge<(pAt mo.procs v.proc).edges.length) (hQ:QE mo (pAt mo.procs v.proc) (eAt (pAt mo.procs v.proc).edges v.edge)) {s0:k4}:EvP vfs 22 [.agg [m.dt,.int .i64 m.g,m.dc,m.dv,m.dp,m.ds,.bool m.b],.agg [x.da,x.dv,x.dc,.int .i64 st.hold],.agg [.int .i64 (v.kind:Int),.int .i64 (v.proc:Int),.int .i64 (v.edge:Int),.int .i64 (v.chan:Int)]] s0 fun r s=>∃a w dC ids,r=.agg [.arr a 0 st.at'.length 1,.arr w 0 st.vars.length 1,dC,.int .i64 (-1)]/\a11 s s0.next a w dC ids (mo.doS st v)/\Fr [] s0 s:=by
 have om:=hm.ones
 have ox:=hx.f.ones
 have fm:=a3e hm
 have fx:=a5g hx.f
 have hcl:=hx.fit.chans
 have hvl:=hx.fit.vars
 have hal:=hx.fit.at'
 have hnc:=ho.nc
 have hnv:=ho.nv
 have hnp:=ho.np
 have hpo:=ho.pr _ (a0P hp)
 have heo:=hpo.inv.ed _ (a1N he)
 have hel:=hpo.el
 have hpa:v.proc<st.at'.length:=by omega
 obtain ⟨a2,a3⟩:=hQ.act hpo (a1N he)
 have hkeep:=hQ.keep
 have e:mo.doS st v=mo.edgeS st v.proc (pAt mo.procs v.proc) (eAt (pAt mo.procs v.proc).edges v.edge):=by
  unfold Mo.doS
  rw [if_neg (by omega),if_neg (by omega)]
  unfold Mo.doE
  rw [hkeep]
  rfl
 rw [e]
 generalize hE:eAt (pAt mo.procs v.proc).edges v.edge=E at *
 have h6:E.act=0∨E.act=1∨E.act=4∨E.act=5:=by have:=heo.act;omega
 refine a2H (vf:=a8b) rfl ?_
 unfold a8b;refine zF ?_
 refine zY (aN om ox) ?_
 refine a9C (b4M hx.f (by omega) hx.e (by omega) (by omega)) (by simp (disch:=(first|exact Rf.mk rfl|with_reducible assumption|omega|((repeat (first|rw [nP]|rw [nS]|rw [M7]))<;>omega)|decide)) only [go_sem,↓reduceIte,ox]) ?_
 rintro r s1 ⟨hm1,fr⟩
 obtain ⟨a,w,dC,ids,rfl,H⟩:=hm1.open
 have l1:=fr.1
 have fr0:∀j,j<s0.next->s1.get j=s0.get j:=fun j hj=>by
  rw [fr.2 j (by simp only [k4.next_push];omega) (by simp)]
  exact zZ0
 simp only [k4.next_push] at H l1
 have g0:s1.get s0.next=some (.cells [m.dt,.int .i64 m.g,m.dc,m.dv,m.dp,m.ds,.bool m.b]):=by rw [fr.2 _ (by simp only [k4.next_push];omega) (by simp)];simp (disch:=(first|exact Rf.mk rfl|with_reducible assumption|omega|((repeat (first|rw [nP]|rw [nS]|rw [M7]))<;>omega)|decide)) only [go_sem,↓reduceIte]
 have g1:s1.get (s0.next+1)=some (.cells [x.da,x.dv,x.dc,.int .i64 st.hold]):=by rw [fr.2 _ (by simp only [k4.next_push];omega) (by simp)];simp (disch:=(first|exact Rf.mk rfl|with_reducible assumption|omega|((repeat (first|rw [nP]|rw [nS]|rw [M7]))<;>omega)|decide)) only [go_sem,↓reduceIte]
 have g2:s1.get (s0.next+1+1)=some (.cells [.int .i64 (v.kind:Int),.int .i64 (v.proc:Int),.int .i64 (v.edge:Int),.int .i64 (v.chan:Int)]):=by rw [fr.2 _ (by simp only [k4.next_push];omega) (by simp)];simp (disch:=(first|exact Rf.mk rfl|with_reducible assumption|omega|((repeat (first|rw [nP]|rw [nS]|rw [M7]))<;>omega)|decide)) only [go_sem,↓reduceIte]
 have g3:s1.get (s0.next+1+1+1)=some (.cells [.nils,.nils,.nils,.int .i64 0]):=by rw [fr.2 _ (by simp only [k4.next_push];omega) (by simp)];simp (disch:=(first|exact Rf.mk rfl|with_reducible assumption|omega|((repeat (first|rw [nP]|rw [nS]|rw [M7]))<;>omega)|decide)) only [go_sem,↓reduceIte]
 clear fr hm1
 have H':=H
 obtain ⟨hil,ga,gv,gc,gq,inj,av,na,nv⟩:=H'
 have oc:M4 dC=true:=by rcases gc with ⟨_,rfl⟩ | ⟨c,rfl,_⟩<;>rfl
 have la:=M1 ga
 have lv:=M1 gv
 rcases h6 with h6 | h6 | h6 | h6
 ·have hex:=heo.ex0 (by omega)
  have e2:mo.edgeS st v.proc (pAt mo.procs v.proc) E=⟨(st.at'.set v.proc E.to),st.vars,st.chans,-1⟩:=by unfold Mo.edgeS Mo.actS;rw [if_neg (by omega),if_neg (by omega),if_neg (by omega)];rfl
  refine zY (aN g0 (aN g1 (aN g2 (aN g3 (aN ga (aN gv (aN hk (aN hp (aN he (aN hpa (aN hE (aN h6 (aN om (aN ox (aN oc (aN hex hkeep)))))))))))))))) ?_
  refine a3w ⟨a,w,dC,ids,rfl,?_,⟨?_,fun j hj _=>?_⟩⟩
  ·rw [e2]
   exact H.put (A:=(st.at'.set v.proc E.to)) (V:=st.vars) (hd:=-1) (by omega) (by simp (disch:=(first|exact Rf.mk rfl|with_reducible assumption|omega|((repeat (first|rw [nP]|rw [nS]|rw [M7]))<;>omega)|decide)) only [go_sem,↓reduceIte,ga]) (by simp (disch:=(first|exact Rf.mk rfl|with_reducible assumption|omega|((repeat (first|rw [nP]|rw [nS]|rw [M7]))<;>omega)|decide)) only [go_sem,↓reduceIte,gv]) (fun j h1 h2 h3 h4=>by simp (disch:=(first|exact Rf.mk rfl|with_reducible assumption|omega|((repeat (first|rw [nP]|rw [nS]|rw [M7]))<;>omega)|decide)) only [go_sem,↓reduceIte])
  ·simp only [k4.next_push,k4.next_set];omega
  ·have k1:j≠a:=by omega
   have k2:j≠w:=by omega
   have k3:=fr0 j hj
   exact zZ k3
 ·obtain ⟨n,hn1,hn2,hn3⟩:=heo.ex1 (by omega)
  have hval:=a3u hm ho hx hp hn2 hn3
  have hxn:(mo.ex (pAt mo.procs v.proc) st E 0).1=(mo.val (W7 (pAt mo.procs v.proc)) st n).1:=by unfold Mo.ex;rw [hn1];simp
  have h8n:=a6O hx.e (t:=mo.tree) (ch:=mo.ch) (look:=W7 (pAt mo.procs v.proc)) (mo.tree.length+1) n
  have hb:-128<=(mo.val (W7 (pAt mo.procs v.proc)) st n).1/\(mo.val (W7 (pAt mo.procs v.proc)) st n).1<=127:=h8n
  obtain ⟨q,hq0,hq1⟩:=heo.v1 (by omega)
  have hq:=hpo.var q hq0
  have hq':q<st.vars.length:=by omega
  have hmv:=hm.v
  have hw:=hf.vr _ (a3T hq)
  have hwt:=fun z (h1:-4294967296<=z) h2=>b9g (x:=z) h1 h2 hw.1 hw.2.1
  have e2:mo.edgeS st v.proc (pAt mo.procs v.proc) E=⟨(st.at'.set v.proc E.to),(st.vars.set q (N8 (mo.val (W7 (pAt mo.procs v.proc)) st n).1 (vAt mo.vars q).width.toNat)),st.chans,-1⟩:=by unfold Mo.edgeS Mo.actS;rw [if_pos h6,hq1,hxn,Int.toNat_natCast];rfl
  refine zY (aN g0 (aN g1 (aN g2 (aN g3 (aN ga (aN gv (aN hk (aN hp (aN he (aN hpa (aN hE (aN h6 (aN om (aN ox (aN oc (aN hn1 (aN hval (aN hq1 (aN hq (aN hq' (aN hwt hkeep))))))))))))))))))))) ?_
  refine a3w ⟨a,w,dC,ids,rfl,?_,⟨?_,fun j hj _=>?_⟩⟩
  ·rw [e2]
   exact H.put (A:=(st.at'.set v.proc E.to)) (V:=(st.vars.set q (N8 (mo.val (W7 (pAt mo.procs v.proc)) st n).1 (vAt mo.vars q).width.toNat))) (hd:=-1) (by omega) (by simp (disch:=(first|exact Rf.mk rfl|with_reducible assumption|omega|((repeat (first|rw [nP]|rw [nS]|rw [M7]))<;>omega)|decide)) only [go_sem,↓reduceIte,ga]) (by simp (disch:=(first|exact Rf.mk rfl|with_reducible assumption|omega|((repeat (first|rw [nP]|rw [nS]|rw [M7]))<;>omega)|decide)) only [go_sem,↓reduceIte,gv]) (fun j h1 h2 h3 h4=>by simp (disch:=(first|exact Rf.mk rfl|with_reducible assumption|omega|((repeat (first|rw [nP]|rw [nS]|rw [M7]))<;>omega)|decide)) only [go_sem,↓reduceIte])
  ·simp only [k4.next_push,k4.next_set];omega
  ·have k1:j≠a:=by omega
   have k2:j≠w:=by omega
   have k3:=fr0 j hj
   exact zZ k3
 ·obtain ⟨n,hn1,hn2,hn3⟩:=heo.ex1 (by omega)
  have hval:=a3u hm ho hx hp hn2 hn3
  have hxn:(mo.ex (pAt mo.procs v.proc) st E 0).1=(mo.val (W7 (pAt mo.procs v.proc)) st n).1:=by unfold Mo.ex;rw [hn1];simp
  have h8n:=a6O hx.e (t:=mo.tree) (ch:=mo.ch) (look:=W7 (pAt mo.procs v.proc)) (mo.tree.length+1) n
  have e2:mo.edgeS st v.proc (pAt mo.procs v.proc) E=⟨(st.at'.set v.proc E.to),st.vars,st.chans,-1⟩:=by unfold Mo.edgeS Mo.actS;rw [if_neg (by omega),if_neg (by omega),if_neg (by omega)];rfl
  refine zY (aN g0 (aN g1 (aN g2 (aN g3 (aN ga (aN gv (aN hk (aN hp (aN he (aN hpa (aN hE (aN h6 (aN om (aN ox (aN oc (aN hn1 (aN hval hkeep))))))))))))))))) ?_
  refine a3w ⟨a,w,dC,ids,rfl,?_,⟨?_,fun j hj _=>?_⟩⟩
  ·rw [e2]
   exact H.put (A:=(st.at'.set v.proc E.to)) (V:=st.vars) (hd:=-1) (by omega) (by simp (disch:=(first|exact Rf.mk rfl|with_reducible assumption|omega|((repeat (first|rw [nP]|rw [nS]|rw [M7]))<;>omega)|decide)) only [go_sem,↓reduceIte,ga]) (by simp (disch:=(first|exact Rf.mk rfl|with_reducible assumption|omega|((repeat (first|rw [nP]|rw [nS]|rw [M7]))<;>omega)|decide)) only [go_sem,↓reduceIte,gv]) (fun j h1 h2 h3 h4=>by simp (disch:=(first|exact Rf.mk rfl|with_reducible assumption|omega|((repeat (first|rw [nP]|rw [nS]|rw [M7]))<;>omega)|decide)) only [go_sem,↓reduceIte])
  ·simp only [k4.next_push,k4.next_set];omega
  ·have k1:j≠a:=by omega
   have k2:j≠w:=by omega
   have k3:=fr0 j hj
   exact zZ k3
 ·obtain ⟨n,hn1,hn2,hn3⟩:=heo.ex1 (by omega)
  have hval:=a3u hm ho hx hp hn2 hn3
  have hxn:(mo.ex (pAt mo.procs v.proc) st E 0).1=(mo.val (W7 (pAt mo.procs v.proc)) st n).1:=by unfold Mo.ex;rw [hn1];simp
  have h8n:=a6O hx.e (t:=mo.tree) (ch:=mo.ch) (look:=W7 (pAt mo.procs v.proc)) (mo.tree.length+1) n
  have e2:mo.edgeS st v.proc (pAt mo.procs v.proc) E=⟨(st.at'.set v.proc E.to),st.vars,st.chans,-1⟩:=by unfold Mo.edgeS Mo.actS;rw [if_neg (by omega),if_neg (by omega),if_neg (by omega)];rfl
  refine zY (aN g0 (aN g1 (aN g2 (aN g3 (aN ga (aN gv (aN hk (aN hp (aN he (aN hpa (aN hE (aN h6 (aN om (aN ox (aN oc (aN hn1 (aN hval hkeep))))))))))))))))) ?_
  refine a3w ⟨a,w,dC,ids,rfl,?_,⟨?_,fun j hj _=>?_⟩⟩
  ·rw [e2]
   exact H.put (A:=(st.at'.set v.proc E.to)) (V:=st.vars) (hd:=-1) (by omega) (by simp (disch:=(first|exact Rf.mk rfl|with_reducible assumption|omega|((repeat (first|rw [nP]|rw [nS]|rw [M7]))<;>omega)|decide)) only [go_sem,↓reduceIte,ga]) (by simp (disch:=(first|exact Rf.mk rfl|with_reducible assumption|omega|((repeat (first|rw [nP]|rw [nS]|rw [M7]))<;>omega)|decide)) only [go_sem,↓reduceIte,gv]) (fun j h1 h2 h3 h4=>by simp (disch:=(first|exact Rf.mk rfl|with_reducible assumption|omega|((repeat (first|rw [nP]|rw [nS]|rw [M7]))<;>omega)|decide)) only [go_sem,↓reduceIte])
  ·simp only [k4.next_push,k4.next_set];omega
  ·have k1:j≠a:=by omega
   have k2:j≠w:=by omega
   have k3:=fr0 j hj
   exact zZ k3
end Go.Proofs.YtnjlhebkhjcagaaGreat
namespace Go.V
def RdB (s:k4) (d:D) (l:List Bool):Prop:=FL 1 d (P2 l)∨∃id off cs,d=.arr id off l.length 1/\s.get id=some (.cells cs)/\off+l.length<=cs.length/\(cs.drop off).take l.length=a0W l
theorem RdB.one {s:k4} {d:D} {l:List Bool} (h:RdB s d l):M4 d=true:=by
 rcases h with h | ⟨id,off,cs,rfl,_⟩
 ·exact h.one
 ·rfl
theorem RdB.len {s:k4} {d:D} {l:List Bool} (h:RdB s d l):T8 false d=some (.int .i64 (l.length:Int)):=by
 rcases h with h | ⟨id,off,cs,rfl,_⟩
 ·exact b2P h
 ·rfl
theorem RdB.stay {s s':k4} {d:D} {l:List Bool} (h:RdB s d l) (hs:∀id off len,d=.arr id off len 1->s'.get id=s.get id):RdB s' d l:=by
 rcases h with h | ⟨id,off,cs,rfl,h1,h2,h3⟩
 ·exact .inl h
 ·exact .inr ⟨id,off,cs,rfl,by rw [hs id off _ rfl,h1],h2,h3⟩
theorem RdB.take {s:k4} {d:D} {l:List Bool} (h:RdB s d l) {n:Nat} (hn:n<=l.length) {k:IntKind}:∃d',a0S (some 1) d none (some (.int k (n:Int)))=some d'/\RdB s d' (l.take n):=by
 rcases h with h | ⟨id,off,cs,rfl,h1,h2,h3⟩
 ·obtain ⟨d',e1,e2⟩:=FL.take h (n:=n) (by simpa using hn) (k:=k)
  exact ⟨d',e1,.inl (by rw [b5i];exact e2)⟩
 ·by_cases h0:0<l.length
  ·refine ⟨.arr id off n 1,by simp [a0S,a0f,hn];intro h;subst h;simp at h0,.inr ⟨id,off,cs,by simp [Nat.min_eq_left hn],h1,by simp;omega,?_⟩⟩
   have:(l.take n).length=n:=by simp;omega
   rw [this]
   have e:=congrArg (List.take n) h3
   rw [List.take_take,Nat.min_eq_left hn] at e
   rw [e];simp [a0W,List.map_take]
  ·have e:l=[]:=List.eq_nil_of_length_eq_zero (by omega)
   subst e
   obtain rfl:n=0:=by simpa using hn
   exact ⟨.lst 1 [],by simp [a0S,a0f],.inl (.inr rfl)⟩
theorem RdB.drop {s:k4} {d:D} {l:List Bool} (h:RdB s d l) {n:Nat} (hn:n<=l.length) {k:IntKind}:∃d',a0S (some 1) d (some (.int k (n:Int))) none=some d'/\RdB s d' (l.drop n):=by
 rcases h with h | ⟨id,off,cs,rfl,h1,h2,h3⟩
 ·obtain ⟨d',e1,e2⟩:=FL.drop h (n:=n) (by simpa using hn) (k:=k)
  exact ⟨d',e1,.inl (by rw [b68];exact e2)⟩
 ·by_cases h0:n<l.length
  ·refine ⟨.arr id (off+n) (l.length-n) 1,by simp [a0S,a0f,h0,hn],.inr ⟨id,off+n,cs,by simp,h1,by simp;omega,?_⟩⟩
   have e:=congrArg (List.drop n) h3
   rw [List.drop_take,List.drop_drop] at e
   rw [List.length_drop,e];simp [a0W,List.map_drop]
  ·have e:l.drop n=[]:=List.drop_eq_nil_of_le (by omega)
   rw [e]
   exact ⟨.lst 1 [],by simp [a0S,a0f,hn,h0],.inl (.inr rfl)⟩
theorem RdB.frz {s:k4} {d:D} {l:List Bool} (h:RdB s d l) (n:Nat):∃d',ice s.get (n+2) d=some d'/\FL 1 d' (P2 l):=by
 rcases h with h | ⟨id,off,cs,rfl,h1,h2,h3⟩
 ·rcases h with ⟨rfl,h⟩ | rfl
  ·exact ⟨.nils,rfl,.inl ⟨rfl,h⟩⟩
  ·exact ⟨_,rfl,.inr rfl⟩
 ·refine ⟨.lst 1 (P2 l),?_,.inr rfl⟩
  have e1:W4 s.get (.arr id off l.length 1)=some (a0W l):=by
   simp only [W4,h1,Nat.mul_one,h3]
   rw [if_pos h2]
  have e2:M6 (ice s.get (n+1)) (a0W l)=some (a0W l):=a5n (by simp [a0W,Y2])
  simp only [ice,e1,e2,Option.map_some]
  have e3:=a6b (a0W l)
  rw [b3J] at e3
  rw [e3]
  simp [a0W,P2]
theorem RdB.idx {s:k4} {d:D} {l:List Bool} (h:RdB s d l) {i:Nat} (hi:i<l.length) {k:IntKind}:∃p,M8 1 d (.int k (i:Int))=some p/\ldV s.get none p=some (.bool (aB l i)):=by
 rcases h with h | ⟨id,off,cs,rfl,h1,h2,h3⟩
 ·exact ⟨_,c4q h hi,rfl⟩
 ·refine ⟨.ptr id (off+i),?_,?_⟩
  ·have:(i:Int)<(l.length:Int):=by omega
   simp only [M8]
   rw [if_pos ⟨trivial,by omega,this⟩]
   simp
  ·have e:cs[off+i]?=some (.bool (aB l i)):=by
    have:=congrArg (fun x=>x[i]?) h3
    simp only [List.getElem?_take,hi,if_true,List.getElem?_drop] at this
    rw [this,b14 hi]
   simp only [ldV,h1,a0a,e]
   try rfl
theorem RdB.lt {s:k4} {d:D} {l:List Bool} (h:RdB s d l):∀id off len,d=.arr id off len 1->id<s.next:=by
 intro id off len e
 rcases h with h | ⟨id',off',cs,e',h1,_⟩
 ·subst e;rcases h with ⟨h,_⟩ | h<;>cases h
 ·rw [e] at e';cases e';exact M1 h1
def Rdq (s:k4) (r:Nat) (l:List Bool) (src:Nat->Prop):Prop:=∃d,s.get r=some (.cells [d])/\RdB s d l/\∀id off len,d=.arr id off len 1->src id
theorem Rdq.fr {s s':k4} {l:List Bool} {r:Nat} {src:Nat->Prop} {ids:List Nat} (h:Rdq s r l src) (hf:Fr ids s s') (h1:r∉ids) (h2:∀i,src i->i∉ids):Rdq s' r l src:=by
 obtain ⟨d,g,k,q⟩:=h
 refine ⟨d,by rw [hf.2 _ (M1 g) h1,g],?_,q⟩
 rcases k with k | ⟨id,off,cs,rfl,k1,k2,k3⟩
 ·exact .inl k
 ·exact .inr ⟨id,off,cs,rfl,by rw [hf.2 _ (M1 k1) (h2 id (q id off _ rfl)),k1],k2,k3⟩
structure UnN (n:Nat) (mcs:List D) (s0 s:k4) (dA dV dC:D) (W:Hs):Prop where
 hp:Hp s ((n+3,[dA,dV,dC,.int .i64 0])::(n+1,[.nils,.nils,.nils,.int .i64 0])::W) [(n,mcs)]
 nw:∀e∈W,n+4<=e.1
 old:∀j,j<n->s.get j=s0.get j
theorem UnN.lt {n:Nat} {mcs:List D} {s0 s:k4} {dA dV dC:D} {W:Hs} (h:UnN n mcs s0 s dA dV dC W):n+3<s.next:=M1 (h.hp.w (n+3,[dA,dV,dC,.int .i64 0]) (by simp))
theorem UnN.fr {n:Nat} {mcs:List D} {s0 s s':k4} {dA dV dC:D} {W:Hs} {ids:List Nat} (h:UnN n mcs s0 s dA dV dC W) (hf:Fr ids s s') (hi:∀i∈ids,i=n+2):UnN n mcs s0 s' dA dV dC W :=
 ⟨h.hp.frI hf fun w hw hn=>by
  have:=hi _ hn
  simp only [List.cons_append,List.mem_cons,List.mem_append,List.not_mem_nil,or_false] at hw
  rcases hw with rfl | rfl | hw | rfl
  ·simp at this
  ·simp at this
  ·have:=h.nw w hw;omega
  ·simp at this,h.nw,fun j hj=>by rw [hf.2 j (by have:=h.lt;omega) (fun hc=>by have:=hi j hc;omega),h.old j hj]⟩
structure StU (s:k4) (x:StD) (st:Stt):Prop where
 a:SN s 1 x.da (O5 st.at')
 v:SN s 1 x.dv (U8 st.vars)
 c:∃qs:List D,SN s 1 x.dc (qs.map fun q=>[q])/\qs.length=st.chans.length/\∀j,j<qs.length->ChR s (dAt qs j) (cAt st.chans j)
theorem FL.sn {s:k4} {n:Nat} {d:D} {rows:List (List D)} (h:FL n d rows):SN s n d rows:=by
 rcases h with ⟨rfl,h⟩ | rfl
 ·exact .inl ⟨rfl,h⟩
 ·exact .inr (.inr rfl)
theorem FL.chr {s:k4} {d:D} {l:List Int} (h:FI d l):ChR s d l:=by
 rcases h with ⟨rfl,h⟩ | rfl
 ·exact .inl ⟨rfl,by simpa [U8] using h⟩
 ·exact .inr (.inl rfl)
theorem StF.u {s:k4} {x:StD} {st:Stt} (h:StF x st):StU s x st:=by
 obtain ⟨ds,h1,h2,h3⟩:=h.c
 refine ⟨h.a.sn,FL.sn h.v,ds,h1.sn,h2,fun j hj=>?_⟩
 rw [a5S hj,a1O (by omega)]
 exact FL.chr (h3 j hj (by omega))
theorem a0t.u {s:k4} {cs:List D} {st:Stt} (h:a0t s cs st):∃x:StD,cs=[x.da,x.dv,x.dc,.int .i64 st.hold]/\StU s x st:=by
 obtain ⟨dA,dV,dC,qs,rfl,hA,hV,hC,hn,hl,hq⟩:=h
 exact ⟨⟨dA,dV,dC⟩,rfl,hA,hV,qs,hC,hl,fun j hj=>by
  rw [a5S hj,a1O (by omega)]
  exact hq j hj (by omega)⟩
theorem ChR.stay {s s':k4} {q:D} {l:List Int} (h:ChR s q l) (hf:Fr [] s s'):ChR s' q l:=by
 rcases h with h | h | ⟨id,off,cs,rfl,h1,h2,h3⟩
 ·exact .inl h
 ·exact .inr (.inl h)
 ·exact .inr (.inr ⟨id,off,cs,rfl,by rw [hf.2 _ (M1 h1) (by simp),h1],h2,h3⟩)
theorem StU.stay {s s':k4} {x:StD} {st:Stt} (h:StU s x st) (hf:Fr [] s s'):StU s' x st:=by
 obtain ⟨a,v,qs,h1,h2,h3⟩:=h
 exact ⟨a.stay hf,v.stay hf,qs,h1.stay hf,h2,fun j hj=>(h3 j hj).stay hf⟩
theorem StU.ones {s:k4} {x:StD} {st:Stt} (h:StU s x st):M4 x.da=true/\M4 x.dv=true/\M4 x.dc=true:=by
 obtain ⟨a,v,qs,h1,_⟩:=h
 exact ⟨a.one,v.one,h1.one⟩
theorem ChR.len {s:k4} {q:D} {l:List Int} (h:ChR s q l):T8 false q=some (.int .i64 (l.length:Int)):=by
 rcases h with ⟨rfl,rfl⟩ | rfl | ⟨id,off,cs,rfl,_⟩
 ·rfl
 ·exact b4m (.inr rfl)
 ·rfl
theorem a0t.stay {s s':k4} {cs:List D} {st:Stt} (h:a0t s cs st) (hf:Fr [] s s'):a0t s' cs st:=by
 obtain ⟨dA,dV,dC,qs,rfl,hA,hV,hC,hn,hl,hq⟩:=h
 exact ⟨dA,dV,dC,qs,rfl,hA.stay hf,hV.stay hf,hC.stay hf,hn,hl,fun j a b=>(hq j a b).stay hf⟩
end Go.V
namespace Go.Proofs.YtnjlhebkhjcagaaGreat
open Go.V
set_option maxRecDepth 100000
set_option maxHeartbeats 4000000
variable {m:MdX} {mo:Mo} {ps:List (Pr×PrD)} {x:StD} {st:Stt}
end Go.Proofs.YtnjlhebkhjcagaaGreat
namespace Go.V
variable {mo:Mo} {s:Stt}
def a7c (mo:Mo) (s:Stt):Prop:=∀p,p<mo.procs.length->0<(pAt mo.procs p).copy->a3a (pAt mo.procs p)=true->nAt s.at' (p-1)=0->nAt s.at' p=0
theorem a7c.step (hC:MoC mo) (hI:Fit mo s) (hO:a7c mo s) {am:Bool} {v:Mv} (hv:v∈mo.someM am s):a7c mo (mo.doS s v):=by
 have hm:=a7x hv
 have hfree:mo.freeM s v=true:=by unfold Mo.someM at hv;exact (List.mem_filter.1 hv).2
 rcases a4Z.1 hm with ⟨k0,_,hp,he,_,_⟩ | ⟨_,_,c⟩
 ·have hd:mo.doS s v=mo.doE s v.proc (pAt mo.procs v.proc) (eAt (pAt mo.procs v.proc).edges v.edge):=by
   unfold Mo.doS;rw [if_neg (by omega),if_neg (by omega)]
  have hem:=a1N he
  have hl:=hI.at'
  have hat:(mo.doS s v).at'=s.at'.set v.proc (eAt (pAt mo.procs v.proc).edges v.edge).to:=by rw [hd];exact b1d
  intro p hpl hc hb h0
  obtain ⟨q,n,lo,rfl,hcop⟩:=hC.tw p hpl hc
  rw [hat,a4G (by omega)] at h0 ⊢
  simp only [Nat.add_sub_cancel] at h0
  have hb0:=hb
  rw [b40 hcop] at hb0
  by_cases c:q=v.proc
  ·exfalso
   rw [if_pos c] at h0
   rw [c] at hb0
   unfold a3a at hb0
   have:=List.all_eq_true.1 hb0 _ hem
   simp [h0] at this
  ·rw [if_neg c] at h0
   have h1:=hO (q+1) hpl hc hb (by simpa using h0)
   by_cases c1:q+1=v.proc
   ·exfalso
    unfold Mo.freeM at hfree
    have:mo.barred s v.proc=true:=by
     rw [<- c1]
     unfold Mo.barred
     simp [hc,hb,h1,h0]
    rw [this,k0] at hfree
    simp at hfree
   ·rw [if_neg c1];exact h1
 ·have hk:=a85 c
  have e1:(mo.doS s v).at'=s.at':=by
   unfold Mo.doS
   split
   ·rfl
   ·rw [if_pos (by omega)]
  intro p hpl hc hb h0
  rw [e1] at h0 ⊢
  exact hO p hpl hc hb h0
structure a8x (mo:Mo) (s:Stt):Prop where
 inv:a3d mo s
 un:a7h mo s
 ord:a7c mo s
theorem a8x.step (ho:P7 mo) (hf:a1d mo) (hq:MoQ mo) (hC:MoC mo) (h:a8x mo s) {am:Bool} {v:Mv} (hv:v∈mo.someM am s):a8x mo (mo.doS s v) :=
 ⟨h.inv.step ho hf (a7x hv),h.un.step ho hq h.inv.fit (a7x hv),h.ord.step hC h.inv.fit hv⟩
end Go.V
namespace Go.Proofs.YtnjlhebkhjcagaaGreat
open Go.V
set_option maxRecDepth 100000
set_option maxHeartbeats 4000000
variable {m:MdX} {mo:Mo} {ps:List (Pr×PrD)} {x:StD} {st:Stt}
end Go.Proofs.YtnjlhebkhjcagaaGreat
namespace Go.Proofs.YtnjlhebkhjcagaaGreat
open Go.V
set_option maxRecDepth 100000
set_option maxHeartbeats 4000000
variable {m:MdX} {mo:Mo} {ps:List (Pr×PrD)} {x:StD} {st:Stt}
end Go.Proofs.YtnjlhebkhjcagaaGreat
namespace Go.Proofs.YtnjlhebkhjcagaaGreat
open Go.V
set_option maxRecDepth 100000
set_option maxHeartbeats 4000000
variable {m:MdX} {mo:Mo} {ps:List (Pr×PrD)} {x:StD} {st:Stt}
theorem c1f (ho:P7 mo) {y:StD} {t:Stt} (hx:a2z mo x st) (hy:a2z mo y t):Eqc vfs 24 [.agg [x.da,x.dv,x.dc,.int .i64 st.hold],.agg [y.da,y.dv,y.dc,.int .i64 t.hold]] (.bool (decide (st=t))):=by
 have h1:=ho.np
 have h2:=ho.nv
 have h3:=ho.nc
 have:=hx.fit
 exact b7P hx.f hy.f (by rw [this.at'];omega) (by rw [this.vars];omega) (fun l hl=>by have:=(hx.e.c l hl).1;omega) (by rw [this.chans];omega)
end Go.Proofs.YtnjlhebkhjcagaaGreat
namespace Go.Proofs.YtnjlhebkhjcagaaGreat
open Go.V
set_option maxRecDepth 100000
set_option maxHeartbeats 4000000
variable {m:MdX} {mo:Mo} {ps:List (Pr×PrD)} {x:StD} {st:Stt}
theorem b7b {d0 d1:D} {t:List Nd} {raw:List Int} (hT:N2 d0 t) (hd:FI d1 raw) (hraw:∀n∈raw,a1C n):EvP vfs 5 [d0,d1] k4.empty fun r _=>r=.bool true:=by
 have haw:Eqc vfs 11 [] (.bool true):=a2s c4j rfl
 have pT:PZ d0:=hT.fl.pz
 have pd:=a4o hd
 have oT:=FL.one hT.fl
 have od:=FL.one hd
 obtain ⟨d',h1,h2⟩:=c2X hT
 by_cases hl:(60:Int)<(raw.length:Int)
 ·refine a2H (vf:=vf5) rfl ?_
  unfold vf5;refine zF ?_
  refine zY (aN haw (aN hd hl)) ?_
  exact rfl
 rcases h2 with rfl | ⟨m,ps,rfl,hR,hS,hY,hm⟩
 ·refine a2H (vf:=vf5) rfl ?_
  unfold vf5;refine zF ?_
  refine zY (aN haw (aN hd (aN hl (aN h1 pT)))) ?_
  exact rfl
 have ho:=b6Z hR hS hY
 have hf:=b52 hR hY
 have hq:=c1r hR hS
 have hqs:=c2k hR hS ho
 generalize S5 t=mo at *
 have om:=hm.ones
 have fm:=a3e hm
 have hnp:=ho.np
 have hnv:=ho.nv
 obtain ⟨x,st,hh,hx,hold⟩:=b6s hm ho hf hd hraw
 have fx:=a5g hx.f
 have ox:=hx.f.ones
 have hxa:=hx.f.a
 have hxv:=hx.f.v
 have hal:=hx.fit.at'
 have hvl:=hx.fit.vars
 have hml:=b9P ho (st:=st)
 obtain ⟨da,ha1,ha2⟩:=b8U hm ho hx
 have ha1:=Z5 ha1
 have hss:=b33 hm ho hx
 unfold N1 at h1
 refine a2H (vf:=vf5) rfl ?_
 unfold vf5;refine zF ?_
 refine zY (aN haw (aN hd (aN hl (aN h1 (aN pT (aN pd (aN om (aN ox (aN fm (aN fx hh)))))))))) ?_
 refine a0d [0,1,5,6,7,20,28] 0 mo.procs.length (fun p f s=>f 8=.int .i64 (p:Int)/\s.get 0=some (.cells [m.dt,.int .i64 m.g,m.dc,m.dv,m.dp,m.ds,.bool m.b])/\s.get 1=some (.cells [x.da,x.dv,x.dc,.int .i64 st.hold])) (.mk rfl) (by omega) ⟨rfl,?_,?_⟩ ?_
 ·exact zZ0
 ·exact zZ0
 rintro p f s hp ⟨hP,g0,g1⟩
 have l0:=M1 g0
 have l1:=M1 g1
 by_cases cp:p<mo.procs.length
 rotate_left
 ·refine zY (aN hP (aN cp (aN g0 om))) ?_
  exact rfl
 have cp':p<st.at'.length:=by omega
 have hqb:=c1v hm ho hq (k:=nAt st.at' p) cp
 cases hqv:mo.quiet p (nAt st.at' p)
 ·rw [hqv] at hqb
  refine zY (aN hP (aN cp (aN cp' (aN g0 (aN g1 (aN om (aN ox (aN fm hqb)))))))) ?_
  trivial
 rw [hqv] at hqb
 have hQP:=a9A ho hqv
 refine zY (aN hP (aN cp (aN cp' (aN g0 (aN g1 (aN om (aN ox (aN fm (aN fx (aN hqb ha1)))))))))) ?_
 refine a0d [0,1,5,6,7,8,10,20,28,36,47,138] 0 (mo.moves st).length (fun i f s=>f 11=.int .i64 (i:Int)/\f 9=.int .i64 ((((mo.moves st).take i).filter (isP p)).length:Int)/\s.get 0=some (.cells [m.dt,.int .i64 m.g,m.dc,m.dv,m.dp,m.ds,.bool m.b])/\s.get 1=some (.cells [x.da,x.dv,x.dc,.int .i64 st.hold])) (.mk rfl) (by omega) ⟨rfl,rfl,g0,g1⟩ ?_
 clear g0 g1 l0 l1
 rintro i f s hi ⟨hI,hN,g0,g1⟩
 have l0:=M1 g0
 have l1:=M1 g1
 by_cases ci:i<(mo.moves st).length
 rotate_left
 ·obtain rfl:i=(mo.moves st).length:=by omega
  rw [List.take_length] at hN
  have hcnt:¬ (((mo.moves st).filter (isP p)).length:Int)=0:=by
   obtain ⟨v,v1,v2,v3⟩:=c4D hqs ho hqv hold
   have:=List.length_pos_of_mem (List.mem_filter.2 ⟨v1,show isP p v=true by unfold isP;simp [v2,v3]⟩)
   omega
  refine zY (aN hI (aN hN (aN ci (aN ha2 hcnt)))) ?_
  exact ⟨cp,g0,g1⟩
 have hvm:=b7e ci
 have hsu:=c27 (P:=isP p) ci
 have hfl:=b8k (l:=mo.moves st) (P:=isP p) (j:=i)
 by_cases k0:(a0v (mo.moves st) i).kind=0
 rotate_left
 ·have k0':¬ ((a0v (mo.moves st) i).kind:Int)=0:=by omega
  have:isP p (a0v (mo.moves st) i)=false:=by unfold isP;rw [decide_eq_false k0,Bool.false_and]
  rw [this,if_neg (by simp),List.append_nil] at hsu
  refine zY (aN hI (aN hN (aN ci (aN ha2 k0')))) ?_
  exact ⟨by rw [hsu],g0,g1⟩
 have k0':((a0v (mo.moves st) i).kind:Int)=0:=by omega
 by_cases k1:(a0v (mo.moves st) i).proc=p
 rotate_left
 ·have:isP p (a0v (mo.moves st) i)=false:=by unfold isP;rw [decide_eq_false k1,Bool.and_false]
  rw [this,if_neg (by simp),List.append_nil] at hsu
  have k1':¬ (p:Int)=((a0v (mo.moves st) i).proc:Int):=by omega
  have k1'':¬ ((a0v (mo.moves st) i).proc:Int)=(p:Int):=by omega
  refine zY (aN hI (aN hN (aN ci (aN ha2 (aN k0' (aN k1' k1'')))))) ?_
  exact ⟨by rw [hsu],g0,g1⟩
 have hip:isP p (a0v (mo.moves st) i)=true:=by unfold isP;rw [decide_eq_true k0,decide_eq_true k1];rfl
 rw [hip,if_pos rfl] at hsu
 have hwr:IntKind.i64.wrap ((((mo.moves st).take i).filter (isP p)).length+1:Int)=(((mo.moves st).take (i+1)).filter (isP p)).length:=by
  rw [hsu,List.length_append,P1 (by omega) (by omega)]
  simp
 rcases a4Z.1 hvm with ⟨_,_,b1,b2,b3,_⟩ | ⟨_,_,y⟩
 rotate_left
 ·have:=a85 y;omega
 have hQE:=hQP.ed _ (a1N (k1▸b2)) (by rw [<- k1,<- b7z b3])
 rw [<- k1] at hQE
 refine zY (aN hI (aN hN (aN hP (aN ci (aN ha2 (aN k0' (aN k1 (aN hwr (aN g0 (aN g1 (aN om ox))))))))))) ?_
 obtain ⟨VV,hdo,hVl,hVo⟩:=b49 ho (st:=st) k0 b1 b2 hQE
 have hsf:=c3t ho (st:=st) k0 b1 b2 hQE hold
 refine a9C (b5L hm ho hf hx k0 b1 b2 hQE) (by rw [k1,k0];rfl) ?_
 rintro r s1 ⟨a,w,dC,ids,rfl,H,fr⟩
 have hdf:=b0j ho hf hx.fit (b1s hvm)
 have hd8:=b05 hf hdf
 rw [hdo] at H hdf hd8 hsf
 generalize (eAt (pAt mo.procs (a0v (mo.moves st) i).proc).edges (a0v (mo.moves st) i).edge).to=to at *
 rw [k1] at H hdf hd8 hsf hVo
 have hs:a0t s1 [.arr a 0 st.at'.length 1,.arr w 0 st.vars.length 1,dC,.int .i64 (-1)] ⟨st.at'.set p to,VV,st.chans,-1⟩:=by
  have:=H.same (S:=s1) (A:=st.at'.set p to) (V:=VV) (hd:=-1) rfl rfl H.ga H.gv (fun _ _ _ _ _=>rfl)
  simpa [hVl] using this
 have j0:=fr.2 0 l0 (by simp)
 rw [g0] at j0
 have j1:=fr.2 1 l1 (by simp)
 rw [g1] at j1
 have m0:=M1 j0
 have m1:=M1 j1
 have na:=H.na
 have nw:=H.nv
 have ga:=H.ga
 have gw:=H.gv
 have aw:=H.av
 have la:=M1 ga
 have lw:=M1 gw
 have oc:M4 dC=true:=by rcases H.gc with ⟨_,rfl⟩ | ⟨c,rfl,_⟩<;>rfl
 have hbx:=a4b (s:=s1) (z:=.cells [.nils,.nils,.nils,.int .i64 0]) (o:=.cells [.arr a 0 st.at'.length 1,.arr w 0 st.vars.length 1,dC,.int .i64 (-1)])
 obtain ⟨y,y1,y2⟩:=(hs.stay hbx).frz
 have hic:∀l,M6 (V.ice ((s1.push (.cells [.nils,.nils,.nils,.int .i64 0])).set s1.next (some (.cells [.arr a 0 st.at'.length 1,.arr w 0 st.vars.length 1,dC,.int .i64 (-1)]))).get 20) (.agg [.arr a 0 st.at'.length 1,.arr w 0 st.vars.length 1,dC,.int .i64 (-1)]::l)=(M6 (V.ice ((s1.push (.cells [.nils,.nils,.nils,.int .i64 0])).set s1.next (some (.cells [.arr a 0 st.at'.length 1,.arr w 0 st.vars.length 1,dC,.int .i64 (-1)]))).get 20) l).map (.agg [y.da,y.dv,y.dc,.int .i64 (-1)]::·):=fun l=>a9a y1
 have hsy:=b33 hm ho (x:=y) ⟨y2,hd8,hdf⟩
 rw [hsf] at hsy
 have hp0:p<(st.at'.set p to).length:=by simpa using cp'
 have hA:(st.at'.set p to).set p (nAt st.at' p)=st.at':=by
  rw [List.set_set,a1w cp']
  exact List.set_getElem_self cp'
 simp (disch:=(first|exact Rf.mk rfl|with_reducible assumption|omega|((repeat (first|rw [nP]|rw [nS]|rw [M7]))<;>omega)|decide)) only [go_sem,↓reduceIte,j0,j1,om,fm,ox,fx,oc,hic,Bool.true_or,hsy,hss,ga,cp',hp0]
 rw [hA]
 have H2:a11 (((s1.push (.cells [.nils,.nils,.nils,.int .i64 0])).set s1.next (some (.cells [.arr a 0 st.at'.length 1,.arr w 0 st.vars.length 1,dC,.int .i64 (-1)]))).set a (some (.cells (U5 st.at')))) s.next a w dC ids ⟨st.at',VV,st.chans,-1⟩ :=
  H.put (A:=st.at') (V:=VV) (hd:=-1) (Nat.le_refl _) (by simp (disch:=(first|exact Rf.mk rfl|with_reducible assumption|omega|((repeat (first|rw [nP]|rw [nS]|rw [M7]))<;>omega)|decide)) only [go_sem,↓reduceIte]) (by simp (disch:=(first|exact Rf.mk rfl|with_reducible assumption|omega|((repeat (first|rw [nP]|rw [nS]|rw [M7]))<;>omega)|decide)) only [go_sem,↓reduceIte,gw]) (fun j h1 h2 h3 h4=>by simp (disch:=(first|exact Rf.mk rfl|with_reducible assumption|omega|((repeat (first|rw [nP]|rw [nS]|rw [M7]))<;>omega)|decide)) only [go_sem,↓reduceIte])
 have tg:(((s1.push (.cells [.nils,.nils,.nils,.int .i64 0])).set s1.next (some (.cells [.arr a 0 st.at'.length 1,.arr w 0 st.vars.length 1,dC,.int .i64 (-1)]))).set a (some (.cells (U5 st.at')))).get s1.next=some (.cells [.arr a 0 st.at'.length 1,.arr w 0 st.vars.length 1,dC,.int .i64 (-1)]):=by simp (disch:=(first|exact Rf.mk rfl|with_reducible assumption|omega|((repeat (first|rw [nP]|rw [nS]|rw [M7]))<;>omega)|decide)) only [go_sem,↓reduceIte]
 have k0:(((s1.push (.cells [.nils,.nils,.nils,.int .i64 0])).set s1.next (some (.cells [.arr a 0 st.at'.length 1,.arr w 0 st.vars.length 1,dC,.int .i64 (-1)]))).set a (some (.cells (U5 st.at')))).get 0=some (.cells [m.dt,.int .i64 m.g,m.dc,m.dv,m.dp,m.ds,.bool m.b]):=by simp (disch:=(first|exact Rf.mk rfl|with_reducible assumption|omega|((repeat (first|rw [nP]|rw [nS]|rw [M7]))<;>omega)|decide)) only [go_sem,↓reduceIte,j0]
 have k1':(((s1.push (.cells [.nils,.nils,.nils,.int .i64 0])).set s1.next (some (.cells [.arr a 0 st.at'.length 1,.arr w 0 st.vars.length 1,dC,.int .i64 (-1)]))).set a (some (.cells (U5 st.at')))).get 1=some (.cells [x.da,x.dv,x.dc,.int .i64 st.hold]):=by simp (disch:=(first|exact Rf.mk rfl|with_reducible assumption|omega|((repeat (first|rw [nP]|rw [nS]|rw [M7]))<;>omega)|decide)) only [go_sem,↓reduceIte,j1]
 generalize ((s1.push (.cells [.nils,.nils,.nils,.int .i64 0])).set s1.next (some (.cells [.arr a 0 st.at'.length 1,.arr w 0 st.vars.length 1,dC,.int .i64 (-1)]))).set a (some (.cells (U5 st.at')))=s2 at *
 clear hic y1 y2 hbx hs
 have hpo:=ho.pr _ (a0P cp)
 have hll:=hq.ll p cp
 refine a2f [0,1,4,5,6,7,8,9,10,11,12,20,28,36,47,54,71,87,136,138] (fun f s'=>a11 s' s.next a w dC ids ⟨st.at',st.vars,st.chans,-1⟩/\s'.get s1.next=some (.cells [.arr a 0 st.at'.length 1,.arr w 0 st.vars.length 1,dC,.int .i64 (-1)])/\s'.get 0=some (.cells [m.dt,.int .i64 m.g,m.dc,m.dv,m.dp,m.ds,.bool m.b])/\s'.get 1=some (.cells [x.da,x.dv,x.dc,.int .i64 st.hold])) ?_ ?_
 ·refine a0d [0,1,4,5,6,7,8,9,10,11,12,20,28,36,47,54,71,87,136,138] 0 (pAt mo.procs p).locals.length (fun k f s'=>f 13=.int .i64 (k:Int)/\∃W,W.length=st.vars.length/\(∀j,j∉(pAt mo.procs p).locals.drop k->zAt W j=zAt st.vars j)/\a11 s' s.next a w dC ids ⟨st.at',W,st.chans,-1⟩/\s'.get s1.next=some (.cells [.arr a 0 st.at'.length 1,.arr w 0 st.vars.length 1,dC,.int .i64 (-1)])/\s'.get 0=some (.cells [m.dt,.int .i64 m.g,m.dc,m.dv,m.dp,m.ds,.bool m.b])/\s'.get 1=some (.cells [x.da,x.dv,x.dc,.int .i64 st.hold])) (.mk rfl) (by omega) ⟨rfl,VV,hVl,hVo,H2,tg,k0,k1'⟩ ?_
  clear H2 tg k0 k1'
  rintro k f s' hk ⟨hK,W,hWl,hWo,H2,tg,k0,k1'⟩
  by_cases ck:k<(pAt mo.procs p).locals.length
  rotate_left
  ·obtain rfl:k=(pAt mo.procs p).locals.length:=by omega
   have hW:W=st.vars:=List.ext_getElem hWl fun j h1 h2=>by
    rw [<- a12 h1,<- a12 h2];exact hWo j (by simp)
   subst hW
   refine zY (aN hK (aN ck (aN k0 (aN om cp)))) ?_
   exact ⟨H2,tg,k1'⟩
  have hlm:nAt (pAt mo.procs p).locals k∈(pAt mo.procs p).locals:=by rw [a1w ck];exact List.getElem_mem ck
  have hlv:nAt (pAt mo.procs p).locals k<st.vars.length:=by rw [hvl];exact hpo.var _ (hpo.loc _ hlm).1
  have hlw:nAt (pAt mo.procs p).locals k<W.length:=by omega
  have gw2:=H2.gv
  refine zY (aN hK (aN ck (aN k0 (aN k1' (aN tg (aN om (aN ox (aN cp (aN hxv (aN hlv (aN hlw gw2))))))))))) ?_
  have m2:=M1 gw2
  refine ⟨W.set (nAt (pAt mo.procs p).locals k) (zAt st.vars (nAt (pAt mo.procs p).locals k)),by simp [hWl],fun j hj=>?_,H2.put (A:=st.at') (hd:=-1) (Nat.le_refl _) (by have:=H2.ga;simp (disch:=(first|exact Rf.mk rfl|with_reducible assumption|omega|((repeat (first|rw [nP]|rw [nS]|rw [M7]))<;>omega)|decide)) only [go_sem,↓reduceIte,this]) (P5 m2) (fun j h1 h2 h3 h4=>O0 (fun e=>h4 e))⟩
  rw [a9l hlw]
  by_cases e:j=nAt (pAt mo.procs p).locals k
  ·rw [if_pos e,e]
  ·rw [if_neg e]
   refine hWo j fun h=>?_
   rw [List.drop_eq_getElem_cons ck,List.mem_cons,<- a1w ck] at h
   rcases h with h | h
   ·exact e h
   ·exact hj h
 rintro f s' ⟨H2,tg,k0,k1'⟩
 have hs:a0t s' [.arr a 0 st.at'.length 1,.arr w 0 st.vars.length 1,dC,.int .i64 (-1)] ⟨st.at',st.vars,st.chans,-1⟩:=H2.same (S:=s') (A:=st.at') (V:=st.vars) (hd:=-1) rfl rfl H2.ga H2.gv (fun _ _ _ _ _=>rfl)
 obtain ⟨y,y1,y2⟩:=hs.frz
 have hic:∀l,M6 (V.ice s'.get 20) (.agg [.arr a 0 st.at'.length 1,.arr w 0 st.vars.length 1,dC,.int .i64 (-1)]::l)=(M6 (V.ice s'.get 20) l).map (.agg [y.da,y.dv,y.dc,.int .i64 (-1)]::·):=fun l=>a9a y1
 have hst:(⟨st.at',st.vars,st.chans,-1⟩:Stt)=st:=by cases st;simp only at hold;rw [hold]
 have hsm:=c1f ho hx (y:=y) (t:=⟨st.at',st.vars,st.chans,-1⟩) ⟨y2,by rw [hst];exact hx.e,by rw [hst];exact hx.fit⟩
 rw [decide_eq_true hst.symm] at hsm
 simp (disch:=(first|exact Rf.mk rfl|with_reducible assumption|omega|((repeat (first|rw [nP]|rw [nS]|rw [M7]))<;>omega)|decide)) only [go_sem,↓reduceIte,k0,k1',tg,om,ox,fx,oc,hic,Bool.true_or,hsm]
 exact ⟨ci,by rw [hsu];simp⟩
theorem c5e {d0 d1:D} (h0:a4a Ty.tree d0) (h1:a4a (.slice 1 (.int .i64)) d1):EvP vfs 5 [d0,d1] k4.empty fun r _=>r=.bool true:=by
 obtain ⟨t,hT⟩:=b8f h0
 obtain ⟨l,hl,hn,hi⟩:=b50 h1
 exact b7b hT hl hi
end Go.Proofs.YtnjlhebkhjcagaaGreat
