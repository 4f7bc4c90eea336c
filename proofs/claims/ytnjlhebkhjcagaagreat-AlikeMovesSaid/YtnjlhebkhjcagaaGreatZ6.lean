/- Texts one behind the other. -/
import Derived.Test.YtnjlhebkhjcagaaGreatZ5
set_option linter.unusedSimpArgs false
set_option linter.unusedVariables false
namespace Go.Proofs.YtnjlhebkhjcagaaGreat
open Go.V
set_option maxRecDepth 100000
set_option maxHeartbeats 4000000
variable {m:MdX} {mo:Mo} {ps:List (Pr×PrD)} {x:StD} {st:Stt}
theorem a30 {b:Bool}:Eqc vfs 136 [.bool b] (.int .i64 (a26 b)):=by
 refine P4 ?_
 cases b
 ·refine N3 (vf:=a5X) rfl ?_
  unfold a5X;refine zF ?_
  refine zY0 ?_
  rfl
 ·refine N3 (vf:=a5X) rfl ?_
  unfold a5X;refine zF ?_
  refine zY0 ?_
  rfl
theorem a4j {x:Int} (h1:-4294967296<=x) (h2:x<=4294967296):Eqc vfs 98 [.int .i64 x,.int .i64 8] (.int .i64 (O6 x 8)):=b39 (w:=8) ⟨by omega,by omega⟩ (by decide) (by decide)
theorem b74 {a b:Int} (ha:I8 a):-128<=a.tdiv b/\a.tdiv b<=128:=by
 unfold I8 at ha
 have h1:(a.tdiv b).natAbs<=a.natAbs:=by
  rw [Int.natAbs_tdiv];exact Nat.div_le_self _ _
 omega
theorem c5F {a b:Int} (ha:I8 a):-128<=a.tmod b/\a.tmod b<=128:=by
 unfold I8 at ha
 have h1:(a.tmod b).natAbs<=a.natAbs:=by
  rw [Int.natAbs_tmod];exact Nat.mod_le _ _
 omega
theorem c5Q {op:Nat} (hop:op<=8) {a b:Int} (ha:I8 a) (hb:I8 b):Eqc vfs 137 [.int .i64 (op:Int),.int .i64 a,.int .i64 b] (.tup [.int .i64 (W5 (op:Int) a b).1,.bool (W5 (op:Int) a b).2]):=by
 have ha':=ha
 have hb':=hb
 unfold I8 at ha' hb'
 have hq:=b74 (b:=b) ha
 have hr:=c5F (b:=b) ha
 have hm:-16384<=a*b/\a*b<=16384:=by
  have h1:(a*b).natAbs<=128*128:=by
   rw [Int.natAbs_mul]
   exact Nat.mul_le_mul (by omega) (by omega)
  omega
 have e1:IntKind.i64.wrap (a+b)=a+b:=O7 (by omega) (by omega)
 have e2:IntKind.i64.wrap (a-b)=a-b:=O7 (by omega) (by omega)
 have e3:IntKind.i64.wrap (a*b)=a*b:=O7 (by omega) (by omega)
 have e4:IntKind.i64.wrap (a.tdiv b)=a.tdiv b:=O7 (by omega) (by omega)
 have e5:IntKind.i64.wrap (a.tmod b)=a.tmod b:=O7 (by omega) (by omega)
 have t1:=a4j (x:=a+b) (by omega) (by omega)
 have t2:=a4j (x:=a-b) (by omega) (by omega)
 have t3:=a4j (x:=a*b) (by omega) (by omega)
 have t4:=a4j (x:=a.tdiv b) (by omega) (by omega)
 have t5:=a4j (x:=a.tmod b) (by omega) (by omega)
 refine P4 ?_
 obtain rfl | rfl | rfl | rfl | rfl | rfl | rfl | rfl | rfl:op=0∨op=1∨op=2∨op=3∨op=4∨op=5∨op=6∨op=7∨op=8:=by omega
 ·by_cases a0:a=0
  ·refine N3 (vf:=Z3) rfl ?_
   unfold Z3;refine zF ?_
   simp (disch:=(first|exact Rf.mk rfl|with_reducible assumption|omega|((repeat (first|rw [nP]|rw [nS]|rw [M7]))<;>omega)|decide)) only [go_sem,↓reduceIte,a30,a0]
   simp [W5,a0]
  ·refine N3 (vf:=Z3) rfl ?_
   unfold Z3;refine zF ?_
   simp (disch:=(first|exact Rf.mk rfl|with_reducible assumption|omega|((repeat (first|rw [nP]|rw [nS]|rw [M7]))<;>omega)|decide)) only [go_sem,↓reduceIte,a30,a0]
   simp [W5,a0]
 ·by_cases a0:a=0
  ·refine N3 (vf:=Z3) rfl ?_
   unfold Z3;refine zF ?_
   simp (disch:=(first|exact Rf.mk rfl|with_reducible assumption|omega|((repeat (first|rw [nP]|rw [nS]|rw [M7]))<;>omega)|decide)) only [go_sem,↓reduceIte,a30,a0]
   simp [W5,a0]
  ·refine N3 (vf:=Z3) rfl ?_
   unfold Z3;refine zF ?_
   simp (disch:=(first|exact Rf.mk rfl|with_reducible assumption|omega|((repeat (first|rw [nP]|rw [nS]|rw [M7]))<;>omega)|decide)) only [go_sem,↓reduceIte,a30,a0]
   simp [W5,a0]
 ·refine N3 (vf:=Z3) rfl ?_
  unfold Z3;refine zF ?_
  simp (disch:=(first|exact Rf.mk rfl|with_reducible assumption|omega|((repeat (first|rw [nP]|rw [nS]|rw [M7]))<;>omega)|decide)) only [go_sem,↓reduceIte,a30]
  simp [W5]
 ·refine N3 (vf:=Z3) rfl ?_
  unfold Z3;refine zF ?_
  simp (disch:=(first|exact Rf.mk rfl|with_reducible assumption|omega|((repeat (first|rw [nP]|rw [nS]|rw [M7]))<;>omega)|decide)) only [go_sem,↓reduceIte,a30]
  simp [W5]
 ·refine N3 (vf:=Z3) rfl ?_
  unfold Z3;refine zF ?_
  refine zY (aN e1 t1) ?_
  simp [W5,doZ]
 ·refine N3 (vf:=Z3) rfl ?_
  unfold Z3;refine zF ?_
  refine zY (aN e2 t2) ?_
  simp [W5,doZ]
 ·refine N3 (vf:=Z3) rfl ?_
  unfold Z3;refine zF ?_
  refine zY (aN e3 t3) ?_
  simp [W5,doZ]
 ·by_cases b0:b=0
  ·refine N3 (vf:=Z3) rfl ?_
   unfold Z3;refine zF ?_
   refine zY b0 ?_
   simp [W5,b0]
  ·refine N3 (vf:=Z3) rfl ?_
   unfold Z3;refine zF ?_
   simp (disch:=(first|exact Rf.mk rfl|with_reducible assumption|omega|((repeat (first|rw [nP]|rw [nS]|rw [M7]))<;>omega)|decide)) only [go_sem,↓reduceIte,b0,e4,t4]
   simp [W5,doZ,b0]
 ·by_cases b0:b=0
  ·refine N3 (vf:=Z3) rfl ?_
   unfold Z3;refine zF ?_
   refine zY b0 ?_
   simp [W5,b0]
  ·refine N3 (vf:=Z3) rfl ?_
   unfold Z3;refine zF ?_
   refine zY (aN b0 (aN e5 t5)) ?_
   simp [W5,doZ,b0]
theorem b9y {s:f6} {d:D} {l:List ByteArray} {w:ByteArray} (hd:FL 1 d (X5 l)) (hl:l.length<=1000):EvP vfs 132 [d,.str w] s fun r s'=>r=.int .i64 (if idxB l w<l.length then (idxB l w:Int) else -1)/\s'=s:=by
 have hln:V2 false d=some (.int .i64 (l.length:Int)):=by rw [hd.len,a6Z]
 refine Y5 (vf:=a9k) rfl ?_
 unfold a9k;refine zF ?_
 refine zY hln ?_
 refine P6 [0,1,7] 0 l.length (fun i f s'=>f 8=.int .i64 (i:Int)/\s'=s/\∀j (hj:j<l.length),j<i->l[j]≠w) (.mk rfl) (by omega) ⟨rfl,rfl,fun j _ h=>by omega⟩ ?_
 rintro i f s' hi ⟨hE,rfl,hall⟩
 by_cases ci:i<l.length
 ·have hidx:=FLS.idx hd ci (k:=.i64)
  by_cases c4:l[i]=w
  ·have c5:w=l[i]:=c4.symm
   refine zY (aN hE (aN hln (aN ci (aN hidx c5)))) ?_
   rw [<- c5,a4v ci c4 hall,if_pos ci]
   exact ⟨rfl,rfl⟩
  ·have c5:¬ w=l[i]:=fun h=>c4 h.symm
   refine zY (aN hE (aN hln (aN ci (aN hidx c5)))) ?_
   intro j hj hji
   by_cases ej:j=i
   ·subst ej;exact c4
   ·exact hall j hj (by omega)
 ·refine zY (aN hE (aN hln ci)) ?_
  rw [if_neg (a4L fun j hj=>hall j hj (by omega))]
  trivial
theorem c6b (hm:MoF m mo ps) (ho:O4 mo) (hx:StF x st) (hvl:st.vars.length=mo.vars.length) {s:f6} {i pid mid sid:Nat} (hi:i<mo.procs.length) (g0:s.get pid=some (.cells [.int .i64 (i:Int)])) (g1:s.get mid=some (.cells [m.dt,.int .i64 m.g,m.dc,m.dv,m.dp,m.ds,.bool m.b])) (g2:s.get sid=some (.cells [x.da,x.dv,x.dc,.int .i64 st.hold])) {w:ByteArray} :
 EvP vfs 129 [.str w,.ptr pid 0,.ptr mid 0,.ptr sid 0] s fun r s'=>r=.tup [.int .i64 (match U4 (pAt mo.procs i) w with | none=>0 | some v=>zAt st.vars v),.bool (U4 (pAt mo.procs i) w).isSome]/\Fr [] s s':=by
 have om:=hm.ones
 have ox:=hx.ones
 have hxv:=hx.v
 have hp:=a1z hm hi
 have hpo:=ho.pr _ (a0l hi)
 have hnl:=hpo.nl
 have hnv:=ho.nv
 have hsm:=hpo.same
 have l0:=M5 g0
 have l1:=M5 g1
 have l2:=M5 g2
 have c1:¬ ((i:Int)<0):=by omega
 have c2:¬ mo.procs.length<=i:=by omega
 have hix:=fun s=>b9y (s:=s) (w:=w) hp.n (by omega)
 refine Y5 (vf:=a9N) rfl ?_
 unfold a9N;refine zF ?_
 refine zY (aN g0 (aN g1 (aN g2 (aN om (aN ox (aN hi (aN c1 c2))))))) ?_
 refine a1J (hix _) rfl ?_
 rintro r s1 ⟨rfl,rfl⟩
 by_cases c:idxB (pAt mo.procs i).names w<(pAt mo.procs i).names.length
 ·have hvi:idxB (pAt mo.procs i).names w<(pAt mo.procs i).vars.length:=by omega
  have hidv:=FLN.idx hp.v hvi (k:=.i64)
  have hvb:=hpo.var _ (List.getElem_mem hvi)
  have hlk:U4 (pAt mo.procs i) w=some ((pAt mo.procs i).vars[idxB (pAt mo.procs i).names w]):=by
   unfold U4
   rw [if_pos c]
   simp [List.getD,hvi]
  rw [hlk]
  have hvb':(pAt mo.procs i).vars[idxB (pAt mo.procs i).names w]<st.vars.length:=by omega
  generalize (pAt mo.procs i).vars[idxB (pAt mo.procs i).names w]=v at *
  rw [if_pos c]
  refine zY (aN g0 (aN g1 (aN g2 (aN om (aN ox (aN hidv hvb')))))) ?_
  exact ⟨rfl,((Fr.push (ids:=[]) _).trans (Fr.push (ids:=[]) _) (by simp)).thenSet _ (.inr (by simp))⟩
 ·have hlk:U4 (pAt mo.procs i) w=none:=by
   unfold U4
   rw [if_neg c]
  rw [hlk,if_neg c]
  refine zY (aN g0 (aN g1 g2)) ?_
  exact ⟨rfl,((Fr.push (ids:=[]) _).trans (Fr.push (ids:=[]) _) (by simp)).thenSet _ (.inr (by simp))⟩
end Go.Proofs.YtnjlhebkhjcagaaGreat
namespace Go.Proofs.YtnjlhebkhjcagaaGreat
open Go.V
set_option maxRecDepth 100000
set_option maxHeartbeats 4000000
variable {m:MdX} {mo:Mo} {ps:List (Pr×PrD)} {x:StD} {st:Stt}
theorem b6n {s:f6} {nid:Nat} {c:Ch} {w:ByteArray} (hg:s.get nid=some (.cells [.str w])) :
 EvP vfs 134 [.agg [.str c.name,.int .i64 c.room,.int .i64 c.width,.bool c.lossy,.bool c.copying],.ptr nid 0] s fun r s'=>r=.bool (decide (c.name=w))/\Fr [] s s':=by
 have l0:=M5 hg
 refine Y5 (vf:=a8j) rfl ?_
 unfold a8j;refine zF ?_
 refine zY hg ?_
 exact ⟨rfl,Fr.push _⟩
theorem b70 (hm:MoF m mo ps) (ho:O4 mo) {s:f6} {nid:Nat} {w:ByteArray} (hg:s.get nid=some (.cells [.str w])) :
 EvP vfs 135 [m.dc,.fn 134 [.ptr nid 0]] s fun r s'=>r=.int .i64 (if idxB mo.ch w<mo.ch.length then (idxB mo.ch w:Int) else -1)/\Fr [] s s':=by
 have hmc:=hm.c
 have hnc:=ho.nc
 have hlc:=hm.lenC
 have hch:mo.ch.length=mo.chans.length:=by simp [Mo.ch]
 have l0:=M5 hg
 refine Y5 (vf:=a98) rfl ?_
 unfold a98;refine zF ?_
 refine zY hlc ?_
 refine P6 [0,1,7] 0 mo.chans.length (fun i f s'=>f 8=.int .i64 (i:Int)/\Fr [] s s'/\∀j,j<mo.chans.length->j<i->(S4 mo.chans j).name≠w) (.mk rfl) (by omega) ⟨rfl,Fr.refl _ _,fun j _ h=>by omega⟩ ?_
 rintro i f s' hi ⟨hE,fr,hall⟩
 have hg':=fr.2 nid l0 (by simp)
 rw [hg] at hg'
 by_cases ci:i<mo.chans.length
 ·have hcn:=b6n (c:=S4 mo.chans i) hg'
  refine zY (aN hE (aN hlc ci)) ?_
  refine a67 rfl hcn rfl ?_
  rintro r s2 ⟨rfl,fr2⟩
  have fr3:=fr.trans fr2 (by simp)
  by_cases c4:(S4 mo.chans i).name=w
  ·rw [decide_eq_true c4]
   refine zY hE ?_
   have hil:i<mo.ch.length:=by omega
   have eb:=a4v (l:=mo.ch) (w:=w) hil (by rw [<- c4,a2d ci];simp [Mo.ch]) (fun j hj hji=>by have:=hall j (by omega) hji;rw [a2d (by omega)] at this;simpa [Mo.ch] using this)
   rw [eb,if_pos hil]
   exact ⟨rfl,fr3⟩
  ·rw [decide_eq_false c4]
   refine zY (aN hE ci) ?_
   refine ⟨fr3,fun j hj hji=>?_⟩
   by_cases ej:j=i
   ·subst ej;exact c4
   ·exact hall j hj (by omega)
 ·refine zY (aN hE (aN hlc ci)) ?_
  have eb:=a4L (l:=mo.ch) (w:=w) (fun j hj=>by have:=hall j (by omega) (by omega);rw [a2d (by omega)] at this;simpa [Mo.ch] using this)
  rw [if_neg eb]
  exact ⟨rfl,fr⟩
theorem c3O (hm:MoF m mo ps) (ho:O4 mo) (hx:StF x st) (hcl:st.chans.length=mo.chans.length) {s:f6} {mid sid:Nat} (g1:s.get mid=some (.cells [m.dt,.int .i64 m.g,m.dc,m.dv,m.dp,m.ds,.bool m.b])) (g2:s.get sid=some (.cells [x.da,x.dv,x.dc,.int .i64 st.hold])) {w:ByteArray} :
 EvP vfs 133 [.str w,.ptr mid 0,.ptr sid 0] s fun r s'=>r=(if idxB mo.ch w<mo.ch.length then .tup [.int .i64 ((cAt st.chans (idxB mo.ch w)).length:Int),.bool true] else .tup [.int .i64 0,.bool false])/\Fr [] s s':=by
 have om:=hm.ones
 have ox:=hx.ones
 have hxf:=hx
 have hch:mo.ch.length=mo.chans.length:=by simp [Mo.ch]
 have l1:=M5 g1
 have l2:=M5 g2
 refine Y5 (vf:=a8A) rfl ?_
 unfold a8A;refine zF ?_
 refine zY (aN g1 (aN g2 (aN om ox))) ?_
 refine a1J (b70 hm ho (nid:=s.next) (w:=w) (P0 rfl)) rfl ?_
 rintro r s1 ⟨rfl,fr⟩
 have fr0:Fr [] s s1:=(Fr.push _).trans fr (by simp)
 have g2':=fr0.2 sid l2 (by simp)
 rw [g2] at g2'
 by_cases c:idxB mo.ch w<mo.ch.length
 ·have c':idxB mo.ch w<st.chans.length:=by omega
  rw [if_pos c,if_pos c]
  generalize idxB mo.ch w=v at *
  refine zY (aN g2' (aN ox c')) ?_
  exact ⟨rfl,fr0⟩
 ·rw [if_neg c,if_neg c]
  refine zY0 ?_
  exact ⟨rfl,fr0⟩
theorem b5X (hm:MoF m mo ps) (ho:O4 mo) (hx:StF x st) (h8:St8 st) (hfit:Fit mo { st with hold:=-1 }) {i pid mid sid:Nat} (hi:i<mo.procs.length):∀ (n k:Nat),k<mo.tree.length->mo.tree.length-k<n->a0M (nd mo.tree k).kind->∀ (s:f6),s.get pid=some (.cells [.int .i64 (i:Int)])->s.get mid=some (.cells [m.dt,.int .i64 m.g,m.dc,m.dv,m.dp,m.ds,.bool m.b])->s.get sid=some (.cells [x.da,x.dv,x.dc,.int .i64 st.hold]) ->
 EvP vfs 118 [.agg [m.dt,.fn 129 [.ptr pid 0,.ptr mid 0,.ptr sid 0],.fn 133 [.ptr mid 0,.ptr sid 0]],.int .i64 (k:Int)] s fun r s'=>r=.tup [.int .i64 (U1 mo.tree mo.ch (U4 (pAt mo.procs i)) st n k).1,.bool (U1 mo.tree mo.ch (U4 (pAt mo.procs i)) st n k).2]/\Fr [] s s'
 | 0,k,_,h,_=>by omega
 | n+1,k,hk,hn,hex=>by
   intro s g0 g1 g2
   have om:=hm.ones
   have ox:=hx.ones
   have hno:=ho.tree.node k hk
   have hidx:=hm.tr.at (z:=(k:Int)) (by omega) (by omega) (k:=.i64)
   rw [Int.toNat_natCast] at hidx
   have on:=a0B hm.tr hk
   have hw:=a2J hm.tr hk (i:=0)
   have n0:=a2s hm.tr hk (i:=0)
   have z0:((0:Nat):Int)=0:=rfl
   have z1:((1:Nat):Int)=1:=rfl
   rw [hno.wl,z0] at hw
   rw [hno.nl,z0] at n0
   obtain ⟨hkl,hkx⟩:=a5s hno hex
   have ih:∀c,c<(nd mo.tree k).kids.length->∀ (s:f6),s.get pid=some (.cells [.int .i64 (i:Int)])->s.get mid=some (.cells [m.dt,.int .i64 m.g,m.dc,m.dv,m.dp,m.ds,.bool m.b])->s.get sid=some (.cells [x.da,x.dv,x.dc,.int .i64 st.hold])->EvP vfs 118 [.agg [m.dt,.fn 129 [.ptr pid 0,.ptr mid 0,.ptr sid 0],.fn 133 [.ptr mid 0,.ptr sid 0]],.int .i64 (((nd mo.tree k).kid c:Nat):Int)] s fun r s'=>r=.tup [.int .i64 (U1 mo.tree mo.ch (U4 (pAt mo.procs i)) st n ((nd mo.tree k).kid c)).1,.bool (U1 mo.tree mo.ch (U4 (pAt mo.procs i)) st n ((nd mo.tree k).kid c)).2]/\Fr [] s s':=fun c hc=>by
    have h1:=ho.tree.ks hk _ (V6 hc)
    exact b5X hm ho hx h8 hfit hi n _ h1.2 (by omega) (hkx c hc)
   have i8:∀c,I8 (U1 mo.tree mo.ch (U4 (pAt mo.procs i)) st n ((nd mo.tree k).kid c)).1:=fun c=>b46 h8 n _
   have k0:=a0D hm.tr ho.tree hk (i:=0)
   have k1:=a0D hm.tr ho.tree hk (i:=1)
   rw [z0] at k0
   rw [z1] at k1
   have l0:=M5 g0
   have l1:=M5 g1
   have l2:=M5 g2
   have keep:∀ {s':f6},Fr [] s s'->s'.get pid=some (.cells [.int .i64 (i:Int)])/\s'.get mid=some (.cells [m.dt,.int .i64 m.g,m.dc,m.dv,m.dp,m.ds,.bool m.b])/\s'.get sid=some (.cells [x.da,x.dv,x.dc,.int .i64 st.hold]):=fun fr=>⟨by rw [fr.2 _ l0 (by simp),g0],by rw [fr.2 _ l1 (by simp),g1],by rw [fr.2 _ l2 (by simp),g2]⟩
   unfold U1
   simp only
   by_cases q17:(nd mo.tree k).kind=17
   ·rw [if_pos q17]
    rw [q17] at n0
    have n0:=n0 (by decide)
    have hl:=hno.lit q17
    have ht:=a4j (x:=(nd mo.tree k).num 0) (by omega) (by omega)
    refine Y5 (vf:=a1T) rfl ?_
    unfold a1T;refine zF ?_
    refine zY (aN om (aN ox (aN hidx (aN on (aN q17 (aN n0 ht)))))) ?_
    exact ⟨rfl,(((Fr.push (ids:=[]) _).trans (Fr.push (ids:=[]) _) (by simp)).thenSet _ (.inr (by simp)))⟩
   rw [if_neg q17]
   by_cases q18:(nd mo.tree k).kind=18
   ·rw [if_pos q18]
    rw [q18] at hw
    have hw:=hw (by decide)
    refine Y5 (vf:=a1T) rfl ?_
    unfold a1T;refine zF ?_
    refine zY (aN om (aN ox (aN hidx (aN on (aN q18 hw))))) ?_
    refine a67 rfl (c6b hm ho hx hfit.vars hi (keep (((Fr.push (ids:=[]) _).trans (Fr.push (ids:=[]) _) (by simp)).thenSet _ (.inr (by simp)))).1 (keep (((Fr.push (ids:=[]) _).trans (Fr.push (ids:=[]) _) (by simp)).thenSet _ (.inr (by simp)))).2.1 (keep (((Fr.push (ids:=[]) _).trans (Fr.push (ids:=[]) _) (by simp)).thenSet _ (.inr (by simp)))).2.2) rfl ?_
    rintro r s2 ⟨rfl,fr⟩
    have fr0:=Fr.trans (((Fr.push (ids:=[]) _).trans (Fr.push (ids:=[]) _) (by simp)).thenSet _ (.inr (by simp))) fr (by simp)
    refine zY0 ?_
    refine ⟨?_,fr0⟩
    cases U4 (pAt mo.procs i) ((nd mo.tree k).word 0)<;>rfl
   rw [if_neg q18]
   by_cases q19:(nd mo.tree k).kind=19
   ·rw [if_pos q19]
    rw [q19] at hw
    have hw:=hw (by decide)
    refine Y5 (vf:=a1T) rfl ?_
    unfold a1T;refine zF ?_
    refine zY (aN om (aN ox (aN hidx (aN on (aN q19 hw))))) ?_
    refine a67 rfl (c3O hm ho hx hfit.chans (keep (((Fr.push (ids:=[]) _).trans (Fr.push (ids:=[]) _) (by simp)).thenSet _ (.inr (by simp)))).2.1 (keep (((Fr.push (ids:=[]) _).trans (Fr.push (ids:=[]) _) (by simp)).thenSet _ (.inr (by simp)))).2.2) rfl ?_
    rintro r s2 ⟨hr,fr⟩
    have fr0:=Fr.trans (((Fr.push (ids:=[]) _).trans (Fr.push (ids:=[]) _) (by simp)).thenSet _ (.inr (by simp))) fr (by simp)
    by_cases c:idxB mo.ch ((nd mo.tree k).word 0)<mo.ch.length
    ·rw [if_pos c] at hr
     subst hr
     rw [if_pos c]
     refine zY0 ?_
     exact ⟨rfl,fr0⟩
    ·rw [if_neg c] at hr
     subst hr
     rw [if_neg c]
     refine zY0 ?_
     exact ⟨rfl,fr0⟩
   rw [if_neg q19]
   by_cases q20:(nd mo.tree k).kind=20
   ·rw [if_pos q20]
    have h1:=hno.one (by omega)
    have k0:=k0 (by omega)
    obtain ⟨b1,b2⟩:=i8 0
    have e1:IntKind.i64.wrap (0-(U1 mo.tree mo.ch (U4 (pAt mo.procs i)) st n ((nd mo.tree k).kid 0)).1)=-(U1 mo.tree mo.ch (U4 (pAt mo.procs i)) st n ((nd mo.tree k).kid 0)).1:=by rw [O7 (by omega) (by omega)];omega
    have ht:=a4j (x:=-(U1 mo.tree mo.ch (U4 (pAt mo.procs i)) st n ((nd mo.tree k).kid 0)).1) (by omega) (by omega)
    refine Y5 (vf:=a1T) rfl ?_
    unfold a1T;refine zF ?_
    refine zY (aN om (aN ox (aN hidx (aN on (aN q20 k0))))) ?_
    refine a1J (ih 0 (by omega) _ (keep (((Fr.push (ids:=[]) _).trans (Fr.push (ids:=[]) _) (by simp)).thenSet _ (.inr (by simp)))).1 (keep (((Fr.push (ids:=[]) _).trans (Fr.push (ids:=[]) _) (by simp)).thenSet _ (.inr (by simp)))).2.1 (keep (((Fr.push (ids:=[]) _).trans (Fr.push (ids:=[]) _) (by simp)).thenSet _ (.inr (by simp)))).2.2) rfl ?_
    rintro r s2 ⟨rfl,fr⟩
    have fr0:=Fr.trans (((Fr.push (ids:=[]) _).trans (Fr.push (ids:=[]) _) (by simp)).thenSet _ (.inr (by simp))) fr (by simp)
    refine zY (aN e1 ht) ?_
    exact ⟨rfl,fr0⟩
   rw [if_neg q20]
   by_cases q21:(nd mo.tree k).kind=21
   ·rw [if_pos q21]
    have h1:=hno.one (by omega)
    have k0:=k0 (by omega)
    refine Y5 (vf:=a1T) rfl ?_
    unfold a1T;refine zF ?_
    refine zY (aN om (aN ox (aN hidx (aN on (aN q21 k0))))) ?_
    refine a1J (ih 0 (by omega) _ (keep (((Fr.push (ids:=[]) _).trans (Fr.push (ids:=[]) _) (by simp)).thenSet _ (.inr (by simp)))).1 (keep (((Fr.push (ids:=[]) _).trans (Fr.push (ids:=[]) _) (by simp)).thenSet _ (.inr (by simp)))).2.1 (keep (((Fr.push (ids:=[]) _).trans (Fr.push (ids:=[]) _) (by simp)).thenSet _ (.inr (by simp)))).2.2) rfl ?_
    rintro r s2 ⟨rfl,fr⟩
    have fr0:=Fr.trans (((Fr.push (ids:=[]) _).trans (Fr.push (ids:=[]) _) (by simp)).thenSet _ (.inr (by simp))) fr (by simp)
    generalize U1 mo.tree mo.ch (U4 (pAt mo.procs i)) st n ((nd mo.tree k).kid 0)=y0 at *
    obtain ⟨v0,b0⟩:=y0
    have eb:(v0==0)=decide (v0=0):=rfl
    cases b0
    ·refine zY0 ?_
     exact ⟨by rw [Bool.false_and];rfl,fr0⟩
    ·simp (disch:=(first|exact Rf.mk rfl|with_reducible assumption|omega|((repeat (first|rw [nP]|rw [nS]|rw [M7]))<;>omega)|decide)) only [go_sem,↓reduceIte,a30,eb]
     exact ⟨rfl,fr0⟩
   rw [if_neg q21]
   have q22:(nd mo.tree k).kind=22:=by have:=hex.1;have:=hex.2;omega
   rw [if_pos q22]
   obtain ⟨l2,_,_,o0,o8⟩:=hno.bin q22
   have k0:=k0 (by omega)
   have k1:=k1 (by omega)
   rw [q22] at n0
   have n0:=n0 (by decide)
   obtain ⟨op,hop⟩:=Int.eq_ofNat_of_zero_le o0
   rw [hop] at n0
   have hap:=c5Q (op:=op) (by omega) (i8 0) (i8 1)
   refine Y5 (vf:=a1T) rfl ?_
   unfold a1T;refine zF ?_
   refine zY (aN om (aN ox (aN hidx (aN on (aN q22 k0))))) ?_
   refine a1J (ih 0 (by omega) _ (keep (((Fr.push (ids:=[]) _).trans (Fr.push (ids:=[]) _) (by simp)).thenSet _ (.inr (by simp)))).1 (keep (((Fr.push (ids:=[]) _).trans (Fr.push (ids:=[]) _) (by simp)).thenSet _ (.inr (by simp)))).2.1 (keep (((Fr.push (ids:=[]) _).trans (Fr.push (ids:=[]) _) (by simp)).thenSet _ (.inr (by simp)))).2.2) rfl ?_
   rintro r s2 ⟨rfl,fr⟩
   have fr0:=Fr.trans (((Fr.push (ids:=[]) _).trans (Fr.push (ids:=[]) _) (by simp)).thenSet _ (.inr (by simp))) fr (by simp)
   have e2:=fr.2 s.next (by simp;omega) (by simp)
   simp (disch:=(first|exact Rf.mk rfl|with_reducible assumption|omega|((repeat (first|rw [nP]|rw [nS]|rw [M7]))<;>omega)|decide)) only [go_sem,↓reduceIte] at e2
   have e3:=fr.2 (s.next+1) (by simp) (by simp)
   simp (disch:=(first|exact Rf.mk rfl|with_reducible assumption|omega|((repeat (first|rw [nP]|rw [nS]|rw [M7]))<;>omega)|decide)) only [go_sem,↓reduceIte] at e3
   have f2:=M5 e2
   have f3:=M5 e3
   refine zY (aN e2 (aN e3 (aN on k1))) ?_
   refine a1J (ih 1 (by omega) _ (keep fr0).1 (keep fr0).2.1 (keep fr0).2.2) rfl ?_
   rintro r s3 ⟨rfl,fr3⟩
   have fr4:=fr0.trans fr3 (by simp)
   have e4:=fr3.2 (s.next+1) f3 (by simp)
   rw [e3] at e4
   rw [hop]
   generalize U1 mo.tree mo.ch (U4 (pAt mo.procs i)) st n ((nd mo.tree k).kid 0)=y0 at *
   generalize U1 mo.tree mo.ch (U4 (pAt mo.procs i)) st n ((nd mo.tree k).kid 1)=y1 at *
   obtain ⟨v0,b0⟩:=y0
   obtain ⟨v1,b1⟩:=y1
   simp only at hap ⊢
   cases b0
   ·refine zY0 ?_
    exact ⟨rfl,fr4⟩
   cases b1
   ·refine zY0 ?_
    exact ⟨rfl,fr4⟩
   simp (disch:=(first|exact Rf.mk rfl|with_reducible assumption|omega|((repeat (first|rw [nP]|rw [nS]|rw [M7]))<;>omega)|decide)) only [go_sem,↓reduceIte,e4,on,n0,hap]
   exact ⟨rfl,fr4⟩
end Go.Proofs.YtnjlhebkhjcagaaGreat
namespace Go.Proofs.YtnjlhebkhjcagaaGreat
open Go.V
set_option maxRecDepth 100000
set_option maxHeartbeats 4000000
variable {m:MdX} {mo:Mo} {ps:List (Pr×PrD)} {x:StD} {st:Stt}
theorem a8c (ho:O4 mo) (hx:Y6 mo x st):a63 mo x st:=⟨hx.f,hx.e,a3n.1 ((a3n.2 hx.fit).hd (z:=-1) ⟨by omega,by omega⟩),by
 have h1:=hx.fit.hold
 have h2:=ho.np
 exact ⟨by omega,by omega⟩⟩
theorem c0n (hm:MoF m mo ps) (hx:StF x st) {s:f6} {i:Nat}:EvP vfs 117 [.agg [m.dt,.int .i64 m.g,m.dc,m.dv,m.dp,m.ds,.bool m.b],.int .i64 (i:Int),.agg [x.da,x.dv,x.dc,.int .i64 st.hold]] s fun r s'=>∃pid mid sid,r=.agg [m.dt,.fn 129 [.ptr pid 0,.ptr mid 0,.ptr sid 0],.fn 133 [.ptr mid 0,.ptr sid 0]]/\s'.get pid=some (.cells [.int .i64 (i:Int)])/\s'.get mid=some (.cells [m.dt,.int .i64 m.g,m.dc,m.dv,m.dp,m.ds,.bool m.b])/\s'.get sid=some (.cells [x.da,x.dv,x.dc,.int .i64 st.hold]):=by
 have om:=hm.ones
 have ox:=hx.ones
 have hc:cellsOf m.dt=[m.dt]:=hm.tr.fl.cells
 have hfn:∀f l,cellsOf (.fn f l)=[.fn f l]:=fun _ _=>rfl
 refine Y5 (vf:=a9q) rfl ?_
 unfold a9q;refine zF ?_
 refine zY (aN om (aN ox (aN hc hfn))) ?_
 refine ⟨_,_,_,rfl,?_,?_,?_⟩
 ·exact zZ0
 ·exact zZ0
 ·exact zZ0
theorem a6X (hm:MoF m mo ps) (ho:O4 mo) (hf:X8 mo) (hx:Y6 mo x st) {i:Nat} (hi:i<mo.procs.length) {k:Nat} (hk:k<mo.tree.length) (he:a0M (nd mo.tree k).kind) :
 Eqc vfs 96 [.agg [m.dt,.int .i64 m.g,m.dc,m.dv,m.dp,m.ds,.bool m.b],.int .i64 (i:Int),.agg [x.da,x.dv,x.dc,.int .i64 st.hold],.int .i64 (k:Int)] (.tup [.int .i64 (mo.val (U4 (pAt mo.procs i)) st k).1,.bool (mo.val (U4 (pAt mo.procs i)) st k).2]):=by
 have om:=hm.ones
 have ox:=hx.f.ones
 have fm:=a0N hm
 have fx:=a1A hx.f
 have hnh:=a8c ho hx
 have hfb:=a74 hm ho hf hnh
 rw [decide_eq_true hx.fit.hold] at hfb
 have hlt:V2 false m.dt=some (.int .i64 (mo.tree.length:Int)):=hm.tr.len
 have c1:¬ mo.tree.length<=k:=by omega
 refine P4 ?_
 refine N3 (vf:=a9a) rfl ?_
 unfold a9a;refine zF ?_
 refine zY (aN om (aN ox (aN hlt (aN c1 (aN fm (aN fx hfb)))))) ?_
 refine a1J (c0n hm hx.f) rfl ?_
 rintro r s1 ⟨pid,mid,sid,rfl,g0,g1,g2⟩
 refine zY0 ?_
 refine a1J (b5X hm ho hx.f hx.e hnh.fit hi (mo.tree.length+1) k hk (by omega) he _ g0 g1 g2) rfl ?_
 rintro r s2 ⟨rfl,fr⟩
 refine zY0 ?_
 exact ⟨rfl,rfl⟩
theorem c43 (hm:MoF m mo ps) (ho:O4 mo) (hf:X8 mo) (hx:Y6 mo x st) {p:Nat} (hp:p<mo.procs.length) {e:Ed} (he:a22 mo.tree mo.chans.length (pAt mo.procs p).places (pAt mo.procs p).vars e) :
 Eqc vfs 62 [.agg [m.dt,.int .i64 m.g,m.dc,m.dv,m.dp,m.ds,.bool m.b],.agg [x.da,x.dv,x.dc,.int .i64 st.hold],.int .i64 (p:Int),.agg [.int .i64 (e.frm:Int),.int .i64 (e.to:Int),.int .i64 (e.act:Int),.int .i64 e.expr,.int .i64 e.var,.int .i64 e.chan,.bool e.keep,.int .i64 (e.node:Int)]] (.bool (mo.can st p (pAt mo.procs p) e)):=by
 refine P4 ?_
 have fm:=a0N hm
 have fx:=a1A hx.f
 have om:=hm.ones
 have ox:=hx.f.ones
 have hxf:=hx.f
 have hxa:=hxf.a
 have hmc:=hm.c
 have hpa:p<st.at'.length:=by rw [hx.fit.at'];exact hp
 have hcl:=hx.fit.chans
 unfold Mo.can Mo.ex
 have h6:e.act=0∨e.act=1∨e.act=2∨e.act=3∨e.act=4∨e.act=5:=by have:=he.act;omega
 rcases h6 with ha | ha | ha | ha | ha | ha
 ·have hex:=he.ex0 (by omega)
  rw [hex]
  refine N3 (vf:=a12) rfl ?_
  unfold a12;refine zF ?_
  refine zY (aN om (aN ox ha)) ?_
  repeat' (first|(refine a1c (fun c=>?_) (fun c=>?_)<;>(try simp only [X4,X6,X2,X3] at c)<;>simp (disch:=(first|exact Rf.mk rfl|with_reducible assumption|omega|((repeat (first|rw [nP]|rw [nS]|rw [M7]))<;>omega)|decide)) only [go_sem,↓reduceIte,om,ox,ha,c])|(refine a1t (fun c=>?_) (fun c=>?_)<;>(try simp only [X4,X6,X2,X3] at c)<;>simp (disch:=(first|exact Rf.mk rfl|with_reducible assumption|omega|((repeat (first|rw [nP]|rw [nS]|rw [M7]))<;>omega)|decide)) only [go_sem,↓reduceIte,om,ox,ha,c]))
  all_goals simp_all
 ·obtain ⟨k,hk1,hk2,hk3⟩:=he.ex1 (by omega)
  have hv:=a6X hm ho hf hx hp hk2 hk3
  rw [hk1]
  simp only [Int.natCast_nonneg,if_true,Int.toNat_natCast]
  generalize mo.val (U4 (pAt mo.procs p)) st k=v at *
  refine N3 (vf:=a12) rfl ?_
  unfold a12;refine zF ?_
  refine zY (aN om (aN ox (aN ha hv))) ?_
  repeat' (first|(refine a1c (fun c=>?_) (fun c=>?_)<;>(try simp only [X4,X6,X2,X3] at c)<;>simp (disch:=(first|exact Rf.mk rfl|with_reducible assumption|omega|((repeat (first|rw [nP]|rw [nS]|rw [M7]))<;>omega)|decide)) only [go_sem,↓reduceIte,om,ox,ha,hv,c])|(refine a1t (fun c=>?_) (fun c=>?_)<;>(try simp only [X4,X6,X2,X3] at c)<;>simp (disch:=(first|exact Rf.mk rfl|with_reducible assumption|omega|((repeat (first|rw [nP]|rw [nS]|rw [M7]))<;>omega)|decide)) only [go_sem,↓reduceIte,om,ox,ha,hv,c]))
  all_goals simp_all
 ·obtain ⟨k,hk1,hk2,hk3⟩:=he.ex1 (by omega)
  obtain ⟨q,hq1,hq2⟩:=he.c1 (by omega)
  have hv:=a6X hm ho hf hx hp hk2 hk3
  rw [hk1,hq1]
  simp only [Int.natCast_nonneg,if_true,Int.toNat_natCast]
  generalize mo.val (U4 (pAt mo.procs p)) st k=v at *
  refine N3 (vf:=a12) rfl ?_
  unfold a12;refine zF ?_
  refine zY (aN om (aN ox (aN ha hv))) ?_
  repeat' (first|(refine a1c (fun c=>?_) (fun c=>?_)<;>(try simp only [X4,X6,X2,X3] at c)<;>simp (disch:=(first|exact Rf.mk rfl|with_reducible assumption|omega|((repeat (first|rw [nP]|rw [nS]|rw [M7]))<;>omega)|decide)) only [go_sem,↓reduceIte,om,ox,ha,hv,c])|(refine a1t (fun c=>?_) (fun c=>?_)<;>(try simp only [X4,X6,X2,X3] at c)<;>simp (disch:=(first|exact Rf.mk rfl|with_reducible assumption|omega|((repeat (first|rw [nP]|rw [nS]|rw [M7]))<;>omega)|decide)) only [go_sem,↓reduceIte,om,ox,ha,hv,c]))
  all_goals simp_all
 ·have hex:=he.ex0 (by omega)
  obtain ⟨q,hq1,hq2⟩:=he.c1 (by omega)
  rw [hex,hq1]
  refine N3 (vf:=a12) rfl ?_
  unfold a12;refine zF ?_
  refine zY (aN om (aN ox ha)) ?_
  repeat' (first|(refine a1c (fun c=>?_) (fun c=>?_)<;>(try simp only [X4,X6,X2,X3] at c)<;>simp (disch:=(first|exact Rf.mk rfl|with_reducible assumption|omega|((repeat (first|rw [nP]|rw [nS]|rw [M7]))<;>omega)|decide)) only [go_sem,↓reduceIte,om,ox,ha,c])|(refine a1t (fun c=>?_) (fun c=>?_)<;>(try simp only [X4,X6,X2,X3] at c)<;>simp (disch:=(first|exact Rf.mk rfl|with_reducible assumption|omega|((repeat (first|rw [nP]|rw [nS]|rw [M7]))<;>omega)|decide)) only [go_sem,↓reduceIte,om,ox,ha,c]))
  all_goals simp_all
 ·obtain ⟨k,hk1,hk2,hk3⟩:=he.ex1 (by omega)
  have hv:=a6X hm ho hf hx hp hk2 hk3
  rw [hk1]
  simp only [Int.natCast_nonneg,if_true,Int.toNat_natCast]
  generalize mo.val (U4 (pAt mo.procs p)) st k=v at *
  refine N3 (vf:=a12) rfl ?_
  unfold a12;refine zF ?_
  refine zY (aN om (aN ox (aN ha hv))) ?_
  repeat' (first|(refine a1c (fun c=>?_) (fun c=>?_)<;>(try simp only [X4,X6,X2,X3] at c)<;>simp (disch:=(first|exact Rf.mk rfl|with_reducible assumption|omega|((repeat (first|rw [nP]|rw [nS]|rw [M7]))<;>omega)|decide)) only [go_sem,↓reduceIte,om,ox,ha,hv,c])|(refine a1t (fun c=>?_) (fun c=>?_)<;>(try simp only [X4,X6,X2,X3] at c)<;>simp (disch:=(first|exact Rf.mk rfl|with_reducible assumption|omega|((repeat (first|rw [nP]|rw [nS]|rw [M7]))<;>omega)|decide)) only [go_sem,↓reduceIte,om,ox,ha,hv,c]))
  all_goals simp_all
 ·obtain ⟨k,hk1,hk2,hk3⟩:=he.ex1 (by omega)
  have hv:=a6X hm ho hf hx hp hk2 hk3
  rw [hk1]
  simp only [Int.natCast_nonneg,if_true,Int.toNat_natCast]
  generalize mo.val (U4 (pAt mo.procs p)) st k=v at *
  refine N3 (vf:=a12) rfl ?_
  unfold a12;refine zF ?_
  refine zY (aN om (aN ox (aN ha hv))) ?_
  repeat' (first|(refine a1c (fun c=>?_) (fun c=>?_)<;>(try simp only [X4,X6,X2,X3] at c)<;>simp (disch:=(first|exact Rf.mk rfl|with_reducible assumption|omega|((repeat (first|rw [nP]|rw [nS]|rw [M7]))<;>omega)|decide)) only [go_sem,↓reduceIte,om,ox,ha,hv,c])|(refine a1t (fun c=>?_) (fun c=>?_)<;>(try simp only [X4,X6,X2,X3] at c)<;>simp (disch:=(first|exact Rf.mk rfl|with_reducible assumption|omega|((repeat (first|rw [nP]|rw [nS]|rw [M7]))<;>omega)|decide)) only [go_sem,↓reduceIte,om,ox,ha,hv,c]))
  all_goals simp_all
theorem c0R (hm:MoF m mo ps) (hx:Y6 mo x st) {i:Nat} (hi:i<mo.chans.length):Eqc vfs 63 [.agg [m.dt,.int .i64 m.g,m.dc,m.dv,m.dp,m.ds,.bool m.b],.agg [x.da,x.dv,x.dc,.int .i64 st.hold],.int .i64 (i:Int)] (.bool ((S4 mo.chans i).lossy&&decide (0<(cAt st.chans i).length))):=by
 have om:=hm.ones
 have ox:=hx.f.ones
 have hxf:=hx.f
 have hmc:=hm.c
 have ci:i<st.chans.length:=by rw [hx.fit.chans];exact hi
 refine P4 ?_
 refine N3 (vf:=a8l) rfl ?_
 unfold a8l;refine zF ?_
 refine zY (aN om (aN ox (aN hi ci))) ?_
 repeat' (first|(refine a1c (fun c=>?_) (fun c=>?_)<;>(try simp only [X4,X6,X2,X3] at c)<;>simp (disch:=(first|exact Rf.mk rfl|with_reducible assumption|omega|((repeat (first|rw [nP]|rw [nS]|rw [M7]))<;>omega)|decide)) only [go_sem,↓reduceIte,om,ox,hi,ci,c])|(refine a1t (fun c=>?_) (fun c=>?_)<;>(try simp only [X4,X6,X2,X3] at c)<;>simp (disch:=(first|exact Rf.mk rfl|with_reducible assumption|omega|((repeat (first|rw [nP]|rw [nS]|rw [M7]))<;>omega)|decide)) only [go_sem,↓reduceIte,om,ox,hi,ci,c]))
 all_goals simp_all
theorem c4C (hm:MoF m mo ps) (hx:Y6 mo x st) {i:Nat} (hi:i<mo.chans.length):Eqc vfs 64 [.agg [m.dt,.int .i64 m.g,m.dc,m.dv,m.dp,m.ds,.bool m.b],.agg [x.da,x.dv,x.dc,.int .i64 st.hold],.int .i64 (i:Int)] (.bool ((S4 mo.chans i).copying&&decide (0<(cAt st.chans i).length)&&decide (((cAt st.chans i).length:Int)<(S4 mo.chans i).room))):=by
 have om:=hm.ones
 have ox:=hx.f.ones
 have hxf:=hx.f
 have hmc:=hm.c
 have ci:i<st.chans.length:=by rw [hx.fit.chans];exact hi
 refine P4 ?_
 refine N3 (vf:=a9m) rfl ?_
 unfold a9m;refine zF ?_
 refine zY (aN om (aN ox (aN hi ci))) ?_
 repeat' (first|(refine a1c (fun c=>?_) (fun c=>?_)<;>(try simp only [X4,X6,X2,X3] at c)<;>simp (disch:=(first|exact Rf.mk rfl|with_reducible assumption|omega|((repeat (first|rw [nP]|rw [nS]|rw [M7]))<;>omega)|decide)) only [go_sem,↓reduceIte,om,ox,hi,ci,c])|(refine a1t (fun c=>?_) (fun c=>?_)<;>(try simp only [X4,X6,X2,X3] at c)<;>simp (disch:=(first|exact Rf.mk rfl|with_reducible assumption|omega|((repeat (first|rw [nP]|rw [nS]|rw [M7]))<;>omega)|decide)) only [go_sem,↓reduceIte,om,ox,hi,ci,c]))
 all_goals simp_all
end Go.Proofs.YtnjlhebkhjcagaaGreat
namespace Go.Proofs.YtnjlhebkhjcagaaGreat
open Go.V
set_option maxRecDepth 100000
set_option maxHeartbeats 4000000
variable {m:MdX} {mo:Mo} {ps:List (Pr×PrD)} {x:StD} {st:Stt}
theorem b77 (hm:MoF m mo ps) (ho:O4 mo) (hf:X8 mo) (hx:Y6 mo x st):a31 vfs 39 [.agg [m.dt,.int .i64 m.g,m.dc,m.dv,m.dp,m.ds,.bool m.b],.agg [x.da,x.dv,x.dc,.int .i64 st.hold]] fun d=>FL 4 d (U3 (mo.moves st)):=by
 have fm:=a0N hm
 have fx:=a1A hx.f
 have om:=hm.ones
 have ox:=hx.f.ones
 have hxf:=hx.f
 have hmc:=hm.c
 have hcl:=hx.fit.chans
 have hnp:=ho.np
 have hnc:=ho.nc
 have hh:=hx.fit.hold
 have hnh:=a8c ho hx
 have hfb:=a74 hm ho hf hnh
 rw [decide_eq_true hx.fit.hold] at hfb
 refine a16 (vf:=a6d) rfl ?_
 unfold a6d;refine zF ?_
 refine zY (aN om (aN ox (aN fm (aN fx hfb)))) ?_
 have hp0:Hp ((f6.empty.push (.cells [m.dt,.int .i64 m.g,m.dc,m.dv,m.dp,m.ds,.bool m.b])).push (.cells [x.da,x.dv,x.dc,.int .i64 st.hold])) [] [(0,[m.dt,.int .i64 m.g,m.dc,m.dv,m.dp,m.ds,.bool m.b]),(1,[x.da,x.dv,x.dc,.int .i64 st.hold])]:=⟨List.nodup_nil,by simp,by simp [Has],by
  intro y hy
  simp only [List.mem_cons,List.not_mem_nil,or_false] at hy
  rcases hy with rfl | rfl
  ·exact zZ0
  ·simp (disch:=(first|exact Rf.mk rfl|with_reducible assumption|omega|((repeat (first|rw [nP]|rw [nS]|rw [M7]))<;>omega)|decide)) only [go_sem,↓reduceIte]⟩
 generalize (f6.empty.push (.cells [m.dt,.int .i64 m.g,m.dc,m.dv,m.dp,m.ds,.bool m.b])).push (.cells [x.da,x.dv,x.dc,.int .i64 st.hold])=s0 at *
 generalize hR:[(0,[m.dt,.int .i64 m.g,m.dc,m.dv,m.dp,m.ds,.bool m.b]),(1,[x.da,x.dv,x.dc,.int .i64 st.hold])]=R at hp0
 have hg:∀ {s E},Hp s E R->s.get 0=some (.cells [m.dt,.int .i64 m.g,m.dc,m.dv,m.dp,m.ds,.bool m.b])/\s.get 1=some (.cells [x.da,x.dv,x.dc,.int .i64 st.hold]):=fun h=>by
  subst hR
  exact ⟨h.r (0,_) (by simp),h.r (1,_) (by simp)⟩
 refine a0O [0,1,2,3,4,10,14,16,17,55,59,60,61,66,75] (fun f s=>∃E,Rp (f 5) 4 (U3 (mo.mvP st mo.procs.length)) E/\Hp s E R) ?_ ?_
 ·refine P6 [0,1,2,3,4,10,14,16,17,55,59,60,61,66,75] 0 mo.procs.length (fun i f s=>f 18=.int .i64 (i:Int)/\∃E,Rp (f 5) 4 (U3 (mo.mvP st i)) E/\Hp s E R) (.mk rfl) (by omega) ⟨rfl,[],.inl ⟨rfl,rfl,rfl⟩,hp0⟩ ?_
  rintro i f s hi ⟨hE,E,hr,hp⟩
  obtain ⟨g0,g1⟩:=hg hp
  have l0:=M5 g0
  have l1:=M5 g1
  by_cases ci:i<mo.procs.length
  ·have hp2:=hp.fr (a2l (z:=.cells [.str (bs []),.int .i64 0,.nils,.int .i64 0,.nils,.nils,.nils,.nils]) (o:=.cells [.str (pAt mo.procs i).name,.int .i64 ((pAt mo.procs i).copy:Int),(prX ps i).dl,.int .i64 ((pAt mo.procs i).places:Int),(prX ps i).dr,(prX ps i).de,(prX ps i).dn,(prX ps i).dv]))
   by_cases ch:0<=st.hold/\st.hold≠(i:Int)
   ·have e:mo.movesP st i=[]:=by rw [Mo.movesP_eq,if_pos ch]
    have h1:¬ st.hold=-1:=by omega
    have h2:=ch.2
    refine zY (aN hE (aN ci (aN g0 (aN g1 (aN om (aN ox (aN h1 h2))))))) ?_
    rw [Mo.mvP_succ,e,List.append_nil]
    exact ⟨E,hr,hp2⟩
   ·have e:mo.movesP st i=mo.mvE st i (pAt mo.procs i).edges.length:=by rw [Mo.movesP_eq,if_neg ch]
    have hel:=(ho.pr _ (a0l ci)).el
    have h2:¬ st.hold=-1->(st.hold=(i:Int))=True:=fun h=>eq_true (by omega)
    have hmi:(mo.mvP st i).length<=16000:=Nat.le_trans (Mo.mvP_len ho hi) (by omega)
    by_cases h1:st.hold=-1<;>simp (disch:=(first|exact Rf.mk rfl|with_reducible assumption|omega|((repeat (first|rw [nP]|rw [nS]|rw [M7]))<;>omega)|decide)) only [go_sem,↓reduceIte,hE,ci,g0,g1,om,ox,h1,h2]
    all_goals
     refine P6 [0,1,2,3,4,6,7,10,14,16,17,18,19,31,33,34,55,59,60,61,66,75] 0 (pAt mo.procs i).edges.length (fun j f s=>f 35=.int .i64 (j:Int)/\∃E,Rp (f 5) 4 (U3 (mo.mvP st i++mo.mvE st i j)) E/\Hp s E R) (.mk rfl) (by omega) ⟨rfl,E,by rw [show mo.mvE st i 0=[] from rfl,List.append_nil];exact hr,hp2⟩ ?_
     rintro j f s hj ⟨hE,E,hr,hp⟩
     obtain ⟨g0,g1⟩:=hg hp
     have l0:=M5 g0
     have l1:=M5 g1
     by_cases cj:j<(pAt mo.procs i).edges.length
     ·have hc:=c43 hm ho hf hx ci ((ho.pr _ (a0l ci)).inv.ed _ (a1P cj))
      have fe:=b0E (e:=eAt (pAt mo.procs i).edges j)
      have hp3:=hp.fr (a2l (z:=.cells [.int .i64 0,.int .i64 0,.int .i64 0,.int .i64 0,.int .i64 0,.int .i64 0,.bool false,.int .i64 0]) (o:=.cells [.int .i64 ((eAt (pAt mo.procs i).edges j).frm:Int),.int .i64 ((eAt (pAt mo.procs i).edges j).to:Int),.int .i64 ((eAt (pAt mo.procs i).edges j).act:Int),.int .i64 (eAt (pAt mo.procs i).edges j).expr,.int .i64 (eAt (pAt mo.procs i).edges j).var,.int .i64 (eAt (pAt mo.procs i).edges j).chan,.bool (eAt (pAt mo.procs i).edges j).keep,.int .i64 ((eAt (pAt mo.procs i).edges j).node:Int)]))
      refine zY (aN hE (aN ci (aN cj (aN g0 (aN g1 (aN om (aN ox hc))))))) ?_
      refine a1c (fun c=>?_) (fun c=>?_)
      ·refine zY (aN hE (aN ci cj)) ?_
       have:=Mo.mvE_len (mo:=mo) (st:=st) (i:=i) (j:=j)
       refine a1n ⟨0,i,j,0⟩ rfl hr hp3 (by decide) (by simp;omega) ?_
       intro d' s' E' hr' hp'
       refine zY hE ?_
       refine ⟨cj,E',?_,hp'⟩
       rw [Mo.mvE_succ,c,if_pos rfl,<- List.append_assoc]
       exact hr'
      ·refine zY hE ?_
       refine ⟨cj,E,?_,hp3⟩
       rw [Mo.mvE_succ,c,if_neg (by simp),List.append_nil]
       exact hr
     ·obtain rfl:j=(pAt mo.procs i).edges.length:=by omega
      refine zY (aN hE (aN ci (aN g0 (aN g1 (aN om ox))))) ?_
      rw [Mo.mvP_succ,e]
      exact ⟨E,hr,hp⟩
  ·obtain rfl:i=mo.procs.length:=by omega
   refine zY (aN hE (aN ci (aN g0 (aN g1 (aN om ox))))) ?_
   exact ⟨E,hr,hp⟩
 ·rintro f s ⟨E,hr,hp⟩
  obtain ⟨g0,g1⟩:=hg hp
  have hmi:(mo.mvP st mo.procs.length).length<=16000:=Nat.le_trans (Mo.mvP_len ho (Nat.le_refl _)) (by omega)
  by_cases ch:st.hold=-1
  rotate_left
  ·have hn:¬ st.hold<0:=by omega
   have e0:mo.moves st=mo.mvP st mo.procs.length:=by rw [Mo.moves_eq,if_neg hn,List.append_nil]
   rw [e0]
   obtain ⟨d',h1,h2⟩:=a2S hr hp (fun e h=>h) (a1O _) (a3k _)
   refine zY (aN g0 (aN g1 (aN om (aN ox (aN ch h1))))) ?_
   exact ⟨_,rfl,h2⟩
  have hn:st.hold<0:=by omega
  have e0:mo.moves st=mo.mvP st mo.procs.length++mo.mvC st mo.chans.length:=by rw [Mo.moves_eq,if_pos hn]
  rw [e0]
  refine zY (aN g0 (aN g1 (aN om (aN ox ch)))) ?_
  refine a0O [0,1,2,3,4,6,7,8,9,14,16,17,18,19,31,33,34,35,36,44,55,59] (fun f s=>∃E,Rp (f 5) 4 (U3 (mo.mvP st mo.procs.length++mo.mvC st mo.chans.length)) E/\Hp s E R) ?_ ?_
  ·refine P6 [0,1,2,3,4,6,7,8,9,14,16,17,18,19,31,33,34,35,36,44,55,59] 0 mo.chans.length (fun i f s=>f 60=.int .i64 (i:Int)/\∃E,Rp (f 5) 4 (U3 (mo.mvP st mo.procs.length++mo.mvC st i)) E/\Hp s E R) (.mk rfl) (by omega) ⟨rfl,E,?_,hp⟩ ?_
   ·rw [show mo.mvC st 0=[] from rfl,List.append_nil];exact hr
   clear hr hp g0 g1
   rintro i f s hi ⟨hE,E,hr,hp⟩
   obtain ⟨g0,g1⟩:=hg hp
   have l0:=M5 g0
   have l1:=M5 g1
   by_cases ci:i<mo.chans.length
   ·have hmc':=Mo.mvC_len (mo:=mo) (st:=st) (i:=i)
    have e1:mo.mvC st (i+1)=mo.mvC st i++mo.movesC st i:=Mo.mvC_succ
    unfold Mo.movesC at e1
    have hl:=c0R hm hx ci
    have hc:=c4C hm hx ci
    generalize ((S4 mo.chans i).lossy&&decide (0<(cAt st.chans i).length))=bl at *
    generalize ((S4 mo.chans i).copying&&decide (0<(cAt st.chans i).length)&&decide (((cAt st.chans i).length:Int)<(S4 mo.chans i).room))=bc at *
    cases bl
    ·cases bc
     ·refine zY (aN hE (aN ci (aN g0 (aN g1 (aN om (aN ox (aN hl hc))))))) ?_
      rw [e1]
      exact ⟨E,by simpa using hr,hp⟩
     ·refine zY (aN hE (aN ci (aN g0 (aN g1 (aN om (aN ox (aN hl hc))))))) ?_
      refine a1n ⟨2,0,0,i⟩ rfl hr hp (by decide) (by simp;omega) ?_
      rintro d1 s1 E1 hr1 hp1
      refine zY (aN hE ci) ?_
      rw [e1]
      exact ⟨E1,by simpa using hr1,hp1⟩
    ·refine zY (aN hE (aN ci (aN g0 (aN g1 (aN om (aN ox hl)))))) ?_
     refine a1n ⟨1,0,0,i⟩ rfl hr hp (by decide) (by simp;omega) ?_
     rintro d1 s1 E1 hr1 hp1
     obtain ⟨k0,k1⟩:=hg hp1
     have j0:=M5 k0
     have j1:=M5 k1
     cases bc
     ·refine zY (aN hE (aN ci (aN k0 (aN k1 (aN om (aN ox hc)))))) ?_
      rw [e1]
      exact ⟨E1,by simpa using hr1,hp1⟩
     ·refine zY (aN hE (aN ci (aN k0 (aN k1 (aN om (aN ox hc)))))) ?_
      refine a1n ⟨2,0,0,i⟩ rfl hr1 hp1 (by decide) (by simp;omega) ?_
      rintro d2 s2 E2 hr2 hp2
      refine zY (aN hE ci) ?_
      rw [e1]
      exact ⟨E2,by simpa using hr2,hp2⟩
   ·obtain rfl:i=mo.chans.length:=by omega
    refine zY (aN hE ci) ?_
    exact ⟨E,hr,hp⟩
  ·rintro f s ⟨E,hr,hp⟩
   obtain ⟨d',h1,h2⟩:=a2S hr hp (fun e h=>h) (a1O _) (a3k _)
   refine zY h1 ?_
   exact ⟨_,rfl,h2⟩
theorem b13 (hm:MoF m mo ps) (ho:O4 mo) (hf:X8 mo) (hx:Y6 mo x st):∃d,Eqc vfs 39 [.agg [m.dt,.int .i64 m.g,m.dc,m.dv,m.dp,m.ds,.bool m.b],.agg [x.da,x.dv,x.dc,.int .i64 st.hold]] d/\FL 4 d (U3 (mo.moves st)):=by
 obtain ⟨d,h1,h2⟩:=b77 hm ho hf hx
 exact ⟨d,P4 h1,h2⟩
end Go.Proofs.YtnjlhebkhjcagaaGreat
namespace Go.V
structure a0v (p:Pr):Prop where
 two:2<=p.places
 ed:∀e∈p.edges,e.frm≠1
theorem a0v.put {p:Pr} (h:a0v p) {frm to act node:Nat} {x v c:Int} (hf:frm≠1):a0v (p.put frm to act node x v c) :=
 ⟨h.two,fun e he=>by
  simp only [Pr.put,List.mem_append,List.mem_singleton] at he
  rcases he with he | rfl
  ·exact h.ed e he
  ·exact hf⟩
theorem a0v.place {p:Pr} (h:a0v p):a0v p.place:=⟨Nat.le_succ_of_le h.two,h.ed⟩
theorem a0v.idle {p:Pr} (h:a0v p) (n:Nat) (i:Int):a0v (p.idle n i):=by
 unfold Pr.idle
 split
 ·exact ⟨h.two,h.ed⟩
 ·exact h
theorem a0v.mark {p:Pr} (h:a0v p) (n to:Nat):a0v { p with edges:=a0o n to p.edges } :=
 ⟨h.two,fun e he=>by
  simp only [a0o,List.mem_append,List.mem_map] at he
  rcases he with he | ⟨e',he,rfl⟩
  ·exact h.ed e (List.mem_of_mem_take he)
  ·exact h.ed e' (List.mem_of_mem_drop he)⟩
def StN (st:Pr->Nat->Nat->Nat->Pr):Prop:=∀p k frm to,a0v p->frm≠1->a0v (st p k frm to)
theorem b0j {st:Pr->Nat->Nat->Nat->Pr} (hs:StN st) {node:Nat}:∀ {ks:List Nat} {p:Pr} {frm to:Nat},a0v p->frm≠1->a0v (a0Q st node p ks frm to)
 | [],p,frm,to,h,hf=>h.put hf
 | [k],p,frm,to,h,hf=>hs p k frm to h hf
 | k::k'::ks,p,frm,to,h,hf=>b0j hs (ks:=k'::ks) (hs _ k frm _ h.place hf) (by have:=h.two;omega)
theorem a4G {t:List Nd} {st:Pr->Nat->Nat->Nat->Pr} (hs:StN st) {p:Pr} {b frm to:Nat} (h:a0v p) (hf:frm≠1):a0v (V7 t st p b frm to):=b0j hs h hf
theorem b4B {t:List Nd} {st:Pr->Nat->Nat->Nat->Pr} (hs:StN st) {frm to:Nat} (hf:frm≠1):∀ {ks:List Nat} {p:Pr},a0v p->a0v (Y0 t st frm to p ks)
 | [],p,h=>h
 | k::ks,p,h=>by
   unfold Y0
   refine b4B hs hf ?_
   split
   ·exact a4G hs (h.place.put hf) (by have:=h.two;omega)
   ·exact a4G hs h hf
theorem b2q (t:List Nd) (ch:List ByteArray):∀f,StN (M9 t ch f)
 | 0=>fun p k frm to h _=>h
 | f+1=>by
   have hs:=b2q t ch f
   intro p k frm to h hf
   have h2:=h.two
   have hp1:∀ {act node:Nat} {x v c:Int},a0v (V7 t (M9 t ch f) (p.place.put frm p.places act node x v c) ((nd t k).kid 1) p.places to):=a4G hs (h.place.put hf) (by omega)
   unfold M9
   simp only
   repeat' split
   all_goals first
    | exact h.put hf
    | exact (h.idle _ _).put hf
    | exact b4B hs hf (h.idle _ _)
    | exact hp1.put hf
    | exact (a4G hs h hf).mark _ _
    | exact a4G hs ((h.place.put hf).put hf) (by omega)
    | exact a4G hs (hp1.place.put hf) (by have:=(hp1 (act:=4) (node:=k) (x:=((nd t k).kid 0:Nat)) (v:=-1) (c:=-1)).two;omega)
theorem c4v (t:List Nd) (o:Org):a0v (a0j t o):=b0j (b2q t _ _) ⟨Nat.le_refl _,fun e he=>by simp [pr1] at he⟩ (by decide)
structure a7T (t:List Nd) (a:Gc):Prop where
 pw:a.l.Pairwise fun o o'=>o.nv+N4 t (nd t o.k)<=o'.nv
 le:∀o∈a.l,o.nv+N4 t (nd t o.k)<=a.nv
theorem c3r {t:List Nd} {a:Gc} {k:Nat} (h:a7T t a):a7T t (a17 t a k):=by
 unfold a17
 split
 ·refine ⟨List.pairwise_append.2 ⟨h.pw,?_,fun o ho o' ho'=>?_⟩,fun o ho=>?_⟩
  ·unfold a2o
   rw [List.pairwise_map]
   refine List.Pairwise.imp ?_ List.pairwise_lt_range
   intro c c' hc
   have:(c+1)*N4 t (nd t k)<=c'*N4 t (nd t k):=Nat.mul_le_mul_right _ hc
   rw [Nat.succ_mul] at this
   simp only
   omega
  ·obtain ⟨c,hc,rfl⟩:=List.mem_map.1 ho'
   have:=h.le o ho
   simp only
   omega
  ·rcases List.mem_append.1 ho with ho | ho
   ·have:=h.le o ho
    simp only;omega
   ·obtain ⟨c,hc,rfl⟩:=List.mem_map.1 ho
    rw [List.mem_range] at hc
    have:(c+1)*N4 t (nd t k)<=((nd t k).num 0).toNat*N4 t (nd t k):=Nat.mul_le_mul_right _ hc
    rw [Nat.succ_mul] at this
    simp only
    omega
 ·split
  ·exact ⟨h.pw,h.le⟩
  ·exact h
theorem c3z (t:List Nd):(T8 t).Pairwise fun o o'=>o.nv+N4 t (nd t o.k)<=o'.nv:=by
 have:a7T t (a0e t (nd t 0).ks):=by
  unfold a0e
  exact a4E (P:=a7T t) ⟨List.Pairwise.nil,fun o ho=>by simp at ho⟩ fun a k _ ha=>c3r ha
 exact this.pw
theorem c3p {t:List Nd}:∀o∈T8 t,o.seen<=(gat t).vs.length/\(gat t).vs.length<=o.nv:=fun o ho=>by
 obtain ⟨_,_,_,h1,_⟩:=a6I ho
 exact ⟨h1,(a2G ho).lo⟩
structure MoQ (mo:Mo):Prop where
 one:∀i,i<mo.procs.length->∀e∈(pAt mo.procs i).edges,e.frm≠1
 own:∀i j,i<mo.procs.length->j<mo.procs.length->i≠j->∀v∈(pAt mo.procs i).locals,v∉(pAt mo.procs j).vars
 ll:∀i,i<mo.procs.length->(pAt mo.procs i).locals.length<=mo.vars.length
theorem b1j {t:List Nd} (h:N6 t) (hS:a0s t):MoQ (S5 t):=by
 have e:(S5 t).procs=(T8 t).map (a0j t):=(a3z t).1
 have el:(S5 t).procs.length=(T8 t).length:=by rw [e,List.length_map]
 have ep:∀i (hi:i<(T8 t).length),pAt (S5 t).procs i=a0j t (T8 t)[i]:=fun i hi=>by
  rw [a19 (by omega)];simp [e]
 refine ⟨fun i hi ed hed=>?_,fun i j hi hj hij v hv hv'=>?_,fun i hi=>?_⟩
 ·rw [ep i (by omega)] at hed
  exact (c4v t _).ed ed hed
 ·rw [el] at hi hj
  rw [ep i hi] at hv
  rw [ep j hj] at hv'
  have g1:=(a3g h hS (List.getElem_mem hi)).2
  have g2:=(a3g h hS (List.getElem_mem hj)).2
  rw [g1.locals] at hv
  rw [g2.vars] at hv'
  have lo:=c3p (t:=t)
  simp only [pr1,List.mem_map,List.mem_range,List.mem_append] at hv hv'
  obtain ⟨a,ha,rfl⟩:=hv
  obtain ⟨l1,l2⟩:=lo _ (List.getElem_mem hi)
  obtain ⟨l3,l4⟩:=lo _ (List.getElem_mem hj)
  have pw:=List.pairwise_iff_getElem.1 (c3z t)
  rcases hv' with hv' | ⟨b,hb,hv'⟩
  ·omega
  ·by_cases c:i<j
   ·have:=pw i j hi hj c
    omega
   ·have:=pw j i hj hi (by omega)
    omega
 ·rw [el] at hi
  rw [ep i hi,(a3g h hS (List.getElem_mem hi)).2.locals]
  have h1:=(a2G (List.getElem_mem hi)).hi
  have h2:(S5 t).vars.length=(gbt t).vs.length:=rfl
  simp only [pr1,List.length_map,List.length_range]
  omega
end Go.V
namespace Go.V
variable {mo:Mo} {st:Stt}
def a4F (p:Pr) (f:Ft):Bool:=(List.range 32).all fun b=>!((f.reads ||| f.writes).testBit b)||p.locals.contains b
def a0u (mo:Mo) (p:Pr) (e:Ed):Bool :=
 !e.keep&&!(O1 mo p e).part&&decide ((O1 mo p e).sends=0)&&decide ((O1 mo p e).recvs=0)&&decide ((O1 mo p e).sizes=0)&&a4F p (O1 mo p e)&&(decide (e.to=1)||decide (e.frm<e.to))
def lvE (p:Pr) (k:Nat):List Ed:=p.edges.filter fun e=>decide (e.frm=k)
def a2i (l:List Ed):Bool:=l.all (fun e=>decide (e.act<=1))&&decide (0<l.length)
def forkE (l:List Ed):Bool:=decide (l.length=2)&&decide ((eAt l 0).act=4)&&decide ((eAt l 1).act=5)&&decide ((eAt l 0).expr=(eAt l 1).expr)
def Mo.quiet (mo:Mo) (i k:Nat):Bool:=decide (i<mo.procs.length)&&((lvE (pAt mo.procs i) k).all (a0u mo (pAt mo.procs i))&&(a2i (lvE (pAt mo.procs i) k)||forkE (lvE (pAt mo.procs i) k)))
structure QE (mo:Mo) (p:Pr) (e:Ed):Prop where
 keep:e.keep=false
 part:(O1 mo p e).part=false
 s0:(O1 mo p e).sends=0
 r0:(O1 mo p e).recvs=0
 z0:(O1 mo p e).sizes=0
 rd:∀b,(O1 mo p e).reads.testBit b=true->b∈p.locals
 wr:∀b,(O1 mo p e).writes.testBit b=true->b∈p.locals
 to:e.to=1∨e.frm<e.to
theorem b4h (ho:O4 mo) {p:Pr} (hp:a2Q mo p) {e:Ed} (he:e∈p.edges) (h:a0u mo p e=true):QE mo p e:=by
 unfold a0u a4F at h
 simp only [Bool.and_eq_true,Bool.not_eq_true',decide_eq_true_eq,List.all_eq_true,List.mem_range,Bool.or_eq_true,List.contains_iff_mem] at h
 obtain ⟨⟨⟨⟨⟨⟨h1,h2⟩,h3⟩,h4⟩,h5⟩,h6⟩,h7⟩:=h
 have hown:=b41 ho hp he
 have hv:=ho.nv
 refine ⟨h1,h2,h3,h4,h5,fun b hb=>?_,fun b hb=>?_,h7⟩
 ·have:=hp.var b (hown.reads b hb)
  rcases h6 b (by omega) with h | h
  ·rw [Nat.testBit_or,hb] at h;cases h
  ·exact h
 ·have:=hp.var b (hown.writes b hb)
  rcases h6 b (by omega) with h | h
  ·rw [Nat.testBit_or,hb,Bool.or_true] at h;cases h
  ·exact h
theorem QE.act {p:Pr} (hp:a2Q mo p) {e:Ed} (he:e∈p.edges) (h:QE mo p e):e.act≠2/\e.act≠3:=by
 have key:¬ (e.act=2∨e.act=3):=fun ha=>by
  have:=b8X hp he ha
  rw [h.s0,h.r0] at this
  simp at this
 omega
theorem a2R.refl (f:Ft) (st:Stt):a2R f st st:=⟨fun _ _=>rfl,fun _ _=>rfl⟩
theorem b6r (ho:O4 mo) {i:Nat} {p:Pr} (hp:a2Q mo p) {e:Ed} (he:e∈p.edges) (z:Int):mo.can { st with hold:=z } i p e=mo.can st i p e:=by
 have h:=c2j ho hp he ((a2R.refl (O1 mo p e) st).hold z) 0
 unfold Mo.can
 rw [<- h]
theorem c3a {st st':Stt} {i:Nat} {p:Pr} (h:∀e∈p.edges,mo.can st i p e=mo.can st' i p e):mo.someS st i p=mo.someS st' i p:=by
 unfold Mo.someS
 rw [Bool.eq_iff_iff,List.any_eq_true,List.any_eq_true]
 constructor
 ·rintro ⟨e,he,hc⟩;exact ⟨e,he,by rw [<- h e he];exact hc⟩
 ·rintro ⟨e,he,hc⟩;exact ⟨e,he,by rw [h e he];exact hc⟩
def Mo.eff (mo:Mo) (i:Nat) (e:Ed) (st:Stt):Stt:={ mo.edgeS st i (pAt mo.procs i) e with hold:=st.hold }
end Go.V
namespace Go.V
variable {mo:Mo} {st:Stt}
theorem a3Q {v:Mv}:v∈mo.moves st↔(v.kind=0/\v.chan=0/\v.proc<mo.procs.length/\v.edge<(pAt mo.procs v.proc).edges.length/\mo.can st v.proc (pAt mo.procs v.proc) (eAt (pAt mo.procs v.proc).edges v.edge)=true/\¬ (0<=st.hold/\st.hold≠(v.proc:Int)))∨(st.hold<0/\v.chan<mo.chans.length/\v∈mo.movesC st v.chan):=by
 unfold Mo.moves
 rw [List.mem_append]
 constructor
 ·rintro (h | h)
  ·obtain ⟨i,hi,hv⟩:=List.mem_flatMap.1 h
   obtain ⟨h1,h2⟩:=b22 hv
   obtain ⟨a,b,c,d⟩:=b3b h1
   subst b
   have hc:v.chan=0:=by
    unfold Mo.mvE at h1
    obtain ⟨k,_,e⟩:=List.mem_map.1 h1
    rw [<- e]
   exact .inl ⟨a,hc,List.mem_range.1 hi,c,d,h2⟩
  ·split at h
   ·rename_i hh
    obtain ⟨c,hc,hv⟩:=List.mem_flatMap.1 h
    obtain ⟨_,rfl,_⟩:=a9o hv
    exact .inr ⟨hh,List.mem_range.1 hc,hv⟩
   ·cases h
 ·rintro (⟨a,b,c,d,e,f⟩ | ⟨a,b,c⟩)
  ·refine .inl (List.mem_flatMap.2 ⟨v.proc,List.mem_range.2 c,?_⟩)
   rw [Mo.movesP_eq,if_neg f]
   unfold Mo.mvE
   refine List.mem_map.2 ⟨v.edge,List.mem_filter.2 ⟨List.mem_range.2 d,e⟩,?_⟩
   cases v
   simp only at a b
   subst a b
   rfl
  ·rw [if_pos a]
   exact .inr (List.mem_flatMap.2 ⟨v.chan,List.mem_range.2 b,c⟩)
structure a3y (mo:Mo) (st:Stt):Prop where
 fit:Fit mo st
 keep:∀j:Nat,st.hold=(j:Int)->mo.someS st j (pAt mo.procs j)=true
theorem c5G (ho:O4 mo) {i:Nat} (hi:i<mo.procs.length) (z:Int):mo.someS { st with hold:=z } i (pAt mo.procs i)=mo.someS st i (pAt mo.procs i):=c3a fun _ he=>b6r ho (ho.pr _ (a0l hi)) he z
theorem a3y.step (ho:O4 mo) (hf:X8 mo) (h:a3y mo st) {v:Mv} (hv:v∈mo.moves st):a3y mo (mo.doS st v):=by
 refine ⟨c4T ho hf h.fit (c6g hv),fun j hj=>?_⟩
 rcases a3Q.1 hv with ⟨a,_,b,_,_,_⟩ | ⟨a,b,c⟩
 ·rw [b4f a] at hj ⊢
  unfold Mo.doE at hj ⊢
  simp only at hj
  split at hj
  ·rename_i hk
   obtain rfl:j=v.proc:=by omega
   rw [c5G ho b]
   rw [Bool.and_eq_true] at hk
   exact hk.2
  ·omega
 ·obtain ⟨k,_⟩:=a9o c
  have:(mo.doS st v).hold=st.hold:=by
   unfold Mo.doS
   rcases k with k | k
   ·rw [if_pos k]
   ·rw [if_neg (by omega),if_pos k]
  omega
def a2P (mo:Mo) (M:Stt->List Mv):Nat->Stt->Stt->Prop
 | 0,s,t=>s=t
 | n+1,s,t=>∃v∈M s,a2P mo M n (mo.doS s v) t
theorem a2P.inv (ho:O4 mo) (hf:X8 mo):∀ {n:Nat} {s t:Stt},a2P mo mo.moves n s t->a3y mo s->a3y mo t
 | 0,s,t,h,hi=>by cases h;exact hi
 | n+1,s,t,⟨v,hv,h⟩,hi=>h.inv ho hf (hi.step ho hf hv)
structure QP (mo:Mo) (i k:Nat):Prop where
 lt:i<mo.procs.length
 ed:∀e∈(pAt mo.procs i).edges,e.frm=k->QE mo (pAt mo.procs i) e
end Go.V
namespace Go.V
variable {mo:Mo} {st:Stt}
theorem b3z (ho:O4 mo) {i k:Nat} (h:mo.quiet i k=true):QP mo i k:=by
 unfold Mo.quiet at h
 simp only [Bool.and_eq_true,decide_eq_true_eq] at h
 refine ⟨h.1,fun e he hk=>b4h ho (ho.pr _ (a0l h.1)) he ?_⟩
 exact List.all_eq_true.1 h.2.1 e (List.mem_filter.2 ⟨he,by simpa using hk⟩)
theorem b6F {i:Nat} (hi:i<mo.procs.length) {e:Ed} (he:e∈(pAt mo.procs i).edges) (hc:mo.can st i (pAt mo.procs i) e=true) (hh:¬ (0<=st.hold/\st.hold≠(i:Int))):∃v,v∈mo.moves st/\v.kind=0/\v.proc=i/\mo.doS st v=mo.doE st i (pAt mo.procs i) e:=by
 obtain ⟨j,hj,rfl⟩:=List.getElem_of_mem he
 refine ⟨⟨0,i,j,0⟩,a3Q.2 (.inl ⟨rfl,rfl,hi,hj,by simp only;rw [a15 hj];exact hc,hh⟩),rfl,rfl,?_⟩
 rw [b4f rfl]
 simp only
 rw [a15 hj]
def Mo.rk (mo:Mo) (st:Stt):Nat:=((List.range mo.procs.length).map fun i=>if nAt st.at' i=1 then 0 else (pAt mo.procs i).places-nAt st.at' i).sum
def Mo.deadS (mo:Mo) (st:Stt):Bool:=decide (mo.moves st=[])&&!((List.range mo.procs.length).all fun i=>(pAt mo.procs i).rest.getD (nAt st.at' i) false)
def Mo.badS (mo:Mo) (st:Stt):Bool:=!mo.safeS st||mo.dead&&mo.deadS st
def Mo.firstQ (mo:Mo) (st:Stt):Option Nat:=(List.range mo.procs.length).find? fun i=>mo.quiet i (nAt st.at' i)
def Mo.ample (mo:Mo) (st:Stt):List Mv:=if st.hold<0 then match mo.firstQ st with
    | some i=>(mo.moves st).filter fun v=>decide (v.kind=0)&&decide (v.proc=i)
    | none=>mo.moves st
 else mo.moves st
theorem a7a {v:Mv} (h:v∈mo.ample st):v∈mo.moves st:=by
 unfold Mo.ample at h
 split at h
 ·split at h
  ·exact (List.mem_filter.1 h).1
  ·exact h
 ·exact h
def a8G (mo:Mo):Prop:=∀i st,mo.quiet i (nAt st.at' i)=true->∃e∈(pAt mo.procs i).edges,e.frm=nAt st.at' i/\mo.can st i (pAt mo.procs i) e=true
end Go.V
namespace Go.V
def ExP (P:Nat->Prop) (p:Pr):Prop:=∀e∈p.edges,∀n:Nat,e.expr=(n:Int)->P n
variable {P:Nat->Prop}
theorem ExP.put {p:Pr} (h:ExP P p) {frm to act node:Nat} {x v c:Int} (hx:∀n:Nat,x=(n:Int)->P n):ExP P (p.put frm to act node x v c):=fun e he=>by
 simp only [Pr.put,List.mem_append,List.mem_singleton] at he
 rcases he with he | rfl
 ·exact h e he
 ·exact hx
theorem a7E:∀n:Nat,(-1:Int)=(n:Int)->P n:=fun n h=>by omega
theorem ExP.idle {p:Pr} (h:ExP P p) (n:Nat) (i:Int):ExP P (p.idle n i):=by
 unfold Pr.idle
 split
 ·exact h
 ·exact h
theorem ExP.mark {p:Pr} (h:ExP P p) (n to:Nat):ExP P { p with edges:=a0o n to p.edges }:=fun e he=>by
 simp only [a0o,List.mem_append,List.mem_map] at he
 rcases he with he | ⟨e',he,rfl⟩
 ·exact h e (List.mem_of_mem_take he)
 ·exact h e' (List.mem_of_mem_drop he)
def StX (P:Nat->Prop) (st:Pr->Nat->Nat->Nat->Pr) (k:Nat):Prop:=∀p frm to,ExP P p->ExP P (st p k frm to)
theorem a3C {st:Pr->Nat->Nat->Nat->Pr} {node:Nat}:∀ {ks:List Nat} {p:Pr} {frm to:Nat},(∀k∈ks,StX P st k)->ExP P p->ExP P (a0Q st node p ks frm to)
 | [],p,frm,to,_,h=>h.put a7E
 | [k],p,frm,to,hs,h=>hs k (by simp) p frm to h
 | k::k'::ks,p,frm,to,hs,h=>a3C (ks:=k'::ks) (fun x hx=>hs x (by simp only [List.mem_cons] at hx ⊢;exact .inr hx)) (hs k (by simp) p.place frm _ h)
theorem b5k {t:List Nd} {st:Pr->Nat->Nat->Nat->Pr} {frm to:Nat}:∀ {ks:List Nat} {p:Pr},(∀b∈ks,∀k∈(nd t b).ks,StX P st k)->ExP P p->ExP P (Y0 t st frm to p ks)
 | [],p,_,h=>h
 | k::ks,p,hs,h=>by
   unfold Y0
   refine b5k (fun b hb=>hs b (by simp [hb])) ?_
   split
   ·exact a3C (hs k (by simp)) (ExP.put (p:=p.place) h a7E)
   ·exact a3C (hs k (by simp)) h
theorem b4J {t:List Nd} (ht:Z0 t) (ch:List ByteArray) (hc:∀j,j<t.length->P j->∀k∈(nd t j).ks,P k):∀f k,k<t.length->P k->a14 (nd t k).kind->StX P (M9 t ch f) k
 | 0,k,_,_,_=>fun p frm to h=>h
 | f+1,k,hk,hP,hst=>by
   intro p frm to h
   have hno:=ht.node k hk
   have hks:=ht.ks hk
   have bl:∀b∈(nd t k).ks,(nd t b).kind=16->∀x∈(nd t b).ks,StX P (M9 t ch f) x:=fun b hb hb16 x hx=>by
    have h1:=hks b hb
    have h2:=ht.ks h1.2 x hx
    exact b4J ht ch hc f x h2.2 (hc b h1.2 (hc k hk hP b hb) x hx) ((ht.node b h1.2).block hb16 x hx)
   have k0:1<=(nd t k).kids.length->∀n:Nat,(((nd t k).kid 0:Nat):Int)=(n:Int)->P n:=fun h1 n e=>by
    obtain rfl:(nd t k).kid 0=n:=by omega
    exact hc k hk hP _ (V6 (by omega))
   unfold M9
   simp only
   by_cases c6:(nd t k).kind=6
   ·rw [if_pos c6];exact h.put (k0 (by have:=hno.one (by omega);omega))
   rw [if_neg c6]
   by_cases c7:(nd t k).kind=7
   ·rw [if_pos c7];exact h.put (k0 (by have:=hno.one (by omega);omega))
   rw [if_neg c7]
   by_cases c8:(nd t k).kind=8
   ·rw [if_pos c8];exact (h.idle _ _).put a7E
   rw [if_neg c8]
   by_cases c9:(nd t k).kind=9
   ·rw [if_pos c9];exact (h.idle _ _).put (k0 (by have:=hno.one (by omega);omega))
   rw [if_neg c9]
   by_cases c10:(nd t k).kind=10
   ·rw [if_pos c10];exact b5k (fun b hb=>bl b hb ((hno.choose c10).2 b hb)) (h.idle _ _)
   rw [if_neg c10]
   by_cases c11:(nd t k).kind=11
   ·rw [if_pos c11]
    obtain ⟨l1,l2,l3,l4⟩:=hno.cond c11
    have k0:=k0 (by omega)
    have m1:=V6 (x:=nd t k) (i:=1) (by omega)
    have i1:ExP P (p.place.put frm p.places 4 k ((nd t k).kid 0:Nat) (-1) (-1)):=ExP.put (p:=p.place) h k0
    have s1:=a3C (node:=(nd t k).kid 1) (frm:=p.places) (to:=to) (bl _ m1 l3) i1
    split
    ·exact ExP.put s1 k0
    ·have m2:=V6 (x:=nd t k) (i:=2) (by omega)
     exact a3C (bl _ m2 (l4 (by omega))) (ExP.put (p:=Pr.place _) s1 k0)
   rw [if_neg c11]
   by_cases c12:(nd t k).kind=12
   ·rw [if_pos c12]
    obtain ⟨l1,l2,l3⟩:=hno.loop c12
    have k0:=k0 (by omega)
    exact a3C (bl _ (V6 (x:=nd t k) (i:=1) (by omega)) l3) (ExP.put (ExP.put (p:=p.place) h k0) k0)
   rw [if_neg c12]
   by_cases c13:(nd t k).kind=13
   ·rw [if_pos c13]
    obtain ⟨l1,l2⟩:=hno.atom c13
    exact ExP.mark (a3C (bl _ (V6 (x:=nd t k) (i:=0) (by omega)) l2) h) _ _
   rw [if_neg c13]
   split<;>exact h.put a7E
theorem b5j {ch:List ByteArray} {vb:ByteArray->Nat} {x:Nd} {f:Ft} (h:(S8 ch vb x f).part=false):f.part=false/\¬ (x.kind=22/\(x.num 0=7∨x.num 0=8)):=by
 unfold S8 at h
 split at h
 ·exact ⟨h,fun e=>by omega⟩
 split at h
 ·exact ⟨h,fun e=>by omega⟩
 split at h
 ·cases h
 ·rename_i c;exact ⟨h,c⟩
theorem b0Z {g:Ft->Nat->Ft} (hg:∀f k,(g f k).part=false->f.part=false):∀ {l:List Nat} {f:Ft},(l.foldl g f).part=false->f.part=false/\∀k∈l,∃f',(g f' k).part=false
 | [],f,h=>⟨h,fun k hk=>by simp at hk⟩
 | x::l,f,h=>by
   obtain ⟨h1,h2⟩:=b0Z hg (l:=l) (f:=g f x) h
   refine ⟨hg f x h1,fun k hk=>?_⟩
   rcases List.mem_cons.1 hk with rfl | hk
   ·exact ⟨f,h1⟩
   ·exact h2 k hk
theorem b1R {t:List Nd} {ch:List ByteArray} {vb:ByteArray->Nat}:∀n k f,(Y8 t ch vb n k f).part=false->f.part=false
 | 0,k,f,h=>h
 | n+1,k,f,h=>by
   unfold Y8 at h
   exact (b5j (b0Z (fun f k=>b1R n k f) h).1).1
theorem b4x {t:List Nd} (ht:Z0 t) {ch ch':List ByteArray} {vb:ByteArray->Nat} {look:ByteArray->Option Nat} {st:Stt} (hc:∀j,j<t.length->P j->∀k∈(nd t j).ks,P k) (hv:∀k,P k->(nd t k).kind=18->look ((nd t k).word 0)≠none) (hl:∀k,P k->(nd t k).kind=19->idxB ch ((nd t k).word 0)<ch.length):∀ (n k:Nat) (f:Ft),k<t.length->a0M (nd t k).kind->P k->t.length<=k+n->(Y8 t ch' vb n k f).part=false->(U1 t ch look st n k).2=true
 | 0,k,f,hk,_,_,hn,_=>by omega
 | n+1,k,f,hk,hx,hP,hn,hp=>by
   have hno:=ht.node k hk
   obtain ⟨_,hkx⟩:=a5s hno hx
   unfold Y8 at hp
   obtain ⟨p1,p2⟩:=b0Z (fun f k=>b1R n k f) hp
   have p1:=(b5j p1).2
   have hkid:∀i,i<(nd t k).kids.length->(U1 t ch look st n ((nd t k).kid i)).2=true:=fun i hi=>by
    have hm:=V6 hi
    have h2:=ht.ks hk _ hm
    obtain ⟨f',hf'⟩:=p2 _ hm
    exact b4x ht hc hv hl n _ f' h2.2 (hkx i hi) (hc k hk hP _ hm) (by omega) hf'
   unfold U1
   simp only
   by_cases q17:(nd t k).kind=17
   ·simp only [q17,if_true]
   simp only [q17,if_false]
   by_cases q18:(nd t k).kind=18
   ·simp only [q18,if_true]
    cases hlk:look ((nd t k).word 0) with
    | none=>exact absurd hlk (hv k hP q18)
    | some v=>rfl
   simp only [q18,if_false]
   by_cases q19:(nd t k).kind=19
   ·simp only [q19,if_true,hl k hP q19]
   simp only [q19,if_false]
   by_cases q20:(nd t k).kind=20
   ·have:=(hno.one (by omega)).1
    simp only [q20,if_true,hkid 0 (by omega)]
   simp only [q20,if_false]
   by_cases q21:(nd t k).kind=21
   ·have:=(hno.one (by omega)).1
    simp only [q21,if_true,hkid 0 (by omega)]
   simp only [q21,if_false]
   by_cases q22:(nd t k).kind=22
   ·obtain ⟨b1,_,_,b4,b5⟩:=hno.bin q22
    simp only [q22,if_true,hkid 0 (by omega),hkid 1 (by omega),Bool.and_self]
    unfold W5
    rw [if_neg (by omega)]
    repeat' split
    all_goals rfl
   unfold a0M at hx
   omega
end Go.V
namespace Go.V
theorem c4E {t:List Nd} (h:N6 t) (hS:a0s t) {o:Org} (ho:o∈T8 t):∃P:Nat->Prop,(∀j,j<t.length->P j->∀k∈(nd t j).ks,P k)/\ExP P (a0j t o)/\(∀k,P k->(nd t k).kind=18->(nd t k).word 0∈(pr1 t o).names)/\(∀k,P k->(nd t k).kind=19->(nd t k).word 0∈chs t):=by
 obtain ⟨b,b1,hsub,k2,_,_⟩:=a5y h hS ho
 have hok:=a2G ho
 have hpc:=a4u ((h.ok.node o.k k2).proc hok.kind)
 have hclo:∀j,j<t.length->(o.k<=j/\j<b)->∀k∈(nd t j).ks,o.k<=k/\k<b:=fun j _ hj k hk=>by
  obtain ⟨z,hz,rfl⟩:=List.mem_map.1 hk
  have:=hsub.down j hj.1 hj.2 z hz
  omega
 obtain ⟨i,hi,e,hseen⟩:=hok.at'
 have hkm:o.k∈(nd t 0).ks:=e▸List.getElem_mem hi
 have hle:=hsub.le
 obtain ⟨r,hr⟩:=a7j t ((nd t 0).ks.take i) ((nd t 0).ks.drop i)
 rw [List.take_append_drop] at hr
 have hg:(gat t).vs=(U8 t ((nd t 0).ks.take i)).vs++r:=hr
 have hv:(gat t).vs.take o.seen=(U8 t ((nd t 0).ks.take i)).vs:=by rw [hg,hseen,List.take_left]
 refine ⟨fun j=>o.k<=j/\j<b,hclo,a3C (fun k hk=>?_) fun ed he=>by simp [pr1] at he,fun k hP h18=>?_,fun k hP h19=>?_⟩
 ·have hkk:=h.ok.ks k2 k (List.mem_of_mem_drop hk)
  exact b4J h.ok _ hclo _ k hkk.2 (hclo o.k k2 ⟨Nat.le_refl _,hsub.lt⟩ k (List.mem_of_mem_drop hk)) (hpc.1 k hk)
 ·have:=b1L h hi (by rw [e];exact hok.kind) (by rw [e];exact hsub) (by rw [e];exact a3v h hkm hsub) (j:=k) (by rw [e];exact hP.1) hP.2 (hS.use k (by omega) (.inr h18))
  rw [e,<- hv] at this
  exact List.mem_append.2 this
 ·exact b1Q h (by omega) (hS.chan k (by omega) (.inr (.inl h19)))
theorem b3j {l:List ByteArray} {w:ByteArray} (h:w∈l):idxB l w<l.length:=List.findIdx_lt_length_of_exists ⟨w,h,by simp⟩
theorem c0M {mo:Mo} {p:Pr} {e:Ed}:(O1 mo p e).part=(a1E mo p e).part:=by
 rw [a5w]
 unfold a1g
 repeat' split
 all_goals rfl
theorem b7I {t:List Nd} (h:N6 t) (hS:a0s t) (hoM:O4 (S5 t)) {i:Nat} (hi:i<(S5 t).procs.length) {e:Ed} (he:e∈(pAt (S5 t).procs i).edges) (hp:(O1 (S5 t) (pAt (S5 t).procs i) e).part=false) (st:Stt):((S5 t).ex (pAt (S5 t).procs i) st e 0).2=true:=by
 have e0:(S5 t).procs=(T8 t).map (a0j t):=(a3z t).1
 have hi':i<(T8 t).length:=by rw [e0,List.length_map] at hi;exact hi
 have ep:pAt (S5 t).procs i=a0j t (T8 t)[i]:=by rw [a19 hi];simp [e0]
 have hpo:=hoM.pr _ (a0l hi)
 have heo:=hpo.inv.ed e he
 unfold Mo.ex
 split
 ·rename_i h0
  have hx:e.act=1∨e.act=2∨e.act=4∨e.act=5:=by
   have:=heo.ex0
   have:=heo.act
   omega
  obtain ⟨n,hn,hn2,hn3⟩:=heo.ex1 hx
  obtain ⟨P,hc,hex,hv,hl⟩:=c4E h hS (List.getElem_mem hi')
  rw [c0M] at hp
  unfold a1E at hp
  rw [if_pos h0,hn,Int.toNat_natCast] at hp
  rw [hn,Int.toNat_natCast]
  have hnm:=(a3g h hS (List.getElem_mem hi')).2.names
  refine b4x h.ok hc (fun k hk h18=>?_) (fun k hk h19=>?_) _ n ⟨0,0,0,0,0,false⟩ hn2 hn3 ?_ (by show t.length<=_+(t.length+1);omega) hp
  ·have:=b3j (hv k hk h18)
   rw [<- hnm,<- ep] at this
   unfold U4
   rw [if_pos this]
   simp
  ·exact b3j (hl k hk h19)
  ·rw [ep] at he
   exact hex e he n hn
 ·rfl
theorem c0D {t:List Nd} (h:N6 t) (hS:a0s t) (hoM:O4 (S5 t)):a8G (S5 t):=by
 intro i st hq
 have hqq:=hq
 unfold Mo.quiet at hq
 simp only [Bool.and_eq_true,decide_eq_true_eq] at hq
 obtain ⟨hi,hall,hor⟩:=hq
 have hQ:=b3z hoM hqq
 have mem:∀e∈lvE (pAt (S5 t).procs i) (nAt st.at' i),e∈(pAt (S5 t).procs i).edges/\e.frm=nAt st.at' i:=fun e he=>by
  obtain ⟨a,b⟩:=List.mem_filter.1 he
  exact ⟨a,by simpa using b⟩
 have dx:∀e∈lvE (pAt (S5 t).procs i) (nAt st.at' i),((S5 t).ex (pAt (S5 t).procs i) st e 0).2=true:=fun e he=>b7I h hS hoM hi (mem e he).1 (hQ.ed e (mem e he).1 (mem e he).2).part st
 rw [Bool.or_eq_true] at hor
 rcases hor with hor | hor
 ·unfold a2i at hor
  simp only [Bool.and_eq_true,decide_eq_true_eq,List.all_eq_true] at hor
  have hm:=List.getElem_mem hor.2
  refine ⟨_,(mem _ hm).1,(mem _ hm).2,?_⟩
  have ha:=hor.1 _ hm
  unfold Mo.can
  rw [dx _ hm,(mem _ hm).2,if_neg (by omega),if_neg (by omega),if_neg (by omega),if_neg (by omega)]
  simp
 ·unfold forkE at hor
  simp only [Bool.and_eq_true,decide_eq_true_eq] at hor
  obtain ⟨⟨⟨f1,f2⟩,f3⟩,f4⟩:=hor
  have m0:=a1P (l:=lvE (pAt (S5 t).procs i) (nAt st.at' i)) (i:=0) (by omega)
  have m1:=a1P (l:=lvE (pAt (S5 t).procs i) (nAt st.at' i)) (i:=1) (by omega)
  generalize eAt (lvE (pAt (S5 t).procs i) (nAt st.at' i)) 0=a at *
  generalize eAt (lvE (pAt (S5 t).procs i) (nAt st.at' i)) 1=b at *
  have hab:(S5 t).ex (pAt (S5 t).procs i) st b 0=(S5 t).ex (pAt (S5 t).procs i) st a 0:=by
   unfold Mo.ex
   rw [f4]
  by_cases c:((S5 t).ex (pAt (S5 t).procs i) st a 0).1=0
  ·refine ⟨b,(mem _ m1).1,(mem _ m1).2,?_⟩
   unfold Mo.can
   rw [dx _ m1,(mem _ m1).2,hab,c,f3]
   simp
  ·refine ⟨a,(mem _ m0).1,(mem _ m0).2,?_⟩
   unfold Mo.can
   rw [dx _ m0,(mem _ m0).2,f2]
   simp [c]
end Go.V
namespace Go.V
variable {mo:Mo}
theorem b2A {x y b:Nat} (hx:x<4294967296) (hy:y<4294967296) (h1:x.testBit b=true) (h2:y.testBit b=false):¬ IntKind.u32.wrap (a6m .u32 (x:Int) (y:Int))=0:=by
 intro h
 unfold a6m at h
 have hb:b<32:=by
  apply Decidable.byContradiction
  intro hn
  have:x<2 ^ b:=Nat.lt_of_lt_of_le (show x<2 ^ 32 from hx) (Nat.pow_le_pow_right (n:=2) (by decide) (by omega:32<=b))
  rw [Nat.testBit_lt_two_pow this] at h1
  cases h1
 have hlt:=(BitVec.ofInt IntKind.u32.bits (x:Int) &&& ~~~ BitVec.ofInt IntKind.u32.bits (y:Int)).isLt
 rw [IntKind.wrap_u32] at h
 have h0:(BitVec.ofInt IntKind.u32.bits (x:Int) &&& ~~~ BitVec.ofInt IntKind.u32.bits (y:Int)).toNat=0:=by
  have:(2:Nat) ^ IntKind.u32.bits=4294967296:=rfl
  omega
 have h3:(BitVec.ofInt IntKind.u32.bits (x:Int) &&& ~~~ BitVec.ofInt IntKind.u32.bits (y:Int)).getLsbD b=false:=by
  rw [BitVec.getLsbD,h0,Nat.zero_testBit]
 rw [BitVec.getLsbD_and,BitVec.getLsbD_not] at h3
 have e1:(BitVec.ofInt IntKind.u32.bits (x:Int)).getLsbD b=x.testBit b:=by rw [BitVec.getLsbD,a3D hx]
 have e2:(BitVec.ofInt IntKind.u32.bits (y:Int)).getLsbD b=y.testBit b:=by rw [BitVec.getLsbD,a3D hy]
 rw [e1,e2,h1,h2] at h3
 have:decide (b<IntKind.u32.bits)=true:=decide_eq_true hb
 rw [this] at h3
 cases h3
def lvT (p:Pr) (k j:Nat):List Ed:=(p.edges.take j).filter fun e=>decide (e.frm=k)
theorem b0W (p:Pr) (k:Nat):lvT p k p.edges.length=lvE p k:=by unfold lvT lvE;rw [List.take_length]
theorem b2f {p:Pr} {k j:Nat} (h:j<p.edges.length):lvT p k (j+1)=lvT p k j++if (eAt p.edges j).frm=k then [eAt p.edges j] else []:=by
 unfold lvT
 rw [List.take_succ_eq_append_getElem h,List.filter_append,a15 h]
 congr 1
 by_cases c:p.edges[j].frm=k<;>simp [c]
theorem a8X (p:Pr) (k j:Nat):(lvT p k j).length<=p.edges.length:=by
 unfold lvT
 refine Nat.le_trans (List.length_filter_le _ _) ?_
 rw [List.length_take];omega
theorem a8x (ho:O4 mo) {p:Pr} (hp:a2Q mo p) {e:Ed} (he:e∈p.edges):a4F p (O1 mo p e)=true↔∀b,((O1 mo p e).reads ||| (O1 mo p e).writes).testBit b=true->b∈p.locals:=by
 unfold a4F
 simp only [List.all_eq_true,List.mem_range,Bool.or_eq_true,Bool.not_eq_true',List.contains_iff_mem]
 have hown:=b41 ho hp he
 have hv:=ho.nv
 constructor
 ·intro h b hb
  have hb32:b<32:=by
   have hb2:=hb
   rw [Nat.testBit_or,Bool.or_eq_true] at hb2
   have:=hp.var b (hb2.elim (hown.reads b) (hown.writes b))
   omega
  rcases h b hb32 with h | h
  ·rw [hb] at h;cases h
  ·exact h
 ·intro h b _
  cases hb:((O1 mo p e).reads ||| (O1 mo p e).writes).testBit b
  ·exact .inl rfl
  ·exact .inr (h b hb)
theorem b5r {i k:Nat} {e:Ed} (he:e∈(pAt mo.procs i).edges) (hk:e.frm=k) (h:a0u mo (pAt mo.procs i) e=false):mo.quiet i k=false:=by
 have:(lvE (pAt mo.procs i) k).all (a0u mo (pAt mo.procs i))=false:=by
  rw [Bool.eq_false_iff]
  intro hall
  have:=List.all_eq_true.1 hall e (List.mem_filter.2 ⟨he,by simpa using hk⟩)
  rw [h] at this;cases this
 unfold Mo.quiet
 rw [this,Bool.false_and,Bool.and_false]
theorem b4j {i k:Nat} (hi:i<mo.procs.length) (h:∀e∈(pAt mo.procs i).edges,e.frm=k->a0u mo (pAt mo.procs i) e=true):mo.quiet i k=(a2i (lvE (pAt mo.procs i) k)||forkE (lvE (pAt mo.procs i) k)):=by
 have:(lvE (pAt mo.procs i) k).all (a0u mo (pAt mo.procs i))=true:=by
  rw [List.all_eq_true]
  intro e he
  obtain ⟨a,b⟩:=List.mem_filter.1 he
  exact h e a (by simpa using b)
 unfold Mo.quiet
 rw [this,Bool.true_and,decide_eq_true hi,Bool.true_and]
theorem b8T (ho:O4 mo) {i k:Nat} (hi:i<mo.procs.length) (hk:(pAt mo.procs i).places<=k):mo.quiet i k=false:=by
 have hl:lvE (pAt mo.procs i) k=[]:=by
  unfold lvE
  rw [List.filter_eq_nil_iff]
  intro e he
  have:=((ho.pr _ (a0l hi)).inv.ed e he).f
  simp only [decide_eq_true_eq]
  omega
 unfold Mo.quiet
 rw [hl]
 simp [a2i,forkE]
end Go.V
namespace Go.Proofs.YtnjlhebkhjcagaaGreat
open Go.V
set_option maxRecDepth 100000
set_option maxHeartbeats 4000000
variable {m:MdX} {mo:Mo} {ps:List (Pr×PrD)} {x:StD} {st:Stt}
theorem b50 (hm:MoF m mo ps) (ho:O4 mo) {p i:Nat} (hp:p<mo.procs.length) (hi:i<(pAt mo.procs p).edges.length) :
 Eqc vfs 41 [.agg [m.dt,.int .i64 m.g,m.dc,m.dv,m.dp,m.ds,.bool m.b],.int .i64 (p:Int),.int .i64 (i:Int)] (.tup [.agg (O1 mo (pAt mo.procs p) (eAt (pAt mo.procs p).edges i)).row,.bool true])/\(O1 mo (pAt mo.procs p) (eAt (pAt mo.procs p).edges i)).Ok:=by
 rw [a15 hi]
 have e:pAt mo.procs p=mo.procs[p]:=a19 hp
 simp only [e] at hi ⊢
 obtain ⟨⟨s,h⟩,hok⟩:=b9b hm ho hp hi
 exact ⟨P4 ⟨_,s,h,rfl⟩,hok⟩
theorem b9S {d:D} {l:List Ed} (hd:FL 8 d (U2 l)) (hl:l.length<=4000):Eqc vfs 42 [d] (.bool (a2i l)):=by
 have hln:=a76 hd
 refine P4 ?_
 refine N3 (vf:=b0I) rfl ?_
 unfold b0I;refine zF ?_
 refine zY hln ?_
 refine P6 [0,5,6] 0 l.length (fun i f s=>f 7=.int .i64 (i:Int)/\∀j,j<i->(eAt l j).act<=1) (.mk rfl) (by omega) ⟨rfl,fun j h=>by omega⟩ ?_
 rintro i f s hi ⟨hE,hall⟩
 by_cases ci:i<l.length
 ·have hx:=a5L hd ci (k:=.i64)
  have no:¬ (eAt l i).act<=1->a2i l=false:=fun h=>by
   unfold a2i
   have:l.all (fun e=>decide (e.act<=1))=false:=by
    rw [Bool.eq_false_iff]
    intro ha
    exact h (by simpa using List.all_eq_true.1 ha _ (a1P ci))
   rw [this,Bool.false_and]
  have yes:(eAt l i).act<=1->∀j,j<i+1->(eAt l j).act<=1:=fun h j hj=>by
   by_cases ej:j=i
   ·subst ej;exact h
   ·exact hall j (by omega)
  by_cases a0:((eAt l i).act:Int)=0
  ·refine zY (aN hE (aN hln (aN ci (aN hx a0)))) ?_
   exact yes (by omega)
  by_cases a1:((eAt l i).act:Int)=1
  ·refine zY (aN hE (aN hln (aN ci (aN hx (aN a0 a1))))) ?_
   exact yes (by omega)
  ·refine zY (aN hE (aN hln (aN ci (aN hx (aN a0 a1))))) ?_
   exact (no (by omega)).symm
 ·obtain rfl:i=l.length:=by omega
  refine zY (aN hE (aN hln ci)) ?_
  unfold a2i
  have:l.all (fun e=>decide (e.act<=1))=true:=by
   rw [List.all_eq_true]
   intro e he
   obtain ⟨j,hj,rfl⟩:=List.getElem_of_mem he
   have:=hall j hj
   rw [a15 hj] at this
   simpa using this
  rw [this,Bool.true_and]
theorem c6X {d:D} {l:List Ed} (hd:FL 8 d (U2 l)) (hl:l.length<=4000):Eqc vfs 43 [d] (.bool (forkE l)):=by
 have hln:=a76 hd
 refine P4 ?_
 unfold forkE
 by_cases c2:l.length=2
 ·have h0:=a5L hd (i:=0) (by omega) (k:=.i64)
  have h1:=a5L hd (i:=1) (by omega) (k:=.i64)
  have z0:((0:Nat):Int)=0:=rfl
  have z1:((1:Nat):Int)=1:=rfl
  rw [z0] at h0
  rw [z1] at h1
  refine N3 (vf:=a5n) rfl ?_
  unfold a5n;refine zF ?_
  refine zY (aN hln (aN c2 (aN h0 h1))) ?_
  repeat' (first|(refine a1c (fun c=>?_) (fun c=>?_)<;>(try simp only [X4,X6,X2,X3] at c)<;>simp (disch:=(first|exact Rf.mk rfl|with_reducible assumption|omega|((repeat (first|rw [nP]|rw [nS]|rw [M7]))<;>omega)|decide)) only [go_sem,↓reduceIte,hln,c2,h0,h1,c])|(refine a1t (fun c=>?_) (fun c=>?_)<;>(try simp only [X4,X6,X2,X3] at c)<;>simp (disch:=(first|exact Rf.mk rfl|with_reducible assumption|omega|((repeat (first|rw [nP]|rw [nS]|rw [M7]))<;>omega)|decide)) only [go_sem,↓reduceIte,hln,c2,h0,h1,c]))
  all_goals first | (simp_all;done) | (simp_all;omega)
 ·have c3:¬ (l.length:Int)=2:=by omega
  refine N3 (vf:=a5n) rfl ?_
  unfold a5n;refine zF ?_
  refine zY (aN hln c3) ?_
  simp [c2]
end Go.Proofs.YtnjlhebkhjcagaaGreat
namespace Go.Proofs.YtnjlhebkhjcagaaGreat
open Go.V
set_option maxRecDepth 100000
set_option maxHeartbeats 4000000
variable {m:MdX} {mo:Mo} {ps:List (Pr×PrD)} {x:StD} {st:Stt}
theorem b5t (hm:MoF m mo ps) (ho:O4 mo) (hq:MoQ mo) {i k:Nat} (hi:i<mo.procs.length):Eqc vfs 18 [.agg [m.dt,.int .i64 m.g,m.dc,m.dv,m.dp,m.ds,.bool m.b],.int .i64 (i:Int),.int .i64 (k:Int)] (.bool (mo.quiet i k)):=by
 have om:=hm.ones
 have fm:=a0N hm
 have hpo:=ho.pr _ (a0l hi)
 have hel:=hpo.el
 have hnv:=ho.nv
 have c1:¬ mo.procs.length<=i:=by omega
 refine P4 ?_
 by_cases hk:(pAt mo.procs i).places<=k
 ·rw [b8T ho hi hk]
  refine N3 (vf:=a2q) rfl ?_
  unfold a2q;refine zF ?_
  exact zZ (aN om (aN hi (aN c1 hk)))
 have hv32:∀v∈(pAt mo.procs i).locals,v<32:=fun v hv=>by have:=hpo.var v (hpo.loc v hv).1;omega
 have hll:(pAt mo.procs i).locals.length<=1000000:=by have:=hq.ll i hi;omega
 refine N3 (vf:=a2q) rfl ?_
 unfold a2q;refine zF ?_
 refine zY (aN om (aN hi (aN c1 hk))) ?_
 have hp0:Hp (((f6.empty.push (.cells [m.dt,.int .i64 m.g,m.dc,m.dv,m.dp,m.ds,.bool m.b])).push (.cells [.str (bs []),.int .i64 0,.nils,.int .i64 0,.nils,.nils,.nils,.nils])).set 1 (some (.cells [.str (pAt mo.procs i).name,.int .i64 ((pAt mo.procs i).copy:Int),(prX ps i).dl,.int .i64 ((pAt mo.procs i).places:Int),(prX ps i).dr,(prX ps i).de,(prX ps i).dn,(prX ps i).dv]))) [] [(0,[m.dt,.int .i64 m.g,m.dc,m.dv,m.dp,m.ds,.bool m.b]),(1,[.str (pAt mo.procs i).name,.int .i64 ((pAt mo.procs i).copy:Int),(prX ps i).dl,.int .i64 ((pAt mo.procs i).places:Int),(prX ps i).dr,(prX ps i).de,(prX ps i).dn,(prX ps i).dv])]:=⟨List.nodup_nil,by simp,by simp [Has],by
  intro y hy
  simp only [List.mem_cons,List.not_mem_nil,or_false] at hy
  rcases hy with rfl | rfl
  ·exact zZ0
  ·simp (disch:=(first|exact Rf.mk rfl|with_reducible assumption|omega|((repeat (first|rw [nP]|rw [nS]|rw [M7]))<;>omega)|decide)) only [go_sem,↓reduceIte]⟩
 generalize ((f6.empty.push (.cells [m.dt,.int .i64 m.g,m.dc,m.dv,m.dp,m.ds,.bool m.b])).push (.cells [.str (bs []),.int .i64 0,.nils,.int .i64 0,.nils,.nils,.nils,.nils])).set 1 (some (.cells [.str (pAt mo.procs i).name,.int .i64 ((pAt mo.procs i).copy:Int),(prX ps i).dl,.int .i64 ((pAt mo.procs i).places:Int),(prX ps i).dr,(prX ps i).de,(prX ps i).dn,(prX ps i).dv]))=s0 at *
 have hg:∀ {s E},Hp s E [(0,[m.dt,.int .i64 m.g,m.dc,m.dv,m.dp,m.ds,.bool m.b]),(1,[.str (pAt mo.procs i).name,.int .i64 ((pAt mo.procs i).copy:Int),(prX ps i).dl,.int .i64 ((pAt mo.procs i).places:Int),(prX ps i).dr,(prX ps i).de,(prX ps i).dn,(prX ps i).dv])]->s.get 0=some (.cells [m.dt,.int .i64 m.g,m.dc,m.dv,m.dp,m.ds,.bool m.b])/\s.get 1=some (.cells [.str (pAt mo.procs i).name,.int .i64 ((pAt mo.procs i).copy:Int),(prX ps i).dl,.int .i64 ((pAt mo.procs i).places:Int),(prX ps i).dr,(prX ps i).de,(prX ps i).dn,(prX ps i).dv]):=fun h=>⟨h.r (0,_) (by simp),h.r (1,_) (by simp)⟩
 refine a0O [0,1,2,3,6,7,11,12,13,14,15,38,45,46,58,59,60,61,68,92,119] (fun f s'=>f 8=.int .u32 (setF (pAt mo.procs i).locals:Int)/\s'=s0) ?_ ?_
 ·obtain ⟨g0,g1⟩:=hg hp0
  refine P6 [0,1,2,3,6,7,11,12,13,14,15,38,45,46,58,59,60,61,68,92,119] 0 (pAt mo.procs i).locals.length (fun j f s'=>f 47=.int .i64 (j:Int)/\f 8=.int .u32 (setF ((pAt mo.procs i).locals.take j):Int)/\s'=s0) (.mk rfl) (by omega) ⟨rfl,rfl,rfl⟩ ?_
  rintro j f s' hj ⟨hE,hE8,rfl⟩
  by_cases cj:j<(pAt mo.procs i).locals.length
  ·have hb:nAt (pAt mo.procs i).locals j<32:=by rw [a3e cj];exact hv32 _ (List.getElem_mem cj)
   have hu:IntKind.u64.wrap (nAt (pAt mo.procs i).locals j:Int)=(nAt (pAt mo.procs i).locals j:Int):=by rw [IntKind.wrap_u64];omega
   have hsh:=a9P hb
   have hlt:=a7d (l:=(pAt mo.procs i).locals.take j) fun v hv=>hv32 v (List.mem_of_mem_take hv)
   have hor:=a5k hlt (a3t hb)
   have hsn:setF ((pAt mo.procs i).locals.take j) ||| 2 ^ nAt (pAt mo.procs i).locals j=setF ((pAt mo.procs i).locals.take (j+1)):=by rw [List.take_succ_eq_append_getElem cj,b7o,a3e cj]
   rw [hsn] at hor
   exact zZ (aN hE (aN hE8 (aN cj (aN g0 (aN g1 (aN om (aN hu (aN hsh hor))))))))
  ·obtain rfl:j=(pAt mo.procs i).locals.length:=by omega
   rw [List.take_length] at hE8
   exact zZ (aN hE (aN hE8 cj))
 rintro f s ⟨hE8,rfl⟩
 obtain ⟨g0,g1⟩:=hg hp0
 refine zY (aN g0 (aN g1 om)) ?_
 refine a0O [0,1,2,3,7,8,10,38,45,46,47,48,58,59] (fun f s=>(∃E,Rp (f 11) 8 (U2 (lvE (pAt mo.procs i) k)) E/\Hp s E [(0,[m.dt,.int .i64 m.g,m.dc,m.dv,m.dp,m.ds,.bool m.b]),(1,[.str (pAt mo.procs i).name,.int .i64 ((pAt mo.procs i).copy:Int),(prX ps i).dl,.int .i64 ((pAt mo.procs i).places:Int),(prX ps i).dr,(prX ps i).de,(prX ps i).dn,(prX ps i).dv])])/\mo.quiet i k=(a2i (lvE (pAt mo.procs i) k)||forkE (lvE (pAt mo.procs i) k))) ?_ ?_
 ·refine P6 [0,1,2,3,7,8,10,38,45,46,47,48,58,59] 0 (pAt mo.procs i).edges.length (fun j f s=>f 60=.int .i64 (j:Int)/\(∃E,Rp (f 11) 8 (U2 (lvT (pAt mo.procs i) k j)) E/\Hp s E [(0,[m.dt,.int .i64 m.g,m.dc,m.dv,m.dp,m.ds,.bool m.b]),(1,[.str (pAt mo.procs i).name,.int .i64 ((pAt mo.procs i).copy:Int),(prX ps i).dl,.int .i64 ((pAt mo.procs i).places:Int),(prX ps i).dr,(prX ps i).de,(prX ps i).dn,(prX ps i).dv])])/\∀q,q<j->(eAt (pAt mo.procs i).edges q).frm=k->a0u mo (pAt mo.procs i) (eAt (pAt mo.procs i).edges q)=true) (.mk rfl) (by omega) ⟨rfl,⟨[],.inl ⟨rfl,rfl,rfl⟩,hp0⟩,fun q h=>by omega⟩ ?_
  clear g0 g1
  rintro j f s hj ⟨hE,⟨E,hr,hp⟩,hall⟩
  obtain ⟨g0,g1⟩:=hg hp
  have l0:=M5 g0
  have l1:=M5 g1
  by_cases cj:j<(pAt mo.procs i).edges.length
  ·have hp2:=hp.fr (a2l (z:=.cells [.int .i64 0,.int .i64 0,.int .i64 0,.int .i64 0,.int .i64 0,.int .i64 0,.bool false,.int .i64 0]) (o:=.cells [.int .i64 ((eAt (pAt mo.procs i).edges j).frm:Int),.int .i64 ((eAt (pAt mo.procs i).edges j).to:Int),.int .i64 ((eAt (pAt mo.procs i).edges j).act:Int),.int .i64 (eAt (pAt mo.procs i).edges j).expr,.int .i64 (eAt (pAt mo.procs i).edges j).var,.int .i64 (eAt (pAt mo.procs i).edges j).chan,.bool (eAt (pAt mo.procs i).edges j).keep,.int .i64 ((eAt (pAt mo.procs i).edges j).node:Int)]))
   have hls:=b2f (k:=k) cj
   by_cases cf:(eAt (pAt mo.procs i).edges j).frm=k
   rotate_left
   ·rw [if_neg cf,List.append_nil] at hls
    refine zY (aN hE (aN cj (aN g0 (aN g1 (aN om cf))))) ?_
    rw [hls]
    refine ⟨⟨E,hr,hp2⟩,fun q hq hf=>?_⟩
    by_cases eq:q=j
    ·subst eq;exact absurd hf cf
    ·exact hall q (by omega) hf
   rw [if_pos cf] at hls
   obtain ⟨hb,hok⟩:=b50 hm ho hi cj
   have hmem:=a1P cj
   by_cases hqe:a0u mo (pAt mo.procs i) (eAt (pAt mo.procs i).edges j)=true
   ·have q:=b4h ho hpo hmem hqe
    have hown:=(a8x ho hpo hmem).1 (by
     unfold a0u at hqe
     simp only [Bool.and_eq_true] at hqe
     exact hqe.1.2)
    have hclr:=b92 (a3U hok.r hok.w) (a7d hv32) fun b hb=>a9s.2 (hown b hb)
    have hor:=a5k hok.r hok.w
    unfold Ft.row at hb
    rw [q.part,q.s0,q.r0,q.z0] at hb
    have qk:=q.keep
    have z0:((0:Nat):Int)=0:=rfl
    rw [z0] at hb
    have q1:¬ ((eAt (pAt mo.procs i).edges j).to:Int)=1->¬ (eAt (pAt mo.procs i).edges j).to<=k:=fun h=>by have:=q.to;omega
    have hrow:U2 (lvT (pAt mo.procs i) k (j+1))=U2 (lvT (pAt mo.procs i) k j)++[[.int .i64 ((eAt (pAt mo.procs i).edges j).frm:Int),.int .i64 ((eAt (pAt mo.procs i).edges j).to:Int),.int .i64 ((eAt (pAt mo.procs i).edges j).act:Int),.int .i64 (eAt (pAt mo.procs i).edges j).expr,.int .i64 (eAt (pAt mo.procs i).edges j).var,.int .i64 (eAt (pAt mo.procs i).edges j).chan,.bool (eAt (pAt mo.procs i).edges j).keep,.int .i64 ((eAt (pAt mo.procs i).edges j).node:Int)]]:=by rw [hls];simp [U2,Ed.row]
    rw [cf,qk] at hrow
    by_cases ct:((eAt (pAt mo.procs i).edges j).to:Int)=1
    rotate_left
    have q1:=q1 ct
    have hr1:=hrow
    rotate_left
    have hr1:=hrow
    rw [ct] at hr1
    all_goals
     refine zY (aN hE (aN cj (aN g0 (aN g1 (aN om (aN cf (aN hb (aN fm (aN qk (aN hE8 (aN ct (aN q1 (aN hor hclr))))))))))))) ?_
     refine a7i (A:=[]) (B:=[]) hr (by rw [List.nil_append,List.append_nil];exact (hp.fr a2l).fr a2l) rfl (a3K _) (by decide) (by have:=a8X (pAt mo.procs i) k j;simp;omega) ?_
     intro s' h1 h2 h3 h4
     refine zY (aN hE cj) ?_
     rw [hr1]
     refine ⟨⟨_,h1,by simpa using h2⟩,fun q hq hf=>?_⟩
     by_cases eq:q=j
     ·subst eq;exact hqe
     ·exact hall q (by omega) hf
   ·rw [b5r hmem cf (by simpa using hqe)]
    have hor:=a5k hok.r hok.w
    unfold Ft.row at hb
    by_cases qk:(eAt (pAt mo.procs i).edges j).keep=true
    ·exact zZ (aN hE (aN cj (aN g0 (aN g1 (aN om (aN cf (aN hb (aN fm (aN qk hE8)))))))))
    have qk:(eAt (pAt mo.procs i).edges j).keep=false:=by simpa using qk
    by_cases ct:((eAt (pAt mo.procs i).edges j).to:Int)=1
    ·have q0:=ct
     by_cases qp:(O1 mo (pAt mo.procs i) (eAt (pAt mo.procs i).edges j)).part=true
     ·exact zZ (aN hE (aN cj (aN g0 (aN g1 (aN om (aN cf (aN hb (aN fm (aN qk (aN hE8 (aN ct qp)))))))))))
     have qp:(O1 mo (pAt mo.procs i) (eAt (pAt mo.procs i).edges j)).part=false:=by simpa using qp
     by_cases qs:((O1 mo (pAt mo.procs i) (eAt (pAt mo.procs i).edges j)).sends:Int)=0
     rotate_left
     ·exact zZ (aN hE (aN cj (aN g0 (aN g1 (aN om (aN cf (aN hb (aN fm (aN qk (aN hE8 (aN ct (aN qp qs))))))))))))
     by_cases qr:((O1 mo (pAt mo.procs i) (eAt (pAt mo.procs i).edges j)).recvs:Int)=0
     rotate_left
     ·exact zZ (aN hE (aN cj (aN g0 (aN g1 (aN om (aN cf (aN hb (aN fm (aN qk (aN hE8 (aN ct (aN qp (aN qs qr)))))))))))))
     by_cases qz:((O1 mo (pAt mo.procs i) (eAt (pAt mo.procs i).edges j)).sizes:Int)=0
     rotate_left
     ·exact zZ (aN hE (aN cj (aN g0 (aN g1 (aN om (aN cf (aN hb (aN fm (aN qk (aN hE8 (aN ct (aN qp (aN qs (aN qr qz))))))))))))))
     have qo:¬ ∀b,((O1 mo (pAt mo.procs i) (eAt (pAt mo.procs i).edges j)).reads ||| (O1 mo (pAt mo.procs i) (eAt (pAt mo.procs i).edges j)).writes).testBit b=true->b∈(pAt mo.procs i).locals:=fun ho2=>hqe (by
      have h1:=(a8x ho hpo hmem).2 ho2
      unfold a0u
      simp only [qk,qp,h1,Bool.not_false,Bool.and_true,Bool.true_and,Bool.and_eq_true,Bool.or_eq_true,decide_eq_true_eq]
      omega)
     obtain ⟨b,hb2⟩:=Classical.not_forall.1 qo
     obtain ⟨hb3,hb4⟩:=Classical.not_imp.1 hb2
     have hclr:=b2A (a3U hok.r hok.w) (a7d hv32) hb3 (by rw [Bool.eq_false_iff];exact fun h=>hb4 (a9s.1 h))
     exact zZ (aN hE (aN cj (aN g0 (aN g1 (aN om (aN cf (aN hb (aN fm (aN qk (aN hE8 (aN ct (aN qp (aN qs (aN qr (aN qz (aN hor hclr))))))))))))))))
    by_cases ct2:(eAt (pAt mo.procs i).edges j).to<=k
    ·exact zZ (aN hE (aN cj (aN g0 (aN g1 (aN om (aN cf (aN hb (aN fm (aN qk (aN hE8 (aN ct ct2)))))))))))
    by_cases qp:(O1 mo (pAt mo.procs i) (eAt (pAt mo.procs i).edges j)).part=true
    ·exact zZ (aN hE (aN cj (aN g0 (aN g1 (aN om (aN cf (aN hb (aN fm (aN qk (aN hE8 (aN ct (aN ct2 qp))))))))))))
    have qp:(O1 mo (pAt mo.procs i) (eAt (pAt mo.procs i).edges j)).part=false:=by simpa using qp
    by_cases qs:((O1 mo (pAt mo.procs i) (eAt (pAt mo.procs i).edges j)).sends:Int)=0
    rotate_left
    ·exact zZ (aN hE (aN cj (aN g0 (aN g1 (aN om (aN cf (aN hb (aN fm (aN qk (aN hE8 (aN ct (aN ct2 (aN qp qs)))))))))))))
    by_cases qr:((O1 mo (pAt mo.procs i) (eAt (pAt mo.procs i).edges j)).recvs:Int)=0
    rotate_left
    ·exact zZ (aN hE (aN cj (aN g0 (aN g1 (aN om (aN cf (aN hb (aN fm (aN qk (aN hE8 (aN ct (aN ct2 (aN qp (aN qs qr))))))))))))))
    by_cases qz:((O1 mo (pAt mo.procs i) (eAt (pAt mo.procs i).edges j)).sizes:Int)=0
    rotate_left
    ·exact zZ (aN hE (aN cj (aN g0 (aN g1 (aN om (aN cf (aN hb (aN fm (aN qk (aN hE8 (aN ct (aN ct2 (aN qp (aN qs (aN qr qz)))))))))))))))
    have qo:¬ ∀b,((O1 mo (pAt mo.procs i) (eAt (pAt mo.procs i).edges j)).reads ||| (O1 mo (pAt mo.procs i) (eAt (pAt mo.procs i).edges j)).writes).testBit b=true->b∈(pAt mo.procs i).locals:=fun ho2=>hqe (by
     have h1:=(a8x ho hpo hmem).2 ho2
     unfold a0u
     simp only [qk,qp,h1,Bool.not_false,Bool.and_true,Bool.true_and,Bool.and_eq_true,Bool.or_eq_true,decide_eq_true_eq]
     omega)
    obtain ⟨b,hb2⟩:=Classical.not_forall.1 qo
    obtain ⟨hb3,hb4⟩:=Classical.not_imp.1 hb2
    have hclr:=b2A (a3U hok.r hok.w) (a7d hv32) hb3 (by rw [Bool.eq_false_iff];exact fun h=>hb4 (a9s.1 h))
    exact zZ (aN hE (aN cj (aN g0 (aN g1 (aN om (aN cf (aN hb (aN fm (aN qk (aN hE8 (aN ct (aN ct2 (aN qp (aN qs (aN qr (aN qz (aN hor hclr)))))))))))))))))
  ·obtain rfl:j=(pAt mo.procs i).edges.length:=by omega
   rw [b0W] at hr
   refine zY (aN hE cj) ?_
   refine ⟨⟨E,hr,hp⟩,b4j hi fun e he hf=>?_⟩
   obtain ⟨q,hq',rfl⟩:=List.getElem_of_mem he
   have:=hall q hq'
   rw [a15 hq'] at this
   exact this hf
 ·rintro f s ⟨⟨E,hr,hp⟩,hqv⟩
  obtain ⟨d',h1,h2⟩:=a2S hr hp (fun e h=>h) (a3K _) (b5H _)
  have hic:∀l,N1 (V.ice s.get 20) (f 11::l)=(N1 (V.ice s.get 20) l).map (d'::·):=fun l=>c40 h1
  have hlen:(lvE (pAt mo.procs i) k).length<=4000:=by rw [<- b0W];exact Nat.le_trans (a8X _ _ _) hel
  have hpl:=b9S h2 hlen
  have hfk:=c6X h2 hlen
  rw [hqv]
  generalize a2i (lvE (pAt mo.procs i) k)=pl at *
  generalize forkE (lvE (pAt mo.procs i) k)=fk at *
  cases pl
  ·rw [Bool.false_or]
   simp (disch:=(first|exact Rf.mk rfl|with_reducible assumption|omega|((repeat (first|rw [nP]|rw [nS]|rw [M7]))<;>omega)|decide)) only [go_sem,↓reduceIte,hic,Bool.true_or,hpl,hfk]
  ·simp (disch:=(first|exact Rf.mk rfl|with_reducible assumption|omega|((repeat (first|rw [nP]|rw [nS]|rw [M7]))<;>omega)|decide)) only [go_sem,↓reduceIte,hic,Bool.true_or,hpl,hfk]
end Go.Proofs.YtnjlhebkhjcagaaGreat
namespace Go.Proofs.YtnjlhebkhjcagaaGreat
open Go.V
set_option maxRecDepth 100000
set_option maxHeartbeats 4000000
variable {m:MdX} {mo:Mo} {ps:List (Pr×PrD)} {x:StD} {st:Stt}
def isP (i:Nat) (v:Mv):Bool:=decide (v.kind=0)&&decide (v.proc=i)
theorem a44 {l:List Mv} {P:Mv->Bool} {j:Nat} (h:j<l.length):(l.take (j+1)).filter P=(l.take j).filter P++if P (O0 l j)=true then [O0 l j] else []:=by
 rw [List.take_succ_eq_append_getElem h,List.filter_append,a37 h]
 congr 1
 by_cases c:P l[j]=true<;>simp [c]
theorem a23 {l:List Mv} {P:Mv->Bool} {j:Nat}:((l.take j).filter P).length<=l.length:=by
 refine Nat.le_trans (List.length_filter_le _ _) ?_
 rw [List.length_take];omega
theorem b1M {i:Nat} (hi:i<mo.procs.length) (h:mo.quiet i (nAt st.at' i)=true) (hn:∀q,q<i->mo.quiet q (nAt st.at' q)=false):mo.firstQ st=some i:=by
 unfold Mo.firstQ
 rw [List.find?_eq_some_iff_getElem]
 refine ⟨h,i,by simpa using hi,by simp,fun j hj=>?_⟩
 rw [List.getElem_range,hn j hj]
 rfl
theorem b1G (hn:∀q,q<mo.procs.length->mo.quiet q (nAt st.at' q)=false):mo.firstQ st=none:=by
 unfold Mo.firstQ
 rw [List.find?_eq_none]
 intro q hq
 rw [hn q (List.mem_range.1 hq)]
 simp
theorem c6O (hm:MoF m mo ps) (ho:O4 mo) (hf:X8 mo) (hq:MoQ mo) (hx:Y6 mo x st):a31 vfs 14 [.agg [m.dt,.int .i64 m.g,m.dc,m.dv,m.dp,m.ds,.bool m.b],.agg [x.da,x.dv,x.dc,.int .i64 st.hold]] fun d=>FL 4 d (U3 (mo.ample st)):=by
 have fm:=a0N hm
 have fx:=a1A hx.f
 have om:=hm.ones
 have ox:=hx.f.ones
 have hxa:=hx.f.a
 have hnp:=ho.np
 have hh:=hx.fit.hold
 have hal:=hx.fit.at'
 have hml:=a4q ho (st:=st)
 obtain ⟨dm,hmv,hfl⟩:=b13 hm ho hf hx
 have oe:=FL.one hfl
 have pe:=FL.pz hfl
 by_cases c1:(mo.moves st).length=0
 ·have e:mo.ample st=[]:=by
   have:mo.moves st=[]:=List.length_eq_zero_iff.1 c1
   unfold Mo.ample
   rw [this]
   repeat' split
   all_goals rfl
  refine a16 (vf:=a3s) rfl ?_
  unfold a3s;refine zF ?_
  refine zY (aN om (aN ox (aN fm (aN fx (aN hmv (aN hfl c1)))))) ?_
  rw [e]
  refine ⟨_,rfl,?_⟩
  rw [List.length_eq_zero_iff.1 c1] at hfl
  exact hfl
 by_cases c2:st.hold=-1
 rotate_left
 ·have e:mo.ample st=mo.moves st:=by
   unfold Mo.ample
   rw [if_neg (by omega)]
  refine a16 (vf:=a3s) rfl ?_
  unfold a3s;refine zF ?_
  refine zY (aN om (aN ox (aN fm (aN fx (aN hmv (aN hfl (aN c1 c2))))))) ?_
  rw [e]
  exact ⟨_,rfl,hfl⟩
 have c3:=eq_true c2
 refine a16 (vf:=a3s) rfl ?_
 unfold a3s;refine zF ?_
 refine zY (aN om (aN ox (aN fm (aN fx (aN hmv (aN hfl (aN c1 c3))))))) ?_
 have hp0:Hp ((f6.empty.push (.cells [m.dt,.int .i64 m.g,m.dc,m.dv,m.dp,m.ds,.bool m.b])).push (.cells [x.da,x.dv,x.dc,.int .i64 st.hold])) [] [(0,[m.dt,.int .i64 m.g,m.dc,m.dv,m.dp,m.ds,.bool m.b]),(1,[x.da,x.dv,x.dc,.int .i64 st.hold])]:=⟨List.nodup_nil,by simp,by simp [Has],by
  intro y hy
  simp only [List.mem_cons,List.not_mem_nil,or_false] at hy
  rcases hy with rfl | rfl
  ·exact zZ0
  ·simp (disch:=(first|exact Rf.mk rfl|with_reducible assumption|omega|((repeat (first|rw [nP]|rw [nS]|rw [M7]))<;>omega)|decide)) only [go_sem,↓reduceIte]⟩
 generalize (f6.empty.push (.cells [m.dt,.int .i64 m.g,m.dc,m.dv,m.dp,m.ds,.bool m.b])).push (.cells [x.da,x.dv,x.dc,.int .i64 st.hold])=s0 at *
 have hg:∀ {s E},Hp s E [(0,[m.dt,.int .i64 m.g,m.dc,m.dv,m.dp,m.ds,.bool m.b]),(1,[x.da,x.dv,x.dc,.int .i64 st.hold])]->s.get 0=some (.cells [m.dt,.int .i64 m.g,m.dc,m.dv,m.dp,m.ds,.bool m.b])/\s.get 1=some (.cells [x.da,x.dv,x.dc,.int .i64 st.hold]):=fun h=>⟨h.r (0,_) (by simp),h.r (1,_) (by simp)⟩
 obtain ⟨g0,g1⟩:=hg hp0
 have l0:=M5 g0
 have l1:=M5 g1
 refine P6 [0,1,2,3,5,21,24,25] 0 mo.procs.length (fun i f s=>f 26=.int .i64 (i:Int)/\s=s0/\∀q,q<i->mo.quiet q (nAt st.at' q)=false) (.mk rfl) (by omega) ⟨rfl,rfl,fun q h=>by omega⟩ ?_
 rintro i f s hi ⟨hE,rfl,hall⟩
 by_cases ci:i<mo.procs.length
 rotate_left
 ·have hF:=b1G (mo:=mo) (st:=st) fun q h=>hall q (by omega)
  have e:mo.ample st=mo.moves st:=by
   unfold Mo.ample
   rw [hF]
   simp
  refine zY (aN hE (aN ci hal)) ?_
  rw [e]
  exact ⟨_,rfl,hfl⟩
 have ci':i<st.at'.length:=by omega
 have hqb:=b5t hm ho hq (k:=nAt st.at' i) ci
 cases hqv:mo.quiet i (nAt st.at' i)
 ·rw [hqv] at hqb
  refine zY (aN hE (aN ci (aN ci' (aN hal (aN g0 (aN g1 (aN om (aN ox (aN fm hqb))))))))) ?_
  intro q hq'
  by_cases eq:q=i
  ·subst eq;exact hqv
  ·exact hall q (by omega)
 rw [hqv] at hqb
 have hF:=b1M ci hqv hall
 have e:mo.ample st=(mo.moves st).filter (isP i):=by
  unfold Mo.ample isP
  rw [hF,if_pos (by omega)]
 refine zY (aN hE (aN ci (aN ci' (aN hal (aN g0 (aN g1 (aN om (aN ox (aN fm (aN hqb hfl)))))))))) ?_
 refine P6 [0,1,2,3,4,5,6,7,21,24,25,26,27,35,36,37] 0 (mo.moves st).length (fun j f s=>f 38=.int .i64 (j:Int)/\∃E,Rp (f 8) 4 (U3 (((mo.moves st).take j).filter (isP i))) E/\Hp s E [(0,[m.dt,.int .i64 m.g,m.dc,m.dv,m.dp,m.ds,.bool m.b]),(1,[x.da,x.dv,x.dc,.int .i64 st.hold])]) (.mk rfl) (by omega) ⟨rfl,[],.inl ⟨rfl,rfl,rfl⟩,hp0⟩ ?_
 rintro j f s hj ⟨hE,E,hr,hp⟩
 by_cases cj:j<(mo.moves st).length
 rotate_left
 ·obtain rfl:j=(mo.moves st).length:=by omega
  rw [List.take_length] at hr
  obtain ⟨d',h1,h2⟩:=a2S hr hp (fun e h=>h) (a1O _) (a3k _)
  refine zY (aN hE (aN cj h1)) ?_
  rw [e]
  exact ⟨_,rfl,h2⟩
 have hp2:=hp.fr (a2l (z:=.cells [.int .i64 0,.int .i64 0,.int .i64 0,.int .i64 0]) (o:=.cells [.int .i64 ((O0 (mo.moves st) j).kind:Int),.int .i64 ((O0 (mo.moves st) j).proc:Int),.int .i64 ((O0 (mo.moves st) j).edge:Int),.int .i64 ((O0 (mo.moves st) j).chan:Int)]))
 have hsu:=a44 (P:=isP i) cj
 by_cases k0:((O0 (mo.moves st) j).kind:Int)=0
 rotate_left
 ·have:isP i (O0 (mo.moves st) j)=false:=by
   unfold isP
   rw [decide_eq_false (by omega),Bool.false_and]
  rw [this,if_neg (by simp),List.append_nil] at hsu
  refine zY (aN hE (aN cj (aN hfl k0))) ?_
  rw [hsu]
  exact ⟨E,hr,hp2⟩
 by_cases k1:(O0 (mo.moves st) j).proc=i
 rotate_left
 ·have:isP i (O0 (mo.moves st) j)=false:=by
   unfold isP
   rw [decide_eq_false k1,Bool.and_false]
  rw [this,if_neg (by simp),List.append_nil] at hsu
  refine zY (aN hE (aN cj (aN hfl (aN k0 k1)))) ?_
  rw [hsu]
  rw [k0] at hp2
  exact ⟨E,hr,hp2⟩
 have:isP i (O0 (mo.moves st) j)=true:=by
  unfold isP
  rw [decide_eq_true (by omega),decide_eq_true k1]
  rfl
 rw [this,if_pos rfl] at hsu
 refine zY (aN hE (aN cj (aN hfl (aN k0 k1)))) ?_
 refine a1n (O0 (mo.moves st) j) ?_ hr (hp.fr a2l) (by decide) (by have:=a23 (l:=mo.moves st) (P:=isP i) (j:=j);omega) ?_
 ·unfold Mv.row
  rw [k0,k1]
 rintro d1 s1 E1 hr1 hp1
 refine zY (aN hE cj) ?_
 rw [hsu]
 exact ⟨E1,hr1,hp1⟩
theorem b4y (hm:MoF m mo ps) (ho:O4 mo) (hf:X8 mo) (hq:MoQ mo) (hx:Y6 mo x st):∃d,Eqc vfs 14 [.agg [m.dt,.int .i64 m.g,m.dc,m.dv,m.dp,m.ds,.bool m.b],.agg [x.da,x.dv,x.dc,.int .i64 st.hold]] d/\FL 4 d (U3 (mo.ample st)):=by
 obtain ⟨d,h1,h2⟩:=c6O hm ho hf hq hx
 exact ⟨d,P4 h1,h2⟩
end Go.Proofs.YtnjlhebkhjcagaaGreat
namespace Go.Proofs.YtnjlhebkhjcagaaGreat
open Go.V
set_option maxRecDepth 100000
set_option maxHeartbeats 4000000
variable {m:MdX} {mo:Mo} {ps:List (Pr×PrD)} {x:StD} {st:Stt}
theorem b7J {f:Nat} {args:List D} {P:Stt->Prop} (h:EvP vfs f args f6.empty fun r s=>∃cs st,r=.agg cs/\a1N s cs st/\P st):∃x st,a1B vfs f args (.agg [x.da,x.dv,x.dc,.int .i64 st.hold])/\StF x st/\P st:=by
 obtain ⟨d,s',h1,cs,st,rfl,h2,h3⟩:=h
 obtain ⟨x,h4,h5⟩:=h2.frz
 exact ⟨x,st,⟨_,_,h1,h4⟩,h5,h3⟩
theorem b4v (hm:MoF m mo ps) (ho:O4 mo) (hf:X8 mo) {d:D} {raw:List Int} (hd:FI d raw) (hraw:∀n∈raw,a0w n):∃x st,Eqc vfs 13 [.agg [m.dt,.int .i64 m.g,m.dc,m.dv,m.dp,m.ds,.bool m.b],d] (.agg [x.da,x.dv,x.dc,.int .i64 st.hold])/\Y6 mo x st/\st.hold=-1:=by
 obtain ⟨x,st,h1,h2,h3,h4⟩:=b7J (c6N hm ho hf hd hraw)
 exact ⟨x,st,P4 h1,⟨h2,c2o hf h3,h3⟩,h4⟩
end Go.Proofs.YtnjlhebkhjcagaaGreat
namespace Go.Proofs.YtnjlhebkhjcagaaGreat
open Go.V
set_option maxRecDepth 100000
set_option maxHeartbeats 4000000
variable {m:MdX} {mo:Mo} {ps:List (Pr×PrD)} {x:StD} {st:Stt}
theorem b6u {d:D} {t:List Nd} (hT:N7 d t):∃d',Eqc vfs 12 [d] d'/\a9n t d':=by
 have pT:PZ d:=hT.fl.pz
 obtain ⟨b,hb,_⟩:=b3H hT
 have hb:=a2c hb rfl
 cases b
 ·refine ⟨.tup [.agg [.nils,.int .i64 0,.nils,.nils,.nils,.nils,.bool false],.bool false],P4 ?_,.inl rfl⟩
  refine N3 (vf:=a3j) rfl ?_
  unfold a3j;refine zF ?_
  refine zY (aN pT hb) ?_
  rfl
 obtain ⟨c,hc,hR⟩:=b1S hT
 have hc:=a2c hc rfl
 cases c
 ·refine ⟨.tup [.agg [.nils,.int .i64 0,.nils,.nils,.nils,.nils,.bool false],.bool false],P4 ?_,.inl rfl⟩
  refine N3 (vf:=a3j) rfl ?_
  unfold a3j;refine zF ?_
  refine zY (aN pT (aN hb hc)) ?_
  rfl
 obtain ⟨r,s1,d',h1,h2,h3⟩:=b6k hT (hR rfl)
 have hmk:Eqc vfs 34 [d] d':=P4 ⟨_,_,h1,h2⟩
 refine ⟨d',P4 ?_,h3⟩
 rcases h3 with rfl | ⟨m,ps,rfl,hR,hS,hY,hm⟩
 ·refine N3 (vf:=a3j) rfl ?_
  unfold a3j;refine zF ?_
  refine zY (aN pT (aN hb (aN hc hmk))) ?_
  rfl
 ·have om:=hm.ones
  have fm:=a0N hm
  unfold N8 at hmk ⊢
  refine N3 (vf:=a3j) rfl ?_
  unfold a3j;refine zF ?_
  refine zY (aN pT (aN hb (aN hc (aN hmk om)))) ?_
  trivial
theorem c3X {d:D} {t:List Nd} (hT:N7 d t):∃d',Eqc vfs 26 [d] d'/\a9n t d':=by
 have pT:PZ d:=hT.fl.pz
 obtain ⟨b,hb,_⟩:=b3H hT
 have hb:=a2c hb rfl
 cases b
 ·refine ⟨.tup [.agg [.nils,.int .i64 0,.nils,.nils,.nils,.nils,.bool false],.bool false],P4 ?_,.inl rfl⟩
  refine N3 (vf:=a3f) rfl ?_
  unfold a3f;refine zF ?_
  refine zY (aN pT hb) ?_
  rfl
 obtain ⟨c,hc,hR⟩:=b1S hT
 have hc:=a2c hc rfl
 cases c
 ·refine ⟨.tup [.agg [.nils,.int .i64 0,.nils,.nils,.nils,.nils,.bool false],.bool false],P4 ?_,.inl rfl⟩
  refine N3 (vf:=a3f) rfl ?_
  unfold a3f;refine zF ?_
  refine zY (aN pT (aN hb hc)) ?_
  rfl
 obtain ⟨r,s1,d',h1,h2,h3⟩:=b6k hT (hR rfl)
 have hmk:Eqc vfs 34 [d] d':=P4 ⟨_,_,h1,h2⟩
 refine ⟨d',P4 ?_,h3⟩
 rcases h3 with rfl | ⟨m,ps,rfl,hR,hS,hY,hm⟩
 ·refine N3 (vf:=a3f) rfl ?_
  unfold a3f;refine zF ?_
  refine zY (aN pT (aN hb (aN hc hmk))) ?_
  rfl
 ·have om:=hm.ones
  have fm:=a0N hm
  unfold N8 at hmk ⊢
  refine N3 (vf:=a3f) rfl ?_
  unfold a3f;refine zF ?_
  refine zY (aN pT (aN hb (aN hc (aN hmk om)))) ?_
  trivial
theorem a9g (mo:Mo) (st:Stt):mo.ample st=mo.moves st∨∃i,st.hold<0/\mo.firstQ st=some i/\mo.quiet i (nAt st.at' i)=true/\mo.ample st=(mo.moves st).filter (isP i):=by
 unfold Mo.ample
 split
 ·rename_i hh
  cases hF:mo.firstQ st with
  | none=>exact .inl rfl
  | some i =>
    have hqi:mo.quiet i (nAt st.at' i)=true:=by
     have:=List.find?_some hF
     exact this
    exact .inr ⟨i,hh,rfl,hqi,rfl⟩
 ·exact .inl rfl
end Go.Proofs.YtnjlhebkhjcagaaGreat
