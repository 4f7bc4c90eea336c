/- Texts one behind the other. -/
import Derived.Test.YtlaeblilmppodaaVt
import Derived.Test.YtlaeblilmppodaaZ4
import Derived.Test.YtlaeblilmppodaaZ3
set_option linter.unusedSimpArgs false
set_option linter.unusedVariables false
namespace Go.Proofs.Ytlaeblilmppodaa
open Go.V
set_option maxRecDepth 100000
set_option maxHeartbeats 8000000
theorem a9T {c:Nat}:Eqc vfs 72 [.int .u8 (c:Int)] (.bool (isL c)):=by
 refine a0s ?_
 unfold isL
 by_cases c1:65<=c
 ·have d1:(65:Int)<=(c:Int):=by omega
  by_cases c2:c<=90
  ·have d2:(c:Int)<=90:=by omega
   refine V3 (vf:=a1O) rfl ?_
   unfold a1O;refine zF ?_
   refine zY (aN d1 d2) ?_
   simp [c1,c2]
   try omega
  have d2:¬ (c:Int)<=90:=by omega
  by_cases c3:97<=c
  ·have d3:(97:Int)<=(c:Int):=by omega
   by_cases c4:c<=122
   ·have d4:(c:Int)<=122:=by omega
    refine V3 (vf:=a1O) rfl ?_
    unfold a1O;refine zF ?_
    refine zY (aN d1 (aN d2 (aN d3 d4))) ?_
    simp [c3,c4]
    try omega
   ·have d4:¬ (c:Int)<=122:=by omega
    refine V3 (vf:=a1O) rfl ?_
    unfold a1O;refine zF ?_
    refine zY (aN d1 (aN d2 (aN d3 d4))) ?_
    simp [c2,c4]
    try omega
  ·have d3:¬ (97:Int)<=(c:Int):=by omega
   refine V3 (vf:=a1O) rfl ?_
   unfold a1O;refine zF ?_
   refine zY (aN d1 (aN d2 d3)) ?_
   simp [c2,c3]
   try omega
 ·have d1:¬ (65:Int)<=(c:Int):=by omega
  have d3:¬ (97:Int)<=(c:Int):=by omega
  refine V3 (vf:=a1O) rfl ?_
  unfold a1O;refine zF ?_
  refine zY (aN d1 d3) ?_
  simp [c1,show ¬ 97<=c by omega]
  try omega
theorem a56 {c:Nat}:Eqc vfs 74 [.int .u8 (c:Int)] (.bool (isD c)):=by
 refine a0s ?_
 unfold isD
 by_cases c1:48<=c
 ·have d1:(48:Int)<=(c:Int):=by omega
  by_cases c2:c<=57
  ·have d2:(c:Int)<=57:=by omega
   refine V3 (vf:=a24) rfl ?_
   unfold a24;refine zF ?_
   refine zY (aN d1 d2) ?_
   simp [c1,c2]
   try omega
  have d2:¬ (c:Int)<=57:=by omega
  refine V3 (vf:=a24) rfl ?_
  unfold a24;refine zF ?_
  refine zY (aN d1 d2) ?_
  simp [c2]
  try omega
 ·have d1:¬ (48:Int)<=(c:Int):=by omega
  refine V3 (vf:=a24) rfl ?_
  unfold a24;refine zF ?_
  refine zY d1 ?_
  simp [c1]
  try omega
theorem b2F {c:Nat}:Eqc vfs 73 [.int .u8 (c:Int)] (.bool (a15 c)):=by
 refine a0s ?_
 have h1:=a9T (c:=c)
 have h2:=a56 (c:=c)
 unfold a15
 cases a:isL c
 ·cases b:isD c
  ·rw [a] at h1
   rw [b] at h2
   by_cases c1:c=95
   ·have d1:(c:Int)=95:=by omega
    have d2:(95:Int)=95:=rfl
    subst c1
    refine V3 (vf:=a2o) rfl ?_
    unfold a2o;refine zF ?_
    refine zY (aN h1 h2) ?_
    first | rfl | trivial
   ·have d1:¬ (c:Int)=95:=by omega
    rw [decide_eq_false c1]
    refine V3 (vf:=a2o) rfl ?_
    unfold a2o;refine zF ?_
    refine zY (aN h1 (aN h2 d1)) ?_
    first | rfl | trivial
  ·rw [a] at h1
   rw [b] at h2
   refine V3 (vf:=a2o) rfl ?_
   unfold a2o;refine zF ?_
   refine zY (aN h1 h2) ?_
   first | rfl | trivial
 ·rw [a] at h1
  refine V3 (vf:=a2o) rfl ?_
  unfold a2o;refine zF ?_
  refine zY h1 ?_
  first | rfl | trivial
theorem b23 {l:List Nat} {c:Nat} (hl:∀x∈l,x<256) (hn:l.length<=100):Eqc vfs 70 [.str (bs l),.int .u8 (c:Int)] (.bool (decide (c∈l))):=by
 refine a0s ?_
 have hz:=a2F l
 refine V3 (vf:=a69) rfl ?_
 unfold a69;refine zF ?_
 refine zY0 ?_
 refine Y6 [0,1] 0 l.length (fun i f s=>f 5=.int .i64 (i:Int)/\∀j (h:j<l.length),j<i->l[j]≠c) (.mk rfl) (by omega) ⟨rfl,fun j h h2=>by omega⟩ ?_
 rintro i f s hi ⟨hE,hall⟩
 by_cases ci:i<l.length
 ·have hx:=a3u ci hl (k:=.i64)
  by_cases e:l[i]=c
  ·have e':(l[i]:Int)=(c:Int):=by omega
   rw [decide_eq_true (e▸List.getElem_mem ci)]
   exact zZ (aN hE (aN hz (aN ci (aN hx e'))))
  ·have e':¬ (l[i]:Int)=(c:Int):=by omega
   refine zY (aN hE (aN hz (aN ci (aN hx e')))) ?_
   intro j h h2
   by_cases ej:j=i
   ·subst ej;exact e
   ·exact hall j h (by omega)
 ·obtain rfl:i=l.length:=by omega
  have e:decide (c∈l)=false:=by
   rw [decide_eq_false_iff_not]
   intro hc
   obtain ⟨j,hj,e⟩:=List.getElem_of_mem hc
   exact hall j hj hj e
  rw [e]
  exact zZ (aN hE (aN hz ci))
theorem b3W {l:List Nat} {i:Nat} (hl:l.length<=4000) (hlt:∀c∈l,c<256) (hi:i<l.length) (h:l[i]≠47/\l[i]≠61/\l[i]≠38/\l[i]≠124):∃r,Eqc vfs 71 [.str (bs l),.int .i64 (i:Int)] (.str r)/\¬ r=bs [47,47]/\¬ r=bs [61,61]/\¬ r=bs [38,38]/\¬ r=bs [124,124]:=by
 have hz:=a2F l
 by_cases c:i+2<=l.length
 ·have key:∀a,a<256->l[i]≠a->¬ bs ((l.take (i+2)).drop i)=bs [a,a]:=fun a ha hne e=>by
   have:=a8Y (fun c hc=>hlt c (List.mem_of_mem_take (List.mem_of_mem_drop hc))) (by simp;omega) e
   have h0:=congrArg hdN this
   rw [a3E (by simp;omega)] at h0
   simp at h0
   exact hne h0
  refine ⟨bs ((l.take (i+2)).drop i),a0s ?_,key 47 (by omega) h.1,key 61 (by omega) h.2.1,key 38 (by omega) h.2.2.1,key 124 (by omega) h.2.2.2⟩
  have hs:=b1n l i (i+2)
  have c':i+1<l.length:=by omega
  have c2:i<=i+2:=by omega
  have e1:((i+2:Nat):Int)=(i:Int)+2:=by omega
  have e2:IntKind.i64.wrap ((i:Int)+2)=((i+2:Nat):Int):=by rw [P1 (by omega) (by omega)];omega
  have e3:((i+2:Nat):Int)<=(l.length:Int):=by omega
  refine V3 (vf:=a4q) rfl ?_
  unfold a4q;refine zF ?_
  exact zZ (aN hz (aN e2 (aN e3 (aN c' (aN c2 hs)))))
 ·have key:∀a,¬ bs []=bs [a,a]:=fun a e=>by
   have:=congrArg ByteArray.size e
   rw [a2F,a2F] at this
   simp at this
  refine ⟨bs [],a0s ?_,key 47,key 61,key 38,key 124⟩
  have e2:IntKind.i64.wrap ((i:Int)+2)=((i+2:Nat):Int):=by rw [P1 (by omega) (by omega)];omega
  have e3:¬ ((i+2:Nat):Int)<=(l.length:Int):=by omega
  refine V3 (vf:=a4q) rfl ?_
  unfold a4q;refine zF ?_
  exact zZ (aN hz (aN e2 e3))
theorem b8x {l:List Lx} (hl:b3e l) (hn:(M9 l).length<=4000):a83 vfs 50 [.str (bs (M9 l))] fun d=>∃d',d=.tup [d',.agg [.int .i64 0,.int .i64 0]]/\FL 3 d' (a0Y (a0F l l.length++[⟨3,[],(M9 l).length⟩])):=by
 have hz:=a2F (M9 l)
 have hlt:=b3X hl.ok
 have hc:¬ (4000:Int)<((M9 l).length:Int):=by omega
 have hll:l.length<=(M9 l).length:=by
  have:∀n,n<=l.length->n<=O8 l n:=fun n=>by
   induction n with
   | zero=>intro _;omega
   | succ n ih =>
     intro hn
     have:=ih (by omega)
     have:=a4Q (l:=l) (n:=n) (by omega)
     have:=(hl.ok _ (a6p (l:=l) (n:=n) (by omega))).pos
     omega
  have:=this l.length (Nat.le_refl _)
  rwa [a5V] at this
 have hp0:Hp (i8.empty.push (.cells [.int .i64 0,.int .i64 0])) [(0,[.int .i64 0,.int .i64 0])] []:=⟨by simp,by simp,by simp [Has];simp (disch:=(first|exact Rf.mk rfl|with_reducible assumption|omega|((repeat (first|rw [nP]|rw [nS]|rw [M4]))<;>omega)|decide)) only [go_sem,↓reduceIte],by simp [Has]⟩
 refine b1y (vf:=a8W) rfl ?_
 unfold a8W;refine zF ?_
 refine zY (aN hz hc) ?_
 generalize i8.empty.push (.cells [.int .i64 0,.int .i64 0])=s0 at *
 refine Y6 [0,3,10] 0 l.length (fun n f s=>f 5=.int .i64 (O8 l n:Int)/\∃E,Rp (f 4) 3 (a0Y (a0F l n)) E/\Hp s ((0,[.int .i64 0,.int .i64 0])::E) []) (.mk rfl) (by omega) ⟨by simp [O8,M9,Env.get],[],.inl ⟨rfl,rfl,rfl⟩,hp0⟩ ?_
 rintro n f s hn' ⟨hE,E,hr,hp⟩
 have hpl:=a73 (l:=l) (n:=n) (by omega)
 have htl:=a7A (l:=l) n
 by_cases cn:n<l.length
 rotate_left
 ·obtain rfl:n=l.length:=by omega
  have hpa:=a5V (l:=l)
  rw [hpa] at hE
  refine zY (aN hE hz) ?_
  refine a2n (A:=[(0,_)]) (B:=[]) hr (by simpa using hp) rfl (a4N _) (by decide) (by simp;omega) ?_
  rintro d1 s1 E1 hr1 hp1 hn1
  have g0:=Hp.get (A:=[]) hp1
  have l0:=k4 g0
  obtain ⟨d',h1,h2⟩:=(hr1.sn fun e hm=>(Hp.set (A:=[]) hp1 [.int .i64 0,.int .i64 0]).w e (by simp [hm])).frz1 (n:=17) (fun r hr=>by rcases List.mem_append.1 hr with h | h;exact a4N _ r h;rw [List.mem_singleton.1 h];rfl) (fun r hr=>by rcases List.mem_append.1 hr with h | h;exact b5A _ r h;rw [List.mem_singleton.1 h];rfl)
  refine zY g0 ?_
  refine ⟨_,?_,d',rfl,by rw [a50];exact h2⟩
  simp only [M3,h1]
  rfl
 have hok:=hl.ok _ (a6p cn)
 have hps:=a4Q cn
 have hpl2:=a73 (l:=l) (n:=n+1) (by omega)
 have hpos:=hok.pos
 have hsp:O8 l n<(M9 l).length:=by omega
 have hc0:(M9 l)[O8 l n]=hdN (T0 l n).txt:=by
  have:=a7Y (j:=0) cn hpos hsp
  simp only [Nat.add_zero] at this
  rw [this,a3E hpos]
 have hx0:=a3u hsp hlt (k:=.i64)
 obtain ⟨r,h2,n1,n2,n3,n4⟩:=b3W hn hlt hsp (by rw [hc0];exact hok.hd)
 rw [hc0] at hx0
 have hb:=b23 (l:=[32,9,13,10]) (c:=hdN (T0 l n).txt) (by simp) (by simp)
 obtain ⟨nb1,nb2⟩:=b5u hok
 have hsl:=b1n (M9 l) (O8 l n) (O8 l (n+1))
 rw [hps,b9W cn] at hsl
 have hle:O8 l n+(T0 l n).txt.length<=(M9 l).length:=by omega
 have hle2:O8 l n<=O8 l n+(T0 l n).txt.length:=by omega
 have hnx:=hl.nx n
 have htn:=fun h h'=>b5H hl.ok (n:=n) h h'
 have hat:=fun j hj h=>a7Y (l:=l) (n:=n) (j:=j) cn hj h
 have hnext:n+1<l.length->O8 l n+(T0 l n).txt.length<(M9 l).length:=fun h=>by
  have h1:=a4Q h
  have h2:=a73 (l:=l) (n:=n+1+1) (by omega)
  have h3:=(hl.ok _ (a6p h)).pos
  omega
 have hend:¬ n+1<l.length->O8 l n+(T0 l n).txt.length=(M9 l).length:=fun h=>by
  rw [<- a5V,<- hps,show n+1=l.length by omega]
 generalize hX:T0 l n=X at *
 by_cases k3:X.kind=3
 ·rw [decide_eq_true (nb1.1 k3)] at hb
  have e2:=nb2 k3
  rw [e2] at hb hx0
  have e3:X.txt.length=1:=by
   rcases hok.k with ⟨k,_⟩ | ⟨k,_⟩ | ⟨k,_⟩ | ⟨_,k⟩
   ·omega
   ·omega
   ·omega
   ·rw [k];rfl
  rw [e3] at hps
  have e4:a0F l (n+1)=a0F l n:=by rw [a0F,hX,if_pos k3,List.append_nil]
  refine zY (aN hE (aN hz (aN hsp (aN hx0 hb)))) ?_
  rw [hps,e4]
  exact ⟨cn,rfl,E,hr,hp⟩
 rw [decide_eq_false fun h=>k3 (nb1.2 h)] at hb
 have e4:a0F l (n+1)=a0F l n++[⟨(X.kind:Int),X.txt,O8 l n⟩]:=by rw [a0F,hX,if_neg k3]
 have hlt2:=a9T (c:=hdN X.txt)
 have hdg:=a56 (c:=hdN X.txt)
 rcases hok.k with ⟨k,a1,a2⟩ | ⟨k,a1,a2⟩ | ⟨k,c,a1,a2⟩ | ⟨k,_⟩
 ·rw [a1] at hlt2
  refine zY (aN hE (aN hz (aN hsp (aN hx0 (aN hb (aN h2 (aN n1 (aN n2 (aN n3 (aN n4 hlt2)))))))))) ?_
  refine a6K [0,2,3,4,5,7,10,15,19,25,35,39,58,75,89,92,111] (fun f' s'=>f' 6=.int .i64 ((O8 l n+X.txt.length:Nat):Int)/\s'=s) ?_ ?_
  ·refine Y6 [0,2,3,4,5,7,10,15,19,25,35,39,58,75,89,92,111] 0 X.txt.length (fun j f' s'=>f' 6=.int .i64 ((O8 l n+j:Nat):Int)/\s'=s) (.mk rfl) (by omega) ⟨by simp [Env.get],rfl⟩ ?_
   rintro j f' s' hj ⟨h6,rfl⟩
   by_cases cj:j<X.txt.length
   ·have hjl:O8 l n+j<(M9 l).length:=by omega
    have hx:=a3u hjl hlt (k:=.i64)
    rw [hat j cj hjl] at hx
    have hw:=b2F (c:=X.txt[j])
    rw [a2 _ (List.getElem_mem cj)] at hw
    refine zY (aN h6 (aN hz (aN hjl (aN hx hw)))) ?_
    all_goals first | omega | exact ⟨by omega,by omega⟩
   ·obtain rfl:j=X.txt.length:=by omega
    by_cases ce:n+1<l.length
    ·have hjl:=hnext ce
     have hx:=a3u hjl hlt (k:=.i64)
     rw [htn ce hjl] at hx
     have hw:=b2F (c:=hdN (T0 l (n+1)).txt)
     rw [(hnx ce).1 k] at hw
     exact zZ (aN h6 (aN hz (aN hjl (aN hx hw))))
    ·have hj2:=hend ce
     rw [hj2] at h6
     exact zZ (aN h6 (aN hz hj2))
  rintro f' s' ⟨h6,rfl⟩
  have e5:¬ O8 l n+X.txt.length=O8 l n:=by omega
  have e6:IntKind.i64.wrap (((O8 l n+X.txt.length:Nat):Int)-(O8 l n:Int))=(X.txt.length:Int):=by rw [P1 (by omega) (by omega)];omega
  refine zY (aN hE (aN hz (aN h6 (aN e5 (aN e6 (aN hsl (aN hle hle2))))))) ?_
  refine a2n (A:=[(0,_)]) (B:=[]) hr (by simpa using hp) rfl (a4N _) (by decide) (by simp;omega) ?_
  rintro d1 s1 E1 hr1 hp1 hn1
  refine zY hps ?_
  refine ⟨cn,E1,?_,by simpa using hp1⟩
  rw [e4,a50]
  simpa [a0Y,Tk.row,k] using hr1
 ·have hL:isL (hdN X.txt)=false:=by
   have:=a2 (hdN X.txt) (by rw [a3E hpos];exact List.getElem_mem _)
   unfold isD at this
   unfold isL
   simp at this ⊢
   omega
  have hD:isD (hdN X.txt)=true:=a2 (hdN X.txt) (by rw [a3E hpos];exact List.getElem_mem _)
  rw [hL] at hlt2
  rw [hD] at hdg
  refine zY (aN hE (aN hz (aN hsp (aN hx0 (aN hb (aN h2 (aN n1 (aN n2 (aN n3 (aN n4 (aN hlt2 hdg))))))))))) ?_
  refine a6K [0,2,3,4,5,7,10,15,19,25,35,39,58,72,75,92,111] (fun f' s'=>f' 6=.int .i64 ((O8 l n+X.txt.length:Nat):Int)/\s'=s) ?_ ?_
  ·refine Y6 [0,2,3,4,5,7,10,15,19,25,35,39,58,72,75,92,111] 0 X.txt.length (fun j f' s'=>f' 6=.int .i64 ((O8 l n+j:Nat):Int)/\s'=s) (.mk rfl) (by omega) ⟨by simp [Env.get],rfl⟩ ?_
   rintro j f' s' hj ⟨h6,rfl⟩
   by_cases cj:j<X.txt.length
   ·have hjl:O8 l n+j<(M9 l).length:=by omega
    have hx:=a3u hjl hlt (k:=.i64)
    rw [hat j cj hjl] at hx
    have hw:=a56 (c:=X.txt[j])
    rw [a2 _ (List.getElem_mem cj)] at hw
    refine zY (aN h6 (aN hz (aN hjl (aN hx hw)))) ?_
    all_goals first | omega | exact ⟨by omega,by omega⟩
   ·obtain rfl:j=X.txt.length:=by omega
    by_cases ce:n+1<l.length
    ·have hjl:=hnext ce
     have hx:=a3u hjl hlt (k:=.i64)
     rw [htn ce hjl] at hx
     have hw:=a56 (c:=hdN (T0 l (n+1)).txt)
     rw [(hnx ce).2 k] at hw
     exact zZ (aN h6 (aN hz (aN hjl (aN hx hw))))
    ·have hj2:=hend ce
     rw [hj2] at h6
     exact zZ (aN h6 (aN hz hj2))
  rintro f' s' ⟨h6,rfl⟩
  have e5:¬ O8 l n+X.txt.length=O8 l n:=by omega
  have e6:IntKind.i64.wrap (((O8 l n+X.txt.length:Nat):Int)-(O8 l n:Int))=(X.txt.length:Int):=by rw [P1 (by omega) (by omega)];omega
  have e7:¬ (6:Int)<(X.txt.length:Int):=by omega
  refine zY (aN hE (aN hz (aN h6 (aN e5 (aN e6 (aN e7 (aN hsl (aN hle hle2)))))))) ?_
  refine a2n (A:=[(0,_)]) (B:=[]) hr (by simpa using hp) rfl (a4N _) (by decide) (by simp;omega) ?_
  rintro d1 s1 E1 hr1 hp1 hn1
  refine zY hps ?_
  refine ⟨cn,E1,?_,by simpa using hp1⟩
  rw [e4,a50]
  simpa [a0Y,Tk.row,k] using hr1
 ·have hc2:hdN X.txt=c:=by rw [a1];rfl
  have hL:isL (hdN X.txt)=false:=by
   rw [hc2]
   simp only [List.mem_cons,List.not_mem_nil,or_false] at a2
   rcases a2 with rfl | rfl | rfl | rfl | rfl<;>rfl
  have hD:isD (hdN X.txt)=false:=by
   rw [hc2]
   simp only [List.mem_cons,List.not_mem_nil,or_false] at a2
   rcases a2 with rfl | rfl | rfl | rfl | rfl<;>rfl
  rw [hL] at hlt2
  rw [hD] at hdg
  have hb2:=b23 (l:=[123,125,91,93,40,41,59,61,60,43,45,42,47,37,33]) (c:=hdN X.txt) (by simp) (by simp)
  rw [decide_eq_true (by
   rw [hc2]
   simp only [List.mem_cons,List.not_mem_nil,or_false] at a2 ⊢
   omega)] at hb2
  have e3:X.txt.length=1:=by rw [a1];rfl
  rw [e3] at hps hsl hle hle2
  have e5:¬ O8 l n+1=O8 l n:=by omega
  refine zY (aN hE (aN hz (aN hsp (aN hx0 (aN hb (aN h2 (aN n1 (aN n2 (aN n3 (aN n4 (aN hlt2 (aN hdg (aN hb2 (aN e5 (aN hsl (aN hle hle2)))))))))))))))) ?_
  refine a2n (A:=[(0,_)]) (B:=[]) hr (by simpa using hp) rfl (a4N _) (by decide) (by simp;omega) ?_
  rintro d1 s1 E1 hr1 hp1 hn1
  refine zY hps ?_
  refine ⟨cn,E1,?_,by simpa using hp1⟩
  rw [e4,a50]
  simpa [a0Y,Tk.row,k] using hr1
 ·omega
end Go.Proofs.Ytlaeblilmppodaa
namespace Go.V
variable {fs:FuncId->Option o8}
end Go.V
namespace Go.V
end Go.V
namespace Go.V
structure Inc (f g:Ft):Prop where
 r:∀b,f.reads.testBit b=true->g.reads.testBit b=true
 z:∀b,f.sizes.testBit b=true->g.sizes.testBit b=true
theorem Inc.refl (f:Ft):Inc f f:=⟨fun _ h=>h,fun _ h=>h⟩
theorem Inc.trans {f g h:Ft} (a:Inc f g) (b:Inc g h):Inc f h:=⟨fun x k=>b.r x (a.r x k),fun x k=>b.z x (a.z x k)⟩
structure a8A (f:Ft) (st st':Stt):Prop where
 r:∀b,f.reads.testBit b=true->zAt st.vars b=zAt st'.vars b
 z:∀b,f.sizes.testBit b=true->(cAt st.chans b).length=(cAt st'.chans b).length
def setO {α:Type} (l:List α):Option (Nat×α)->List α
 | none=>l
 | some (i,x)=>l.set i x
theorem a8A.hold {f:Ft} {st st':Stt} (h:a8A f st st') (z:Int):a8A f st { st' with hold:=z }:=⟨h.r,h.z⟩
end Go.V
namespace Go.V
theorem a7c {α β:Type} {P:β->Prop} {g:β->α->β}:∀ {l:List α} {a:β},P a->(∀a x,x∈l->P a->P (g a x))->P (l.foldl g a)
 | [],a,h,_=>h
 | x::l,a,h,hg=>a7c (l:=l) (hg a x (by simp) h) fun a y hy=>hg a y (by simp [hy])
def a8h (c:Ch):Prop:=1<=c.room/\c.room<=3/\1<=c.width/\c.width<=8
def a2U (v:Vr):Prop:=1<=v.width/\v.width<=8/\S4 v.value v.width.toNat=v.value
theorem c0i {t:List Nd} (hY:a00 t) {k:Nat} (hk:k<t.length) (h:(nd t k).kind=1):a8h (a2R (nd t k)):=by
 have:=(hY.fine k hk).chan h
 exact ⟨this.1,this.2.1,this.2.2.1,this.2.2.2.1⟩
theorem b20 {t:List Nd} (hY:a00 t) {k:Nat} (hk:k<t.length) (h:(nd t k).kind=2):a2U (a08 (nd t k)):=by
 have:=(hY.fine k hk).var h
 exact ⟨this.1,this.2.1,this.2.2.1⟩
theorem c1M {t:List Nd} (ht:Y8 t) (hY:a00 t):(∀c∈(gat t).ch,a8h c)/\∀v∈(gat t).vs,a2U v:=by
 unfold gat pass1
 refine a7c (P:=fun (a:Ga)=>(∀c∈a.ch,a8h c)/\∀v∈a.vs,a2U v) (by simp) fun (a:Ga) k hk ha=>?_
 have hkl:=(ht.ks ht.pos k hk).2
 unfold one1
 split
 ·rename_i h1
  refine ⟨fun c hc=>?_,ha.2⟩
  rcases List.mem_append.1 hc with hc | hc
  ·exact ha.1 c hc
  ·simp only [List.mem_singleton] at hc
   subst hc;exact c0i hY hkl h1
 split
 ·rename_i h1
  refine ⟨ha.1,fun c hc=>?_⟩
  rcases List.mem_append.1 hc with hc | hc
  ·exact ha.2 c hc
  ·simp only [List.mem_singleton] at hc
   subst hc;exact b20 hY hkl h1
 split
 ·exact ha
 split
 ·exact ha
 ·exact ha
theorem b46 {t:List Nd} (ht:Y8 t) (hY:a00 t) {k:Nat} (hk:k<t.length):∀v∈(T8 t (nd t k)).map a08,a2U v:=by
 intro v hv
 obtain ⟨x,hx,rfl⟩:=List.mem_map.1 hv
 obtain ⟨j,hj,rfl⟩:=List.mem_map.1 hx
 obtain ⟨i,hi,e⟩:=List.getElem_of_mem hj
 have hi2:i<N5 t (nd t k)/\i<(nd t k).ks.length:=by
  rw [List.length_take] at hi;omega
 rw [List.getElem_take] at e
 have h2:=a5C hi2.1 hi2.2
 rw [e] at h2
 have hm:=ht.ks hk j (by rw [<- e];exact List.getElem_mem _)
 exact b20 hY hm.2 h2
theorem b2B {t:List Nd} (ht:Y8 t) (hY:a00 t) {ch:List ByteArray} {k seen:Nat} (hk:k<t.length):∀ (c:Nat) (a:List Vr×List Pr),(∀v∈a.1,a2U v)->∀v∈(U0 t ch k seen c a).1,a2U v
 | 0,a,h=>h
 | c+1,a,h=>by
   intro v hv
   unfold U0 at hv
   rcases List.mem_append.1 hv with hv | hv
   ·exact b2B ht hY hk c a h v hv
   ·exact b46 ht hY hk v hv
theorem c1R {t:List Nd} (hR:M8 t) (hY:a00 t):a3w (a3b t):=by
 have ht:=hR.ok
 obtain ⟨h1,h2⟩:=c1M ht hY
 refine ⟨h1,?_⟩
 show ∀v∈(gbt t).vs,a2U v
 unfold gbt pass2
 refine a7c (P:=fun (a:Gb)=>∀v∈a.vs,a2U v) h2 fun a k hk ha=>?_
 have hkl:=(ht.ks ht.pos k hk).2
 unfold Z0
 split
 ·exact b2B ht hY hkl _ _ ha
 split
 ·exact ha
 ·exact ha
end Go.V
namespace Go.V
variable {mo:Mo} {st:Stt}
end Go.V
namespace Go.V
def aB (l:List Bool) (i:Nat):Bool:=l.getD i false
theorem b4E {l:List Bool} {i:Nat} (h:i<l.length):aB l i=l[i]:=by simp [aB,List.getD,h]
structure Code {α β:Type} (A:α->Prop) (sz:α->Nat) (e:α->β->List Bool) (d:α->List Bool->Option (β×List Bool)) (V:α->β->Prop):Prop where
 enc:∀a b r,A a->V a b->d a (e a b++r)=some (b,r)
 dec:∀a l b r,A a->sz a<=l.length->d a l=some (b,r)->V a b/\l=e a b++r
 len:∀a b,V a b->(e a b).length=sz a
def szL {α:Type} (sz:α->Nat) (l:List α):Nat:=(l.map sz).sum
def a1Y (n:Int):Nat->Nat->Nat
 | 0,w=>w
 | f+1,w=>if w<16/\(2:Int) ^ w<n then a1Y n f (w+1) else w
def wid (n:Int):Nat:=a1Y n 15 1
theorem b1R {n:Int}:∀ {f w:Nat},1<=w->w+f<=16->1<=a1Y n f w/\a1Y n f w<=16
 | 0,w,h1,h2=>by simp only [a1Y];omega
 | f+1,w,h1,h2=>by
   unfold a1Y
   split
   ·exact b1R (by omega) (by omega)
   ·omega
theorem a5M (n:Int):1<=wid n/\wid n<=16:=b1R (by omega) (by omega)
theorem b8G (w:Nat):((2 ^ w:Nat):Int)=2 ^ w:=by simp
theorem c1q {w:Nat} (h:0<w):S4 0 w=0:=by
 have:=a4M h
 have:=a4O (w-1)
 exact a6B h (by omega) (by omega)
def Mo.nbits (mo:Mo):Nat:=szL (fun p:Pr=>wid (p.places:Int)) mo.procs+szL (fun v:Vr=>v.width.toNat) mo.vars+szL (fun c:Ch=>2+c.room.toNat*c.width.toNat) mo.chans+3
end Go.V
namespace Go.V
variable {fs:FuncId->Option o8}
theorem b3i (l:List Bool):(P0 l).flatten=a0G l:=by
 induction l with
 | nil=>rfl
 | cons b l ih=>show [.bool b]++(P0 l).flatten=_;rw [ih];rfl
structure GrB (s0 s:i8) (ids:List Nat) (A B R:Hs) (d:D) (l:List Bool) (E:Hs):Prop where
 rp:Rp d 1 (P0 l) E
 hp:Hp s (A++E++B) R
 fr:Fr ids s0 s
 nw:∀e∈E,e.1∈ids∨s0.next<=e.1
theorem GrB.frz {s0 s:i8} {ids:List Nat} {A B R E:Hs} {d:D} {l:List Bool} (h:GrB s0 s ids A B R d l E):∃d',ice s.get 20 d=some d'/\FL 1 d' (P0 l):=b5h h.rp h.hp (fun e he=>by simp [he]) (a28 _) (b05 _)
theorem b1e {l:List Bool} {i:Nat} (h:i<l.length):(a0G l)[i]?=some (.bool (aB l i)):=by rw [b4E h];simp [a0G,h]
attribute [go_sem] b1e b0Z
def GrL (s0 s:i8) (R:Hs) (d:D) (l:List Bool) (E:Hs):Prop:=GrB s0 s [] [] [] R d l E
theorem GrB.base {s0 s s':i8} {R R' E E':Hs} {d d':D} {l l':List Bool} (h:GrB s s' (E.map Prod.fst) [] [] R' d' l' E') (h0:GrL s0 s R d l E):GrL s0 s' R' d' l' E':=by
 have nE:∀i∈E.map Prod.fst,s0.next<=i:=fun i hi=>by
  obtain ⟨e,he,rfl⟩:=List.mem_map.1 hi
  rcases h0.nw e he with h | h
  ·simp at h
  ·exact h
 refine ⟨h.rp,h.hp,⟨Nat.le_trans h0.fr.1 h.fr.1,fun j hj _=>?_⟩,fun e he=>.inr ?_⟩
 ·rw [h.fr.2 j (Nat.lt_of_lt_of_le hj h0.fr.1) fun hc=>by have:=nE j hc;omega,h0.fr.2 j hj (by simp)]
 ·rcases h.nw e he with h | h
  ·exact nE _ h
  ·exact Nat.le_trans h0.fr.1 h
theorem GrL.mv {s0 s s':i8} {R E:Hs} {d:D} {l:List Bool} (h:GrL s0 s R d l E) (hf:Fr [] s s'):GrL s0 s' R d l E :=
 ⟨h.rp,h.hp.fr hf,h.fr.trans hf (by simp),h.nw⟩
theorem GrL.nil {s0 s:i8} {R:Hs} (h:Has s R) (hf:Fr [] s0 s):GrL s0 s R .nils [] []:=⟨.inl ⟨rfl,rfl,rfl⟩,⟨List.nodup_nil,by simp,by simp [Has],h⟩,hf,by simp⟩
theorem a2v {s:i8} {z o:M6}:Fr [] s ((s.push z).set s.next (some o)):=(Fr.push _).thenSet _ (.inr (Nat.le_refl _))
theorem GrL.lt {s0 s:i8} {R E:Hs} {d:D} {l:List Bool} (h:GrL s0 s R d l E) {id:Nat} (hm:id∈E.map Prod.fst):id<s.next:=by
 obtain ⟨e,he,h1⟩:=List.mem_map.1 hm
 rw [<- h1]
 exact k4 (h.hp.w e (by simp [he]))
theorem GrL.sub {s0 s:i8} {R R' E:Hs} {d:D} {l:List Bool} (h:GrL s0 s R d l E) (hr:∀x∈R',x∈R):GrL s0 s R' d l E :=
 ⟨h.rp,h.hp.sub (List.Sublist.refl _) hr,h.fr,h.nw⟩
theorem GrL.box {s0 s:i8} {R E:Hs} {d:D} {l:List Bool} (h:GrL s0 s R d l E) {z:M6} {cs:List D}:GrL s0 ((s.push z).set s.next (some (.cells cs))) ((s.next,cs)::R) d l E:=by
 have h2:=h.mv (a2v (z:=z) (o:=.cells cs))
 refine ⟨h.rp,h2.hp.addR1 (P8 (by simp)) fun w hw heq=>?_,h.fr.trans a2v (by simp),h.nw⟩
 have hw':w∈E:=by simpa using hw
 have:=h.lt (List.mem_map_of_mem hw')
 omega
theorem b9O {d:D} {l:List Bool} {i:Nat} {k:IntKind} (h:FL 1 d (P0 l)) (hi:i<l.length):M1 1 d (.int k (i:Int))=some (.fp [.bool (aB l i)] 0):=by rw [b17 h hi];rfl
theorem b91 {l:List Bool} {i:Nat}:bAt l i=aB l i:=rfl
attribute [go_sem] b91
theorem a63 {α:Type} {sz:α->Nat} {l:List α} {i:Nat} (h:i<l.length):szL sz (l.take (i+1))=szL sz (l.take i)+sz l[i]:=by
 unfold szL
 rw [List.take_succ_eq_append_getElem h,List.map_append,List.sum_append]
 simp
theorem a6u {α:Type} {sz:α->Nat} {k:Nat}:∀ (l:List α),(∀x∈l,sz x<=k)->szL sz l<=k*l.length
 | [],_=>by simp [szL]
 | x::l,h=>by
   have:=a6u l fun y hy=>h y (by simp [hy])
   have:=h x (by simp)
   simp only [szL,List.map_cons,List.sum_cons,List.length_cons,Nat.mul_succ] at *
   omega
theorem c1b {mo:Mo} {i:Nat} (h:i<mo.procs.length):szL (fun p:Pr=>wid (p.places:Int)) (mo.procs.take (i+1))=szL (fun p:Pr=>wid (p.places:Int)) (mo.procs.take i)+wid ((pAt mo.procs i).places:Int):=by rw [a63 h,a8b h]
theorem b9T {mo:Mo} {i:Nat} (h:i<mo.vars.length):szL (fun v:Vr=>v.width.toNat) (mo.vars.take (i+1))=szL (fun v:Vr=>v.width.toNat) (mo.vars.take i)+(vAt mo.vars i).width.toNat:=by rw [a63 h,a9b h]
theorem b5U {mo:Mo} {i:Nat} (h:i<mo.chans.length):szL (fun c:Ch=>2+c.room.toNat*c.width.toNat) (mo.chans.take (i+1))=szL (fun c:Ch=>2+c.room.toNat*c.width.toNat) (mo.chans.take i)+(2+(X5 mo.chans i).room.toNat*(X5 mo.chans i).width.toNat):=by rw [a63 h,a6T h]
theorem b4q {mo:Mo} (ho:a46 mo) (i:Nat):szL (fun p:Pr=>wid (p.places:Int)) (mo.procs.take i)<=64:=by
 refine Nat.le_trans (a6u (k:=16) _ fun p _=>(a5M _).2) ?_
 rw [List.length_take];have:=ho.np;omega
theorem c2C {mo:Mo} (ho:a46 mo) (hf:a3w mo) (i:Nat):szL (fun v:Vr=>v.width.toNat) (mo.vars.take i)<=64:=by
 refine Nat.le_trans (a6u (k:=8) _ fun v hv=>?_) ?_
 ·have:=hf.vr v (List.mem_of_mem_take hv);omega
 ·rw [List.length_take];have:=ho.nv;omega
theorem b3V {mo:Mo} (ho:a46 mo) (hf:a3w mo) (i:Nat):szL (fun c:Ch=>2+c.room.toNat*c.width.toNat) (mo.chans.take i)<=78:=by
 refine Nat.le_trans (a6u (k:=26) _ fun c hc=>?_) ?_
 ·have hw:=hf.ch c (List.mem_of_mem_take hc)
  have:c.room.toNat*c.width.toNat<=3*8:=Nat.mul_le_mul (by omega) (by omega)
  omega
 ·rw [List.length_take];have:=ho.nc;omega
def Rdr (s:i8) (r:Nat) (l:List Bool):Prop:=∃d,s.get r=some (.cells [d])/\FL 1 d (P0 l)
theorem c0M (l:List Bool) (n:Nat):P0 (l.take n)=(P0 l).take n:=by simp [P0,List.map_take]
theorem b4n (l:List Bool) (n:Nat):P0 (l.drop n)=(P0 l).drop n:=by simp [P0,List.map_drop]
theorem Hp.frI {s s':i8} {W R:Hs} {ids:List Nat} (h:Hp s W R) (hf:Fr ids s s') (hn:∀w∈W++R,w.1∉ids):Hp s' W R :=
 ⟨h.nd,h.ap,fun w hw=>by rw [hf.2 _ (k4 (h.w w hw)) (hn w (by simp [hw])),h.w w hw],fun w hw=>by rw [hf.2 _ (k4 (h.r w hw)) (hn w (by simp [hw])),h.r w hw]⟩
structure GrZ (n0:Nat) (s:i8) (R:Hs) (d:D) (l:List Int) (E:Hs):Prop where
 rp:Rp d 1 (a0H l) E
 hp:Hp s E R
 nw:∀e∈E,n0<=e.1
theorem GrZ.fr {n0:Nat} {s s':i8} {R E:Hs} {d:D} {l:List Int} {ids:List Nat} (h:GrZ n0 s R d l E) (hf:Fr ids s s') (h1:∀i∈ids,i<n0) (h2:∀x∈R,x.1∉ids):GrZ n0 s' R d l E :=
 ⟨h.rp,h.hp.frI hf fun w hw hi=>by
  rcases List.mem_append.1 hw with hw | hw
  ·have:=h.nw w hw
   have:=h1 _ hi
   omega
  ·exact h2 w hw hi,h.nw⟩
structure UnW (mcs:List D) (s:i8) (dA dV dC:D) (W:Hs):Prop where
 hp:Hp s ((3,[dA,dV,dC,.int .i64 0])::(1,[.nils,.nils,.nils,.int .i64 0])::W) [(0,mcs)]
 nw:∀e∈W,4<=e.1
theorem UnW.lt {mcs:List D} {s:i8} {dA dV dC:D} {W:Hs} (h:UnW mcs s dA dV dC W):3<s.next:=k4 (h.hp.w (3,[dA,dV,dC,.int .i64 0]) (by simp))
theorem UnW.fr {mcs:List D} {s s':i8} {dA dV dC:D} {W:Hs} {ids:List Nat} (h:UnW mcs s dA dV dC W) (hf:Fr ids s s') (hi:∀i∈ids,i=2):UnW mcs s' dA dV dC W :=
 ⟨h.hp.frI hf fun w hw hn=>by
  have:=hi _ hn
  simp only [List.cons_append,List.mem_cons,List.mem_append,List.not_mem_nil,or_false] at hw
  rcases hw with rfl | rfl | hw | rfl
  ·simp at this
  ·simp at this
  ·have:=h.nw w hw;omega
  ·simp at this,h.nw⟩
theorem Rdr.fr {s s':i8} {l:List Bool} {r:Nat} (h:Rdr s r l) (hf:Fr [] s s'):Rdr s' r l:=by
 obtain ⟨d,h1,h2⟩:=h
 exact ⟨d,by rw [hf.2 _ (k4 h1) (by simp),h1],h2⟩
end Go.V
namespace Go.V
variable {fs:FuncId->Option o8}
theorem b6x {pairs T ops env s Q} (hp:a5j pairs ops=true) (h:WQ fs [] ops env s Q):WX fs pairs T ops env s Q:=by
 intro tr _
 obtain ⟨n,env',s',h1,h2⟩:=h [] a4J
 exact ⟨n,env',s',a39 hp h1,h2⟩
theorem b19 {pairs T i t f args rest s K W} {env:Env} {l:List D} {P:D->i8->Prop} (hr:EvP fs f l s P) (ha:env.evL args=l) (hfr:∀d s',P d s'->Fr W s s') (hT:∀e∈T,(e.i,i)∈pairs->∀id,e.rd=some id->id<s.next/\id∉W)
 (h:∀d s' E,P d s'->WX fs pairs (⟨i,none,E⟩::T) rest ((t,d)::env) s' K):WX fs pairs T ((i,⟨some t,.m (.call .raw (.cst (.fn f [])) args),none⟩)::rest) env s K:=by
 subst ha
 obtain ⟨d,s',⟨n,hn⟩,hp⟩:=hr
 have fr:=hfr d s' hp
 have hn':Z2 fs (N7 fs n) f (env.evL args) s=some (d,s'):=hn
 refine b15 (d:=d) (s':=s') (E:=W++List.range' s.next (s'.next-s.next)) ⟨n,?_⟩ ?_ fr.1 ?_ (h d s' _ hp)
 ·simp only [evM,a0U,Env.ev,List.append_nil,hn']
 ·intro id hid
  rw [List.mem_append,List.mem_range'_1] at hid
  by_cases c:id<s.next
  ·exact (fr.2 id c fun h=>hid (.inl h)).symm
  ·have c2:¬ id<s'.next:=fun h=>hid (.inr ⟨by omega,by omega⟩)
   have n1:s.get id=none:=by
    cases h:s.get id with
    | none=>rfl
    | some o=>exact absurd (k4 h) c
   have n2:s'.get id=none:=by
    cases h:s'.get id with
    | none=>rfl
    | some o=>exact absurd (k4 h) c2
   rw [n1,n2]
 ·intro e he hp' id hid hm
  obtain ⟨h1,h2⟩:=hT e he hp' id hid
  rw [List.mem_append,List.mem_range'_1] at hm
  rcases hm with hm | hm
  ·exact h2 hm
  ·omega
theorem b5D {pairs T i t f args rest s K W} {env:Env} {l:List D} {P:D->i8->Prop} (hr:EvP fs f l s P) (ha:env.evL args=l) (hfr:∀d s',P d s'->Fr W s s') (hT:∀e∈T,(e.i,i)∈pairs->∀id,e.rd=some id->id<s.next/\id∉W)
 (h:∀d s' E,P d s'->XX fs pairs (⟨i,none,E⟩::T) rest ((t,d)::env) s' K):WX fs pairs T ((i,⟨some t,.m (.call .raw (.cst (.fn f [])) args),none⟩)::rest) env s K :=
 b19 hr ha hfr hT fun d s' E hp=>a1Q (h d s' E hp)
theorem a2K {pairs T i t f args rest s K W} {env:Env} {l:List D} {P:D->i8->Prop} (hr:EvP fs f l s P) (ha:env.evL args=l) (hfr:∀d s',P d s'->Fr W s s') (hT:∀e∈T,(e.i,i)∈pairs->∀id,e.rd=some id->id<s.next/\id∉W) (hp:a5j pairs rest=true)
 (h:∀d s',P d s'->XQ fs [] rest ((t,d)::env) s' K):WX fs pairs T ((i,⟨some t,.m (.call .raw (.cst (.fn f [])) args),none⟩)::rest) env s K :=
 b19 hr ha hfr hT fun d s' E h1=>b6x hp (a1h (h d s' h1))
theorem Fr.up {ids:List Nat} {s s':i8} (h:Fr [] s s'):Fr ids s s':=⟨h.1,fun i hl _=>h.2 i hl (by simp)⟩
theorem Hp.call {s s':i8} {p:Nat} {c c':List D} {W R H:Hs} (h:Hp s ((p,c)::W) R) (hf:Fr [p] s s') (hg:s'.get p=some (.cells c')) (hH:∀e∈H,s.next<=e.1/\s'.get e.1=some (.cells e.2)):Hp s' ((p,c')::W) (H++R):=by
 have hnd:=h.nd
 rw [List.map_cons,List.nodup_cons] at hnd
 refine ⟨by rw [List.map_cons,List.nodup_cons];exact hnd,?_,?_,?_⟩
 ·intro w hw r hr e
  have hlt:w.1<s.next:=by
   rcases List.mem_cons.1 hw with rfl | hw
   ·exact h.ltW (w:=(p,c)) (by simp)
   ·exact h.ltW (by simp [hw])
  rcases List.mem_append.1 hr with hr | hr
  ·have:=(hH r hr).1;omega
  ·rcases List.mem_cons.1 hw with rfl | hw
   ·exact h.ap (p,c) (by simp) r hr e
   ·exact h.ap w (by simp [hw]) r hr e
 ·intro w hw
  rcases List.mem_cons.1 hw with rfl | hw
  ·exact hg
  ·have:=h.w w (by simp [hw])
   rw [hf.2 _ (k4 this) (by
    rw [List.mem_singleton]
    intro e
    exact hnd.1 (e▸List.mem_map.2 ⟨w,hw,rfl⟩))]
   exact this
 ·intro r hr
  rcases List.mem_append.1 hr with hr | hr
  ·exact (hH r hr).2
  ·have:=h.r r hr
   rw [hf.2 _ (k4 this) (by
    rw [List.mem_singleton]
    intro e
    exact h.ap (p,c) (by simp) r hr e.symm)]
   exact this
theorem Hp.call0 {s s':i8} {p:Nat} {c c':List D} {W R:Hs} (h:Hp s ((p,c)::W) R) (hf:Fr [p] s s') (hg:s'.get p=some (.cells c')):Hp s' ((p,c')::W) R:=h.call (H:=[]) hf hg (by simp)
theorem Hp.callA {s s':i8} {p:Nat} {c c':List D} {A B R:Hs} (h:Hp s (A++(p,c)::B) R) (hf:Fr [p] s s') (hg:s'.get p=some (.cells c')):Hp s' (A++(p,c')::B) R :=
 ((h.perm (List.perm_middle.symm)).call0 hf hg).perm List.perm_middle
theorem Hp.one {s:i8} {p:Nat} {c:List D} (h:s.get p=some (.cells c)):Hp s [(p,c)] []:=⟨by simp,by simp,by simpa [Has] using h,by simp [Has]⟩
theorem b3f {t rest env K s d sz bytes rows row A B E R} (h:Rp d sz rows E) (hp:Hp s (A++E++B) R) (hr:row.length=sz) (hrs:∀r∈rows,r.length=sz) (hb:bytes<=1000) (hl:rows.length<=1000000000)
 (k:∀id s',Rp (.arr id 0 (rows.length+1) sz) sz (rows++[row]) [(id,(rows++[row]).flatten)]->Hp s' (A++(id,(rows++[row]).flatten)::B) R->s.next<=id->Fr (E.map Prod.fst) s s'->XQ fs [] rest ((t,.arr id 0 (rows.length+1) sz)::env) s' K):BM (S9 sz bytes d (.arr s.next 0 1 sz) (s.push (.cells row))) fs t rest env K :=
 c1x h hp hr hrs hb hl fun s' h1 h2 h3 h4=>k _ s' h1 h2 (by omega) ⟨by omega,fun j hj hn=>h4 j hj fun e he hx=>hn (List.mem_map.2 ⟨e,he,hx⟩)⟩
inductive Im where
 | ch (w:List Nat) (k n:Nat)
 | vr (w:List Nat) (n:Nat)
 | pr (w:List Nat) (k:Nat)
 deriving Inhabited
def S1 (pos:Nat):List D:=[.int .i64 14,.nils,.nils,.nils,.int .i64 (pos:Int),.nils]
def Y7 (l:List Int):List (List D):=l.map fun n=>[.int .i64 n]
def a2C (r:List D) (H:Hs):Im->Prop
 | .ch w k n=>∃ (pos:Nat) (dw dn:D) (Ew En:Hs),r=[.int .i64 1,dw,dn,.nils,.int .i64 (pos:Int),.nils]/\Rp dw 1 [[.str (bs w)]] Ew/\Rp dn 1 (Y7 [(k:Int),(n:Int),0,0]) En/\H=Ew++En
 | .vr w n=>∃ (pos:Nat) (dw dn:D) (Ew En:Hs),r=[.int .i64 2,dw,dn,.nils,.int .i64 (pos:Int),.nils]/\Rp dw 1 [[.str (bs w)]] Ew/\Rp dn 1 (Y7 [(n:Int),0]) En/\H=Ew++En
 | .pr w k=>∃ (pos:Nat) (dw dn dl:D) (Ew En El:Hs) (qs:List Nat),r=[.int .i64 3,dw,dn,.nils,.int .i64 (pos:Int),dl]/\Rp dw 1 [[.str (bs w)]] Ew/\Rp dn 1 (Y7 [1]) En/\qs.length=k/\Rp dl 6 (qs.map S1) El/\H=Ew++(En++El)
theorem a5S {r:List D} {H:Hs} {it:Im} (h:a2C r H it):r.length=6:=by
 cases it with
 | ch w k n=>obtain ⟨_,_,_,_,_,rfl,_⟩:=h;rfl
 | vr w n=>obtain ⟨_,_,_,_,_,rfl,_⟩:=h;rfl
 | pr w k=>obtain ⟨_,_,_,_,_,_,_,_,rfl,_⟩:=h;rfl
theorem a44 {r:List D} {H:Hs} {it:Im} (h:a2C r H it):r.all q8=true:=by
 cases it with
 | ch w k n=>obtain ⟨_,_,_,_,_,rfl,h1,h2,_⟩:=h;simp only [List.all_cons,List.all_nil,h1.one,h2.one,Bool.and_true,Bool.true_and];rfl
 | vr w n=>obtain ⟨_,_,_,_,_,rfl,h1,h2,_⟩:=h;simp only [List.all_cons,List.all_nil,h1.one,h2.one,Bool.and_true,Bool.true_and];rfl
 | pr w k=>obtain ⟨_,_,_,_,_,_,_,_,rfl,h1,h2,_,h3,_⟩:=h;simp only [List.all_cons,List.all_nil,h1.one,h2.one,h3.one,Bool.and_true,Bool.true_and];rfl
structure a1U (rs:List (List D)) (is:List Im) (R:Hs):Prop where
 n:rs.length=is.length
 r:∀i (h:i<rs.length) (h':i<is.length),∃H,a2C rs[i] H is[i]/\∀e∈H,e∈R
theorem a1U.snoc {rs:List (List D)} {is:List Im} {R H:Hs} {r:List D} {it:Im} (h:a1U rs is R) (hr:a2C r H it):a1U (rs++[r]) (is++[it]) (H++R):=by
 refine ⟨by simp [h.n],fun i h1 h2=>?_⟩
 have hn:=h.n
 by_cases c:i<rs.length
 ·obtain ⟨H1,a,b⟩:=h.r i c (by omega)
  refine ⟨H1,?_,fun e he=>by simp [b e he]⟩
  rw [List.getElem_append_left c,List.getElem_append_left (by omega)]
  exact a
 ·refine ⟨H,?_,fun e he=>by simp [he]⟩
  have e1:i=rs.length:=by simp at h1;omega
  subst e1
  rw [List.getElem_append_right (Nat.le_refl _),List.getElem_append_right (by omega)]
  simpa [hn] using hr
theorem a1U.len {rs:List (List D)} {is:List Im} {R:Hs} (h:a1U rs is R):∀r∈rs,r.length=6:=by
 intro r hr
 obtain ⟨i,hi,rfl⟩:=List.getElem_of_mem hr
 obtain ⟨H,a,_⟩:=h.r i hi (by rw [<- h.n];exact hi)
 exact a5S a
def a1H (pos:Nat):List D:=[.int .i64 14,.nils,.nils,.nils,.int .i64 (pos:Int)]
def Im.size:Im->Nat
 | .ch _ _ _=>1
 | .vr _ _=>1
 | .pr _ k=>k+1
def sizes (l:List Im):Nat:=(l.map Im.size).sum
def a1V (O:Hs) (base:Nat) (rs:List (List D)):Im->Prop
 | .ch w k n=>∃ (pos:Nat) (dw dn:D) (Ew En:Hs),rs=[[.int .i64 1,dw,dn,.nils,.int .i64 (pos:Int)]]/\Rp dw 1 [[.str (bs w)]] Ew/\Rp dn 1 (Y7 [(k:Int),(n:Int),0,0]) En/\∀e∈Ew++En,e∈O
 | .vr w n=>∃ (pos:Nat) (dw dn:D) (Ew En:Hs),rs=[[.int .i64 2,dw,dn,.nils,.int .i64 (pos:Int)]]/\Rp dw 1 [[.str (bs w)]] Ew/\Rp dn 1 (Y7 [(n:Int),0]) En/\∀e∈Ew++En,e∈O
 | .pr w k=>∃ (pos:Nat) (dw dn dk:D) (Ew En Ek:Hs) (qs:List Nat),rs=[.int .i64 3,dw,dn,dk,.int .i64 (pos:Int)]::qs.map a1H/\qs.length=k/\Rp dw 1 [[.str (bs w)]] Ew/\Rp dn 1 (Y7 [1]) En/\Rp dk 1 (Y7 ((List.range' (base+1) k).map fun (n:Nat)=>(n:Int))) Ek/\∀e∈Ew++(En++Ek),e∈O
theorem a1V.mono {O O':Hs} {base:Nat} {rs:List (List D)} {it:Im} (h:a1V O base rs it) (ho:∀e∈O,e∈O'):a1V O' base rs it:=by
 cases it with
 | ch w k n=>obtain ⟨a,b,c,d,e,h1,h2,h3,h4⟩:=h;exact ⟨a,b,c,d,e,h1,h2,h3,fun x hx=>ho x (h4 x hx)⟩
 | vr w n=>obtain ⟨a,b,c,d,e,h1,h2,h3,h4⟩:=h;exact ⟨a,b,c,d,e,h1,h2,h3,fun x hx=>ho x (h4 x hx)⟩
 | pr w k=>obtain ⟨a,b,c,d,e,f,g,i,h1,h2,h3,h4,h5,h6⟩:=h;exact ⟨a,b,c,d,e,f,g,i,h1,h2,h3,h4,h5,fun x hx=>ho x (h6 x hx)⟩
theorem a1V.len {O:Hs} {base:Nat} {rs:List (List D)} {it:Im} (h:a1V O base rs it):rs.length=it.size/\∀r∈rs,r.length=5:=by
 cases it with
 | ch w k n=>obtain ⟨a,b,c,d,e,rfl,_⟩:=h;exact ⟨rfl,by simp⟩
 | vr w n=>obtain ⟨a,b,c,d,e,rfl,_⟩:=h;exact ⟨rfl,by simp⟩
 | pr w k =>
   obtain ⟨a,b,c,d,e,f,g,i,rfl,rfl,_⟩:=h
   refine ⟨by simp [Im.size],fun r hr=>?_⟩
   rcases List.mem_cons.1 hr with rfl | hr
   ·rfl
   ·obtain ⟨_,_,rfl⟩:=List.mem_map.1 hr
    rfl
def a0V (O:Hs):Nat->List (List D)->List Im->Prop
 | _,rss,[]=>rss=[]
 | base,rss,it::r=>∃rs rest,rss=rs++rest/\a1V O base rs it/\a0V O (base+it.size) rest r
theorem a0V.mono {O O':Hs} (ho:∀e∈O,e∈O'):∀ {base:Nat} {rss:List (List D)} {its:List Im},a0V O base rss its->a0V O' base rss its
 | _,_,[],h=>h
 | _,_,_::_,⟨rs,rest,h1,h2,h3⟩=>⟨rs,rest,h1,h2.mono ho,h3.mono ho⟩
theorem a0V.len {O:Hs}:∀ {base:Nat} {rss:List (List D)} {its:List Im},a0V O base rss its->rss.length=sizes its/\∀r∈rss,r.length=5
 | _,_,[],h=>by
   have h:_=[]:=h
   subst h;exact ⟨rfl,by simp⟩
 | _,_,it::r,⟨rs,rest,h1,h2,h3⟩=>by
   obtain ⟨a,b⟩:=h2.len
   obtain ⟨c,d⟩:=h3.len
   subst h1
   refine ⟨by simp [sizes,a] at c ⊢;omega,fun r hr=>?_⟩
   rcases List.mem_append.1 hr with hr | hr
   ·exact b r hr
   ·exact d r hr
theorem a0V.snoc {O:Hs} {it:Im} {rs:List (List D)}:∀ {base:Nat} {rss:List (List D)} {its:List Im},a0V O base rss its->a1V O (base+sizes its) rs it->a0V O base (rss++rs) (its++[it])
 | base,rss,[],h,hr=>by
   have h:rss=[]:=h
   subst h
   exact ⟨rs,[],by simp,hr,rfl⟩
 | base,rss,a::its,⟨r1,rest,h1,h2,h3⟩,hr=>by
   subst h1
   refine ⟨r1,rest++rs,by simp,h2,h3.snoc ?_⟩
   have e:base+sizes (a::its)=base+a.size+sizes its:=by simp [sizes];omega
   rwa [e] at hr
def stL:Nat->List Im->List Nat
 | _,[]=>[]
 | base,it::r=>base::stL (base+it.size) r
theorem b0G {it:Im}:∀ {base:Nat} {its:List Im},stL base (its++[it])=stL base its++[base+sizes its]
 | base,[]=>by simp [stL,sizes]
 | base,a::its=>by
   have e:base+sizes (a::its)=base+a.size+sizes its:=by simp [sizes];omega
   rw [List.cons_append,stL,b0G,stL,e,List.cons_append]
theorem a8s:∀ {base:Nat} {its:List Im},(stL base its).length=its.length
 | _,[]=>rfl
 | _,_::its=>by simp [stL,a8s (its:=its)]
theorem b56 {a b:List Im}:sizes (a++b)=sizes a+sizes b:=by simp [sizes]
theorem c2v {its:List Im} (i:Nat):sizes (its.take i)<=sizes its:=by
 have:=b56 (a:=its.take i) (b:=its.drop i)
 rw [List.take_append_drop] at this
 omega
end Go.V
namespace Go.Proofs.Ytlaeblilmppodaa
open Go.V
set_option maxRecDepth 100000
set_option maxHeartbeats 8000000
def O3 (T:List Tk) (i:Nat):Tk:=T.getD i default
theorem c0j {d:D} {T:List Tk} (h:FL 3 d (a0Y T)) {i:Nat} (hi:i<T.length) {k:IntKind}:M1 3 d (.int k (i:Int))=some (.fp [.int .i64 (O3 T i).kind,.str (bs (O3 T i).txt),.int .i64 ((O3 T i).pos:Int)] 0):=by
 rw [h.idx (by simpa using hi)]
 simp [a0Y,Tk.row,O3,List.getD,hi]
variable {s:i8} {p at' dp:Nat} {dL:D} {T:List Tk}
structure S0 (s:i8) (p:Nat) (dL:D) (T:List Tk) (at' dp:Nat):Prop where
 l:FL 3 dL (a0Y T)
 g:s.get p=some (.cells [dL,.int .i64 (at':Int),.int .i64 (dp:Int),.int .i64 0,.int .i64 0])
 i:at'<T.length
 n:T.length<=4001
theorem S0.stay {s':i8} (h:S0 s p dL T at' dp) (hf:Fr [] s s'):S0 s' p dL T at' dp:=⟨h.l,by rw [hf.2 p (k4 h.g) (by simp)];exact h.g,h.i,h.n⟩
theorem a47 (h:S0 s p dL T at' dp):EvP vfs 77 [.ptr p 0] s fun r s'=>r=.agg [.int .i64 (O3 T at').kind,.str (bs (O3 T at').txt),.int .i64 ((O3 T at').pos:Int)]/\Fr [] s s':=by
 have hg:=h.g
 have hp:=k4 hg
 have hx:=c0j h.l h.i (k:=.i64)
 have o:=FL.one h.l
 refine V8 (vf:=a8O) rfl ?_
 unfold a8O;refine zF ?_
 refine zY (aN hg (aN hx o)) ?_
 exact ⟨rfl,a2v⟩
theorem a2P (h:S0 s p dL T at' dp):EvP vfs 76 [.ptr p 0] s fun r s'=>r=.bool true/\s'=s:=by
 have hg:=h.g
 refine V8 (vf:=a74) rfl ?_
 unfold a74;refine zF ?_
 refine zY hg ?_
 exact ⟨rfl,rfl⟩
def a1G (t:Tk) (w:List Nat) (key:Bool):Bool:=decide (bs t.txt=bs w)&&(decide (t.kind=2)||decide (t.kind=0)&&key)
theorem a1W (h:S0 s p dL T at' dp) {w:List Nat} {key:Bool} (hk:Eqc vfs 113 [.str (bs w)] (.bool key)):EvP vfs 94 [.ptr p 0,.str (bs w)] s fun r s'=>r=.bool (a1G (O3 T at') w key)/\Fr [] s s':=by
 have hg:=h.g
 have hp:=k4 hg
 refine V8 (vf:=a8w) rfl ?_
 unfold a8w;refine zF ?_
 refine zY0 ?_
 refine N4 (a47 h) (by simp (disch:=(first|exact Rf.mk rfl|with_reducible assumption|omega|((repeat (first|rw [nP]|rw [nS]|rw [M4]))<;>omega)|decide)) only [go_sem,↓reduceIte]) ?_
 rintro r s1 ⟨rfl,fr⟩
 have h1:S0 ((s1.push (.cells [.int .i64 0,.str (bs []),.int .i64 0])).set s1.next (some (.cells [.int .i64 (O3 T at').kind,.str (bs (O3 T at').txt),.int .i64 ((O3 T at').pos:Int)]))) p dL T at' dp:=h.stay (fr.trans a2v (by simp))
 have fr1:Fr [] s ((s1.push (.cells [.int .i64 0,.str (bs []),.int .i64 0])).set s1.next (some (.cells [.int .i64 (O3 T at').kind,.str (bs (O3 T at').txt),.int .i64 ((O3 T at').pos:Int)]))):=fr.trans a2v (by simp)
 generalize O3 T at'=t at *
 unfold a1G
 by_cases c1:bs t.txt=bs w
 rotate_left
 ·rw [decide_eq_false c1,Bool.false_and]
  refine zY0 ?_
  refine N4 (a2P h1) (by simp (disch:=(first|exact Rf.mk rfl|with_reducible assumption|omega|((repeat (first|rw [nP]|rw [nS]|rw [M4]))<;>omega)|decide)) only [go_sem,↓reduceIte]) ?_
  rintro r s2 ⟨rfl,rfl⟩
  refine zY c1 ?_
  exact ⟨rfl,fr1⟩
 rw [decide_eq_true c1,Bool.true_and]
 by_cases c2:t.kind=2
 ·rw [decide_eq_true c2,Bool.true_or]
  refine zY0 ?_
  refine N4 (a2P h1) (by simp (disch:=(first|exact Rf.mk rfl|with_reducible assumption|omega|((repeat (first|rw [nP]|rw [nS]|rw [M4]))<;>omega)|decide)) only [go_sem,↓reduceIte]) ?_
  rintro r s2 ⟨rfl,rfl⟩
  refine zY (aN c1 c2) ?_
  rw [c1,c2] at fr1
  exact ⟨rfl,fr1⟩
 rw [decide_eq_false c2,Bool.false_or]
 by_cases c3:t.kind=0
 rotate_left
 ·rw [decide_eq_false c3,Bool.false_and]
  refine zY0 ?_
  refine N4 (a2P h1) (by simp (disch:=(first|exact Rf.mk rfl|with_reducible assumption|omega|((repeat (first|rw [nP]|rw [nS]|rw [M4]))<;>omega)|decide)) only [go_sem,↓reduceIte]) ?_
  rintro r s2 ⟨rfl,rfl⟩
  refine zY (aN c1 (aN c2 c3)) ?_
  rw [c1] at fr1
  exact ⟨rfl,fr1⟩
 rw [decide_eq_true c3,Bool.true_and]
 refine zY0 ?_
 refine N4 (a2P h1) (by simp (disch:=(first|exact Rf.mk rfl|with_reducible assumption|omega|((repeat (first|rw [nP]|rw [nS]|rw [M4]))<;>omega)|decide)) only [go_sem,↓reduceIte]) ?_
 rintro r s2 ⟨rfl,rfl⟩
 cases key<;>simp (disch:=(first|exact Rf.mk rfl|with_reducible assumption|omega|((repeat (first|rw [nP]|rw [nS]|rw [M4]))<;>omega)|decide)) only [go_sem,↓reduceIte,c1,c3,hk]
 all_goals (rw [c1,c3] at fr1;exact ⟨rfl,fr1⟩)
theorem a5A (h:S0 s p dL T at' dp) (h':at'+1<T.length) {w:List Nat} {key:Bool} (hk:Eqc vfs 113 [.str (bs w)] (.bool key)) (hs:a1G (O3 T at') w key=true):EvP vfs 97 [.ptr p 0,.str (bs w)] s fun r s'=>r=.bool true/\Fr [p] s s'/\S0 s' p dL T (at'+1) dp:=by
 have hn:=h.n
 have hw:IntKind.i64.wrap ((at':Int)+1)=((at'+1:Nat):Int):=by rw [P1 (by omega) (by omega)];omega
 refine V8 (vf:=a4L) rfl ?_
 unfold a4L;refine zF ?_
 refine zY0 ?_
 refine N4 (a1W h hk) (by simp (disch:=(first|exact Rf.mk rfl|with_reducible assumption|omega|((repeat (first|rw [nP]|rw [nS]|rw [M4]))<;>omega)|decide)) only [go_sem,↓reduceIte]) ?_
 rintro r s1 ⟨rfl,fr⟩
 rw [hs]
 have g1:=(h.stay fr).g
 have l1:=k4 g1
 have o:=FL.one h.l
 refine zY (aN g1 (aN hw o)) ?_
 exact ⟨rfl,fr.up.thenSet _ (.inl (by simp)),h.l,P8 l1,h',hn⟩
theorem a2M (h:S0 s p dL T at' dp) {w:List Nat} {key:Bool} (hk:Eqc vfs 113 [.str (bs w)] (.bool key)) (hs:a1G (O3 T at') w key=false):EvP vfs 97 [.ptr p 0,.str (bs w)] s fun r s'=>r=.bool false/\Fr [] s s':=by
 refine V8 (vf:=a4L) rfl ?_
 unfold a4L;refine zF ?_
 refine zY0 ?_
 refine N4 (a1W h hk) (by simp (disch:=(first|exact Rf.mk rfl|with_reducible assumption|omega|((repeat (first|rw [nP]|rw [nS]|rw [M4]))<;>omega)|decide)) only [go_sem,↓reduceIte]) ?_
 rintro r s1 ⟨rfl,fr⟩
 rw [hs]
 refine zY0 ?_
 exact ⟨rfl,fr⟩
theorem a14 (h:S0 s p dL T at' dp) (h':at'+1<T.length) {w:List Nat} {key:Bool} (hk:Eqc vfs 113 [.str (bs w)] (.bool key)) (hs:a1G (O3 T at') w key=true):EvP vfs 99 [.ptr p 0,.str (bs w)] s fun r s'=>Fr [p] s s'/\S0 s' p dL T (at'+1) dp:=by
 refine V8 (vf:=a9h) rfl ?_
 unfold a9h;refine zF ?_
 refine zY0 ?_
 refine N4 (a5A h h' hk hs) (by simp (disch:=(first|exact Rf.mk rfl|with_reducible assumption|omega|((repeat (first|rw [nP]|rw [nS]|rw [M4]))<;>omega)|decide)) only [go_sem,↓reduceIte]) ?_
 rintro r s1 ⟨rfl,fr,h1⟩
 refine zY0 ?_
 exact ⟨fr,h1⟩
theorem a7X (h:S0 s p dL T at' dp) {w:List Nat} {key:Bool} (hk:Eqc vfs 113 [.str (bs w)] (.bool key)) (hs:a1G (O3 T at') w key=false):EvP vfs 101 [.ptr p 0,.str (bs w)] s fun r s'=>r=.int .i64 0/\Fr [] s s':=by
 refine V8 (vf:=a8z) rfl ?_
 unfold a8z;refine zF ?_
 refine zY0 ?_
 refine N4 (a2M h hk hs) (by simp (disch:=(first|exact Rf.mk rfl|with_reducible assumption|omega|((repeat (first|rw [nP]|rw [nS]|rw [M4]))<;>omega)|decide)) only [go_sem,↓reduceIte]) ?_
 rintro r s1 ⟨rfl,fr⟩
 refine zY0 ?_
 exact ⟨rfl,fr⟩
theorem a26 (h:S0 s p dL T at' dp) {k:Int}:EvP vfs 75 [.ptr p 0,.int .i64 k] s fun r s'=>r=.agg [.int .i64 k,.nils,.nils,.nils,.int .i64 ((O3 T at').pos:Int),.nils]/\Fr [] s s':=by
 have h1:S0 (s.push (.cells [.int .i64 0,.nils,.nils,.nils,.int .i64 0,.nils])) p dL T at' dp:=h.stay (Fr.push _)
 refine V8 (vf:=a60) rfl ?_
 unfold a60;refine zF ?_
 refine zY0 ?_
 refine N4 (a47 h1) (by simp (disch:=(first|exact Rf.mk rfl|with_reducible assumption|omega|((repeat (first|rw [nP]|rw [nS]|rw [M4]))<;>omega)|decide)) only [go_sem,↓reduceIte]) ?_
 rintro r s1 ⟨rfl,fr⟩
 have g:=fr.2 s.next (by simp) (by simp)
 rw [i8.get_push,if_pos rfl] at g
 have lg:=k4 g
 refine zY g ?_
 exact ⟨rfl,((Fr.push (ids:=[]) _).trans fr (by simp)).thenSet _ (.inr (Nat.le_refl _))⟩
theorem a8H (h:S0 s p dL T at' dp) (h':at'+1<T.length) (hk:(O3 T at').kind=0) (hn:Eqc vfs 112 [.str (bs (O3 T at').txt)] (.bool true)):EvP vfs 98 [.ptr p 0] s fun r s'=>r=.str (bs (O3 T at').txt)/\Fr [p] s s'/\S0 s' p dL T (at'+1) dp:=by
 have hn':=h.n
 have hw:IntKind.i64.wrap ((at':Int)+1)=((at'+1:Nat):Int):=by rw [P1 (by omega) (by omega)];omega
 have hp:=k4 h.g
 refine V8 (vf:=a80) rfl ?_
 unfold a80;refine zF ?_
 refine zY0 ?_
 refine N4 (a47 h) (by simp (disch:=(first|exact Rf.mk rfl|with_reducible assumption|omega|((repeat (first|rw [nP]|rw [nS]|rw [M4]))<;>omega)|decide)) only [go_sem,↓reduceIte]) ?_
 rintro r s1 ⟨rfl,fr⟩
 rw [hk]
 generalize O3 T at'=t at *
 have fr1:Fr [] s ((s1.push (.cells [.int .i64 0,.str (bs []),.int .i64 0])).set s1.next (some (.cells [.int .i64 0,.str (bs t.txt),.int .i64 (t.pos:Int)]))):=fr.trans a2v (by simp)
 have h1:=h.stay fr1
 have g1:=h1.g
 have l1:=k4 g1
 have l2:=fr.1
 have o:=FL.one h.l
 refine zY hn ?_
 refine N4 (a2P h1) (by simp (disch:=(first|exact Rf.mk rfl|with_reducible assumption|omega|((repeat (first|rw [nP]|rw [nS]|rw [M4]))<;>omega)|decide)) only [go_sem,↓reduceIte]) ?_
 rintro r s2 ⟨rfl,rfl⟩
 refine zY (aN g1 (aN hw o)) ?_
 exact ⟨rfl,fr1.up.thenSet _ (.inl (by simp)),h.l,P8 (by simp;omega),h',hn'⟩
theorem a7V (h:S0 s p dL T at' dp) (h':at'+1<T.length) {c:Nat} (hk:(O3 T at').kind=1) (hn:(O3 T at').txt=[c]) (hc:48<=c/\c<=57):EvP vfs 100 [.ptr p 0] s fun r s'=>r=.int .i64 ((c:Int)-48)/\Fr [p] s s'/\S0 s' p dL T (at'+1) dp:=by
 have hn':=h.n
 have hw:IntKind.i64.wrap ((at':Int)+1)=((at'+1:Nat):Int):=by rw [P1 (by omega) (by omega)];omega
 have hp:=k4 h.g
 refine V8 (vf:=a9f) rfl ?_
 unfold a9f;refine zF ?_
 refine zY0 ?_
 refine N4 (a47 h) (by simp (disch:=(first|exact Rf.mk rfl|with_reducible assumption|omega|((repeat (first|rw [nP]|rw [nS]|rw [M4]))<;>omega)|decide)) only [go_sem,↓reduceIte]) ?_
 rintro r s1 ⟨rfl,fr⟩
 rw [hk,hn]
 generalize O3 T at'=t at *
 have fr1:Fr [] s ((s1.push (.cells [.int .i64 0,.str (bs []),.int .i64 0])).set s1.next (some (.cells [.int .i64 1,.str (bs [c]),.int .i64 (t.pos:Int)]))):=fr.trans a2v (by simp)
 have h1:=h.stay fr1
 have g1:=h1.g
 have l1:=k4 g1
 have l2:=fr.1
 have o:=FL.one h.l
 refine zY0 ?_
 refine N4 (a2P h1) (by simp (disch:=(first|exact Rf.mk rfl|with_reducible assumption|omega|((repeat (first|rw [nP]|rw [nS]|rw [M4]))<;>omega)|decide)) only [go_sem,↓reduceIte]) ?_
 rintro r s2 ⟨rfl,rfl⟩
 refine zY (aN g1 (aN hw o)) ?_
 have hps:S0 (((s1.push (.cells [.int .i64 0,.str (bs []),.int .i64 0])).set s1.next (some (.cells [.int .i64 1,.str (bs [c]),.int .i64 (t.pos:Int)]))).set p (some (.cells [dL,.int .i64 ((at'+1:Nat):Int),.int .i64 (dp:Int),.int .i64 0,.int .i64 0]))) p dL T (at'+1) dp:=⟨h.l,P8 (by simp;omega),h',hn'⟩
 have fr2:Fr [p] s (((s1.push (.cells [.int .i64 0,.str (bs []),.int .i64 0])).set s1.next (some (.cells [.int .i64 1,.str (bs [c]),.int .i64 (t.pos:Int)]))).set p (some (.cells [dL,.int .i64 ((at'+1:Nat):Int),.int .i64 (dp:Int),.int .i64 0,.int .i64 0]))):=fr1.up.thenSet _ (.inl (by simp))
 have gt:(((s1.push (.cells [.int .i64 0,.str (bs []),.int .i64 0])).set s1.next (some (.cells [.int .i64 1,.str (bs [c]),.int .i64 (t.pos:Int)]))).set p (some (.cells [dL,.int .i64 ((at'+1:Nat):Int),.int .i64 (dp:Int),.int .i64 0,.int .i64 0]))).get s1.next=some (.cells [.int .i64 1,.str (bs [c]),.int .i64 (t.pos:Int)]):=by rw [O6 (by omega)];exact P8 (by simp)
 generalize ((s1.push (.cells [.int .i64 0,.str (bs []),.int .i64 0])).set s1.next (some (.cells [.int .i64 1,.str (bs [c]),.int .i64 (t.pos:Int)]))).set p (some (.cells [dL,.int .i64 ((at'+1:Nat):Int),.int .i64 (dp:Int),.int .i64 0,.int .i64 0]))=s3 at *
 have hz:=a2F [c]
 have hx:=a3u (l:=[c]) (i:=0) (by simp) (by simp;omega) (k:=.i64)
 have hx:a3B (.str (bs [c])) (.int .i64 0)=some (.int .u8 (c:Int)):=hx
 have e1:IntKind.u8.wrap ((c:Int)-48)=(c:Int)-48:=by rw [IntKind.wrap_u8];omega
 have e2:IntKind.i64.wrap ((c:Int)-48)=(c:Int)-48:=P1 (by omega) (by omega)
 refine Y6 [0,2,3,15] 0 1 (fun i f s=>f 5=.int .i64 (i:Int)/\f 4=.int .i64 (if i=0 then 0 else (c:Int)-48)/\s=s3) (.mk rfl) (by omega) ⟨rfl,rfl,rfl⟩ ?_
 rintro i f s hi ⟨hE,h4,rfl⟩
 rcases (show i=0∨i=1 by omega) with rfl | rfl
 ·rw [if_pos rfl] at h4
  refine zY (aN hE (aN h4 (aN gt (aN hz (aN hx (aN e1 e2)))))) ?_
  omega
 ·rw [if_neg (by omega)] at h4
  refine zY (aN hE (aN h4 (aN gt hz))) ?_
  exact ⟨rfl,fr2,hps⟩
end Go.Proofs.Ytlaeblilmppodaa
namespace Go.Proofs.Ytlaeblilmppodaa
open Go.V
set_option maxRecDepth 100000
set_option maxHeartbeats 8000000
variable {s:i8} {p at' dp:Nat} {dL:D} {T:List Tk}
theorem S0.set (h:S0 s p dL T at' dp) {b:Nat} (hb:b≠p) {o:M6}:S0 (s.set b (some o)) p dL T at' dp:=⟨h.l,by rw [O6 (Ne.symm hb)];exact h.g,h.i,h.n⟩
structure N3 (T:List Tk) (i:Nat) (k:Int) (t:List Nat):Prop where
 lt:i<T.length
 kd:(O3 T i).kind=k
 tx:(O3 T i).txt=t
theorem N3.yes {i:Nat} {w:List Nat} (h:N3 T i 0 w):a1G (O3 T i) w true=true:=by unfold a1G;rw [h.kd,h.tx];simp
theorem N3.sign {i:Nat} {w:List Nat} {b:Bool} (h:N3 T i 2 w):a1G (O3 T i) w b=true:=by unfold a1G;rw [h.kd,h.tx];simp
theorem N3.no {i:Nat} {w w':List Nat} {k:Int} {b:Bool} (h:N3 T i k w) (hw:w≠w') (h1:∀c∈w,c<256) (h2:∀c∈w',c<256):a1G (O3 T i) w' b=false:=by
 unfold a1G
 rw [h.tx,decide_eq_false fun e=>hw (a8Y h1 h2 e),Bool.false_and]
theorem S5 {f:Nat} {l:List D} {r:D} (h:∃s',Ev vfs f l i8.empty r s') (hs:W5 r=true):Eqc vfs f l r:=by
 obtain ⟨s1,h⟩:=h
 exact a0s ⟨r,s1,h,a5v hs 19⟩
theorem a42:Eqc vfs 113 [.str (bs [118,97,114])] (.bool true):=S5 (S2 (n:=100) (by kernel_rfl)) rfl
theorem b0N:Eqc vfs 113 [.str (bs [111,102])] (.bool true):=S5 (S2 (n:=100) (by kernel_rfl)) rfl
theorem a7M:Eqc vfs 113 [.str (bs [59])] (.bool false):=S5 (S2 (n:=100) (by kernel_rfl)) rfl
theorem b92:Eqc vfs 113 [.str (bs [61])] (.bool false):=S5 (S2 (n:=100) (by kernel_rfl)) rfl
theorem b4o (h:S0 s p dL T at' dp) {w:List Nat} {n:Nat} (t0:N3 T at' 0 [118,97,114]) (t1:N3 T (at'+1) 0 w) (t2:N3 T (at'+2) 0 [111,102]) (t3:N3 T (at'+3) 1 [48+n]) (t4:N3 T (at'+4) 2 [59]) (h5:at'+5<T.length) (hn:n<=9) (hw:Eqc vfs 112 [.str (bs w)] (.bool true)) :
 EvP vfs 95 [.ptr p 0] s fun r s'=>∃row H,r=.agg row/\a2C row H (.vr w n)/\Fr [p] s s'/\S0 s' p dL T (at'+5) dp/\∀e∈H,s.next<=e.1/\s'.get e.1=some (.cells e.2):=by
 have hn':=h.n
 have hp0:=Hp.one h.g
 have l0:=k4 h.g
 refine V8 (vf:=a81) rfl ?_
 unfold a81;refine zF ?_
 refine zY0 ?_
 have hp1:=hp0.pushW [.int .i64 0,.nils,.nils,.nils,.int .i64 0,.nils]
 have h1:=h.stay (Fr.push (.cells [.int .i64 0,.nils,.nils,.nils,.int .i64 0,.nils]))
 refine N4 (a26 h1 (k:=2)) (by simp (disch:=(first|exact Rf.mk rfl|with_reducible assumption|omega|((repeat (first|rw [nP]|rw [nS]|rw [M4]))<;>omega)|decide)) only [go_sem,↓reduceIte]) ?_
 rintro r s1 ⟨rfl,fr1⟩
 have hp:=(hp1.fr fr1).pushW [.int .i64 0,.nils,.nils,.nils,.int .i64 0,.nils]
 have hp:=Hp.set (A:=[]) hp [.int .i64 2,.nils,.nils,.nils,.int .i64 ((O3 T at').pos:Int),.nils]
 have h1:=(h1.stay fr1).stay (a2v (z:=.cells [.int .i64 0,.nils,.nils,.nils,.int .i64 0,.nils]) (o:=.cells [.int .i64 2,.nils,.nils,.nils,.int .i64 ((O3 T at').pos:Int),.nils]))
 have fr:=((Fr.push (s:=s) (ids:=[p]) (.cells [.int .i64 0,.nils,.nils,.nils,.int .i64 0,.nils])).trans fr1 (by simp)).trans (a2v (z:=.cells [.int .i64 0,.nils,.nils,.nils,.int .i64 0,.nils]) (o:=.cells [.int .i64 2,.nils,.nils,.nils,.int .i64 ((O3 T at').pos:Int),.nils])) (by simp)
 have q1:=fr1.1
 simp only [i8.next_push] at q1
 generalize (O3 T at').pos=po at *
 refine zY0 ?_
 generalize s1.next=b at *
 generalize (s1.push (.cells [.int .i64 0,.nils,.nils,.nils,.int .i64 0,.nils])).set b (some (.cells [.int .i64 2,.nils,.nils,.nils,.int .i64 (po:Int),.nils]))=s2 at *
 refine N4 (a14 h1 t1.lt a42 t0.yes) (by simp (disch:=(first|exact Rf.mk rfl|with_reducible assumption|omega|((repeat (first|rw [nP]|rw [nS]|rw [M4]))<;>omega)|decide)) only [go_sem,↓reduceIte]) ?_
 rintro r s3 ⟨fr3,h3⟩
 have hp:=Hp.callA (A:=[_,_]) hp fr3 h3.g
 have fr:=fr.trans fr3 (by simp)
 have gb:=hp.hd
 have lb:=k4 gb
 have l3:=k4 h3.g
 have hbp:b≠p:=by omega
 refine zY gb ?_
 refine a2K (W:=[p]) (a8H h3 t2.lt t1.kd (by rw [t1.tx];exact hw)) (by simp (disch:=(first|exact Rf.mk rfl|with_reducible assumption|omega|((repeat (first|rw [nP]|rw [nS]|rw [M4]))<;>omega)|decide)) only [go_sem,↓reduceIte]) (fun d s' h=>h.2.1) ?_ (by decide) ?_
 ·intro e he _ id hid
  rw [List.mem_singleton] at he
  subst he
  cases hid
  exact ⟨lb,by simpa using hbp⟩
 rintro r s4 ⟨rfl,fr4,h4⟩
 rw [t1.tx]
 have hp:=Hp.callA (A:=[_,_]) hp fr4 h4.g
 have fr:=fr.trans fr4 (by simp)
 have q4:=fr.1
 refine zY0 ?_
 refine b3f (A:=[_,_,_]) (E:=[]) (B:=[]) (.inl ⟨rfl,rfl,rfl⟩) hp rfl (by simp) (by decide) (by simp) ?_
 intro iw s5 hrw hp hiw fr5
 have h4:=h4.stay fr5
 have fr:=fr.trans fr5 (by simp)
 have gb:=hp.hd
 have lb:=k4 gb
 refine zY gb ?_
 have hp:=Hp.set (A:=[]) hp [.int .i64 2,.arr iw 0 1 1,.nils,.nils,.int .i64 (po:Int),.nils]
 have h4:=h4.set hbp (o:=.cells [.int .i64 2,.arr iw 0 1 1,.nils,.nils,.int .i64 (po:Int),.nils])
 have fr:=fr.thenSet (id:=b) (some (.cells [.int .i64 2,.arr iw 0 1 1,.nils,.nils,.int .i64 (po:Int),.nils])) (.inr (by omega))
 generalize s5.set b (some (.cells [.int .i64 2,.arr iw 0 1 1,.nils,.nils,.int .i64 (po:Int),.nils]))=s6 at *
 refine N4 (a14 h4 t3.lt b0N t2.yes) (by simp (disch:=(first|exact Rf.mk rfl|with_reducible assumption|omega|((repeat (first|rw [nP]|rw [nS]|rw [M4]))<;>omega)|decide)) only [go_sem,↓reduceIte]) ?_
 rintro r s7 ⟨fr7,h7⟩
 have hp:=Hp.callA (A:=[_,_]) hp fr7 h7.g
 have fr:=fr.trans fr7 (by simp)
 refine zY0 ?_
 refine N4 (a7V h7 t4.lt t3.kd t3.tx (by omega)) (by simp (disch:=(first|exact Rf.mk rfl|with_reducible assumption|omega|((repeat (first|rw [nP]|rw [nS]|rw [M4]))<;>omega)|decide)) only [go_sem,↓reduceIte]) ?_
 rintro r s8 ⟨rfl,fr8,h8⟩
 have hp:=Hp.callA (A:=[_,_]) hp fr8 h8.g
 have fr:=fr.trans fr8 (by simp)
 have en:(((48+n:Nat):Int)-48)=(n:Int):=by omega
 rw [en]
 refine zY0 ?_
 refine N4 (a2M h8 b92 (t4.no (by simp) (by simp) (by simp))) (by simp (disch:=(first|exact Rf.mk rfl|with_reducible assumption|omega|((repeat (first|rw [nP]|rw [nS]|rw [M4]))<;>omega)|decide)) only [go_sem,↓reduceIte]) ?_
 rintro r s9 ⟨rfl,fr9⟩
 have hp:=hp.fr fr9
 have h9:=h8.stay fr9
 have fr:=fr.trans fr9 (by simp)
 have gb:=hp.hd
 have lb:=k4 gb
 have q9:=fr.1
 refine zY gb ?_
 have hp:=Hp.set (A:=[_]) (hp.pushW [.int .i64 (n:Int),.int .i64 0]) [.int .i64 2,.arr iw 0 1 1,.arr s9.next 0 2 1,.nils,.int .i64 (po:Int),.nils]
 have h9:=(h9.stay (Fr.push (.cells [.int .i64 (n:Int),.int .i64 0]))).set hbp (o:=.cells [.int .i64 2,.arr iw 0 1 1,.arr s9.next 0 2 1,.nils,.int .i64 (po:Int),.nils])
 have fr:=(fr.thenPush (.cells [.int .i64 (n:Int),.int .i64 0])).thenSet (id:=b) (some (.cells [.int .i64 2,.arr iw 0 1 1,.arr s9.next 0 2 1,.nils,.int .i64 (po:Int),.nils])) (.inr (by omega))
 generalize hiv:s9.next=iv at *
 generalize (s9.push (.cells [.int .i64 (n:Int),.int .i64 0])).set b (some (.cells [.int .i64 2,.arr iw 0 1 1,.arr iv 0 2 1,.nils,.int .i64 (po:Int),.nils]))=s10 at *
 refine N4 (a14 h9 h5 a7M t4.sign) (by simp (disch:=(first|exact Rf.mk rfl|with_reducible assumption|omega|((repeat (first|rw [nP]|rw [nS]|rw [M4]))<;>omega)|decide)) only [go_sem,↓reduceIte]) ?_
 rintro r s11 ⟨fr11,h11⟩
 have hp:=Hp.callA (A:=[_,_,_]) hp fr11 h11.g
 have fr:=fr.trans fr11 (by simp)
 have gb:s11.get b=some (.cells [.int .i64 2,.arr iw 0 1 1,.arr iv 0 2 1,.nils,.int .i64 (po:Int),.nils]):=hp.w (b,_) (by simp)
 have ga:s11.get s.next=some (.cells [.int .i64 0,.nils,.nils,.nils,.int .i64 0,.nils]):=hp.w (s.next,_) (by simp)
 have la:=k4 ga
 have hap:s.next≠p:=by omega
 refine zY (aN gb ga) ?_
 have hp:=Hp.set (A:=[_,_]) hp [.int .i64 2,.arr iw 0 1 1,.arr iv 0 2 1,.nils,.int .i64 (po:Int),.nils]
 refine ⟨_,[(iw,[.str (bs w)])]++[(iv,[.int .i64 (n:Int),.int .i64 0])],rfl,⟨po,_,_,_,_,rfl,hrw,.inr ⟨iv,rfl,rfl,by simp [Y7]⟩,rfl⟩,fr.thenSet _ (.inr (Nat.le_refl _)),h11.set hap,?_⟩
 intro e he
 simp only [List.mem_append,List.mem_singleton] at he
 have q:=fr.1
 rcases he with rfl | rfl
 ·exact ⟨by simp only;omega,hp.w _ (by simp)⟩
 ·exact ⟨by simp only;omega,hp.w _ (by simp)⟩
end Go.Proofs.Ytlaeblilmppodaa
namespace Go.Proofs.Ytlaeblilmppodaa
open Go.V
set_option maxRecDepth 100000
set_option maxHeartbeats 8000000
variable {s0 s:i8} {p at' dp:Nat} {dL:D} {T:List Tk} {W R:Hs}
structure PX (s0 s:i8) (p:Nat) (dL:D) (T:List Tk) (at' dp:Nat) (W R:Hs):Prop where
 fr:Fr [p] s0 s
 h:S0 s p dL T at' dp
 hp:Hp s W R
 ge:∀w∈W,s0.next<=w.1
 gr:∀w∈R,s0.next<=w.1
 lp:p<s0.next
theorem PX.start (h:S0 s p dL T at' dp):PX s s p dL T at' dp [] []:=⟨Fr.refl _ _,h,⟨by simp,by simp,by simp [Has],by simp [Has]⟩,by simp,by simp,k4 h.g⟩
theorem PX.le (x:PX s0 s p dL T at' dp W R):s0.next<=s.next:=x.fr.1
theorem PX.push (x:PX s0 s p dL T at' dp W R) (c:List D):PX s0 (s.push (.cells c)) p dL T at' dp ((s.next,c)::W) R :=
 ⟨x.fr.thenPush _,x.h.stay (Fr.push _),x.hp.pushW c,fun w hw=>by rcases List.mem_cons.1 hw with rfl | hw;exact x.le;exact x.ge w hw,x.gr,x.lp⟩
theorem PX.set {A B:Hs} {b:Nat} {c:List D} (x:PX s0 s p dL T at' dp (A++(b,c)::B) R) (c':List D):PX s0 (s.set b (some (.cells c'))) p dL T at' dp (A++(b,c')::B) R:=by
 have hb:=x.ge (b,c) (by simp)
 have hlp:=x.lp
 simp only at hb
 refine ⟨x.fr.thenSet _ (.inr hb),x.h.set (by omega),Hp.set x.hp c',fun w hw=>?_,x.gr,x.lp⟩
 simp only [List.mem_append,List.mem_cons] at hw
 rcases hw with hw | rfl | hw
 ·exact x.ge w (by simp [hw])
 ·exact hb
 ·exact x.ge w (by simp [hw])
theorem PX.box (x:PX s0 s p dL T at' dp W R) (z c:List D):PX s0 ((s.push (.cells z)).set s.next (some (.cells c))) p dL T at' dp ((s.next,c)::W) R:=PX.set (A:=[]) (x.push z) c
theorem PX.c0 {s':i8} (x:PX s0 s p dL T at' dp W R) (f:Fr [] s s'):PX s0 s' p dL T at' dp W R:=⟨x.fr.trans f (by simp),x.h.stay f,x.hp.fr f,x.ge,x.gr,x.lp⟩
theorem PX.cn {s':i8} {at2 dp2:Nat} {H:Hs} (x:PX s0 s p dL T at' dp W R) (f:Fr [p] s s') (h':S0 s' p dL T at2 dp2) (hH:∀e∈H,s.next<=e.1/\s'.get e.1=some (.cells e.2)):PX s0 s' p dL T at2 dp2 W (H++R):=by
 have hlp:=x.lp
 refine ⟨x.fr.trans f (by simp),h',⟨x.hp.nd,fun w hw r hr e=>?_,fun w hw=>?_,fun r hr=>?_⟩,x.ge,fun r hr=>?_,x.lp⟩
 ·rcases List.mem_append.1 hr with hr | hr
  ·have:=(hH r hr).1
   have:=x.hp.ltW hw
   omega
  ·exact x.hp.ap w hw r hr e
 ·have h1:=x.hp.w w hw
  have h2:=x.ge w hw
  rw [f.2 _ (k4 h1) (by rw [List.mem_singleton];omega)]
  exact h1
 ·rcases List.mem_append.1 hr with hr | hr
  ·exact (hH r hr).2
  ·have h1:=x.hp.r r hr
   have h2:=x.gr r hr
   rw [f.2 _ (k4 h1) (by rw [List.mem_singleton];omega)]
   exact h1
 ·rcases List.mem_append.1 hr with hr | hr
  ·have:=(hH r hr).1
   have:=x.le
   omega
  ·exact x.gr r hr
theorem PX.cp {s':i8} {at2 dp2:Nat} (x:PX s0 s p dL T at' dp W R) (f:Fr [p] s s') (h':S0 s' p dL T at2 dp2):PX s0 s' p dL T at2 dp2 W R:=x.cn (H:=[]) f h' (by simp)
theorem PX.get (x:PX s0 s p dL T at' dp W R) {b:Nat} {c:List D} (hb:(b,c)∈W):s.get b=some (.cells c):=x.hp.w _ hb
theorem PX.pair (x:PX s0 s p dL T at' dp W R) {b:Nat} {c:List D} (hb:(b,c)∈W) {i j:Nat} {prs:Prs}:∀e∈[Ent.mk j (some b) []],(e.i,i)∈prs->∀id,e.rd=some id->id<s.next/\id∉[p]:=by
 intro e he _ id hid
 rw [List.mem_singleton] at he
 subst he
 cases hid
 have h1:=x.hp.ltW hb
 have h2:=x.ge _ hb
 have h3:=x.lp
 refine ⟨h1,?_⟩
 rw [List.mem_singleton]
 simp only at h2
 omega
theorem PX.app {t rest env K d sz bytes rows row A B E} (x:PX s0 s p dL T at' dp (A++E++B) R) (h:Rp d sz rows E) (hr:row.length=sz) (hrs:∀r∈rows,r.length=sz) (hb:bytes<=1000) (hl:rows.length<=1000000000)
 (k:∀id s',Rp (.arr id 0 (rows.length+1) sz) sz (rows++[row]) [(id,(rows++[row]).flatten)]->PX s0 s' p dL T at' dp (A++(id,(rows++[row]).flatten)::B) R->XQ vfs [] rest ((t,.arr id 0 (rows.length+1) sz)::env) s' K):BM (S9 sz bytes d (.arr s.next 0 1 sz) (s.push (.cells row))) vfs t rest env K:=by
 refine b3f h x.hp hr hrs hb hl fun id s' h1 h2 h3 h4=>k id s' h1 ?_
 have hlp:=x.lp
 have hle:=x.le
 refine ⟨x.fr.trans h4 fun i hi=>?_,⟨x.h.l,?_,x.h.i,x.h.n⟩,h2,fun w hw=>?_,x.gr,x.lp⟩
 ·obtain ⟨e,he,rfl⟩:=List.mem_map.1 hi
  exact .inr (x.ge e (by simp [he]))
 ·rw [h4.2 p (k4 x.h.g) fun hi=>by
   obtain ⟨e,he,hx⟩:=List.mem_map.1 hi
   have:=x.ge e (by simp [he])
   omega]
  exact x.h.g
 ·simp only [List.mem_append,List.mem_cons] at hw
  rcases hw with hw | rfl | hw
  ·exact x.ge w (by simp [hw])
  ·simp only;omega
  ·exact x.ge w (by simp [hw])
theorem PX.appx {pairs T' i t rest env K d sz bytes rows row A B E} (x:PX s0 s p dL T at' dp (A++E++B) R) (h:Rp d sz rows E) (hr:row.length=sz) (hrs:∀r∈rows,r.length=sz) (hb:bytes<=1000) (hl:rows.length<=1000000000) (he:a3j pairs i ((s.next+1)::E.map Prod.fst) T')
 (k:∀id s',Rp (.arr id 0 (rows.length+1) sz) sz (rows++[row]) [(id,(rows++[row]).flatten)]->PX s0 s' p dL T at' dp (A++(id,(rows++[row]).flatten)::B) R->XX vfs pairs (⟨i,none,(s.next+1)::E.map Prod.fst⟩::T') rest ((t,.arr id 0 (rows.length+1) sz)::env) s' K):MX d (.arr s.next 0 1 sz) sz bytes i vfs pairs T' t rest env (s.push (.cells row)) K:=by
 refine c1k h x.hp hr hrs hb hl he fun s' h1 h2 h3 h4=>k _ s' h1 ?_
 have hlp:=x.lp
 have hle:=x.le
 have hf:Fr (E.map Prod.fst) s s':=⟨by omega,fun j hj hn=>h4 j hj fun e he hx=>hn (List.mem_map.2 ⟨e,he,hx⟩)⟩
 refine ⟨x.fr.trans hf fun i hi=>?_,⟨x.h.l,?_,x.h.i,x.h.n⟩,h2,fun w hw=>?_,x.gr,x.lp⟩
 ·obtain ⟨e,he,rfl⟩:=List.mem_map.1 hi
  exact .inr (x.ge e (by simp [he]))
 ·rw [hf.2 p (k4 x.h.g) fun hi=>by
   obtain ⟨e,he,hx⟩:=List.mem_map.1 hi
   have:=x.ge e (by simp [he])
   omega]
  exact x.h.g
 ·simp only [List.mem_append,List.mem_cons] at hw
  rcases hw with hw | rfl | hw
  ·exact x.ge w (by simp [hw])
  ·simp only;omega
  ·exact x.ge w (by simp [hw])
theorem b1Q (qs:List Nat):(qs.map S1).flatten.length=(qs.map S1).length*6:=by
 induction qs with
 | nil=>rfl
 | cons a r ih =>
   simp only [List.map_cons,List.flatten_cons,List.length_append,List.length_cons,ih]
   simp [S1]
   omega
theorem PX.swap {a b:Nat×List D} (x:PX s0 s p dL T at' dp (a::b::W) R):PX s0 s p dL T at' dp (b::a::W) R:=⟨x.fr,x.h,x.hp.perm (List.Perm.swap _ _ _),fun w hw=>x.ge w (by simp only [List.mem_cons] at hw ⊢;rcases hw with h | h | h<;>simp [h]),x.gr,x.lp⟩
theorem PX.setP (x:PX s0 s p dL T at' dp W R) (d2:Nat):PX s0 (s.set p (some (.cells [dL,.int .i64 (at':Int),.int .i64 (d2:Int),.int .i64 0,.int .i64 0]))) p dL T at' d2 W R:=by
 have hg:=k4 x.h.g
 exact x.cp (Fr.set _ (by simp)) ⟨x.h.l,P8 hg,x.h.i,x.h.n⟩
theorem c09 (h:S0 s p dL T at' dp) (hd:dp<=150):EvP vfs 114 [.ptr p 0] s fun r s'=>Fr [p] s s'/\S0 s' p dL T at' (dp+1):=by
 have hg:=h.g
 have lg:=k4 hg
 have o:=FL.one h.l
 have hw:IntKind.i64.wrap ((dp:Int)+1)=((dp+1:Nat):Int):=by rw [P1 (by omega) (by omega)];omega
 have hc:¬ (200:Int)<((dp+1:Nat):Int):=by omega
 refine V8 (vf:=a7E) rfl ?_
 unfold a7E;refine zF ?_
 refine zY (aN hg (aN hw (aN hc o))) ?_
 exact ⟨Fr.set _ (by simp),h.l,P8 lg,h.i,h.n⟩
theorem c2k:Eqc vfs 113 [.str (bs [99,104,97,110])] (.bool true):=S5 (S2 (n:=100) (by kernel_rfl)) rfl
theorem a7R:Eqc vfs 113 [.str (bs [112,114,111,99])] (.bool true):=S5 (S2 (n:=100) (by kernel_rfl)) rfl
theorem b8u:Eqc vfs 113 [.str (bs [91])] (.bool false):=S5 (S2 (n:=100) (by kernel_rfl)) rfl
theorem b8M:Eqc vfs 113 [.str (bs [93])] (.bool false):=S5 (S2 (n:=100) (by kernel_rfl)) rfl
theorem c16:Eqc vfs 113 [.str (bs [108,111,115,115,121])] (.bool true):=S5 (S2 (n:=100) (by kernel_rfl)) rfl
theorem b60:Eqc vfs 113 [.str (bs [99,111,112,121,105,110,103])] (.bool true):=S5 (S2 (n:=100) (by kernel_rfl)) rfl
theorem b4u:Eqc vfs 113 [.str (bs [105,100,108,101])] (.bool true):=S5 (S2 (n:=100) (by kernel_rfl)) rfl
theorem b3L:Eqc vfs 113 [.str (bs [114,101,99,118])] (.bool true):=S5 (S2 (n:=100) (by kernel_rfl)) rfl
theorem b40:Eqc vfs 113 [.str (bs [119,104,101,110])] (.bool true):=S5 (S2 (n:=100) (by kernel_rfl)) rfl
theorem c0U:Eqc vfs 113 [.str (bs [99,104,111,111,115,101])] (.bool true):=S5 (S2 (n:=100) (by kernel_rfl)) rfl
theorem b9C:Eqc vfs 113 [.str (bs [115,101,110,100])] (.bool true):=S5 (S2 (n:=100) (by kernel_rfl)) rfl
theorem b9K:Eqc vfs 113 [.str (bs [105,102])] (.bool true):=S5 (S2 (n:=100) (by kernel_rfl)) rfl
theorem b7s:Eqc vfs 113 [.str (bs [119,104,105,108,101])] (.bool true):=S5 (S2 (n:=100) (by kernel_rfl)) rfl
theorem b98:Eqc vfs 113 [.str (bs [97,116,111,109,105,99])] (.bool true):=S5 (S2 (n:=100) (by kernel_rfl)) rfl
theorem b7W:Eqc vfs 113 [.str (bs [115,107,105,112])] (.bool true):=S5 (S2 (n:=100) (by kernel_rfl)) rfl
theorem b06:Eqc vfs 113 [.str (bs [125])] (.bool false):=S5 (S2 (n:=100) (by kernel_rfl)) rfl
theorem b4s:Eqc vfs 113 [.str (bs [42])] (.bool false):=S5 (S2 (n:=100) (by kernel_rfl)) rfl
theorem c2Q:Eqc vfs 113 [.str (bs [123])] (.bool false):=S5 (S2 (n:=100) (by kernel_rfl)) rfl
def a4Y (s:i8) (p:Nat) (dL:D) (T:List Tk) (at2 dp:Nat) (it:Im) (r:D) (s':i8):Prop:=∃row H,r=.agg row/\a2C row H it/\Fr [p] s s'/\S0 s' p dL T at2 dp/\∀e∈H,s.next<=e.1/\s'.get e.1=some (.cells e.2)
theorem c1z (h:S0 s p dL T at' dp) {w:List Nat} {k n:Nat} (t0:N3 T at' 0 [99,104,97,110]) (t1:N3 T (at'+1) 0 w) (t2:N3 T (at'+2) 2 [91]) (t3:N3 T (at'+3) 1 [48+k]) (t4:N3 T (at'+4) 2 [93]) (t5:N3 T (at'+5) 0 [111,102]) (t6:N3 T (at'+6) 1 [48+n]) (t7:N3 T (at'+7) 2 [59]) (h8:at'+8<T.length) (hk:k<=9) (hn:n<=9) (hw:Eqc vfs 112 [.str (bs w)] (.bool true)) :
 EvP vfs 78 [.ptr p 0] s (a4Y s p dL T (at'+8) dp (.ch w k n)):=by
 have x:=PX.start h
 refine V8 (vf:=a25) rfl ?_
 unfold a25;refine zF ?_
 refine zY0 ?_
 have x:=x.push [.int .i64 0,.nils,.nils,.nils,.int .i64 0,.nils]
 refine N4 (a26 x.h (k:=5)) (by simp (disch:=(first|exact Rf.mk rfl|with_reducible assumption|omega|((repeat (first|rw [nP]|rw [nS]|rw [M4]))<;>omega)|decide)) only [go_sem,↓reduceIte]) ?_
 rintro r s1 ⟨rfl,f⟩
 have x:=(x.c0 f).box [.int .i64 0,.nils,.nils,.nils,.int .i64 0,.nils] [.int .i64 5,.nils,.nils,.nils,.int .i64 ((O3 T at').pos:Int),.nils]
 generalize (O3 T at').pos=po at *
 refine zY0 ?_
 generalize s1.next=b at *
 generalize (s1.push (.cells [.int .i64 0,.nils,.nils,.nils,.int .i64 0,.nils])).set b (some (.cells [.int .i64 5,.nils,.nils,.nils,.int .i64 (po:Int),.nils]))=s2 at *
 clear f
 refine N4 (a1W x.h a42) (by simp (disch:=(first|exact Rf.mk rfl|with_reducible assumption|omega|((repeat (first|rw [nP]|rw [nS]|rw [M4]))<;>omega)|decide)) only [go_sem,↓reduceIte]) ?_
 rintro r s3 ⟨rfl,f⟩
 rw [t0.no (by simp) (by simp) (by simp)]
 have x:=x.c0 f
 clear f
 refine zY0 ?_
 refine N4 (a1W x.h a7R) (by simp (disch:=(first|exact Rf.mk rfl|with_reducible assumption|omega|((repeat (first|rw [nP]|rw [nS]|rw [M4]))<;>omega)|decide)) only [go_sem,↓reduceIte]) ?_
 rintro r s4 ⟨rfl,f⟩
 rw [t0.no (by simp) (by simp) (by simp)]
 have x:=x.c0 f
 clear f
 refine zY0 ?_
 refine N4 (a5A x.h t1.lt c2k t0.yes) (by simp (disch:=(first|exact Rf.mk rfl|with_reducible assumption|omega|((repeat (first|rw [nP]|rw [nS]|rw [M4]))<;>omega)|decide)) only [go_sem,↓reduceIte]) ?_
 rintro r s5 ⟨rfl,f,h'⟩
 have x:=x.cp f h'
 clear f h'
 have gb:=x.get (.head _)
 have lb:=k4 gb
 refine zY gb ?_
 have x:=PX.set (A:=[]) x [.int .i64 1,.nils,.nils,.nils,.int .i64 (po:Int),.nils]
 generalize s5.set b (some (.cells [.int .i64 1,.nils,.nils,.nils,.int .i64 (po:Int),.nils]))=s6 at *
 clear gb lb
 refine a2K (W:=[p]) (a8H x.h t2.lt t1.kd (by rw [t1.tx];exact hw)) (by simp (disch:=(first|exact Rf.mk rfl|with_reducible assumption|omega|((repeat (first|rw [nP]|rw [nS]|rw [M4]))<;>omega)|decide)) only [go_sem,↓reduceIte]) (fun d s' h=>h.2.1) (x.pair (.head _)) (by decide) ?_
 rintro r s7 ⟨rfl,f,h'⟩
 have x:=x.cp f h'
 clear f h'
 rw [t1.tx]
 refine zY0 ?_
 refine PX.app (A:=[_]) (E:=[]) (B:=[_]) x (.inl ⟨rfl,rfl,rfl⟩) rfl (by simp) (by decide) (by simp) ?_
 intro iw s8 hrw x
 have gb:=x.get (.head _)
 have lb:=k4 gb
 refine zY gb ?_
 have x:=PX.set (A:=[]) x [.int .i64 1,.arr iw 0 1 1,.nils,.nils,.int .i64 (po:Int),.nils]
 generalize s8.set b (some (.cells [.int .i64 1,.arr iw 0 1 1,.nils,.nils,.int .i64 (po:Int),.nils]))=s9 at *
 clear gb lb
 refine N4 (a14 x.h t3.lt b8u t2.sign) (by simp (disch:=(first|exact Rf.mk rfl|with_reducible assumption|omega|((repeat (first|rw [nP]|rw [nS]|rw [M4]))<;>omega)|decide)) only [go_sem,↓reduceIte]) ?_
 rintro r s10 ⟨f,h'⟩
 have x:=x.cp f h'
 clear f h'
 have gb:=x.get (.head _)
 have lb:=k4 gb
 refine zY gb ?_
 refine a2K (W:=[p]) (a7V x.h t4.lt t3.kd t3.tx (by omega)) (by simp (disch:=(first|exact Rf.mk rfl|with_reducible assumption|omega|((repeat (first|rw [nP]|rw [nS]|rw [M4]))<;>omega)|decide)) only [go_sem,↓reduceIte]) (fun d s' h=>h.2.1) (x.pair (.head _)) (by decide) ?_
 rintro r s11 ⟨rfl,f,h'⟩
 have x:=x.cp f h'
 clear f h'
 have en:(((48+k:Nat):Int)-48)=(k:Int):=by omega
 rw [en]
 refine zY0 ?_
 refine PX.app (A:=[_]) (E:=[]) (B:=[_,_]) x (.inl ⟨rfl,rfl,rfl⟩) rfl (by simp) (by decide) (by simp) ?_
 intro i1 s12 hr1 x
 have gb:=x.get (.head _)
 have lb:=k4 gb
 refine zY gb ?_
 have x:=PX.set (A:=[]) x [.int .i64 1,.arr iw 0 1 1,.arr i1 0 1 1,.nils,.int .i64 (po:Int),.nils]
 generalize s12.set b (some (.cells [.int .i64 1,.arr iw 0 1 1,.arr i1 0 1 1,.nils,.int .i64 (po:Int),.nils]))=s13 at *
 clear gb lb
 refine N4 (a14 x.h t5.lt b8M t4.sign) (by simp (disch:=(first|exact Rf.mk rfl|with_reducible assumption|omega|((repeat (first|rw [nP]|rw [nS]|rw [M4]))<;>omega)|decide)) only [go_sem,↓reduceIte]) ?_
 rintro r s14 ⟨f,h'⟩
 have x:=x.cp f h'
 clear f h'
 refine zY0 ?_
 refine N4 (a14 x.h t6.lt b0N t5.yes) (by simp (disch:=(first|exact Rf.mk rfl|with_reducible assumption|omega|((repeat (first|rw [nP]|rw [nS]|rw [M4]))<;>omega)|decide)) only [go_sem,↓reduceIte]) ?_
 rintro r s15 ⟨f,h'⟩
 have x:=x.cp f h'
 clear f h'
 have gb:=x.get (.head _)
 have lb:=k4 gb
 refine zY gb ?_
 refine a2K (W:=[p]) (a7V x.h t7.lt t6.kd t6.tx (by omega)) (by simp (disch:=(first|exact Rf.mk rfl|with_reducible assumption|omega|((repeat (first|rw [nP]|rw [nS]|rw [M4]))<;>omega)|decide)) only [go_sem,↓reduceIte]) (fun d s' h=>h.2.1) (x.pair (.head _)) (by decide) ?_
 rintro r s16 ⟨rfl,f,h'⟩
 have x:=x.cp f h'
 clear f h'
 have en:(((48+n:Nat):Int)-48)=(n:Int):=by omega
 rw [en]
 refine zY0 ?_
 refine PX.app (A:=[_]) (E:=[_]) (B:=[_,_]) x hr1 rfl (by simp) (by decide) (by simp) ?_
 intro i2 s17 hr2 x
 have gb:=x.get (.head _)
 have lb:=k4 gb
 refine zY gb ?_
 have x:=PX.set (A:=[]) x [.int .i64 1,.arr iw 0 1 1,.arr i2 0 2 1,.nils,.int .i64 (po:Int),.nils]
 generalize s17.set b (some (.cells [.int .i64 1,.arr iw 0 1 1,.arr i2 0 2 1,.nils,.int .i64 (po:Int),.nils]))=s18 at *
 clear gb lb
 refine a2K (W:=[p]) (a7X x.h c16 (t7.no (by simp) (by simp) (by simp))) (by simp (disch:=(first|exact Rf.mk rfl|with_reducible assumption|omega|((repeat (first|rw [nP]|rw [nS]|rw [M4]))<;>omega)|decide)) only [go_sem,↓reduceIte]) (fun d s' h=>h.2.up) (x.pair (.head _)) (by decide) ?_
 rintro r s19 ⟨rfl,f⟩
 have x:=x.c0 f
 clear f
 refine zY0 ?_
 refine PX.app (A:=[_]) (E:=[_]) (B:=[_,_]) x hr2 rfl (by simp) (by decide) (by simp) ?_
 intro i3 s20 hr3 x
 have gb:=x.get (.head _)
 have lb:=k4 gb
 refine zY gb ?_
 have x:=PX.set (A:=[]) x [.int .i64 1,.arr iw 0 1 1,.arr i3 0 3 1,.nils,.int .i64 (po:Int),.nils]
 generalize s20.set b (some (.cells [.int .i64 1,.arr iw 0 1 1,.arr i3 0 3 1,.nils,.int .i64 (po:Int),.nils]))=s21 at *
 clear gb lb
 refine a2K (W:=[p]) (a7X x.h b60 (t7.no (by simp) (by simp) (by simp))) (by simp (disch:=(first|exact Rf.mk rfl|with_reducible assumption|omega|((repeat (first|rw [nP]|rw [nS]|rw [M4]))<;>omega)|decide)) only [go_sem,↓reduceIte]) (fun d s' h=>h.2.up) (x.pair (.head _)) (by decide) ?_
 rintro r s22 ⟨rfl,f⟩
 have x:=x.c0 f
 clear f
 refine zY0 ?_
 refine PX.app (A:=[_]) (E:=[_]) (B:=[_,_]) x hr3 rfl (by simp) (by decide) (by simp) ?_
 intro i4 s23 hr4 x
 have gb:=x.get (.head _)
 have lb:=k4 gb
 refine zY gb ?_
 have x:=PX.set (A:=[]) x [.int .i64 1,.arr iw 0 1 1,.arr i4 0 4 1,.nils,.int .i64 (po:Int),.nils]
 generalize s23.set b (some (.cells [.int .i64 1,.arr iw 0 1 1,.arr i4 0 4 1,.nils,.int .i64 (po:Int),.nils]))=s24 at *
 clear gb lb
 refine N4 (a14 x.h h8 a7M t7.sign) (by simp (disch:=(first|exact Rf.mk rfl|with_reducible assumption|omega|((repeat (first|rw [nP]|rw [nS]|rw [M4]))<;>omega)|decide)) only [go_sem,↓reduceIte]) ?_
 rintro r s25 ⟨f,h'⟩
 have x:=x.cp f h'
 clear f h'
 have gb:=x.get (.head _)
 have ga:=x.get (b:=s.next) (.tail _ (.tail _ (.tail _ (.head _))))
 have lb:=k4 gb
 have la:=k4 ga
 refine zY (aN gb ga) ?_
 have x:=PX.set (A:=[_,_,_]) x [.int .i64 1,.arr iw 0 1 1,.arr i4 0 4 1,.nils,.int .i64 (po:Int),.nils]
 refine ⟨_,[(iw,[.str (bs w)])]++[(i4,(Y7 [(k:Int),(n:Int),0,0]).flatten)],rfl,⟨po,_,_,_,_,rfl,hrw,hr4,rfl⟩,x.fr,x.h,?_⟩
 intro e he
 simp only [List.mem_append,List.mem_singleton] at he
 rcases he with rfl | rfl
 ·exact ⟨x.ge _ (.tail _ (.tail _ (.head _))),x.get (.tail _ (.tail _ (.head _)))⟩
 ·exact ⟨x.ge _ (.tail _ (.head _)),x.get (.tail _ (.head _))⟩
theorem c0k (h:S0 s p dL T at' dp) (t0:N3 T at' 0 [115,107,105,112]) (t1:N3 T (at'+1) 2 [59]) (h2:at'+2<T.length) :
 EvP vfs 122 [.ptr p 0] s fun r s'=>r=.agg (S1 (O3 T at').pos)/\Fr [p] s s'/\S0 s' p dL T (at'+2) dp:=by
 have x:=PX.start h
 refine V8 (vf:=a7T) rfl ?_
 unfold a7T;refine zF ?_
 refine zY0 ?_
 have x:=x.push [.int .i64 0,.nils,.nils,.nils,.int .i64 0,.nils]
 refine N4 (a26 x.h (k:=6)) (by simp (disch:=(first|exact Rf.mk rfl|with_reducible assumption|omega|((repeat (first|rw [nP]|rw [nS]|rw [M4]))<;>omega)|decide)) only [go_sem,↓reduceIte]) ?_
 rintro r s1 ⟨rfl,f⟩
 have x:=(x.c0 f).box [.int .i64 0,.nils,.nils,.nils,.int .i64 0,.nils] [.int .i64 6,.nils,.nils,.nils,.int .i64 ((O3 T at').pos:Int),.nils]
 generalize (O3 T at').pos=po at *
 refine zY0 ?_
 generalize s1.next=b at *
 generalize (s1.push (.cells [.int .i64 0,.nils,.nils,.nils,.int .i64 0,.nils])).set b (some (.cells [.int .i64 6,.nils,.nils,.nils,.int .i64 (po:Int),.nils]))=s2 at *
 clear f
 refine N4 (a7X x.h b4u (t0.no (by simp) (by simp) (by simp))) (by simp (disch:=(first|exact Rf.mk rfl|with_reducible assumption|omega|((repeat (first|rw [nP]|rw [nS]|rw [M4]))<;>omega)|decide)) only [go_sem,↓reduceIte]) ?_
 rintro r s3 ⟨rfl,f⟩
 have x:=x.c0 f
 clear f
 refine zY0 ?_
 refine N4 (a1W x.h b3L) (by simp (disch:=(first|exact Rf.mk rfl|with_reducible assumption|omega|((repeat (first|rw [nP]|rw [nS]|rw [M4]))<;>omega)|decide)) only [go_sem,↓reduceIte]) ?_
 rintro r s4 ⟨rfl,f⟩
 rw [t0.no (by simp) (by simp) (by simp)]
 have x:=x.c0 f
 clear f
 refine zY0 ?_
 refine N4 (a1W x.h b40) (by simp (disch:=(first|exact Rf.mk rfl|with_reducible assumption|omega|((repeat (first|rw [nP]|rw [nS]|rw [M4]))<;>omega)|decide)) only [go_sem,↓reduceIte]) ?_
 rintro r s5 ⟨rfl,f⟩
 rw [t0.no (by simp) (by simp) (by simp)]
 have x:=x.c0 f
 clear f
 refine zY0 ?_
 refine N4 (a1W x.h c0U) (by simp (disch:=(first|exact Rf.mk rfl|with_reducible assumption|omega|((repeat (first|rw [nP]|rw [nS]|rw [M4]))<;>omega)|decide)) only [go_sem,↓reduceIte]) ?_
 rintro r s6 ⟨rfl,f⟩
 rw [t0.no (by simp) (by simp) (by simp)]
 have x:=x.c0 f
 clear f
 refine zY0 ?_
 refine N4 (a2M x.h b9C (t0.no (by simp) (by simp) (by simp))) (by simp (disch:=(first|exact Rf.mk rfl|with_reducible assumption|omega|((repeat (first|rw [nP]|rw [nS]|rw [M4]))<;>omega)|decide)) only [go_sem,↓reduceIte]) ?_
 rintro r s7 ⟨rfl,f⟩
 have x:=x.c0 f
 clear f
 refine zY0 ?_
 refine N4 (a2M x.h b9K (t0.no (by simp) (by simp) (by simp))) (by simp (disch:=(first|exact Rf.mk rfl|with_reducible assumption|omega|((repeat (first|rw [nP]|rw [nS]|rw [M4]))<;>omega)|decide)) only [go_sem,↓reduceIte]) ?_
 rintro r s8 ⟨rfl,f⟩
 have x:=x.c0 f
 clear f
 refine zY0 ?_
 refine N4 (a2M x.h b7s (t0.no (by simp) (by simp) (by simp))) (by simp (disch:=(first|exact Rf.mk rfl|with_reducible assumption|omega|((repeat (first|rw [nP]|rw [nS]|rw [M4]))<;>omega)|decide)) only [go_sem,↓reduceIte]) ?_
 rintro r s9 ⟨rfl,f⟩
 have x:=x.c0 f
 clear f
 refine zY0 ?_
 refine N4 (a2M x.h b98 (t0.no (by simp) (by simp) (by simp))) (by simp (disch:=(first|exact Rf.mk rfl|with_reducible assumption|omega|((repeat (first|rw [nP]|rw [nS]|rw [M4]))<;>omega)|decide)) only [go_sem,↓reduceIte]) ?_
 rintro r s10 ⟨rfl,f⟩
 have x:=x.c0 f
 clear f
 refine zY0 ?_
 refine N4 (a5A x.h t1.lt b7W t0.yes) (by simp (disch:=(first|exact Rf.mk rfl|with_reducible assumption|omega|((repeat (first|rw [nP]|rw [nS]|rw [M4]))<;>omega)|decide)) only [go_sem,↓reduceIte]) ?_
 rintro r s11 ⟨rfl,f,h'⟩
 have x:=x.cp f h'
 clear f h'
 have gb:=x.get (.head _)
 have lb:=k4 gb
 refine zY gb ?_
 have x:=PX.set (A:=[]) x [.int .i64 14,.nils,.nils,.nils,.int .i64 (po:Int),.nils]
 generalize s11.set b (some (.cells [.int .i64 14,.nils,.nils,.nils,.int .i64 (po:Int),.nils]))=s12 at *
 clear gb lb
 refine N4 (a14 x.h h2 a7M t1.sign) (by simp (disch:=(first|exact Rf.mk rfl|with_reducible assumption|omega|((repeat (first|rw [nP]|rw [nS]|rw [M4]))<;>omega)|decide)) only [go_sem,↓reduceIte]) ?_
 rintro r s13 ⟨f,h'⟩
 have x:=x.cp f h'
 clear f h'
 have gb:=x.get (.head _)
 have ga:=x.get (b:=s.next) (.tail _ (.head _))
 have lb:=k4 gb
 have la:=k4 ga
 refine zY (aN gb ga) ?_
 have x:=PX.set (A:=[_]) x [.int .i64 14,.nils,.nils,.nils,.int .i64 (po:Int),.nils]
 exact ⟨rfl,x.fr,x.h⟩
theorem b9V {k q:Nat} {row:List D} (x:PX s0 s p dL T at' dp ((q,row)::W) R) (hrow:∃a b c d e,row=[a,b,c,d,e,.nils]) (hk:k<=100) (ts:∀i,i<k->N3 T (at'+2*i) 0 [115,107,105,112]/\N3 T (at'+2*i+1) 2 [59]) (te:N3 T (at'+2*k) 2 [125]) (h2:at'+2*k+1<T.length) :
 EvP vfs 115 [.ptr p 0,.ptr q 0] s fun _ s'=>∃ (dl:D) (qs:List Nat) (El:Hs),qs.length=k/\Rp dl 6 (qs.map S1) El/\PX s0 s' p dL T (at'+2*k+1) dp ((q,row.take 5++[dl])::(El++W)) R:=by
 obtain ⟨a,b,c,d,e,rfl⟩:=hrow
 refine V8 (vf:=a8v) rfl ?_
 unfold a8v;refine zF ?_
 refine zY0 ?_
 refine Y6 [0,1] 0 k (fun j f s'=>∃ (dl:D) (qs:List Nat) (El:Hs),qs.length=j/\Rp dl 6 (qs.map S1) El/\PX s0 s' p dL T (at'+2*j) dp ((q,[a,b,c,d,e,dl])::(El++W)) R) (.mk rfl) (by omega) ⟨.nils,[],[],rfl,.inl ⟨rfl,rfl,rfl⟩,x⟩ ?_
 clear x
 rintro j f s1 hj ⟨dl,qs,El,hql,hr,x⟩
 refine zY0 ?_
 refine N4 (a2P x.h) (by simp (disch:=(first|exact Rf.mk rfl|with_reducible assumption|omega|((repeat (first|rw [nP]|rw [nS]|rw [M4]))<;>omega)|decide)) only [go_sem,↓reduceIte]) ?_
 rintro r s2 ⟨rfl,rfl⟩
 refine zY0 ?_
 by_cases cj:j<k
 rotate_left
 ·obtain rfl:j=k:=by omega
  refine N4 (a5A x.h h2 b06 te.sign) (by simp (disch:=(first|exact Rf.mk rfl|with_reducible assumption|omega|((repeat (first|rw [nP]|rw [nS]|rw [M4]))<;>omega)|decide)) only [go_sem,↓reduceIte]) ?_
  rintro r s3 ⟨rfl,f,h'⟩
  have x:=x.cp f h'
  refine zY0 ?_
  exact ⟨dl,qs,El,hql,hr,x⟩
 obtain ⟨t0,t1⟩:=ts j cj
 refine N4 (a2M x.h b06 (t0.no (by simp) (by simp) (by simp))) (by simp (disch:=(first|exact Rf.mk rfl|with_reducible assumption|omega|((repeat (first|rw [nP]|rw [nS]|rw [M4]))<;>omega)|decide)) only [go_sem,↓reduceIte]) ?_
 rintro r s3 ⟨rfl,f'⟩
 have x:=x.c0 f'
 clear f'
 have gq:=x.get (.head _)
 have lq:=k4 gq
 have od:=hr.one
 refine zY (aN gq od) ?_
 refine b5D (W:=[p]) (c0k x.h t0 t1 (by have:=te.lt;omega)) (by simp (disch:=(first|exact Rf.mk rfl|with_reducible assumption|omega|((repeat (first|rw [nP]|rw [nS]|rw [M4]))<;>omega)|decide)) only [go_sem,↓reduceIte]) (fun d s' h=>h.2.1) (x.pair (.head _)) ?_
 rintro r s4 E ⟨rfl,f',h'⟩
 have x:=x.cp f' h'
 clear f' h' gq lq
 generalize (O3 T (at'+2*j)).pos=po at *
 have gq:=x.get (.head _)
 have lq:=k4 gq
 have hln:=hr.len
 refine zY hln ?_
 refine PX.appx (A:=[(q,[a,b,c,d,e,dl])]) (E:=El) (B:=W) x hr rfl (by intro r hr;obtain ⟨_,_,rfl⟩:=List.mem_map.1 hr;rfl) (by decide) (by simp;omega) (by simp [a3j,a1R]) ?_
 intro id s5 hr5 x
 have gi:=x.get (b:=id) (.tail _ (.head _))
 have li:=k4 gi
 have gq:=x.get (.head _)
 have lq:=k4 gq
 have f0:=b1Q qs
 have f1:List.take ((qs.map S1).length*6) (qs.map S1++[([.int .i64 0,.nils,.nils,.nils,.int .i64 0,.nils]:List D)]).flatten=(qs.map S1).flatten:=by
  rw [List.flatten_append,List.take_append_of_le_length (by omega),List.take_of_length_le (by omega)]
 have f2:List.drop ((qs.map S1).length*6+6) (qs.map S1++[([.int .i64 0,.nils,.nils,.nils,.int .i64 0,.nils]:List D)]).flatten=[]:=by
  rw [List.flatten_append,List.drop_eq_nil_iff,List.length_append,f0]
  simp
 have f3:(qs.map S1).length*6+5<(qs.map S1++[([.int .i64 0,.nils,.nils,.nils,.int .i64 0,.nils]:List D)]).flatten.length:=by
  rw [List.flatten_append,List.length_append,f0]
  simp
 have f4:(S1 po).length=6:=rfl
 have f5:(S1 po).all q8=true:=rfl
 have hne:q≠id:=by
  have:=x.hp.nd
  simp only [List.cons_append,List.nil_append,List.map_cons,List.nodup_cons,List.mem_cons,not_or] at this
  exact this.1.1
 have hne':¬ id=q:=fun e=>hne e.symm
 refine zY (aN gi (aN gq (aN f1 (aN f2 (aN f3 (aN f4 (aN f5 (aN hne hne')))))))) ?_
 have x:=PX.set (A:=[(q,[a,b,c,d,e,dl])]) (B:=W) x ((qs.map S1).flatten++S1 po)
 have x:=PX.set (A:=[]) x [a,b,c,d,e,.arr id 0 ((qs.map S1).length+1) 6]
 refine ⟨cj,.arr id 0 ((qs.map S1).length+1) 6,qs++[po],[(id,(qs.map S1).flatten++S1 po)],by simp [hql],.inr ⟨id,by simp,by simp,by simp⟩,?_⟩
 have e2:at'+2*(j+1)=at'+2*j+2:=by omega
 rw [e2]
 exact x
theorem c0z (h:S0 s p dL T at' dp) {w:List Nat} {k:Nat} (t0:N3 T at' 0 [112,114,111,99]) (t1:N3 T (at'+1) 0 w) (t2:N3 T (at'+2) 2 [123]) (ts:∀i,i<k->N3 T (at'+3+2*i) 0 [115,107,105,112]/\N3 T (at'+3+2*i+1) 2 [59]) (te:N3 T (at'+3+2*k) 2 [125]) (h4:at'+3+2*k+1<T.length) (hk:k<=100) (hd:dp<=100) (t3:∃kd tx,N3 T (at'+3) kd tx/\tx≠[118,97,114]/\∀c∈tx,c<256) (hw:Eqc vfs 112 [.str (bs w)] (.bool true)) :
 EvP vfs 96 [.ptr p 0] s (a4Y s p dL T (at'+3+2*k+1) dp (.pr w k)):=by
 have x:=PX.start h
 obtain ⟨kd,tx,t3,ht3,ht4⟩:=t3
 refine V8 (vf:=a8X) rfl ?_
 unfold a8X;refine zF ?_
 refine zY0 ?_
 have x:=x.push [.int .i64 0,.nils,.nils,.nils,.int .i64 0,.nils]
 refine N4 (a26 x.h (k:=3)) (by simp (disch:=(first|exact Rf.mk rfl|with_reducible assumption|omega|((repeat (first|rw [nP]|rw [nS]|rw [M4]))<;>omega)|decide)) only [go_sem,↓reduceIte]) ?_
 rintro r s1 ⟨rfl,f⟩
 have x:=(x.c0 f).box [.int .i64 0,.nils,.nils,.nils,.int .i64 0,.nils] [.int .i64 3,.nils,.nils,.nils,.int .i64 ((O3 T at').pos:Int),.nils]
 generalize (O3 T at').pos=po at *
 refine zY0 ?_
 generalize s1.next=b at *
 generalize (s1.push (.cells [.int .i64 0,.nils,.nils,.nils,.int .i64 0,.nils])).set b (some (.cells [.int .i64 3,.nils,.nils,.nils,.int .i64 (po:Int),.nils]))=s2 at *
 clear f
 refine N4 (a14 x.h t1.lt a7R t0.yes) (by simp (disch:=(first|exact Rf.mk rfl|with_reducible assumption|omega|((repeat (first|rw [nP]|rw [nS]|rw [M4]))<;>omega)|decide)) only [go_sem,↓reduceIte]) ?_
 rintro r s3 ⟨f,h'⟩
 have x:=x.cp f h'
 clear f h'
 have gb:=x.get (.head _)
 have lb:=k4 gb
 refine zY gb ?_
 refine a2K (W:=[p]) (a8H x.h t2.lt t1.kd (by rw [t1.tx];exact hw)) (by simp (disch:=(first|exact Rf.mk rfl|with_reducible assumption|omega|((repeat (first|rw [nP]|rw [nS]|rw [M4]))<;>omega)|decide)) only [go_sem,↓reduceIte]) (fun d s' h=>h.2.1) (x.pair (.head _)) (by decide) ?_
 rintro r s4 ⟨rfl,f,h'⟩
 rw [t1.tx]
 have x:=x.cp f h'
 clear f h' gb lb
 refine zY0 ?_
 refine PX.app (A:=[_]) (E:=[]) (B:=[_]) x (.inl ⟨rfl,rfl,rfl⟩) rfl (by simp) (by decide) (by simp) ?_
 intro iw s5 hrw x
 have gb:=x.get (.head _)
 have lb:=k4 gb
 refine zY gb ?_
 have x:=PX.set (A:=[]) x [.int .i64 3,.arr iw 0 1 1,.nils,.nils,.int .i64 (po:Int),.nils]
 generalize s5.set b (some (.cells [.int .i64 3,.arr iw 0 1 1,.nils,.nils,.int .i64 (po:Int),.nils]))=s6 at *
 clear gb lb
 refine N4 (a2M x.h b4s (t2.no (by simp) (by simp) (by simp))) (by simp (disch:=(first|exact Rf.mk rfl|with_reducible assumption|omega|((repeat (first|rw [nP]|rw [nS]|rw [M4]))<;>omega)|decide)) only [go_sem,↓reduceIte]) ?_
 rintro r s7 ⟨rfl,f⟩
 have x:=x.c0 f
 clear f
 have gb:=x.get (.head _)
 have lb:=k4 gb
 refine zY gb ?_
 have x:=PX.set (A:=[_]) (x.push [.int .i64 1]) [.int .i64 3,.arr iw 0 1 1,.arr s7.next 0 1 1,.nils,.int .i64 (po:Int),.nils]
 generalize hiv:s7.next=iv at *
 generalize (s7.push (.cells [.int .i64 1])).set b (some (.cells [.int .i64 3,.arr iw 0 1 1,.arr iv 0 1 1,.nils,.int .i64 (po:Int),.nils]))=s8 at *
 clear gb lb
 refine N4 (a14 x.h t3.lt c2Q t2.sign) (by simp (disch:=(first|exact Rf.mk rfl|with_reducible assumption|omega|((repeat (first|rw [nP]|rw [nS]|rw [M4]))<;>omega)|decide)) only [go_sem,↓reduceIte]) ?_
 rintro r s9 ⟨f,h'⟩
 have x:=x.cp f h'
 clear f h'
 refine zY0 ?_
 have x:PX s s9 p dL T (at'+3) dp [(b,[.int .i64 3,.arr iw 0 1 1,.arr iv 0 1 1,.nils,.int .i64 (po:Int),.nils]),(iv,[.int .i64 1]),(iw,[.str (bs w)]),(s.next,[.int .i64 0,.nils,.nils,.nils,.int .i64 0,.nils])] []:=x.swap
 refine a6K [0,2,3,4,19] (fun f s'=>PX s s' p dL T (at'+3) dp [(b,[.int .i64 3,.arr iw 0 1 1,.arr iv 0 1 1,.nils,.int .i64 (po:Int),.nils]),(iv,[.int .i64 1]),(iw,[.str (bs w)]),(s.next,[.int .i64 0,.nils,.nils,.nils,.int .i64 0,.nils])] []) ?_ ?_
 ·refine Y6 [0,2,3,4,19] 0 0 (fun j f s'=>PX s s' p dL T (at'+3) dp [(b,[.int .i64 3,.arr iw 0 1 1,.arr iv 0 1 1,.nils,.int .i64 (po:Int),.nils]),(iv,[.int .i64 1]),(iw,[.str (bs w)]),(s.next,[.int .i64 0,.nils,.nils,.nils,.int .i64 0,.nils])] []) (.mk rfl) (by omega) x ?_
  rintro j f s10 hj x
  refine zY0 ?_
  refine N4 (a1W x.h a42) (by simp (disch:=(first|exact Rf.mk rfl|with_reducible assumption|omega|((repeat (first|rw [nP]|rw [nS]|rw [M4]))<;>omega)|decide)) only [go_sem,↓reduceIte]) ?_
  rintro r s11 ⟨rfl,f⟩
  rw [t3.no ht3 ht4 (by simp)]
  have x:=x.c0 f
  refine zY0 ?_
  exact x
 clear x
 rintro f s10 x
 refine zY0 ?_
 refine N4 (c09 x.h (by omega)) (by simp (disch:=(first|exact Rf.mk rfl|with_reducible assumption|omega|((repeat (first|rw [nP]|rw [nS]|rw [M4]))<;>omega)|decide)) only [go_sem,↓reduceIte]) ?_
 rintro r s11 ⟨f',h'⟩
 have x:=x.cp f' h'
 clear f' h'
 refine zY0 ?_
 refine N4 (b9V x ⟨_,_,_,_,_,rfl⟩ hk ts te h4) rfl ?_
 rintro r s12 ⟨dl,qs,El,hql,hrl,x⟩
 simp only [List.take_succ_cons,List.take_zero,List.cons_append,List.nil_append] at x
 have gp:=x.h.g
 have lp:=k4 gp
 have od:=FL.one h.l
 have ew:IntKind.i64.wrap (((dp+1:Nat):Int)-1)=(dp:Int):=by rw [P1 (by omega) (by omega)];omega
 have gb:=x.get (.head _)
 have lb:=k4 gb
 have ga:=x.get (b:=s.next) (c:=[.int .i64 0,.nils,.nils,.nils,.int .i64 0,.nils]) (.tail _ (List.mem_append_right _ (.tail _ (.tail _ (.head _)))))
 have la:=k4 ga
 have hlp:=x.lp
 have hbp:=x.ge _ (.head _)
 simp only at hbp
 have n1:¬ b=p:=by omega
 have n2:¬ p=b:=by omega
 have n3:¬ s.next=p:=by omega
 have n4:¬ p=s.next:=by omega
 refine zY (aN gp (aN od (aN ew (aN gb (aN ga (aN n1 (aN n2 (aN n3 n4)))))))) ?_
 have x:=x.setP dp
 have x:=PX.set (A:=(b,_)::(El++[_,_])) (B:=[]) (by simpa using x) [.int .i64 3,.arr iw 0 1 1,.arr iv 0 1 1,.nils,.int .i64 (po:Int),dl]
 refine ⟨_,[(iw,[.str (bs w)])]++([(iv,[.int .i64 1])]++El),rfl,⟨po,_,_,_,_,_,_,qs,rfl,hrw,.inr ⟨iv,rfl,rfl,by simp [Y7]⟩,hql,hrl,rfl⟩,x.fr,x.h,?_⟩
 intro e he
 have key:∀e,e∈(b,[D.int .i64 3,.arr iw 0 1 1,.arr iv 0 1 1,.nils,.int .i64 (po:Int),dl])::(El++[(iv,[.int .i64 1]),(iw,[.str (bs w)])])++[(s.next,[D.int .i64 3,.arr iw 0 1 1,.arr iv 0 1 1,.nils,.int .i64 (po:Int),dl])]->s.next<=e.1/\_:=fun e he=>⟨x.ge e he,x.get he⟩
 simp only [List.mem_append,List.mem_singleton] at he
 rcases he with rfl | rfl | he
 ·exact key _ (by simp)
 ·exact key _ (by simp)
 ·exact key _ (by simp [he])
end Go.Proofs.Ytlaeblilmppodaa
namespace Go.Proofs.Ytlaeblilmppodaa
open Go.V
set_option maxRecDepth 100000
set_option maxHeartbeats 8000000
variable {s0 s:i8} {p at' dp:Nat} {dL:D} {T:List Tk} {W R:Hs}
theorem PX.sub {W':Hs} (x:PX s0 s p dL T at' dp W R) (h:W'.Sublist W):PX s0 s p dL T at' dp W' R:=⟨x.fr,x.h,x.hp.sub h fun _ h=>h,fun w hw=>x.ge w (h.subset hw),x.gr,x.lp⟩
theorem b37 (h:S0 s p dL T at' dp) {w:List Nat} {n:Nat} (t0:N3 T at' 0 [118,97,114]) (t1:N3 T (at'+1) 0 w) (t2:N3 T (at'+2) 0 [111,102]) (t3:N3 T (at'+3) 1 [48+n]) (t4:N3 T (at'+4) 2 [59]) (h5:at'+5<T.length) (hn:n<=9) (hw:Eqc vfs 112 [.str (bs w)] (.bool true)) :
 EvP vfs 78 [.ptr p 0] s (a4Y s p dL T (at'+5) dp (.vr w n)):=by
 have x:=PX.start h
 refine V8 (vf:=a25) rfl ?_
 unfold a25;refine zF ?_
 refine zY0 ?_
 have x:=x.push [.int .i64 0,.nils,.nils,.nils,.int .i64 0,.nils]
 refine N4 (a26 x.h (k:=5)) (by simp (disch:=(first|exact Rf.mk rfl|with_reducible assumption|omega|((repeat (first|rw [nP]|rw [nS]|rw [M4]))<;>omega)|decide)) only [go_sem,↓reduceIte]) ?_
 rintro r s1 ⟨rfl,f⟩
 have x:=(x.c0 f).box [.int .i64 0,.nils,.nils,.nils,.int .i64 0,.nils] [.int .i64 5,.nils,.nils,.nils,.int .i64 ((O3 T at').pos:Int),.nils]
 generalize (O3 T at').pos=po at *
 refine zY0 ?_
 generalize s1.next=b at *
 generalize (s1.push (.cells [.int .i64 0,.nils,.nils,.nils,.int .i64 0,.nils])).set b (some (.cells [.int .i64 5,.nils,.nils,.nils,.int .i64 (po:Int),.nils]))=s2 at *
 clear f
 refine N4 (a1W x.h a42) (by simp (disch:=(first|exact Rf.mk rfl|with_reducible assumption|omega|((repeat (first|rw [nP]|rw [nS]|rw [M4]))<;>omega)|decide)) only [go_sem,↓reduceIte]) ?_
 rintro r s3 ⟨rfl,f⟩
 rw [t0.yes]
 have x:=x.c0 f
 clear f
 refine zY0 ?_
 refine N4 (b4o x.h t0 t1 t2 t3 t4 h5 hn hw) (by simp (disch:=(first|exact Rf.mk rfl|with_reducible assumption|omega|((repeat (first|rw [nP]|rw [nS]|rw [M4]))<;>omega)|decide)) only [go_sem,↓reduceIte]) ?_
 rintro r s4 ⟨row,H,rfl,hr,f,h',hH⟩
 have x:=x.cn f h' hH
 have ga:=x.get (b:=s.next) (.tail _ (.head _))
 have la:=k4 ga
 have hl:row.length=6:=a5S hr
 have ho:row.all q8=true:=a44 hr
 refine zY (aN ga (aN hl ho)) ?_
 have x:=PX.set (A:=[_]) x row
 exact ⟨row,H,by rw [List.take_of_length_le (by omega)],hr,x.fr,x.h,fun e he=>⟨x.gr e (by simp [he]),x.hp.r e (by simp [he])⟩⟩
theorem b54 (h:S0 s p dL T at' dp) {w:List Nat} {k:Nat} (t0:N3 T at' 0 [112,114,111,99]) (t1:N3 T (at'+1) 0 w) (t2:N3 T (at'+2) 2 [123]) (ts:∀i,i<k->N3 T (at'+3+2*i) 0 [115,107,105,112]/\N3 T (at'+3+2*i+1) 2 [59]) (te:N3 T (at'+3+2*k) 2 [125]) (h4:at'+3+2*k+1<T.length) (hk:k<=100) (hd:dp<=100) (t3:∃kd tx,N3 T (at'+3) kd tx/\tx≠[118,97,114]/\∀c∈tx,c<256) (hw:Eqc vfs 112 [.str (bs w)] (.bool true)) :
 EvP vfs 78 [.ptr p 0] s (a4Y s p dL T (at'+3+2*k+1) dp (.pr w k)):=by
 have x:=PX.start h
 refine V8 (vf:=a25) rfl ?_
 unfold a25;refine zF ?_
 refine zY0 ?_
 have x:=x.push [.int .i64 0,.nils,.nils,.nils,.int .i64 0,.nils]
 refine N4 (a26 x.h (k:=5)) (by simp (disch:=(first|exact Rf.mk rfl|with_reducible assumption|omega|((repeat (first|rw [nP]|rw [nS]|rw [M4]))<;>omega)|decide)) only [go_sem,↓reduceIte]) ?_
 rintro r s1 ⟨rfl,f⟩
 have x:=(x.c0 f).box [.int .i64 0,.nils,.nils,.nils,.int .i64 0,.nils] [.int .i64 5,.nils,.nils,.nils,.int .i64 ((O3 T at').pos:Int),.nils]
 generalize (O3 T at').pos=po at *
 refine zY0 ?_
 generalize s1.next=b at *
 generalize (s1.push (.cells [.int .i64 0,.nils,.nils,.nils,.int .i64 0,.nils])).set b (some (.cells [.int .i64 5,.nils,.nils,.nils,.int .i64 (po:Int),.nils]))=s2 at *
 clear f
 refine N4 (a1W x.h a42) (by simp (disch:=(first|exact Rf.mk rfl|with_reducible assumption|omega|((repeat (first|rw [nP]|rw [nS]|rw [M4]))<;>omega)|decide)) only [go_sem,↓reduceIte]) ?_
 rintro r s3 ⟨rfl,f⟩
 rw [t0.no (by simp) (by simp) (by simp)]
 have x:=x.c0 f
 clear f
 refine zY0 ?_
 refine N4 (a1W x.h a7R) (by simp (disch:=(first|exact Rf.mk rfl|with_reducible assumption|omega|((repeat (first|rw [nP]|rw [nS]|rw [M4]))<;>omega)|decide)) only [go_sem,↓reduceIte]) ?_
 rintro r s4 ⟨rfl,f⟩
 rw [t0.yes]
 have x:=x.c0 f
 clear f
 refine zY0 ?_
 refine N4 (c0z x.h t0 t1 t2 ts te h4 hk hd t3 hw) (by simp (disch:=(first|exact Rf.mk rfl|with_reducible assumption|omega|((repeat (first|rw [nP]|rw [nS]|rw [M4]))<;>omega)|decide)) only [go_sem,↓reduceIte]) ?_
 rintro r s5 ⟨row,H,rfl,hr,f,h',hH⟩
 have x:=x.cn f h' hH
 have ga:=x.get (b:=s.next) (.tail _ (.head _))
 have la:=k4 ga
 have hl:row.length=6:=a5S hr
 have ho:row.all q8=true:=a44 hr
 refine zY (aN ga (aN hl ho)) ?_
 have x:=PX.set (A:=[_]) x row
 exact ⟨row,H,by rw [List.take_of_length_le (by omega)],hr,x.fr,x.h,fun e he=>⟨x.gr e (by simp [he]),x.hp.r e (by simp [he])⟩⟩
def ItT (T:List Tk) (i:Nat) (it:Im) (j:Nat):Prop:=j<T.length/\match it with
 | .ch w k n=>j=i+8/\k<=9/\n<=9/\Eqc vfs 112 [.str (bs w)] (.bool true)/\N3 T i 0 [99,104,97,110]/\N3 T (i+1) 0 w/\N3 T (i+2) 2 [91]/\N3 T (i+3) 1 [48+k]/\N3 T (i+4) 2 [93]/\N3 T (i+5) 0 [111,102]/\N3 T (i+6) 1 [48+n]/\N3 T (i+7) 2 [59]
 | .vr w n=>j=i+5/\n<=9/\Eqc vfs 112 [.str (bs w)] (.bool true)/\N3 T i 0 [118,97,114]/\N3 T (i+1) 0 w/\N3 T (i+2) 0 [111,102]/\N3 T (i+3) 1 [48+n]/\N3 T (i+4) 2 [59]
 | .pr w k=>j=i+3+2*k+1/\k<=9/\Eqc vfs 112 [.str (bs w)] (.bool true)/\N3 T i 0 [112,114,111,99]/\N3 T (i+1) 0 w/\N3 T (i+2) 2 [123]/\(∀q,q<k->N3 T (i+3+2*q) 0 [115,107,105,112]/\N3 T (i+3+2*q+1) 2 [59])/\N3 T (i+3+2*k) 2 [125]
def a4B (T:List Tk):Nat->List Im->Prop
 | i,[]=>N3 T i 3 []
 | i,it::r=>∃j,ItT T i it j/\a4B T j r
theorem b9p (h:S0 s p dL T at' dp) (hd:dp<=100) {it:Im} {j:Nat} (hi:ItT T at' it j):EvP vfs 78 [.ptr p 0] s (a4Y s p dL T j dp it):=by
 obtain ⟨hj,hi⟩:=hi
 cases it with
 | ch w k n =>
   obtain ⟨rfl,hk,hn,hw,t0,t1,t2,t3,t4,t5,t6,t7⟩:=hi
   exact c1z h t0 t1 t2 t3 t4 t5 t6 t7 hj hk hn hw
 | vr w n =>
   obtain ⟨rfl,hn,hw,t0,t1,t2,t3,t4⟩:=hi
   exact b37 h t0 t1 t2 t3 t4 hj hn hw
 | pr w k =>
   obtain ⟨rfl,hk,hw,t0,t1,t2,ts,te⟩:=hi
   refine b54 h t0 t1 t2 ts te hj (by omega) hd ?_ hw
   cases k with
   | zero=>exact ⟨_,_,te,by simp,by simp⟩
   | succ k=>exact ⟨_,_,(ts 0 (by omega)).1,by simp,by simp⟩
theorem ItT.kind {it:Im} {i j:Nat} (h:ItT T i it j):(O3 T i).kind=0:=by
 obtain ⟨_,h⟩:=h
 cases it with
 | ch w k n=>exact h.2.2.2.2.1.kd
 | vr w n=>exact h.2.2.2.1.kd
 | pr w k=>exact h.2.2.2.1.kd
theorem b42 (h:S0 s p dL T at' dp) (hd:dp<=100) {its:List Im} (hi:a4B T at' its) (hn:its.length<=1000) :
 EvP vfs 51 [.ptr p 0] s fun r s'=>∃ (po:Nat) (dl:D) (rws:List (List D)) (El R:Hs) (j:Nat),r=.agg [.int .i64 0,.nils,.nils,.nils,.int .i64 (po:Int),dl]/\Rp dl 6 rws El/\a1U rws its R/\PX s s' p dL T j dp El R:=by
 have x:=PX.start h
 refine V8 (vf:=a7P) rfl ?_
 unfold a7P;refine zF ?_
 refine zY0 ?_
 have x:=x.push [.int .i64 0,.nils,.nils,.nils,.int .i64 0,.nils]
 refine N4 (a26 x.h (k:=0)) (by simp (disch:=(first|exact Rf.mk rfl|with_reducible assumption|omega|((repeat (first|rw [nP]|rw [nS]|rw [M4]))<;>omega)|decide)) only [go_sem,↓reduceIte]) ?_
 rintro r s1 ⟨rfl,f⟩
 have x:=(x.c0 f).box [.int .i64 0,.nils,.nils,.nils,.int .i64 0,.nils] [.int .i64 0,.nils,.nils,.nils,.int .i64 ((O3 T at').pos:Int),.nils]
 generalize (O3 T at').pos=po at *
 refine zY0 ?_
 generalize s1.next=b at *
 generalize (s1.push (.cells [.int .i64 0,.nils,.nils,.nils,.int .i64 0,.nils])).set b (some (.cells [.int .i64 0,.nils,.nils,.nils,.int .i64 (po:Int),.nils]))=s2 at *
 clear f
 refine a6K [0,2,3] (fun f s'=>∃ (dl:D) (rws:List (List D)) (El R:Hs) (j:Nat),Rp dl 6 rws El/\a1U rws its R/\PX s s' p dL T j dp ((b,[.int .i64 0,.nils,.nils,.nils,.int .i64 (po:Int),dl])::(El++[(s.next,[.int .i64 0,.nils,.nils,.nils,.int .i64 0,.nils])])) R) ?_ ?_
 ·refine Y6 [0,2,3] 0 its.length (fun m f s'=>∃ (dl:D) (rws:List (List D)) (El R:Hs) (j:Nat) (dn rm:List Im),its=dn++rm/\dn.length=m/\a4B T j rm/\Rp dl 6 rws El/\a1U rws dn R/\PX s s' p dL T j dp ((b,[.int .i64 0,.nils,.nils,.nils,.int .i64 (po:Int),dl])::(El++[(s.next,[.int .i64 0,.nils,.nils,.nils,.int .i64 0,.nils])])) R) (.mk rfl) (by omega) ⟨.nils,[],[],[],at',[],its,rfl,rfl,hi,.inl ⟨rfl,rfl,rfl⟩,⟨rfl,fun i h=>by simp at h⟩,x⟩ ?_
  clear x
  rintro m f s3 hm ⟨dl,rws,El,R,j,dn,rm,he,hdn,hrm,hr,hrr,x⟩
  refine zY0 ?_
  refine N4 (a2P x.h) (by simp (disch:=(first|exact Rf.mk rfl|with_reducible assumption|omega|((repeat (first|rw [nP]|rw [nS]|rw [M4]))<;>omega)|decide)) only [go_sem,↓reduceIte]) ?_
  rintro r s4 ⟨rfl,rfl⟩
  refine zY0 ?_
  refine N4 (a47 x.h) (by simp (disch:=(first|exact Rf.mk rfl|with_reducible assumption|omega|((repeat (first|rw [nP]|rw [nS]|rw [M4]))<;>omega)|decide)) only [go_sem,↓reduceIte]) ?_
  rintro r s5 ⟨rfl,f'⟩
  have x:=x.c0 f'
  clear f'
  cases rm with
  | nil =>
    have hk:=N3.kd hrm
    rw [hk]
    refine zY0 ?_
    rw [List.append_nil] at he
    subst he
    exact ⟨dl,rws,El,R,j,hr,hrr,x⟩
  | cons it rm =>
    obtain ⟨j2,h1,h2⟩:=hrm
    rw [h1.kind]
    have gb:=x.get (.head _)
    have lb:=k4 gb
    have od:=hr.one
    refine zY (aN gb od) ?_
    refine a2K (W:=[p]) (b9p x.h hd h1) (by simp (disch:=(first|exact Rf.mk rfl|with_reducible assumption|omega|((repeat (first|rw [nP]|rw [nS]|rw [M4]))<;>omega)|decide)) only [go_sem,↓reduceIte]) (fun d s' h=>by obtain ⟨_,_,_,_,h,_⟩:=h;exact h) (x.pair (.head _)) (by decide) ?_
    rintro r s6 ⟨row,H,rfl,hrow,f',h',hH⟩
    have x:=x.cn f' h' hH
    clear f' h' hH gb lb
    have hl:=a5S hrow
    have ho:=a44 hrow
    have hdm:dn.length<its.length:=by rw [he];simp
    have hrn:=hrr.n
    have tk:row.take 6=row:=List.take_of_length_le (by omega)
    refine zY (aN hl (aN ho tk)) ?_
    refine PX.app (A:=[(b,[.int .i64 0,.nils,.nils,.nils,.int .i64 (po:Int),dl])]) (E:=El) (B:=[(s.next,[.int .i64 0,.nils,.nils,.nils,.int .i64 0,.nils])]) x hr hl hrr.len (by decide) (by omega) ?_
    intro id s7 hr7 x
    have gb:=x.get (.head _)
    have lb:=k4 gb
    refine zY gb ?_
    have x:=PX.set (A:=[]) x [.int .i64 0,.nils,.nils,.nils,.int .i64 (po:Int),.arr id 0 (rws.length+1) 6]
    exact ⟨by omega,_,rws++[row],[(id,(rws++[row]).flatten)],H++R,j2,dn++[it],rm,by rw [he];simp,by simp [hdn],h2,hr7,hrr.snoc hrow,x⟩
 clear x
 rintro f s3 ⟨dl,rws,El,R,j,hr,hrr,x⟩
 have gb:=x.get (.head _)
 have lb:=k4 gb
 have ga:=x.get (b:=s.next) (c:=[.int .i64 0,.nils,.nils,.nils,.int .i64 0,.nils]) (.tail _ (List.mem_append_right _ (.head _)))
 have la:=k4 ga
 have od:=hr.one
 refine zY (aN gb (aN ga od)) ?_
 have x:=PX.set (A:=(b,_)::El) (B:=[]) x [.int .i64 0,.nils,.nils,.nils,.int .i64 (po:Int),dl]
 exact ⟨po,dl,rws,El,R,j,rfl,hr,hrr,x.sub (by
  refine List.Sublist.trans ?_ (List.sublist_append_left _ _)
  exact List.sublist_cons_self _ _)⟩
end Go.Proofs.Ytlaeblilmppodaa
namespace Go.Proofs.Ytlaeblilmppodaa
open Go.V
set_option maxRecDepth 100000
set_option maxHeartbeats 8000000
variable {s0 s:i8} {A B E W R:Hs} {d:D} {rows:List (List D)}
theorem a9q {k po:Int} {dw dn dk:D} (hp:Hp s (A++E++B) R) (hr:Rp d 5 rows E) (hrs:∀r∈rows,r.length=5) (hl:rows.length<=1000000) (ow:q8 dw=true) (on:q8 dn=true) (ok:q8 dk=true) :
 EvP vfs 52 [.agg [.int .i64 k,dw,dn,dk,.int .i64 po,.nils],d] s fun r s'=>∃E',Rp r 5 (rows++[[.int .i64 k,dw,dn,dk,.int .i64 po]]) E'/\Hp s' (A++E'++B) R:=by
 have hln:=hr.len
 refine V8 (vf:=a3e) rfl ?_
 unfold a3e;refine zF ?_
 refine zY (aN ow (aN on (aN ok hln))) ?_
 have hp:=hp.pushW [.int .i64 k,dw,dn,dk,.int .i64 po,.nils]
 refine a2n (A:=(s.next,_)::A) (E:=E) (B:=B) hr (by simpa using hp) rfl hrs (by decide) (by omega) ?_
 intro d1 s1 E1 hr1 hp1 hn1
 refine zY0 ?_
 refine Y6 [0,2,4,5] 0 0 (fun j f s'=>f 6=.int .i64 0/\f 1=d1/\s'=s1) (.mk rfl) (by omega) ⟨rfl,rfl,rfl⟩ ?_
 rintro j f s2 hj ⟨h6,h1,rfl⟩
 have gb:=hp1.hd
 refine zY (aN h6 (aN h1 gb)) ?_
 exact ⟨E1,hr1,hp1.sub (by simp) fun _ h=>h⟩
theorem List.take_append_of_length {α:Type} {F L:List α} {n k:Nat} (h:F.length=n):List.take (n+k) (F++L)=F++L.take k:=by
 rw [<- h,List.take_length_add_append]
theorem List.drop_append_of_length {α:Type} {F L:List α} {n k:Nat} (h:F.length=n):List.drop (n+k) (F++L)=L.drop k:=by
 rw [<- h,List.drop_length_add_append]
theorem b84 {rows:List (List D)} (h:∀r∈rows,r.length=5):rows.flatten.length=rows.length*5:=by
 induction rows with
 | nil=>rfl
 | cons a r ih =>
   rw [List.flatten_cons,List.length_append,ih fun x hx=>h x (by simp [hx]),h a (by simp),List.length_cons]
   omega
theorem b7R (qs:List Nat) (i:Nat) (h:i<qs.length):List.take 6 (List.drop (i*6) (qs.map S1).flatten)=S1 qs[i]:=by
 induction qs generalizing i with
 | nil=>simp at h
 | cons a r ih =>
   cases i with
   | zero=>simp [S1]
   | succ i =>
     have e:(i+1)*6=(S1 a).length+i*6:=by simp [S1];omega
     rw [List.map_cons,List.flatten_cons,e,List.drop_length_add_append]
     exact ih i (by simpa using h)
theorem b7T {po:Int} {dw dn dl:D} {El:Hs} {qs:List Nat} (hp:Hp s (A++E++B) R) (hr:Rp d 5 rows E) (hrs:∀r∈rows,r.length=5) (hl:rows.length<=900000) (hq:qs.length<=100) (ow:q8 dw=true) (on:q8 dn=true) (hdl:Rp dl 6 (qs.map S1) El) (hEl:∀e∈El,e∈R) :
 EvP vfs 52 [.agg [.int .i64 3,dw,dn,.nils,.int .i64 po,dl],d] s fun r s'=>∃E' dk Ek,Rp r 5 (rows++[[.int .i64 3,dw,dn,dk,.int .i64 po]]++qs.map a1H) E'/\Rp dk 1 (Y7 ((List.range' (rows.length+1) qs.length).map fun (n:Nat)=>(n:Int))) Ek/\Hp s' (A++E'++(Ek++B)) R:=by
 have hln:=hr.len
 have odl:=hdl.one
 have hll:=hdl.len
 refine V8 (vf:=a3e) rfl ?_
 unfold a3e;refine zF ?_
 refine zY (aN ow (aN on (aN odl hln))) ?_
 have hp:=hp.pushW [.int .i64 3,dw,dn,.nils,.int .i64 po,dl]
 refine a2n (A:=(s.next,_)::A) (E:=E) (B:=B) hr (by simpa using hp) rfl hrs (by decide) (by omega) ?_
 intro d1 s1 E1 hr1 hp1 hn1
 refine zY0 ?_
 clear hp
 generalize s.next=b at *
 refine Y6 [0,2,4,5] 0 qs.length (fun i f s'=>f 6=.int .i64 (i:Int)/\∃E' dk Ek,Rp (f 1) 5 (rows++[[.int .i64 3,dw,dn,dk,.int .i64 po]]++(qs.take i).map a1H) E'/\Rp dk 1 (Y7 ((List.range' (rows.length+1) i).map fun (n:Nat)=>(n:Int))) Ek/\Hp s' ((b,[.int .i64 3,dw,dn,.nils,.int .i64 po,dl])::A++E'++(Ek++B)) R) (.mk rfl) (by omega) ⟨rfl,E1,.nils,[],by simpa [Env.get] using hr1,.inl ⟨rfl,rfl,rfl⟩,by simpa using hp1⟩ ?_
 clear hr1 hp1 hn1
 rintro i f s2 hi ⟨h6,E2,dk,Ek,hr2,hk,hp2⟩
 have gb:=hp2.hd
 have lb:=k4 gb
 by_cases ci:i<qs.length
 rotate_left
 ·obtain rfl:i=qs.length:=by omega
  rw [List.take_length] at hr2
  have hle:¬ qs.length<(qs.map S1).length:=by simp
  refine zY (aN h6 (aN gb (aN odl (aN hll hle)))) ?_
  exact ⟨E2,dk,Ek,hr2,hk,hp2.sub (by simp) fun _ h=>h⟩
 have ci':i<(qs.map S1).length:=by simpa using ci
 rcases hr2 with ⟨_,hr2,_⟩ | ⟨o,ho,rfl,_⟩
 ·simp at hr2
 have hF:=b84 hrs
 have hfl:(rows++[[D.int .i64 3,dw,dn,dk,.int .i64 po]]++(qs.take i).map a1H).flatten=rows.flatten++([D.int .i64 3,dw,dn,dk,.int .i64 po]++((qs.take i).map a1H).flatten):=by simp
 rw [hfl] at hp2
 have hol:(rows++[[D.int .i64 3,dw,dn,dk,.int .i64 po]]++(qs.take i).map a1H).length=rows.length+1+i:=by simp;omega
 rw [hol] at ho
 generalize hFe:rows.flatten=F at *
 generalize hG:((qs.take i).map a1H).flatten=G at *
 have go:s2.get o=some (.cells (F++([D.int .i64 3,dw,dn,dk,.int .i64 po]++G))):=hp2.w (o,_) (by simp)
 have lo:=k4 go
 have okk:=hk.one
 have c1:(rows.length:Int)<((rows.length+1+i:Nat):Int):=by omega
 have c2:rows.length<rows.length+1+i:=by omega
 have g3:(F++([D.int .i64 3,dw,dn,dk,.int .i64 po]++G))[rows.length*5+3]?=some dk:=by
  rw [List.getElem?_append_right (by omega)]
  rw [hF,Nat.add_sub_cancel_left]
  rfl
 simp only [List.cons_append,List.nil_append] at go g3
 refine zY (aN h6 (aN gb (aN odl (aN hll (aN ci (aN ci' (aN ho (aN c1 (aN c2 (aN go (aN g3 okk))))))))))) ?_
 have hil:∃il,dl=.arr il 0 (qs.map S1).length 6/\El=[(il,(qs.map S1).flatten)]:=by
  rcases hdl with ⟨_,h,_⟩ | ⟨il,h1,h2,_⟩
  ·rw [List.map_eq_nil_iff] at h;subst h;simp at ci
  ·exact ⟨il,h1,h2⟩
 obtain ⟨il,rfl,rfl⟩:=hil
 refine a2n (A:=(b,_)::A++[(o,_)]) (E:=Ek) (B:=B) hk (by simpa using hp2) rfl (by intro r hr;obtain ⟨_,_,rfl⟩:=List.mem_map.1 hr;rfl) (by decide) (by simp [Y7];omega) ?_
 intro dk2 s3 Ek2 hk2 hp3 hn3
 have gb:=hp3.w (b,[.int .i64 3,dw,dn,.nils,.int .i64 po,.arr il 0 (qs.map S1).length 6]) (by simp)
 have lb:=k4 gb
 have go:=hp3.w (o,F++D.int .i64 3::dw::dn::dk::D.int .i64 po::G) (by simp)
 have lo:=k4 go
 have gl:=hp3.r (il,(qs.map S1).flatten) (hEl (il,(qs.map S1).flatten) (by simp))
 have ll:=k4 gl
 have ok2:=hk2.one
 have w1:List.take (rows.length*5+3) (F++D.int .i64 3::dw::dn::dk::D.int .i64 po::G)=F++[D.int .i64 3,dw,dn]:=by
  rw [List.take_append_of_length hF]
  rfl
 have w2:List.drop (rows.length*5+4) (F++D.int .i64 3::dw::dn::dk::D.int .i64 po::G)=D.int .i64 po::G:=by
  rw [List.drop_append_of_length hF]
  rfl
 have w3:rows.length*5+3<(F++D.int .i64 3::dw::dn::dk::D.int .i64 po::G).length:=by
  rw [List.length_append,hF]
  simp
 refine zY (aN gb (aN go (aN gl (aN ok2 (aN c1 (aN c2 (aN ci (aN ci' (aN w1 (aN w2 w3)))))))))) ?_
 have hp4:=Hp.set (A:=(b,[D.int .i64 3,dw,dn,.nils,.int .i64 po,.arr il 0 (qs.map S1).length 6])::A) (B:=Ek2++B) (by simpa using hp3) (F++[D.int .i64 3,dw,dn]++[dk2]++D.int .i64 po::G)
 clear gb lb go lo gl ll hp3 hn3 w1 w2 w3 g3 hp2 hfl
 generalize s3.set o (some (.cells (F++[D.int .i64 3,dw,dn]++[dk2]++D.int .i64 po::G)))=s4 at *
 have gb:=hp4.hd
 have lb:=k4 gb
 have gl:=hp4.r (il,(qs.map S1).flatten) (hEl (il,(qs.map S1).flatten) (by simp))
 have ll:=k4 gl
 have d6:=b7R qs i ci
 have f6:=b1Q qs
 have d7:i*6+5<(qs.map S1).flatten.length:=by rw [f6];omega
 refine zY (aN gb (aN gl (aN ci (aN ci' (aN d6 d7))))) ?_
 have hcs:F++[D.int .i64 3,dw,dn]++[dk2]++D.int .i64 po::G=(rows++[[D.int .i64 3,dw,dn,dk2,.int .i64 po]]++(qs.take i).map a1H).flatten:=by
  rw [<- hFe,<- hG]
  simp
 rw [hcs] at hp4
 have hol2:(rows++[[D.int .i64 3,dw,dn,dk2,.int .i64 po]]++(qs.take i).map a1H).length=rows.length+1+i:=by simp;omega
 refine N4 (a9q (A:=(b,[D.int .i64 3,dw,dn,.nils,.int .i64 po,.arr il 0 (qs.map S1).length 6])::A) (E:=[(o,(rows++[[D.int .i64 3,dw,dn,dk2,.int .i64 po]]++(qs.take i).map a1H).flatten)]) (B:=Ek2++B) (rows:=rows++[[D.int .i64 3,dw,dn,dk2,.int .i64 po]]++(qs.take i).map a1H) (by simpa using hp4) (.inr ⟨o,by rw [hol2];rfl,rfl,by simp⟩) ?_ (by rw [hol2];omega) rfl rfl rfl) rfl ?_
 ·intro r hr
  simp only [List.mem_append,List.mem_singleton,List.mem_map] at hr
  rcases hr with (hr | rfl) | ⟨_,_,rfl⟩
  ·exact hrs r hr
  ·rfl
  ·rfl
 rintro r s5 ⟨E5,hr5,hp5⟩
 refine zY0 ?_
 refine ⟨ci,E5,dk2,Ek2,?_,?_,by simpa using hp5⟩
 ·rw [List.take_succ_eq_append_getElem ci,List.map_append,<- List.append_assoc]
  exact hr5
 ·rw [List.range'_concat]
  simpa [Y7,Nat.add_comm,Nat.add_left_comm] using hk2
theorem c2n {row:List D} {H:Hs} {it:Im} (hp:Hp s (A++E++B) R) (hr:Rp d 5 rows E) (hrs:∀r∈rows,r.length=5) (hl:rows.length<=900000) (hq:it.size<=100) (hrow:a2C row H it) (hH:∀e∈H,e∈R) :
 EvP vfs 52 [.agg row,d] s fun r s'=>∃E' Ek rs,Rp r 5 (rows++rs) E'/\a1V (Ek++R) rows.length rs it/\Hp s' (A++E'++(Ek++B)) R:=by
 cases it with
 | ch w k n =>
   obtain ⟨pos,dw,dn,Ew,En,rfl,h1,h2,rfl⟩:=hrow
   refine (a9q hp hr hrs (by omega) h1.one h2.one rfl).mono ?_
   rintro r s' ⟨E',a,b⟩
   exact ⟨E',[],_,a,⟨pos,dw,dn,Ew,En,rfl,h1,h2,hH⟩,b⟩
 | vr w n =>
   obtain ⟨pos,dw,dn,Ew,En,rfl,h1,h2,rfl⟩:=hrow
   refine (a9q hp hr hrs (by omega) h1.one h2.one rfl).mono ?_
   rintro r s' ⟨E',a,b⟩
   exact ⟨E',[],_,a,⟨pos,dw,dn,Ew,En,rfl,h1,h2,hH⟩,b⟩
 | pr w k =>
   obtain ⟨pos,dw,dn,dl,Ew,En,El,qs,rfl,h1,h2,rfl,h3,rfl⟩:=hrow
   simp only [Im.size] at hq
   refine (b7T hp hr hrs hl (by omega) h1.one h2.one h3 fun e he=>hH e (by simp [he])).mono ?_
   rintro r s' ⟨E',dk,Ek,a,b,c⟩
   refine ⟨E',Ek,_,by rw [List.append_assoc] at a;exact a,⟨pos,dw,dn,dk,Ew,En,Ek,qs,rfl,rfl,h1,h2,b,fun e he=>?_⟩,c⟩
   simp only [List.mem_append] at he ⊢
   rcases he with he | he | he
   ·exact .inr (hH e (by simp [he]))
   ·exact .inr (hH e (by simp [he]))
   ·exact .inl he
theorem b3F {rows:List (List D)} (h:∀r∈rows,r.length=6):rows.flatten.length=rows.length*6/\∀i (hi:i<rows.length),List.take 6 (List.drop (i*6) rows.flatten)=rows[i]:=by
 induction rows with
 | nil=>exact ⟨rfl,fun i hi=>by simp at hi⟩
 | cons a r ih =>
   obtain ⟨h1,h2⟩:=ih fun x hx=>h x (by simp [hx])
   have ha:=h a (by simp)
   refine ⟨by rw [List.flatten_cons,List.length_append,h1,ha,List.length_cons];omega,fun i hi=>?_⟩
   rw [List.flatten_cons]
   cases i with
   | zero =>
     rw [Nat.zero_mul,List.drop_zero,List.take_append_of_le_length (by omega),List.take_of_length_le (by omega)]
     rfl
   | succ i =>
     have e:(i+1)*6=a.length+i*6:=by omega
     rw [e,List.drop_length_add_append]
     exact h2 i (by simpa using hi)
theorem b5M {po:Int} {dl:D} {El:Hs} {rws:List (List D)} {its:List Im} (hp:Hp s [] R) (hdl:Rp dl 6 rws El) (hEl:∀e∈El,e∈R) (hrr:a1U rws its R) (hsz:sizes its<=700) (hit:∀it∈its,it.size<=100) (hn:its.length<=700) :
 EvP vfs 52 [.agg [.int .i64 0,.nils,.nils,.nils,.int .i64 po,dl],.nils] s fun r s'=>∃E' Ek Kk dk rss,Rp r 5 ([.int .i64 0,.nils,.nils,dk,.int .i64 po]::rss) E'/\Rp dk 1 (Y7 ((stL 1 its).map fun (n:Nat)=>(n:Int))) Ek/\a0V (Kk++R) 1 rss its/\Hp s' (Ek++E'++Kk) R:=by
 have odl:=hdl.one
 have hll:=hdl.len
 have hrn:=hrr.n
 obtain ⟨f6,d6⟩:=b3F hrr.len
 refine V8 (vf:=a3e) rfl ?_
 unfold a3e;refine zF ?_
 refine zY odl ?_
 have hp:=hp.pushW [.int .i64 0,.nils,.nils,.nils,.int .i64 po,dl]
 refine a2n (A:=[(s.next,_)]) (E:=[]) (B:=[]) (.inl ⟨rfl,rfl,rfl⟩) (by simpa using hp) rfl (by simp) (by decide) (by simp) ?_
 intro d1 s1 E1 hr1 hp1 hn1
 refine zY0 ?_
 clear hp
 generalize s.next=b at *
 refine Y6 [0,2,4,5] 0 its.length (fun i f s'=>f 6=.int .i64 (i:Int)/\∃E' Ek Kk dk rss,Rp (f 1) 5 ([.int .i64 0,.nils,.nils,dk,.int .i64 po]::rss) E'/\Rp dk 1 (Y7 ((stL 1 (its.take i)).map fun (n:Nat)=>(n:Int))) Ek/\a0V (Kk++R) 1 rss (its.take i)/\Hp s' ((b,[.int .i64 0,.nils,.nils,.nils,.int .i64 po,dl])::Ek++E'++Kk) R) (.mk rfl) (by omega) ⟨rfl,E1,[],[],.nils,[],by simpa [Env.get] using hr1,.inl ⟨rfl,by simp [stL,Y7],rfl⟩,by simp [a0V],by simpa using hp1⟩ ?_
 clear hr1 hp1 hn1
 rintro i f s2 hi ⟨h6,E2,Ek,Kk,dk,rss,hr2,hk,hL,hp2⟩
 have gb:=hp2.hd
 have lb:=k4 gb
 by_cases ci:i<its.length
 rotate_left
 ·obtain rfl:i=its.length:=by omega
  rw [List.take_length] at hk hL
  have hle:¬ its.length<rws.length:=by omega
  refine zY (aN h6 (aN gb (aN odl (aN hll hle)))) ?_
  exact ⟨E2,Ek,Kk,dk,rss,hr2,hk,hL,hp2.sub (by simp) fun _ h=>h⟩
 have ci':i<rws.length:=by omega
 have hsl:=hL.len
 have hst:=c2v (its:=its) i
 rcases hr2 with ⟨_,hr2,_⟩ | ⟨o,ho,rfl,_⟩
 ·simp at hr2
 have hfl:([D.int .i64 0,.nils,.nils,dk,.int .i64 po]::rss).flatten=D.int .i64 0::.nils::.nils::dk::.int .i64 po::rss.flatten:=by simp
 rw [hfl] at hp2
 rw [List.length_cons] at ho
 generalize hG:rss.flatten=G at *
 have go:s2.get o=some (.cells (D.int .i64 0::.nils::.nils::dk::.int .i64 po::G)):=hp2.w (o,_) (by simp)
 have lo:=k4 go
 have okk:=hk.one
 have c2:0<rss.length+1:=by omega
 refine zY (aN h6 (aN gb (aN odl (aN hll (aN ci (aN ci' (aN ho (aN c2 (aN go okk))))))))) ?_
 have hil:∃il,dl=.arr il 0 rws.length 6/\El=[(il,rws.flatten)]:=by
  rcases hdl with ⟨_,h,_⟩ | ⟨il,h1,h2,_⟩
  ·subst h;simp at ci'
  ·exact ⟨il,h1,h2⟩
 obtain ⟨il,rfl,rfl⟩:=hil
 refine a2n (A:=[(b,_)]) (E:=Ek) (B:=(o,_)::Kk) hk (by simpa using hp2) rfl (by intro r hr;obtain ⟨_,_,rfl⟩:=List.mem_map.1 hr;rfl) (by decide) (by simp [Y7,a8s];omega) ?_
 intro dk2 s3 Ek2 hk2 hp3 hn3
 have gb:=hp3.w (b,[.int .i64 0,.nils,.nils,.nils,.int .i64 po,.arr il 0 rws.length 6]) (by simp)
 have lb:=k4 gb
 have go:=hp3.w (o,D.int .i64 0::.nils::.nils::dk::.int .i64 po::G) (by simp)
 have lo:=k4 go
 have ok2:=hk2.one
 refine zY (aN gb (aN go (aN ok2 c2))) ?_
 have hp4:=Hp.set (A:=(b,[.int .i64 0,.nils,.nils,.nils,.int .i64 po,.arr il 0 rws.length 6])::Ek2) (B:=Kk) (by simpa using hp3) (D.int .i64 0::.nils::.nils::dk2::.int .i64 po::G)
 clear gb lb go lo hp3 hn3 hp2 hfl
 generalize s3.set o (some (.cells (D.int .i64 0::.nils::.nils::dk2::.int .i64 po::G)))=s4 at *
 have gb:=hp4.hd
 have lb:=k4 gb
 have gl:=hp4.r (il,rws.flatten) (hEl (il,rws.flatten) (by simp))
 have ll:=k4 gl
 have d7:i*6+5<rws.flatten.length:=by rw [f6];omega
 have d6:=d6 i ci'
 obtain ⟨H,hrow,hH⟩:=hrr.r i ci' ci
 have ho6:=a44 hrow
 refine zY (aN gb (aN gl (aN ci (aN ci' (aN d6 (aN d7 ho6)))))) ?_
 have hcs:D.int .i64 0::.nils::.nils::dk2::.int .i64 po::G=([.int .i64 0,.nils,.nils,dk2,.int .i64 po]::rss).flatten:=by rw [<- hG];rfl
 rw [hcs] at hp4
 refine N4 (c2n (A:=(b,[.int .i64 0,.nils,.nils,.nils,.int .i64 po,.arr il 0 rws.length 6])::Ek2) (E:=[(o,([D.int .i64 0,.nils,.nils,dk2,.int .i64 po]::rss).flatten)]) (B:=Kk) (rows:=[.int .i64 0,.nils,.nils,dk2,.int .i64 po]::rss) (by simpa using hp4) (.inr ⟨o,rfl,rfl,by simp⟩) ?_ (by simp;omega) (hit _ (List.getElem_mem ci)) hrow hH) rfl ?_
 ·intro r hr
  rcases List.mem_cons.1 hr with rfl | hr
  ·rfl
  ·exact hsl.2 r hr
 rintro r s5 ⟨E5,Ek5,rs,hr5,hL5,hp5⟩
 refine zY0 ?_
 have etk:its.take (i+1)=its.take i++[its[i]]:=List.take_succ_eq_append_getElem ci
 have eln:rss.length+1=1+sizes (its.take i):=by omega
 refine ⟨ci,E5,Ek2,Ek5++Kk,dk2,rss++rs,by simpa using hr5,?_,?_,by simpa using hp5⟩
 ·rw [etk,b0G,<- eln]
  simpa [Y7] using hk2
 ·rw [etk]
  refine a0V.snoc (hL.mono fun e he=>?_) ?_
  ·simp only [List.mem_append] at he ⊢
   rcases he with h | h
   ·exact .inl (.inr h)
   ·exact .inr h
  ·rw [<- eln]
   refine a1V.mono (by simpa using hL5) fun e he=>?_
   simp only [List.mem_append] at he ⊢
   rcases he with h | h
   ·exact .inl (.inl h)
   ·exact .inr h
end Go.Proofs.Ytlaeblilmppodaa
namespace Go.V
structure ChN (x:Nd) (w:List Nat) (k n:Nat):Prop where
 kind:x.kind=1
 words:x.words=[bs w]
 nums:x.nums=[(k:Int),(n:Int),0,0]
 kids:x.kids=[]
structure VrN (x:Nd) (w:List Nat) (n:Nat):Prop where
 kind:x.kind=2
 words:x.words=[bs w]
 nums:x.nums=[(n:Int),0]
 kids:x.kids=[]
structure PrN (x:Nd) (w:List Nat) (b k:Nat):Prop where
 kind:x.kind=3
 words:x.words=[bs w]
 nums:x.nums=[1]
 kids:x.kids=(List.range' (b+1) k).map fun (n:Nat)=>(n:Int)
structure SkN (x:Nd):Prop where
 kind:x.kind=14
 words:x.words=[]
 nums:x.nums=[]
 kids:x.kids=[]
def ItN (t:List Nd) (b:Nat):Im->Prop
 | .ch w k n=>ChN (nd t b) w k n
 | .vr w n=>VrN (nd t b) w n
 | .pr w k=>PrN (nd t b) w b k/\∀j,b<j->j<b+1+k->SkN (nd t j)
def AtI (t:List Nd):Nat->List Im->Prop
 | b,[]=>b=t.length
 | b,it::r=>ItN t b it/\AtI t (b+it.size) r
structure TI (t:List Nd) (its:List Im):Prop where
 kind:(nd t 0).kind=0
 words:(nd t 0).words=[]
 nums:(nd t 0).nums=[]
 kids:(nd t 0).kids=(stL 1 its).map fun (n:Nat)=>(n:Int)
 its:AtI t 1 its
def Im.name:Im->List Nat
 | .ch w _ _=>w
 | .vr w _=>w
 | .pr w _=>w
def Im.tag:Im->Int
 | .ch _ _ _=>1
 | .vr _ _=>2
 | .pr _ _=>3
theorem Im.size_pos (it:Im):1<=it.size:=by cases it<;>simp [Im.size]
theorem Im.tag_in (it:Im):1<=it.tag/\it.tag<=3:=by cases it<;>simp [Im.tag]
theorem ItN.head {t:List Nd} {b:Nat} {it:Im} (h:ItN t b it):(nd t b).kind=it.tag/\(nd t b).words=[bs it.name]:=by
 cases it with
 | ch w k n=>exact ⟨ChN.kind h,ChN.words h⟩
 | vr w n=>exact ⟨VrN.kind h,VrN.words h⟩
 | pr w k=>exact ⟨h.1.kind,h.1.words⟩
theorem AtI.le {t:List Nd}:∀ {its:List Im} {b:Nat},AtI t b its->b+sizes its=t.length
 | [],b,h=>by
   have h:b=t.length:=h
   simpa [sizes] using h
 | it::r,b,h=>by
   have:=h.2.le
   simp only [sizes,List.map_cons,List.sum_cons] at this ⊢
   omega
theorem AtI.node {t:List Nd}:∀ {its:List Im} {b:Nat},AtI t b its->∀i,b<=i->i<t.length->(∃a,∃h:a<its.length,i=b+sizes (its.take a)/\ItN t i its[a])∨SkN (nd t i)
 | [],b,h,i,h1,h2=>by
   have h:b=t.length:=h
   omega
 | it::r,b,h,i,h1,h2=>by
   obtain ⟨ha,hr⟩:=h
   by_cases c:i=b
   ·subst c
    exact .inl ⟨0,by simp,by simp [sizes],ha⟩
   by_cases c2:i<b+it.size
   ·cases it with
    | ch w k n=>simp only [Im.size] at c2;omega
    | vr w n=>simp only [Im.size] at c2;omega
    | pr w k =>
      simp only [Im.size] at c2
      exact .inr (ha.2 i (by omega) (by omega))
   ·rcases hr.node i (by omega) h2 with ⟨a,ha,e,hi⟩ | h
    ·refine .inl ⟨a+1,by simpa using ha,?_,hi⟩
     rw [List.take_succ_cons]
     simp only [sizes,List.map_cons,List.sum_cons] at e ⊢
     omega
    ·exact .inr h
theorem AtI.start {t:List Nd}:∀ {its:List Im} {b:Nat},AtI t b its->∀k∈stL b its,∃it∈its,b<=k/\k+it.size<=t.length/\ItN t k it
 | [],b,h,k,hk=>by simp [stL] at hk
 | it::r,b,h,k,hk=>by
   obtain ⟨ha,hr⟩:=h
   have hl:=hr.le
   rcases List.mem_cons.1 hk with rfl | hk
   ·exact ⟨it,by simp,Nat.le_refl _,by omega,ha⟩
   ·obtain ⟨it2,h1,h2,h3,h4⟩:=hr.start k hk
    exact ⟨it2,by simp [h1],by omega,h3,h4⟩
theorem a6j {x:Nd} {l:List Nat} (h:x.kids=l.map fun (n:Nat)=>(n:Int)):x.ks=l:=by
 unfold Nd.ks
 rw [h,List.map_map]
 have:(Int.toNat ∘ fun (n:Nat)=>(n:Int))=id:=by funext n;simp
 rw [this,List.map_id]
theorem a9c {t:List Nd} {a:Nat} (h:(nd t a).kids=[]) (ha:a<t.length):Sub t a (a+1):=a6g (by rw [h];exact rfl) (by omega)
theorem b3n {t:List Nd}:∀ (k a:Nat),(∀j,a<=j->j<a+k->(nd t j).kids=[])->a+k<=t.length->W6 t ((List.range' a k).map fun (n:Nat)=>(n:Int)) a (a+k)
 | 0,a,_,_=>rfl
 | k+1,a,h,hl=>by
   rw [List.range'_succ,List.map_cons]
   refine ⟨rfl,a+1,a9c (h a (by omega) (by omega)) (by omega),?_⟩
   have:=b3n k (a+1) (fun j h1 h2=>h j (by omega) (by omega)) (by omega)
   rwa [show a+1+k=a+(k+1) by omega] at this
theorem ItN.sub {t:List Nd} {b:Nat} {it:Im} (h:ItN t b it) (hl:b+it.size<=t.length):Sub t b (b+it.size):=by
 cases it with
 | ch w k n=>exact a9c (ChN.kids h) hl
 | vr w n=>exact a9c (VrN.kids h) hl
 | pr w k =>
   simp only [Im.size] at hl ⊢
   refine a6g ?_ hl
   rw [h.1.kids]
   have:=b3n (t:=t) k (b+1) (fun j h1 h2=>(h.2 j (by omega) (by omega)).kids) (by omega)
   rwa [show b+1+k=b+(k+1) by omega] at this
theorem AtI.subs {t:List Nd}:∀ {its:List Im} {b:Nat},AtI t b its->W6 t ((stL b its).map fun (n:Nat)=>(n:Int)) b t.length
 | [],b,h=>h
 | it::r,b,h=>by
   have:=h.2.le
   exact ⟨rfl,_,h.1.sub (by omega),h.2.subs⟩
theorem a7z {t:List Nd} {f a:Nat} (h:(nd t a).kids=[]):U7 t (f+1) a=(a+1,true):=by
 unfold U7
 rw [h]
 rfl
theorem b0F {t:List Nd} {f:Nat}:∀ (k a:Nat),(∀j,a<=j->j<a+k->(nd t j).kids=[])->a+k<=t.length->a1C (U7 t (f+1)) t.length ((List.range' a k).map fun (n:Nat)=>(n:Int)) a=(a+k,true)
 | 0,a,_,_=>rfl
 | k+1,a,h,hl=>by
   rw [List.range'_succ,List.map_cons,a1C,if_neg (by omega),a7z (h a (by omega) (by omega)),if_pos rfl]
   have:=b0F (f:=f) k (a+1) (fun j h1 h2=>h j (by omega) (by omega)) (by omega)
   rwa [show a+1+k=a+(k+1) by omega] at this
theorem ItN.walk {t:List Nd} {b f:Nat} {it:Im} (h:ItN t b it) (hl:b+it.size<=t.length):U7 t (f+2) b=(b+it.size,true):=by
 cases it with
 | ch w k n=>exact a7z (ChN.kids h)
 | vr w n=>exact a7z (VrN.kids h)
 | pr w k =>
   simp only [Im.size] at hl ⊢
   unfold U7
   rw [h.1.kids]
   have:=b0F (t:=t) (f:=f) k (b+1) (fun j h1 h2=>(h.2 j (by omega) (by omega)).kids) (by omega)
   rwa [show b+1+k=b+(k+1) by omega] at this
theorem AtI.walk {t:List Nd} {f:Nat}:∀ {its:List Im} {b:Nat},AtI t b its->a1C (U7 t (f+2)) t.length ((stL b its).map fun (n:Nat)=>(n:Int)) b=(t.length,true)
 | [],b,h=>by
   have h:b=t.length:=h
   subst h;rfl
 | it::r,b,h=>by
   have:=h.2.le
   have:=it.size_pos
   rw [stL,List.map_cons,a1C,if_neg (by omega),h.1.walk (by omega),if_pos rfl]
   exact h.2.walk
theorem a8p {t:List Nd} {x:Nd} (hk:x.kind=1∨x.kind=2∨x.kind=14) (hw:x.words.length=b28 x.kind) (hn:x.nums.length=b1g x.kind) (kd:x.kids=[]) (h1:x.kind=1->0<=x.num 0/\0<=x.num 1/\0<=x.num 2/\x.num 2<=1/\0<=x.num 3/\x.num 3<=1) (h2:x.kind=2->-999999<=x.num 1/\x.num 1<=999999):a5T t x:=by
 refine ⟨by omega,hw,hn,?_,h1,h2,?_,?_,?_,fun _=>kd,?_,?_,?_,?_,?_,?_,?_,?_⟩<;>intro h<;>omega
theorem ItN.ok {t:List Nd} {b:Nat} {it:Im} (h:ItN t b it):a5T t (nd t b):=by
 cases it with
 | ch w k n =>
   have hk:=ChN.kind h
   have hn:=ChN.nums h
   refine a8p (.inl hk) (by rw [hk,ChN.words h];rfl) (by rw [hk,hn];rfl) (ChN.kids h) (fun _=>?_) fun e=>by omega
   unfold Nd.num
   rw [hn]
   simp
 | vr w n =>
   have hk:=VrN.kind h
   have hn:=VrN.nums h
   refine a8p (.inr (.inl hk)) (by rw [hk,VrN.words h];rfl) (by rw [hk,hn];rfl) (VrN.kids h) (fun e=>by omega) fun _=>?_
   unfold Nd.num
   rw [hn]
   simp
 | pr w k =>
   obtain ⟨h,hs⟩:=h
   have hk:=h.kind
   have hn:=h.nums
   have hks:=a6j h.kids
   have n0:(nd t b).num 0=1:=by unfold Nd.num;rw [hn];rfl
   refine ⟨by omega,by rw [hk,h.words];rfl,by rw [hk,hn];rfl,?_,?_,?_,fun _=>⟨0,by omega,by simp,?_⟩,?_,?_,?_,?_,?_,?_,?_,?_,?_,?_,?_⟩
   rotate_left 3
   ·rw [hks,List.drop_zero]
    intro q hq
    rw [List.mem_range'_1] at hq
    have:=(hs q (by omega) (by omega)).kind
    unfold a10;omega
   all_goals intro e
   all_goals omega
theorem SkN.ok {t:List Nd} {x:Nd} (h:SkN x):a5T t x :=
 a8p (.inr (.inr h.kind)) (by rw [h.kind,h.words];rfl) (by rw [h.kind,h.nums];rfl) h.kids (fun e=>by have:=h.kind;omega) fun e=>by have:=h.kind;omega
theorem TI.pos {t:List Nd} {its:List Im} (h:TI t its):0<t.length:=by have:=h.its.le;omega
theorem TI.right {t:List Nd} {its:List Im} (h:TI t its) (hl:t.length<=800):M8 t:=by
 have hp:=h.pos
 have hall:∀i,i<t.length->i≠0->(∃it∈its,ItN t i it)∨SkN (nd t i):=fun i h1 h2=>by
  rcases h.its.node i (by omega) h1 with ⟨a,ha,_,hi⟩ | hs
  ·exact .inl ⟨_,List.getElem_mem ha,hi⟩
  ·exact .inr hs
 have hsub:=h.its.subs
 rw [<- h.kids] at hsub
 have hwalk:=h.its.walk (f:=17)
 rw [<- h.kids] at hwalk
 refine ⟨⟨hp,hl,h.kind,?_,?_⟩,hsub,?_⟩
 ·intro i hi k hk
  exact (a6g hsub (Nat.le_refl _)).down i (by omega) hi k hk
 ·intro i hi
  by_cases c:i=0
  ·subst c
   have hk:=h.kind
   refine ⟨by omega,by rw [hk,h.words];rfl,by rw [hk,h.nums];rfl,fun _=>?_,?_,?_,?_,?_,?_,?_,?_,?_,?_,?_,?_,?_,?_,?_⟩
   ·rw [a6j h.kids]
    intro k hk
    obtain ⟨it,_,_,_,hi⟩:=h.its.start k hk
    have:=it.tag_in
    rw [hi.head.1]
    omega
   all_goals intro e
   all_goals omega
  ·rcases hall i hi c with ⟨it,_,h⟩ | h
   ·exact h.ok
   ·exact h.ok
 ·exact hwalk
theorem TI.once {t:List Nd} {its:List Im} (h:TI t its) (hn:(its.map fun it=>bs it.name).Nodup) {k:Int} (hk:1<=k/\k<=3) {i:Nat} (hi:i<t.length) (hi3:1<=(nd t i).kind/\(nd t i).kind<=3):¬ a0p t k i ((nd t i).word 0):=by
 rintro ⟨j,h1,h2,_,h4⟩
 have hf:∀z,z<t.length->1<=(nd t z).kind->(nd t z).kind<=3->∃a,∃h:a<its.length,z=1+sizes (its.take a)/\(nd t z).word 0=(its.map fun it=>bs it.name)[a]'(by simpa using h):=by
  intro z hz z1 z2
  have hz0:z≠0:=by rintro rfl;have:=h.kind;omega
  rcases h.its.node z (by omega) hz with ⟨a,ha,e,hI⟩ | hs
  ·refine ⟨a,ha,e,?_⟩
   unfold Nd.word
   rw [hI.head.2]
   simp
  ·have:=hs.kind;omega
 obtain ⟨a,ha,e1,w1⟩:=hf i hi hi3.1 hi3.2
 obtain ⟨b,hb,e2,w2⟩:=hf j (by omega) (by omega) (by omega)
 rw [w1,w2] at h4
 have:=(List.getElem_inj hn).1 h4
 subst this
 omega
def a0R (t:List Nd) (k:Int) (n:Nat):Nat:=(t.take n).countP fun x=>x.kind==k
theorem a5H {t:List Nd} {k:Int} {n:Nat} (h:n<t.length):a0R t k (n+1)=a0R t k n+if (nd t n).kind=k then 1 else 0:=by
 unfold a0R
 rw [List.take_succ_eq_append_getElem h,List.countP_append,a9e h]
 simp [List.countP_cons]
theorem b09 {t:List Nd} (h3:∀i,i<t.length->(nd t i).kind=3->(nd t i).num 0=1) (hR:M8 t) {k:Int}:∀ {n:Nat},n<=t.length->O0 t k n<=(a0R t k n:Int)
 | 0,_=>by simp [O0,a0R]
 | n+1,hn=>by
   have ih:=b09 h3 hR (k:=k) (n:=n) (by omega)
   have hc:a1l t n=1:=by
    unfold a1l
    have:=a76 hR (i:=n) (by omega)
    split
    ·exact h3 _ (by omega) (by assumption)
    ·rfl
   have hs:a0K t k n=1:=by
    unfold a0K
    rw [hc]
    split<;>rfl
   rw [a5H (by omega),O0]
   split
   ·rename_i c
    rw [if_pos c.2,hs]
    omega
   ·split<;>omega
theorem c1m {t:List Nd} {k:Int} {n:Nat}:a0R t k n<=a0R t k t.length:=by
 unfold a0R
 rw [List.take_length]
 exact (List.take_sublist n t).countP_le
theorem b3E {t:List Nd} {k:Int} (hk:k<=3):∀ (m b:Nat),(∀j,b<=j->j<b+m->SkN (nd t j))->b+m<=t.length->a0R t k (b+m)=a0R t k b
 | 0,b,_,_=>rfl
 | m+1,b,h,hl=>by
   have e:b+(m+1)=(b+m)+1:=by omega
   have:=(h (b+m) (by omega) (by omega)).kind
   rw [e,a5H (by omega),if_neg (by omega),Nat.add_zero]
   exact b3E hk m b (fun j h1 h2=>h j h1 (by omega)) (by omega)
theorem AtI.cnt {t:List Nd} {k:Int} (hk:k<=3):∀ {its:List Im} {b:Nat},AtI t b its->a0R t k t.length=a0R t k b+its.countP fun it=>it.tag==k
 | [],b,h=>by
   have h:b=t.length:=h
   subst h;simp
 | it::r,b,h=>by
   have hl:=h.2.le
   have hp:=it.size_pos
   have ih:=h.2.cnt hk
   have hh:=h.1.head.1
   rw [ih,List.countP_cons]
   have h1:a0R t k (b+it.size)=a0R t k (b+1):=by
    cases it with
    | ch w k n=>rfl
    | vr w n=>rfl
    | pr w m =>
      simp only [Im.size] at hl ⊢
      rw [show b+(m+1)=b+1+m by omega]
      exact b3E hk m (b+1) (fun j h1 h2=>h.1.2 j (by omega) (by omega)) (by omega)
   rw [h1,a5H (by omega),hh]
   simp only [beq_iff_eq]
   omega
structure a6o (its:List Im):Prop where
 ch:∀w k n,Im.ch w k n∈its->1<=k/\k<=3/\1<=n/\n<=8
 vr:∀w n,Im.vr w n∈its->1<=n/\n<=8
 n1:(its.countP fun it=>it.tag==1)<=3
 n2:(its.countP fun it=>it.tag==2)<=8
 n3:(its.countP fun it=>it.tag==3)<=4
 nm:(its.map fun it=>bs it.name).Nodup
theorem TI.fine {t:List Nd} {its:List Im} (h:TI t its) (hl:t.length<=800) (ho:a6o its) {i:Nat} (hi:i<t.length):a1Z t i:=by
 have hR:=h.right hl
 have h3:∀i,i<t.length->(nd t i).kind=3->(nd t i).num 0=1:=by
  intro i hi h3
  have h0:i≠0:=by rintro rfl;have:=h.kind;omega
  rcases h.its.node i (by omega) hi with ⟨a,ha,_,hI⟩ | hs
  ·have ht:=hI.head.1
   generalize its[a]=it at *
   cases it with
   | ch w k n=>simp only [Im.tag] at ht;omega
   | vr w n=>simp only [Im.tag] at ht;omega
   | pr w m=>unfold Nd.num;rw [hI.1.nums];rfl
  ·have:=hs.kind;omega
 have hc:∀k:Int,k<=3->k≠0->O0 t k (i+1)<=((its.countP fun it=>it.tag==k):Nat):=by
  intro k hk h0
  have a1:=b09 h3 hR (k:=k) (n:=i+1) (by omega)
  have a2:=c1m (t:=t) (k:=k) (n:=i+1)
  have a3:=h.its.cnt hk
  have a4:a0R t k 1=0:=by
   rw [show 1=0+1 from rfl,a5H h.pos,h.kind,if_neg (by omega)]
   simp [a0R]
  omega
 have c1:=hc 1 (by omega) (by omega)
 have c2:=hc 2 (by omega) (by omega)
 have c3:=hc 3 (by omega) (by omega)
 have n1:=ho.n1
 have n2:=ho.n2
 have n3:=ho.n3
 by_cases h0:i=0
 ·subst h0
  have:=h.kind
  exact ⟨fun e=>by omega,fun e=>by omega,fun e=>by omega,fun e=>by omega⟩
 rcases h.its.node i (by omega) hi with ⟨a,ha,_,hI⟩ | hs
 ·have hm:=List.getElem_mem ha
  generalize its[a]=it at *
  cases it with
  | ch w k n =>
    have hk:=ChN.kind hI
    have:=ho.ch w k n hm
    refine ⟨fun _=>?_,fun e=>by omega,fun e=>by omega,fun e=>by omega⟩
    have e0:(nd t i).num 0=k:=by unfold Nd.num;rw [ChN.nums hI];rfl
    have e1:(nd t i).num 1=n:=by unfold Nd.num;rw [ChN.nums hI];rfl
    omega
  | vr w n =>
    have hk:=VrN.kind hI
    have:=ho.vr w n hm
    refine ⟨fun e=>by omega,fun _=>?_,fun e=>by omega,fun e=>by omega⟩
    have e0:(nd t i).num 0=n:=by unfold Nd.num;rw [VrN.nums hI];rfl
    have e1:(nd t i).num 1=0:=by unfold Nd.num;rw [VrN.nums hI];rfl
    rw [e1,c1q (by omega)]
    exact ⟨by omega,by omega,rfl,by omega⟩
  | pr w m =>
    have hk:=hI.1.kind
    refine ⟨fun e=>by omega,fun e=>by omega,fun _=>?_,fun e=>by omega⟩
    have:=h3 i hi hk
    omega
 ·have:=hs.kind
  exact ⟨fun e=>by omega,fun e=>by omega,fun e=>by omega,fun e=>by omega⟩
def chI:Im->List Ch
 | .ch w k n=>[⟨bs w,k,n,false,false⟩]
 | _=>[]
def vrI:Im->List Vr
 | .vr w n=>[⟨bs w,n,0⟩]
 | _=>[]
theorem AtI.pass1 {t:List Nd}:∀ {its:List Im} {b:Nat} (a:Ga),AtI t b its->(stL b its).foldl (one1 t) a=⟨a.ch++its.flatMap chI,a.vs++its.flatMap vrI,a.sf,a.dead⟩
 | [],b,a,h=>by simp [stL]
 | it::r,b,a,h=>by
   rw [stL,List.foldl_cons,h.2.pass1]
   cases it with
   | ch w k n =>
     have hk:(nd t b).kind=1:=ChN.kind h.1
     have e:a2R (nd t b)=⟨bs w,k,n,false,false⟩:=by
      unfold a2R Nd.word Nd.num
      rw [ChN.words h.1,ChN.nums h.1]
      rfl
     rw [one1,if_pos hk,e]
     simp [chI,vrI]
   | vr w n =>
     have hk:(nd t b).kind=2:=VrN.kind h.1
     have e:a08 (nd t b)=⟨bs w,n,0⟩:=by
      unfold a08 Nd.word Nd.num
      rw [VrN.words h.1,VrN.nums h.1]
      rfl
     rw [one1,if_neg (by omega),if_pos hk,e]
     simp [chI,vrI]
   | pr w m =>
     have hk:(nd t b).kind=3:=h.1.1.kind
     rw [one1,if_neg (by omega),if_neg (by omega),if_neg (by omega),if_neg (by omega)]
     simp [chI,vrI]
theorem b1U {t:List Nd} {ch:List ByteArray} {f:Nat} {p:Pr} {k frm to:Nat} (h:SkN (nd t k)):(y0 t ch (f+1) p k frm to).places=p.places:=by
 have hk:=h.kind
 unfold y0
 simp only [hk]
 rfl
theorem b0v {t:List Nd} {ch:List ByteArray} {f node:Nat}:∀ (ks:List Nat) (p:Pr) (frm to:Nat),(∀k∈ks,SkN (nd t k))->(a1b (y0 t ch (f+1)) node p ks frm to).places=p.places+(ks.length-1)
 | [],p,frm,to,_=>rfl
 | [k],p,frm,to,h=>by
   rw [a1b,b1U (h k (by simp))]
   simp
 | k::k'::ks,p,frm,to,h=>by
   rw [a1b,b0v (k'::ks) _ _ _ (fun q hq=>h q (by simp at hq ⊢;exact .inr hq)),b1U (h k (by simp))]
   simp only [Pr.place,List.length_cons]
   omega
theorem b7U {t:List Nd} {ch:List ByteArray} {k seen c m:Nat} {w:List Nat} {vs:List Vr} (h:ItN t k (.pr w m)):(a2p t ch k seen c vs).places=max (m+1) 2/\T8 t (nd t k)=[]:=by
 obtain ⟨h,hs⟩:=h
 have hks:=a6j h.kids
 have hl:N5 t (nd t k)=0:=by
  unfold N5
  rw [hks]
  cases m with
  | zero=>rfl
  | succ m =>
    have:=(hs (k+1) (by omega) (by omega)).kind
    rw [List.range'_succ,List.takeWhile_cons_of_neg (by simp [this])]
    rfl
 have hloc:T8 t (nd t k)=[]:=by unfold T8;rw [hl];rfl
 refine ⟨?_,hloc⟩
 unfold a2p
 rw [hl,List.drop_zero,hloc,hks,b0v]
 ·simp only [pr0,List.length_range']
  omega
 ·intro q hq
  rw [List.mem_range'_1] at hq
  exact hs q (by omega) (by omega)
def plI:Im->List Nat
 | .pr _ m=>[max (m+1) 2]
 | _=>[]
theorem AtI.pass2 {t:List Nd} {ch:List ByteArray}:∀ {its:List Im} {b:Nat} (a:Gb),AtI t b its->((stL b its).foldl (Z0 t ch) a).vs=a.vs/\((stL b its).foldl (Z0 t ch) a).ps.map Pr.places=a.ps.map Pr.places++its.flatMap plI
 | [],b,a,h=>by simp [stL]
 | it::r,b,a,h=>by
   obtain ⟨h1,h2⟩:=h.2.pass2 (ch:=ch) (Z0 t ch a b)
   rw [stL,List.foldl_cons,h1,h2]
   cases it with
   | ch w k n =>
     have hk:(nd t b).kind=1:=ChN.kind h.1
     rw [Z0,if_neg (by omega),if_neg (by omega)]
     simp [plI]
   | vr w n =>
     have hk:(nd t b).kind=2:=VrN.kind h.1
     rw [Z0,if_neg (by omega),if_pos hk]
     simp [plI]
   | pr w m =>
     have hk:(nd t b).kind=3:=h.1.1.kind
     have n0:(nd t b).num 0=1:=by unfold Nd.num;rw [h.1.1.nums];rfl
     have hp:=b7U (ch:=ch) (seen:=a.seen) (c:=0) (vs:=a.vs) h.1
     rw [Z0,if_pos hk,n0]
     have e1:(1:Int).toNat=1:=rfl
     rw [e1]
     simp only [U0,hp.2]
     simp [plI,hp.1]
def W2:Im->Nat
 | .ch _ k n=>2+k*n
 | .vr _ n=>n
 | .pr _ m=>wid ((max (m+1) 2:Nat):Int)
theorem b3M {α:Type} (f:α->Nat) (a:α) (l:List α):szL f (a::l)=f a+szL f l:=by simp [szL]
theorem a1y {α:Type} (f:α->Nat) (a b:List α):szL f (a++b)=szL f a+szL f b:=by simp [szL]
theorem c2b {α β:Type} (f:β->Nat) (g:α->β) (l:List α):szL f (l.map g)=szL (fun a=>f (g a)) l:=by simp [szL,Function.comp_def]
theorem b30 (its:List Im):szL (fun n:Nat=>wid (n:Int)) (its.flatMap plI)+szL (fun v:Vr=>v.width.toNat) (its.flatMap vrI)+szL (fun c:Ch=>2+c.room.toNat*c.width.toNat) (its.flatMap chI)=szL W2 its:=by
 induction its with
 | nil=>rfl
 | cons a r ih =>
   simp only [List.flatMap_cons,a1y,b3M]
   cases a with
   | ch w k n=>simp [plI,vrI,chI,W2,szL] at ih ⊢;omega
   | vr w n=>simp [plI,vrI,chI,W2,szL] at ih ⊢;omega
   | pr w m=>simp [plI,vrI,chI,W2,szL] at ih ⊢;omega
theorem TI.bits {t:List Nd} {its:List Im} (h:TI t its):(a3b t).nbits=szL W2 its+3:=by
 have hks:=a6j h.kids
 have h1:=h.its.pass1 ⟨[],[],[],false⟩
 have hg:gat t=⟨its.flatMap chI,its.flatMap vrI,[],false⟩:=by
  unfold gat Go.V.pass1
  rw [hks,h1]
  simp
 have h2:=h.its.pass2 (ch:=chs t) ⟨0,(gat t).vs,[]⟩
 have e1:(gbt t).vs=its.flatMap vrI:=by
  unfold gbt Go.V.pass2
  rw [hks,h2.1,hg]
 have e2:(gbt t).ps.map Pr.places=its.flatMap plI:=by
  unfold gbt Go.V.pass2
  rw [hks,h2.2]
  simp
 have hb:=b30 its
 unfold Mo.nbits a3b
 simp only [hg,e1]
 have e3:szL (fun p:Pr=>wid (p.places:Int)) (gbt t).ps=szL (fun n:Nat=>wid (n:Int)) ((gbt t).ps.map Pr.places):=(c2b (fun n:Nat=>wid (n:Int)) Pr.places _).symm
 rw [e3,e2]
 omega
end Go.V
namespace Go.V
def ItL (base:Nat) (ns:List Nd):Im->Prop
 | .ch w k n=>∃x,ns=[x]/\ChN x w k n
 | .vr w n=>∃x,ns=[x]/\VrN x w n
 | .pr w k=>∃x ys,ns=x::ys/\PrN x w base k/\ys.length=k/\∀y∈ys,SkN y
theorem ItL.len {base:Nat} {ns:List Nd} {it:Im} (h:ItL base ns it):ns.length=it.size:=by
 cases it with
 | ch w k n=>obtain ⟨x,rfl,_⟩:=h;rfl
 | vr w n=>obtain ⟨x,rfl,_⟩:=h;rfl
 | pr w k=>obtain ⟨x,ys,rfl,_,h,_⟩:=h;simp [Im.size,h]
def a4S:Nat->List Nd->List Im->Prop
 | _,ns,[]=>ns=[]
 | base,ns,it::r=>∃a b,ns=a++b/\ItL base a it/\a4S (base+it.size) b r
theorem b1z {pre ns:List Nd} {i:Nat} (h:i<ns.length):nd (pre++ns) (pre.length+i)=ns[i]:=by
 unfold nd List.getD
 rw [List.getElem?_append_right (by omega),Nat.add_sub_cancel_left,List.getElem?_eq_getElem h]
 rfl
theorem a75 {pre:List Nd} {x:Nd} {r:List Nd}:nd (pre++x::r) pre.length=x:=b1z (pre:=pre) (ns:=x::r) (i:=0) (by simp)
theorem ItL.at' {pre ns post:List Nd} {it:Im} (h:ItL pre.length ns it):ItN (pre++(ns++post)) pre.length it:=by
 cases it with
 | ch w k n=>obtain ⟨x,rfl,h⟩:=h;show ChN _ _ _ _;rw [List.singleton_append,a75];exact h
 | vr w n=>obtain ⟨x,rfl,h⟩:=h;show VrN _ _ _;rw [List.singleton_append,a75];exact h
 | pr w k =>
   obtain ⟨x,ys,rfl,h,hl,hs⟩:=h
   refine ⟨by rw [List.cons_append,a75];exact h,fun j h1 h2=>?_⟩
   have e:j=pre.length+(j-pre.length):=by omega
   have hj:j-pre.length-1<ys.length:=by omega
   have hh:j-pre.length<((x::ys)++post).length:=by simp;omega
   rw [e,b1z hh]
   have e2:((x::ys)++post)[j-pre.length]=ys[j-pre.length-1]:=by
    rw [List.getElem_append_left (by simp;omega)]
    rw [List.getElem_cons]
    rw [dif_neg (by omega)]
   rw [e2]
   exact hs _ (List.getElem_mem hj)
theorem a4S.at':∀ {its:List Im} {pre ns:List Nd},a4S pre.length ns its->AtI (pre++ns) pre.length its
 | [],pre,ns,h=>by
   have h:ns=[]:=h
   subst h
   show pre.length=_
   simp
 | it::r,pre,ns,⟨a,b,h1,h2,h3⟩=>by
   subst h1
   have hl:=h2.len
   refine ⟨h2.at',?_⟩
   have e:pre.length+it.size=(pre++a).length:=by simp [hl]
   rw [e] at h3 ⊢
   rw [<- List.append_assoc]
   exact h3.at'
theorem b3C {f:D->Option D}:∀ {a b a' b':List (List D)},V5 f a=some a'->V5 f b=some b'->V5 f (a++b)=some (a'++b')
 | [],b,a',b',h1,h2=>by
   simp only [V5,Option.some.injEq] at h1
   subst h1
   simpa using h2
 | r::rs,b,a',b',h1,h2=>by
   simp only [V5] at h1
   split at h1
   ·rename_i x y e1 e2
    simp only [Option.some.injEq] at h1
    subst h1
    rw [List.cons_append,V5,e1,b3C e2 h2]
    rfl
   ·cases h1
theorem c2W (l:List Int):∀r∈Y7 l,r.length=1:=by intro r hr;obtain ⟨_,_,rfl⟩:=List.mem_map.1 hr;rfl
theorem b4d (l:List Int):∀r∈Y7 l,r.all W5=true:=by intro r hr;obtain ⟨_,_,rfl⟩:=List.mem_map.1 hr;rfl
theorem Rp.frzI {s:i8} {d:D} {l:List Int} {E:Hs} (h:Rp d 1 (Y7 l) E) (he:Has s E) (n:Nat):∃d',ice s.get (n+2) d=some d'/\FI d' l:=(h.sn he).frz1 (c2W l) (b4d l)
theorem Rp.frzS {s:i8} {d:D} {x:ByteArray} {E:Hs} (h:Rp d 1 [[.str x]] E) (he:Has s E) (n:Nat):∃d',ice s.get (n+2) d=some d'/\FS d' [x]:=(h.sn he).frz1 (by simp) (by intro r hr;simp at hr;subst hr;rfl)
def Im.small:Im->Prop
 | .ch _ k n=>k<=1000/\n<=1000
 | .vr _ n=>n<=1000
 | .pr _ k=>k<=100
theorem a6H {s:i8} {k p:Int} {dw dn dk dw' dn' dk':D} {n:Nat} (h1:ice s.get (n+2) dw=some dw') (h2:ice s.get (n+2) dn=some dn') (h3:ice s.get (n+2) dk=some dk'):M3 (ice s.get (n+2)) [.int .i64 k,dw,dn,dk,.int .i64 p]=some [.int .i64 k,dw',dn',dk',.int .i64 p]:=by
 simp only [M3,h1,h2,h3,ice]
theorem a29 {n:Nat} (h:n<=1000000):a2G (n:Int):=⟨by omega,by omega⟩
theorem ml {n:Nat} (h:n<=1000000):n<=maxLen:=by
 have:maxLen=9223372036854775807:=rfl
 omega
theorem b0W {s:i8} (n:Nat):∀ (qs:List Nat),∃ys:List Nd,V5 (ice s.get (n+2)) (qs.map a1H)=some (ys.map Nd.row)/\ys.length=qs.length/\∀y∈ys,y.Ok/\SkN y
 | []=>⟨[],rfl,rfl,by simp⟩
 | q::qs=>by
   obtain ⟨ys,h1,h2,h3⟩:=b0W (s:=s) n qs
   refine ⟨⟨14,.nils,.nils,.nils,q,[],[],[]⟩::ys,?_,by simp [h2],?_⟩
   ·rw [List.map_cons,List.map_cons,V5,h1]
    rfl
   ·intro y hy
    rcases List.mem_cons.1 hy with rfl | hy
    ·exact ⟨⟨.inl ⟨rfl,rfl⟩,.inl ⟨rfl,rfl⟩,.inl ⟨rfl,rfl⟩,⟨by simp,by simp⟩,by simp,by simp,by simp,by simp,by simp⟩,rfl,rfl,rfl,rfl⟩
    ·exact h3 y hy
theorem a1V.frz {s:i8} {O:Hs} {base:Nat} {rs:List (List D)} {it:Im} (h:a1V O base rs it) (ho:Has s O) (hb:base<=100000) (hi:it.small) (n:Nat):∃ns:List Nd,V5 (ice s.get (n+2)) rs=some (ns.map Nd.row)/\(∀x∈ns,x.Ok)/\ItL base ns it:=by
 cases it with
 | ch w k m =>
   obtain ⟨pos,dw,dn,Ew,En,rfl,h1,h2,h3⟩:=h
   obtain ⟨dw',w1,w2⟩:=h1.frzS (fun e he=>ho e (h3 e (by simp [he]))) n
   obtain ⟨dn',n1,n2⟩:=h2.frzI (fun e he=>ho e (h3 e (by simp [he]))) n
   refine ⟨[⟨1,dw',dn',.nils,pos,[bs w],[k,m,0,0],[]⟩],?_,?_,_,rfl,rfl,rfl,rfl,rfl⟩
   ·rw [V5,a6H w1 n1 rfl]
    rfl
   ·intro x hx
    rw [List.mem_singleton] at hx
    subst hx
    have a:=a29 (n:=k) (by have:=hi.1;omega)
    have b:=a29 (n:=m) (by have:=hi.2;omega)
    have c:=a29 (n:=0) (by omega)
    refine ⟨w2,n2,.inl ⟨rfl,rfl⟩,⟨by simp,by simp⟩,ml (by simp),ml (by simp),ml (by simp),?_,by simp⟩
    intro z hz
    simp only [List.mem_cons,List.not_mem_nil,or_false] at hz
    rcases hz with rfl | rfl | rfl | rfl
    ·exact a
    ·exact b
    ·exact c
    ·exact c
 | vr w m =>
   obtain ⟨pos,dw,dn,Ew,En,rfl,h1,h2,h3⟩:=h
   obtain ⟨dw',w1,w2⟩:=h1.frzS (fun e he=>ho e (h3 e (by simp [he]))) n
   obtain ⟨dn',n1,n2⟩:=h2.frzI (fun e he=>ho e (h3 e (by simp [he]))) n
   refine ⟨[⟨2,dw',dn',.nils,pos,[bs w],[m,0],[]⟩],?_,?_,_,rfl,rfl,rfl,rfl,rfl⟩
   ·rw [V5,a6H w1 n1 rfl]
    rfl
   ·intro x hx
    rw [List.mem_singleton] at hx
    subst hx
    have b:=a29 (n:=m) (by have:m<=1000:=hi;omega)
    have c:=a29 (n:=0) (by omega)
    refine ⟨w2,n2,.inl ⟨rfl,rfl⟩,⟨by simp,by simp⟩,ml (by simp),ml (by simp),ml (by simp),?_,by simp⟩
    intro z hz
    simp only [List.mem_cons,List.not_mem_nil,or_false] at hz
    rcases hz with rfl | rfl
    ·exact b
    ·exact c
 | pr w k =>
   obtain ⟨pos,dw,dn,dk,Ew,En,Ek,qs,rfl,hq,h1,h2,h3,h4⟩:=h
   have hi:k<=100:=hi
   obtain ⟨dw',w1,w2⟩:=h1.frzS (fun e he=>ho e (h4 e (by simp [he]))) n
   obtain ⟨dn',n1,n2⟩:=h2.frzI (fun e he=>ho e (h4 e (by simp [he]))) n
   obtain ⟨dk',k1,k2⟩:=h3.frzI (fun e he=>ho e (h4 e (by simp [he]))) n
   obtain ⟨ys,y1,y2,y3⟩:=b0W (s:=s) n qs
   refine ⟨⟨3,dw',dn',dk',pos,[bs w],[1],(List.range' (base+1) k).map fun (n:Nat)=>(n:Int)⟩::ys,?_,?_,_,ys,rfl,⟨rfl,rfl,rfl,rfl⟩,by omega,fun y hy=>(y3 y hy).2⟩
   ·rw [V5,a6H w1 n1 k1,y1]
    rfl
   ·intro x hx
    rcases List.mem_cons.1 hx with rfl | hx
    ·refine ⟨w2,n2,k2,⟨by simp,by simp⟩,ml (by simp),ml (by simp),ml (by simp;omega),?_,?_⟩
     ·intro z hz
      simp only [List.mem_singleton] at hz
      subst hz
      exact ⟨by simp,by simp⟩
     ·intro z hz
      obtain ⟨q,hq,rfl⟩:=List.mem_map.1 hz
      rw [List.mem_range'_1] at hq
      exact a29 (by omega)
    ·exact (y3 x hx).1
theorem a0V.frz {s:i8} {O:Hs} (ho:Has s O) (n:Nat):∀ {its:List Im} {base:Nat} {rss:List (List D)},a0V O base rss its->base+sizes its<=100000->(∀it∈its,it.small)->∃ns:List Nd,V5 (ice s.get (n+2)) rss=some (ns.map Nd.row)/\(∀x∈ns,x.Ok)/\a4S base ns its
 | [],base,rss,h,_,_=>by
   have h:rss=[]:=h
   subst h
   exact ⟨[],rfl,by simp,rfl⟩
 | it::r,base,rss,⟨rs,rest,h1,h2,h3⟩,hb,hs=>by
   subst h1
   simp only [sizes,List.map_cons,List.sum_cons] at hb
   obtain ⟨a,a1,a2,a3⟩:=h2.frz ho (by omega) (hs it (by simp)) n
   obtain ⟨b,b1,b2,b3⟩:=h3.frz ho n (by simp only [sizes];omega) fun x hx=>hs x (by simp [hx])
   refine ⟨a++b,by rw [List.map_append];exact b3C a1 b1,fun x hx=>?_,a,b,rfl,a3,b3⟩
   rcases List.mem_append.1 hx with hx | hx
   ·exact a2 x hx
   ·exact b2 x hx
theorem a9K:∀ {its:List Im} {base:Nat},∀k∈stL base its,k<=base+sizes its
 | [],base=>by simp [stL]
 | it::r,base=>by
   intro k hk
   rcases List.mem_cons.1 hk with rfl | hk
   ·omega
   ·have:=a9K k hk
    simp only [sizes,List.map_cons,List.sum_cons] at this ⊢
    omega
theorem b6b {s:i8} {d dk:D} {po:Int} {E Ek O:Hs} {rss:List (List D)} {its:List Im} (hr:Rp d 5 ([.int .i64 0,.nils,.nils,dk,.int .i64 po]::rss) E) (hE:Has s E) (hk:Rp dk 1 (Y7 ((stL 1 its).map fun (n:Nat)=>(n:Int))) Ek) (hEk:Has s Ek) (hL:a0V O 1 rss its) (hO:Has s O) (hn:its.length<=700) (hsz:sizes its<=700) (hs:∀it∈its,it.small):∃d' t,ice s.get 19 d=some d'/\O1 d' t/\TI t its:=by
 obtain ⟨dk',k1,k2⟩:=hk.frzI hEk 16
 obtain ⟨ns,n1,n2,n3⟩:=hL.frz hO 16 (by omega) hs
 have hlen:=hL.len
 have n3:a4S [(⟨0,.nils,.nils,dk',po,[],[],(stL 1 its).map fun (n:Nat)=>(n:Int)⟩:Nd)].length ns its:=n3
 have hAt:=n3.at'
 have hle:=hAt.le
 have hm:V5 (ice s.get 18) ([.int .i64 0,.nils,.nils,dk,.int .i64 po]::rss)=some (((⟨0,.nils,.nils,dk',po,[],[],(stL 1 its).map fun (n:Nat)=>(n:Int)⟩:Nd)::ns).map Nd.row):=by
  rw [V5,a6H rfl rfl k1,n1]
  rfl
 obtain ⟨d',h1,h2⟩:=(hr.sn hE).frz (n:=18) (by
  intro r hr
  rcases List.mem_cons.1 hr with rfl | hr
  ·rfl
  ·exact hlen.2 r hr) hm (by
  rcases hr with ⟨_,h,_⟩ | ⟨id,rfl,_⟩
  ·cases h
  ·intro h;cases h)
 refine ⟨d',_,h1,⟨h2,?_,?_⟩,rfl,rfl,rfl,rfl,hAt⟩
 ·intro x hx
  rcases List.mem_cons.1 hx with rfl | hx
  ·refine ⟨.inl ⟨rfl,rfl⟩,.inl ⟨rfl,rfl⟩,k2,⟨by simp,by simp⟩,ml (by simp),ml (by simp),ml (by simp [a8s];omega),by simp,?_⟩
   intro z hz
   obtain ⟨q,hq,rfl⟩:=List.mem_map.1 hz
   have:=a9K q hq
   exact a29 (by omega)
  ·exact n2 x hx
 ·refine ml ?_
  simp at hle ⊢
  omega
end Go.V
namespace Go.V
def lw (t:List Nat):Lx:=⟨0,t⟩
def ln (t:List Nat):Lx:=⟨1,t⟩
def lg (c:Nat):Lx:=⟨2,[c]⟩
def lb:Lx:=⟨3,[32]⟩
def a1E:Nat->List Lx
 | 0=>[]
 | k+1=>a1E k++[lw [115,107,105,112],lg 59,lb]
def a0z:Im->List Lx
 | .ch w k n=>[lw [99,104,97,110],lb,lw w,lg 91,ln [48+k],lg 93,lb,lw [111,102],lb,ln [48+n],lg 59,lb]
 | .vr w n=>[lw [118,97,114],lb,lw w,lb,lw [111,102],lb,ln [48+n],lg 59,lb]
 | .pr w k=>[lw [112,114,111,99],lb,lw w,lb,lg 123,lb]++(a1E k++[lg 125,lb])
def P2 (its:List Im):List Lx:=its.flatMap a0z
def a0O:List Lx->Prop
 | a::b::r=>((a.kind=0->a15 (hdN b.txt)=false)/\(a.kind=1->isD (hdN b.txt)=false))/\a0O (b::r)
 | _=>True
theorem b0w:∀ {l:List Lx},a0O l->∀n,n+1<l.length->((T0 l n).kind=0->a15 (hdN (T0 l (n+1)).txt)=false)/\((T0 l n).kind=1->isD (hdN (T0 l (n+1)).txt)=false)
 | [],_,n,h=>by simp at h
 | [a],_,n,h=>by simp at h
 | a::b::r,hc,n,h=>by
   cases n with
   | zero=>exact hc.1
   | succ n=>exact b0w hc.2 n (by simpa using h)
theorem a1k {r:List Lx} (h:a0O r):a0O (lb::r):=by
 cases r with
 | nil=>exact trivial
 | cons a r=>exact ⟨⟨fun e=>by simp [lb] at e,fun e=>by simp [lb] at e⟩,h⟩
theorem a3k {c:Nat} {r:List Lx} (h:a0O r):a0O (lg c::r):=by
 cases r with
 | nil=>exact trivial
 | cons a r=>exact ⟨⟨fun e=>by simp [lg] at e,fun e=>by simp [lg] at e⟩,h⟩
theorem a2g {t:List Nat} {x:Lx} {r:List Lx} (h:a0O (x::r)) (hx:a15 (hdN x.txt)=false):a0O (lw t::x::r):=⟨⟨fun _=>hx,fun e=>by simp [lw] at e⟩,h⟩
theorem a7v {t:List Nat} {x:Lx} {r:List Lx} (h:a0O (x::r)) (hx:isD (hdN x.txt)=false):a0O (ln t::x::r):=⟨⟨fun e=>by simp [ln] at e,fun _=>hx⟩,h⟩
theorem b0i {r:List Lx}:∀ (k:Nat),a0O r->a0O (a1E k++r)
 | 0,h=>h
 | k+1,h=>by
   rw [a1E,List.append_assoc]
   exact b0i k (a2g (a3k (a1k h)) rfl)
theorem b5z {it:Im} {r:List Lx} (h:a0O r):a0O (a0z it++r):=by
 cases it with
 | ch w k n=>exact a2g (a1k (a2g (a3k (a7v (a3k (a1k (a2g (a1k (a7v (a3k (a1k h)) rfl)) rfl))) rfl)) rfl)) rfl
 | vr w n=>exact a2g (a1k (a2g (a1k (a2g (a1k (a7v (a3k (a1k h)) rfl)) rfl)) rfl)) rfl
 | pr w k =>
   show a0O (lw [112,114,111,99]::lb::lw w::lb::lg 123::lb::((a1E k++[lg 125,lb])++r))
   rw [List.append_assoc]
   exact a2g (a1k (a2g (a1k (a3k (a1k (b0i k (a3k (a1k h)))))) rfl)) rfl
theorem b0L:∀ (its:List Im),a0O (P2 its)
 | []=>trivial
 | it::r=>by
   have:=b5z (it:=it) (b0L r)
   simpa [P2] using this
structure a3L (w:List Nat):Prop where
 pos:0<w.length
 hd:isL (hdN w)=true
 all:∀c∈w,a15 c=true
 lt:∀c∈w,c<256
def Im.lex:Im->Prop
 | .ch w k n=>a3L w/\k<=9/\n<=9
 | .vr w n=>a3L w/\n<=9
 | .pr w _=>a3L w
theorem a5x {w:List Nat} (h:a3L w):(lw w).Ok:=by
 have hh:=h.hd
 unfold isL at hh
 simp at hh
 exact ⟨h.pos,h.lt,by show hdN w≠_/\hdN w≠_/\hdN w≠_/\hdN w≠_;omega,.inl ⟨rfl,h.hd,h.all⟩⟩
theorem a9d {k:Nat} (h:k<=9):(ln [48+k]).Ok:=by
 refine ⟨Nat.zero_lt_one,fun c hc=>?_,by show 48+k≠_/\48+k≠_/\48+k≠_/\48+k≠_;omega,.inr (.inl ⟨rfl,by show 1<=6;omega,fun c hc=>?_⟩)⟩
 ·have hc:c∈[48+k]:=hc
  rw [List.mem_singleton] at hc
  omega
 ·have hc:c∈[48+k]:=hc
  rw [List.mem_singleton] at hc
  unfold isD
  simp
  omega
theorem a23 {c:Nat} (h:c∈[123,125,91,93,59]):(lg c).Ok:=by
 have h':=h
 simp only [List.mem_cons,List.not_mem_nil,or_false] at h'
 refine ⟨Nat.zero_lt_one,fun x hx=>?_,by show c≠_/\c≠_/\c≠_/\c≠_;omega,.inr (.inr (.inl ⟨rfl,c,rfl,h⟩))⟩
 have hx:x∈[c]:=hx
 rw [List.mem_singleton] at hx
 omega
theorem a1s:lb.Ok:=⟨by decide,by decide,by decide,.inr (.inr (.inr ⟨rfl,rfl⟩))⟩
theorem a3X {w:List Nat} (h:(decide (0<w.length)&&isL (hdN w)&&w.all a15&&w.all fun c=>decide (c<256))=true):(lw w).Ok:=by
 simp only [Bool.and_eq_true,decide_eq_true_eq,List.all_eq_true] at h
 exact a5x ⟨h.1.1.1,h.1.1.2,h.1.2,h.2⟩
theorem b2t:∀ (k:Nat),∀x∈a1E k,x.Ok
 | 0=>by simp [a1E]
 | k+1=>by
   intro x hx
   rw [a1E,List.mem_append] at hx
   rcases hx with hx | hx
   ·exact b2t k x hx
   ·simp only [List.mem_cons,List.not_mem_nil,or_false] at hx
    rcases hx with rfl | rfl | rfl
    ·exact a3X (by decide)
    ·exact a23 (by decide)
    ·exact a1s
theorem b9a {it:Im} (h:it.lex):∀x∈a0z it,x.Ok:=by
 cases it with
 | ch w k n =>
   obtain ⟨h1,h2,h3⟩:=h
   intro x hx
   simp only [a0z,List.mem_cons,List.not_mem_nil,or_false] at hx
   rcases hx with rfl | rfl | rfl | rfl | rfl | rfl | rfl | rfl | rfl | rfl | rfl | rfl
   ·exact a3X (by decide)
   ·exact a1s
   ·exact a5x h1
   ·exact a23 (by decide)
   ·exact a9d h2
   ·exact a23 (by decide)
   ·exact a1s
   ·exact a3X (by decide)
   ·exact a1s
   ·exact a9d h3
   ·exact a23 (by decide)
   ·exact a1s
 | vr w n =>
   obtain ⟨h1,h3⟩:=h
   intro x hx
   simp only [a0z,List.mem_cons,List.not_mem_nil,or_false] at hx
   rcases hx with rfl | rfl | rfl | rfl | rfl | rfl | rfl | rfl | rfl
   ·exact a3X (by decide)
   ·exact a1s
   ·exact a5x h1
   ·exact a1s
   ·exact a3X (by decide)
   ·exact a1s
   ·exact a9d h3
   ·exact a23 (by decide)
   ·exact a1s
 | pr w k =>
   have h1:a3L w:=h
   intro x hx
   simp only [a0z,List.mem_append,List.mem_cons,List.not_mem_nil,or_false] at hx
   rcases hx with (rfl | rfl | rfl | rfl | rfl | rfl) | hx | rfl | rfl
   ·exact a3X (by decide)
   ·exact a1s
   ·exact a5x h1
   ·exact a1s
   ·exact a23 (by decide)
   ·exact a1s
   ·exact b2t k x hx
   ·exact a23 (by decide)
   ·exact a1s
theorem c0C {its:List Im} (h:∀it∈its,it.lex):b3e (P2 its) :=
 ⟨fun x hx=>by
  obtain ⟨it,h1,h2⟩:=List.mem_flatMap.1 hx
  exact b9a (h it h1) x h2,b0w (b0L its)⟩
def Tk.kt (t:Tk):Int×List Nat:=(t.kind,t.txt)
def Lx.kt (x:Lx):Int×List Nat:=((x.kind:Int),x.txt)
def a2l (l:List Lx):List (Int×List Nat):=(l.filter fun x=>x.kind != 3).map Lx.kt
theorem a40 (a b:List Lx):a2l (a++b)=a2l a++a2l b:=by simp [a2l]
theorem b3s {l:List Lx}:∀ {n:Nat},n<=l.length->(a0F l n).map Tk.kt=a2l (l.take n)
 | 0,_=>rfl
 | n+1,h=>by
   rw [a0F,List.map_append,b3s (by omega),List.take_succ_eq_append_getElem (by omega),a40,a53 (by omega)]
   congr 1
   unfold a2l
   by_cases c:(l[n]'(by omega)).kind=3
   ·simp [c]
   ·rw [if_neg c,List.filter_cons_of_pos (by simpa using c)]
    rfl
def skT:Nat->List (Int×List Nat)
 | 0=>[]
 | k+1=>skT k++[(0,[115,107,105,112]),(2,[59])]
theorem a8L:∀k,(skT k).length=2*k
 | 0=>rfl
 | k+1=>by simp [skT,a8L k];omega
theorem a9Z:∀ {k q:Nat},q<k->(skT k)[2*q]?=some (0,[115,107,105,112])/\(skT k)[2*q+1]?=some (2,[59])
 | 0,q,h=>by omega
 | k+1,q,h=>by
   have hl:=a8L k
   rw [skT]
   by_cases c:q<k
   ·obtain ⟨h1,h2⟩:=a9Z c
    rw [List.getElem?_append_left (by omega),List.getElem?_append_left (by omega)]
    exact ⟨h1,h2⟩
   ·obtain rfl:q=k:=by omega
    rw [List.getElem?_append_right (by omega),List.getElem?_append_right (by omega),hl]
    have e:2*q+1-2*q=1:=by omega
    rw [Nat.sub_self,e]
    exact ⟨rfl,rfl⟩
theorem b1S:∀k,a2l (a1E k)=skT k
 | 0=>rfl
 | k+1=>by
   rw [a1E,a40,b1S k]
   rfl
def tkI:Im->List (Int×List Nat)
 | .ch w k n=>[(0,[99,104,97,110]),(0,w),(2,[91]),(1,[48+k]),(2,[93]),(0,[111,102]),(1,[48+n]),(2,[59])]
 | .vr w n=>[(0,[118,97,114]),(0,w),(0,[111,102]),(1,[48+n]),(2,[59])]
 | .pr w k=>[(0,[112,114,111,99]),(0,w),(2,[123])]++(skT k++[(2,[125])])
theorem b36 (it:Im):a2l (a0z it)=tkI it:=by
 cases it with
 | ch w k n=>rfl
 | vr w n=>rfl
 | pr w k =>
   rw [a0z,a40,a40,b1S]
   rfl
theorem b9n (its:List Im):a2l (P2 its)=its.flatMap tkI:=by
 induction its with
 | nil=>rfl
 | cons it r ih =>
   have e:P2 (it::r)=a0z it++P2 r:=rfl
   rw [e,a40,b36,ih]
   rfl
theorem a1B (a b:List Lx):M9 (a++b)=M9 a++M9 b:=by simp [M9]
theorem a16 (a b:List Im):P2 (a++b)=P2 a++P2 b:=by simp [P2]
theorem a8J (it:Im):P2 [it]=a0z it:=by simp [P2]
def a1D:Nat->List Nat
 | 0=>[]
 | k+1=>a1D k++[115,107,105,112,59,32]
theorem b2p:∀k,M9 (a1E k)=a1D k
 | 0=>rfl
 | k+1=>by rw [a1E,a1B,b2p k];rfl
theorem a7F:∀k,(a1D k).length=6*k
 | 0=>rfl
 | k+1=>by simp [a1D,a7F k];omega
theorem b2w (w:List Nat) (k n:Nat):M9 (a0z (.ch w k n))=[99,104,97,110,32]++(w++[91,48+k,93,32,111,102,32,48+n,59,32]):=by simp [M9,a0z,lw,lb,lg,ln]
theorem b0I (w:List Nat) (n:Nat):M9 (a0z (.vr w n))=[118,97,114,32]++(w++[32,111,102,32,48+n,59,32]):=by simp [M9,a0z,lw,lb,lg,ln]
theorem b02 (w:List Nat) (k:Nat):M9 (a0z (.pr w k))=[112,114,111,99,32]++(w++([32,123,32]++(a1D k++[125,32]))):=by
 have:=b2p k
 unfold M9 at this
 simp [M9,a0z,lw,lb,lg,this]
theorem a9s {its:List Im} (h:∀it∈its,it.name.length<=10/\it.size<=10):(M9 (P2 its)).length<=100*its.length:=by
 induction its with
 | nil=>simp [P2,M9]
 | cons it r ih =>
   have:=ih fun x hx=>h x (by simp [hx])
   have e:P2 (it::r)=a0z it++P2 r:=rfl
   obtain ⟨h1,h2⟩:=h it (by simp)
   have hI:(M9 (a0z it)).length<=100:=by
    cases it with
    | ch w k n =>
      have h1:w.length<=10:=h1
      rw [b2w];simp;omega
    | vr w n =>
      have h1:w.length<=10:=h1
      rw [b0I];simp;omega
    | pr w k =>
      have h1:w.length<=10:=h1
      have h2:k+1<=10:=h2
      rw [b02];simp [a7F];omega
   rw [e,a1B,List.length_append,List.length_cons]
   omega
theorem a98 {its:List Im} {m:Nat} (h:∀it∈its,it.size<=m):sizes its<=m*its.length:=by
 induction its with
 | nil=>simp [sizes]
 | cons it r ih =>
   have:=ih fun x hx=>h x (by simp [hx])
   have:=h it (by simp)
   simp only [sizes,List.map_cons,List.sum_cons,List.length_cons] at *
   rw [Nat.mul_succ]
   omega
theorem b39 {l:List Lx} (hk:∀x∈l,x.Ok):l.length<=(M9 l).length:=by
 induction l with
 | nil=>simp
 | cons x r ih =>
   have:=ih fun y hy=>hk y (by simp [hy])
   have:=(hk x (by simp)).pos
   have e:M9 (x::r)=x.txt++M9 r:=rfl
   rw [e,List.length_append,List.length_cons]
   omega
end Go.V
namespace Go.Proofs.Ytlaeblilmppodaa
open Go.V
set_option maxRecDepth 100000
set_option maxHeartbeats 8000000
theorem a0k {T:List Tk} {i:Nat} {k:Int} {t:List Nat} (h:(T.map Tk.kt)[i]?=some (k,t)):N3 T i k t:=by
 rw [List.getElem?_map] at h
 cases e:T[i]? with
 | none=>rw [e] at h;cases h
 | some x =>
   rw [e] at h
   obtain ⟨hl,e2⟩:=List.getElem?_eq_some_iff.1 e
   have h:some (x.kind,x.txt)=some (k,t):=h
   simp only [Option.some.injEq,Prod.mk.injEq] at h
   have hx:O3 T i=x:=by simp [O3,List.getD,e]
   exact ⟨hl,by rw [hx];exact h.1,by rw [hx];exact h.2⟩
theorem b2N {α:Type} {A X:List α} {c:Nat}:(A++X)[A.length+c]?=X[c]?:=by rw [List.getElem?_append_right (by omega),Nat.add_sub_cancel_left]
theorem a9t {T:List Tk}:∀ {its:List Im} {A:List (Int×List Nat)},T.map Tk.kt=A++(its.flatMap tkI++[(3,[])])->(∀it∈its,it.lex/\it.small/\Eqc vfs 112 [.str (bs it.name)] (.bool true))->(∀w k,Im.pr w k∈its->k<=9)->a4B T A.length its
 | [],A,h,_,_=>a0k (i:=A.length) (by rw [h];simp)
 | it::r,A,h,hh,hp=>by
   rw [List.flatMap_cons,List.append_assoc] at h
   generalize hX:r.flatMap tkI++[((3:Int),([]:List Nat))]=X at h
   have hXl:1<=X.length:=by rw [<- hX];simp
   have hTl:T.length=A.length+((tkI it).length+X.length):=by
    have:=congrArg List.length h
    simpa using this
   have ih:=a9t (T:=T) (its:=r) (A:=A++tkI it) (by rw [h,List.append_assoc,hX]) (fun x hx=>hh x (by simp [hx])) fun w k hm=>hp w k (by simp [hm])
   obtain ⟨hx,hs,hn⟩:=hh it (by simp)
   have hg:∀c,(T.map Tk.kt)[A.length+c]?=(tkI it++X)[c]?:=fun c=>by rw [h];exact b2N
   refine ⟨A.length+(tkI it).length,⟨by omega,?_⟩,by rw [List.length_append] at ih;exact ih⟩
   clear ih h hX
   cases it with
   | ch w k n =>
     obtain ⟨_,h1,h2⟩:=hx
     exact ⟨rfl,h1,h2,hn,a0k (hg 0),a0k (hg 1),a0k (hg 2),a0k (hg 3),a0k (hg 4),a0k (hg 5),a0k (hg 6),a0k (hg 7)⟩
   | vr w n =>
     obtain ⟨_,h2⟩:=hx
     exact ⟨rfl,h2,hn,a0k (hg 0),a0k (hg 1),a0k (hg 2),a0k (hg 3),a0k (hg 4)⟩
   | pr w k =>
     have hk:=hp w k (by simp)
     have hsl:=a8L k
     have e:tkI (.pr w k)++X=[((0:Int),[112,114,111,99]),(0,w),(2,[123])]++(skT k++((2,[125])::X)):=by simp [tkI]
     rw [e] at hg
     have h3:∀c,(T.map Tk.kt)[A.length+3+c]?=(skT k++(((2:Int),[125])::X))[c]?:=fun c=>by
      have:=hg (3+c)
      rw [<- Nat.add_assoc] at this
      rw [this]
      exact b2N (A:=[((0:Int),[112,114,111,99]),(0,w),(2,[123])])
     refine ⟨?_,hk,hn,a0k (hg 0),a0k (hg 1),a0k (hg 2),fun q hq=>?_,?_⟩
     ·simp [tkI,hsl];omega
     ·obtain ⟨a,b⟩:=a9Z hq
      refine ⟨a0k ?_,a0k ?_⟩
      ·rw [h3,List.getElem?_append_left (by omega)]
       exact a
      ·rw [Nat.add_assoc,h3,List.getElem?_append_left (by omega)]
       exact b
     ·refine a0k ?_
      rw [h3,List.getElem?_append_right (by omega),hsl,Nat.sub_self]
      rfl
theorem b8C {its:List Im} (hi:∀it∈its,it.lex/\it.small/\Eqc vfs 112 [.str (bs it.name)] (.bool true)) (hp:∀w k,Im.pr w k∈its->k<=9) {n:Nat}:a4B (a0F (P2 its) (P2 its).length++[⟨3,[],n⟩]) 0 its:=by
 refine a9t (A:=[]) ?_ hi hp
 rw [List.map_append,b3s (Nat.le_refl _),List.take_length,b9n]
 rfl
theorem b8e {i:Nat} (h:i<3):Eqc vfs 112 [.str (bs [99,97+i])] (.bool true):=by
 match i,h with
 | 0,_=>exact S5 (S2 (n:=100) (by kernel_rfl)) rfl
 | 1,_=>exact S5 (S2 (n:=100) (by kernel_rfl)) rfl
 | 2,_=>exact S5 (S2 (n:=100) (by kernel_rfl)) rfl
theorem c2T {i:Nat} (h:i<8):Eqc vfs 112 [.str (bs [118,97+i])] (.bool true):=by
 match i,h with
 | 0,_=>exact S5 (S2 (n:=100) (by kernel_rfl)) rfl
 | 1,_=>exact S5 (S2 (n:=100) (by kernel_rfl)) rfl
 | 2,_=>exact S5 (S2 (n:=100) (by kernel_rfl)) rfl
 | 3,_=>exact S5 (S2 (n:=100) (by kernel_rfl)) rfl
 | 4,_=>exact S5 (S2 (n:=100) (by kernel_rfl)) rfl
 | 5,_=>exact S5 (S2 (n:=100) (by kernel_rfl)) rfl
 | 6,_=>exact S5 (S2 (n:=100) (by kernel_rfl)) rfl
 | 7,_=>exact S5 (S2 (n:=100) (by kernel_rfl)) rfl
theorem b6I {i:Nat} (h:i<4):Eqc vfs 112 [.str (bs [112,97+i])] (.bool true):=by
 match i,h with
 | 0,_=>exact S5 (S2 (n:=100) (by kernel_rfl)) rfl
 | 1,_=>exact S5 (S2 (n:=100) (by kernel_rfl)) rfl
 | 2,_=>exact S5 (S2 (n:=100) (by kernel_rfl)) rfl
 | 3,_=>exact S5 (S2 (n:=100) (by kernel_rfl)) rfl
end Go.Proofs.Ytlaeblilmppodaa
namespace Go.Proofs.Ytlaeblilmppodaa
open Go.V
set_option maxRecDepth 100000
set_option maxHeartbeats 8000000
variable {s:i8} {R:Hs}
def a3I (row:List D) (n:Nat) (s:i8):Prop:=EvP vfs 53 [.agg row,.int .i64 (n:Int)] s fun r s'=>r=.int .i64 (-1)/\Fr [] s s'
theorem a8c {k po:Int} {dw dn dl:D} {rws:List (List D)} {El:Hs} {n:Nat} (hn:n<=4) (ow:q8 dw=true) (on:q8 dn=true) (hdl:Rp dl 6 rws El) (hE:Has s El) (h6:∀r∈rws,r.length=6) (h1:∀r∈rws,r.all q8=true) (hl:rws.length<=1000) (hk:∀r∈rws,∀s',Fr [] s s'->a3I r (n+1) s'):a3I [.int .i64 k,dw,dn,.nils,.int .i64 po,dl] n s:=by
 have hc:¬ (20:Int)<(n:Int):=by omega
 have odl:=hdl.one
 have hll:=hdl.len
 obtain ⟨f6,d6⟩:=b3F h6
 unfold a3I
 refine V8 (vf:=a9k) rfl ?_
 unfold a9k;refine zF ?_
 refine zY (aN ow (aN on (aN odl hc))) ?_
 have gb:(s.push (.cells [.int .i64 k,dw,dn,.nils,.int .i64 po,dl])).get s.next=some (.cells [.int .i64 k,dw,dn,.nils,.int .i64 po,dl]):=by simp (disch:=(first|exact Rf.mk rfl|with_reducible assumption|omega|((repeat (first|rw [nP]|rw [nS]|rw [M4]))<;>omega)|decide)) only [go_sem,↓reduceIte]
 have fb:Fr [] s (s.push (.cells [.int .i64 k,dw,dn,.nils,.int .i64 po,dl])):=Fr.push _
 generalize s.push (.cells [.int .i64 k,dw,dn,.nils,.int .i64 po,dl])=s1 at *
 generalize s.next=b at *
 refine Y6 [0,1,2,8] 0 rws.length (fun i f s'=>f 5=.int .i64 (i:Int)/\Fr [] s1 s') (.mk rfl) (by omega) ⟨rfl,Fr.refl _ _⟩ ?_
 rintro i f s2 hi ⟨h5,fr⟩
 have gb2:s2.get b=some (.cells [.int .i64 k,dw,dn,.nils,.int .i64 po,dl]):=by rw [fr.2 b (k4 gb) (by simp)];exact gb
 have lb:=k4 gb2
 by_cases ci:i<rws.length
 rotate_left
 ·refine zY (aN h5 (aN gb2 (aN odl (aN hll ci)))) ?_
  exact ⟨rfl,fb.trans fr (by simp)⟩
 have hil:∃il,dl=.arr il 0 rws.length 6/\El=[(il,rws.flatten)]:=by
  rcases hdl with ⟨_,h,_⟩ | ⟨il,h1,h2,_⟩
  ·subst h;simp at ci
  ·exact ⟨il,h1,h2⟩
 obtain ⟨il,rfl,rfl⟩:=hil
 have gl:=hE (il,rws.flatten) (by simp)
 have gl:s2.get il=some (.cells rws.flatten):=by
  rw [fr.2 il (by have:=fb.1;have:=k4 gl;simp only at this;omega) (by simp),fb.2 il (k4 gl) (by simp)];exact gl
 have ll:=k4 gl
 have d7:i*6+5<rws.flatten.length:=by rw [f6];omega
 have d6:=d6 i ci
 have ho6:=h1 _ (List.getElem_mem ci)
 have hl6:=h6 _ (List.getElem_mem ci)
 have e1:IntKind.i64.wrap ((n:Int)+1)=((n+1:Nat):Int):=by rw [P1 (by omega) (by omega)];omega
 refine zY (aN h5 (aN gb2 (aN gl (aN odl (aN hll (aN ci (aN d6 (aN d7 (aN ho6 e1))))))))) ?_
 refine N4 (hk _ (List.getElem_mem ci) s2 (fb.trans fr (by simp))) rfl ?_
 rintro r s3 ⟨rfl,f3⟩
 refine zY0 ?_
 exact ⟨ci,fr.trans f3 (by simp)⟩
theorem a7m {k po:Int} {dw dn:D} {n:Nat} (hn:n<=4) (ow:q8 dw=true) (on:q8 dn=true):a3I [.int .i64 k,dw,dn,.nils,.int .i64 po,.nils] n s :=
 a8c (rws:=[]) (El:=[]) hn ow on (.inl ⟨rfl,rfl,rfl⟩) (by simp [Has]) (by simp) (by simp) (by simp) (by simp)
theorem c0N {row:List D} {H:Hs} {it:Im} {n:Nat} (hn:n<=3) (hr:a2C row H it) (hH:Has s H) (hs:it.small):a3I row n s:=by
 cases it with
 | ch w k m =>
   obtain ⟨pos,dw,dn,Ew,En,rfl,h1,h2,rfl⟩:=hr
   exact a7m (by omega) h1.one h2.one
 | vr w m =>
   obtain ⟨pos,dw,dn,Ew,En,rfl,h1,h2,rfl⟩:=hr
   exact a7m (by omega) h1.one h2.one
 | pr w k =>
   obtain ⟨pos,dw,dn,dl,Ew,En,El,qs,rfl,h1,h2,rfl,h3,rfl⟩:=hr
   have hs:qs.length<=100:=hs
   refine a8c (by omega) h1.one h2.one h3 (fun e he=>hH e (by simp [he])) ?_ ?_ (by simp;omega) ?_
   ·intro r hr;obtain ⟨q,_,rfl⟩:=List.mem_map.1 hr;rfl
   ·intro r hr;obtain ⟨q,_,rfl⟩:=List.mem_map.1 hr;rfl
   ·intro r hr s' f
    obtain ⟨q,_,rfl⟩:=List.mem_map.1 hr
    exact a7m (by omega) rfl rfl
theorem b9A {po:Int} {dl:D} {El:Hs} {rws:List (List D)} {its:List Im} (hdl:Rp dl 6 rws El) (hE:Has s El) (hrr:a1U rws its R) (hR:Has s R) (hs:∀it∈its,it.small) (hl:its.length<=700):a3I [.int .i64 0,.nils,.nils,.nils,.int .i64 po,dl] 1 s:=by
 have hn:=hrr.n
 refine a8c (by omega) rfl rfl hdl hE hrr.len ?_ (by omega) ?_
 ·intro r hr
  obtain ⟨i,hi,rfl⟩:=List.getElem_of_mem hr
  obtain ⟨H,h,_⟩:=hrr.r i hi (by omega)
  exact a44 h
 ·intro r hr s' f
  obtain ⟨i,hi,rfl⟩:=List.getElem_of_mem hr
  obtain ⟨H,h,hh⟩:=hrr.r i hi (by omega)
  exact c0N (by omega) h (fun e he=>(hR.fr f) e (hh e he)) (hs _ (List.getElem_mem _))
theorem b6X {its:List Im} (hx:∀it∈its,it.lex/\it.small/\Eqc vfs 112 [.str (bs it.name)] (.bool true)) (hz:∀it∈its,it.name.length<=10/\it.size<=10) (hl:its.length<=15):∃d t,Eqc vfs 25 [.str (bs (M9 (P2 its)))] (.tup [d,.agg [.int .i64 0,.int .i64 0]])/\O1 d t/\TI t its:=by
 have htl:=a9s hz
 have hsz:=a98 (its:=its) (m:=10) fun it h=>(hz it h).2
 have hok:=c0C (its:=its) fun it h=>(hx it h).1
 obtain ⟨dT,hTk,dL,rfl,hL⟩:=b8x hok (by omega)
 have hTok:=a0s hTk
 have hi:=b8C (n:=(M9 (P2 its)).length) hx fun w k hm=>by
  have:=(hz _ hm).2
  simp only [Im.size] at this
  omega
 have hTn:(a0F (P2 its) (P2 its).length++[(⟨3,[],(M9 (P2 its)).length⟩:Tk)]).length<=4001:=by
  have a:=a7A (l:=P2 its) (P2 its).length
  have b:=b39 (l:=P2 its) hok.ok
  simp only [List.length_append,List.length_singleton]
  omega
 have hT0:0<(a0F (P2 its) (P2 its).length++[(⟨3,[],(M9 (P2 its)).length⟩:Tk)]).length:=by simp
 generalize a0F (P2 its) (P2 its).length++[(⟨3,[],(M9 (P2 its)).length⟩:Tk)]=T at *
 have oL:=FL.one hL
 suffices h:a83 vfs 25 [.str (bs (M9 (P2 its)))] fun r=>∃d t,r=.tup [d,.agg [.int .i64 0,.int .i64 0]]/\O1 d t/\TI t its by
  obtain ⟨r,h1,d,t,rfl,h2,h3⟩:=h
  exact ⟨d,t,a0s h1,h2,h3⟩
 clear hTk
 generalize M9 (P2 its)=tx at *
 refine b1y (vf:=a6M) rfl ?_
 unfold a6M;refine zF ?_
 refine zY (aN hTok oL) ?_
 have g0:((((i8.empty.push (.cells [.int .i64 0,.int .i64 0])).push (.cells [.int .i64 0,.int .i64 0])).set 1 (some (.cells [.int .i64 0,.int .i64 0]))).push (.cells [dL,.int .i64 0,.int .i64 0,.int .i64 0,.int .i64 0])).get 0=some (.cells [.int .i64 0,.int .i64 0]):=by simp (disch:=(first|exact Rf.mk rfl|with_reducible assumption|omega|((repeat (first|rw [nP]|rw [nS]|rw [M4]))<;>omega)|decide)) only [go_sem,↓reduceIte]
 have g2:((((i8.empty.push (.cells [.int .i64 0,.int .i64 0])).push (.cells [.int .i64 0,.int .i64 0])).set 1 (some (.cells [.int .i64 0,.int .i64 0]))).push (.cells [dL,.int .i64 0,.int .i64 0,.int .i64 0,.int .i64 0])).get 2=some (.cells [dL,.int .i64 0,.int .i64 0,.int .i64 0,.int .i64 0]):=by simp (disch:=(first|exact Rf.mk rfl|with_reducible assumption|omega|((repeat (first|rw [nP]|rw [nS]|rw [M4]))<;>omega)|decide)) only [go_sem,↓reduceIte]
 generalize (((i8.empty.push (.cells [.int .i64 0,.int .i64 0])).push (.cells [.int .i64 0,.int .i64 0])).set 1 (some (.cells [.int .i64 0,.int .i64 0]))).push (.cells [dL,.int .i64 0,.int .i64 0,.int .i64 0,.int .i64 0])=s1 at *
 refine N4 (b42 (at':=0) (dp:=0) ⟨hL,g2,hT0,hTn⟩ (by omega) hi (by omega)) (by simp (disch:=(first|exact Rf.mk rfl|with_reducible assumption|omega|((repeat (first|rw [nP]|rw [nS]|rw [M4]))<;>omega)|decide)) only [go_sem,↓reduceIte]) ?_
 rintro r s2 ⟨po,dl,rws,El,R,j,rfl,hdl,hrr,x⟩
 have g0:s2.get 0=some (.cells [.int .i64 0,.int .i64 0]):=by rw [x.fr.2 0 (k4 g0) (by simp)];exact g0
 have od:=hdl.one
 have gp:=x.h.g
 have lp:=k4 gp
 have hp:=x.hp
 refine zY (aN od gp) ?_
 have f3:Fr [] s2 ((s2.push (.cells [.int .i64 0,.nils,.nils,.nils,.int .i64 0,.nils])).set s2.next (some (.cells [.int .i64 0,.nils,.nils,.nils,.int .i64 (po:Int),dl]))):=(Fr.push _).thenSet _ (.inr (Nat.le_refl _))
 have g7:((s2.push (.cells [.int .i64 0,.nils,.nils,.nils,.int .i64 0,.nils])).set s2.next (some (.cells [.int .i64 0,.nils,.nils,.nils,.int .i64 (po:Int),dl]))).get s2.next=some (.cells [.int .i64 0,.nils,.nils,.nils,.int .i64 (po:Int),dl]):=P8 (by simp)
 generalize (s2.push (.cells [.int .i64 0,.nils,.nils,.nils,.int .i64 0,.nils])).set s2.next (some (.cells [.int .i64 0,.nils,.nils,.nils,.int .i64 (po:Int),dl]))=s3 at *
 generalize s2.next=b at *
 have h3:Has s3 ((0,[.int .i64 0,.int .i64 0])::(b,[.int .i64 0,.nils,.nils,.nils,.int .i64 (po:Int),dl])::(El++R)):=by
  intro e he
  rcases List.mem_cons.1 he with rfl | he
  ·rw [f3.2 0 (k4 g0) (by simp)];exact g0
  rcases List.mem_cons.1 he with rfl | he
  ·exact g7
  rcases List.mem_append.1 he with he | he
  ·exact (hp.fr f3).w e he
  ·exact (hp.fr f3).r e he
 have hrr:a1U rws its ((0,[.int .i64 0,.int .i64 0])::(b,[.int .i64 0,.nils,.nils,.nils,.int .i64 (po:Int),dl])::(El++R)):=⟨hrr.n,fun i h h'=>by
  obtain ⟨H,a,c⟩:=hrr.r i h h'
  exact ⟨H,a,fun e he=>by simp [c e he]⟩⟩
 refine N4 (b5M (s:=s3) (po:=(po:Int)) ⟨by simp,by simp,by simp [Has],h3⟩ hdl (fun e he=>by simp [he]) hrr (by omega) (fun it h=>by have:=(hz it h).2;omega) (by omega)) (by simp (disch:=(first|exact Rf.mk rfl|with_reducible assumption|omega|((repeat (first|rw [nP]|rw [nS]|rw [M4]))<;>omega)|decide)) only [go_sem,↓reduceIte]) ?_
 rintro r s4 ⟨E,Ek,Kk,dk,rss,hr,hk,hL2,hp4⟩
 have g0:=hp4.r (0,[.int .i64 0,.int .i64 0]) (by simp)
 have g7:=hp4.r (b,[.int .i64 0,.nils,.nils,.nils,.int .i64 (po:Int),dl]) (by simp)
 have l7:=k4 g7
 have ll:=hL2.len
 have hrl:=hr.len
 have hc:¬ (800:Int)<((rss.length+1:Nat):Int):=by omega
 refine zY (aN hrl (aN hc (aN g7 od))) ?_
 have hdp:EvP vfs 53 [.agg [.int .i64 0,.nils,.nils,.nils,.int .i64 (po:Int),dl],.int .i64 1] s4 fun r s'=>r=.int .i64 (-1)/\Fr [] s4 s':=b9A (s:=s4) (po:=(po:Int)) hdl (fun e he=>hp4.r e (by simp [he])) hrr (fun e he=>hp4.r e he) (fun it h=>(hx it h).2.1) (by omega)
 refine N4 hdp (by simp (disch:=(first|exact Rf.mk rfl|with_reducible assumption|omega|((repeat (first|rw [nP]|rw [nS]|rw [M4]))<;>omega)|decide)) only [go_sem,↓reduceIte]) ?_
 rintro r s5 ⟨rfl,f5⟩
 have hp5:=hp4.fr f5
 have g0:s5.get 0=some (.cells [.int .i64 0,.int .i64 0]):=hp5.r (0,[.int .i64 0,.int .i64 0]) (by simp)
 have l0:=k4 g0
 have key:∀e:Nat×List D,s5.get e.1=some (.cells e.2)->(s5.set 0 (some (.cells [.int .i64 0,.int .i64 0]))).get e.1=some (.cells e.2):=by
  intro e he
  by_cases c:e.1=0
  ·rw [c] at he ⊢
   rw [P8 l0,<- he,g0]
  ·rw [O6 c];exact he
 obtain ⟨d',t,t1,t2,t3⟩:=b6b (s:=s5.set 0 (some (.cells [.int .i64 0,.int .i64 0]))) hr (fun e he=>key e (hp5.w e (by simp [he]))) hk (fun e he=>key e (hp5.w e (by simp [he]))) hL2 (fun e he=>by
  rcases List.mem_append.1 he with he | he
  ·exact key e (hp5.w e (by simp [he]))
  ·exact key e (hp5.r e he)) (by omega) (by omega) fun it h=>(hx it h).2.1
 have or:=hr.one
 refine zY (aN g0 or) ?_
 refine ⟨_,?_,d',t,rfl,t2,t3⟩
 simp only [M3,t1]
 rfl
end Go.Proofs.Ytlaeblilmppodaa
namespace Go.V
def FU (d:D) (l:List Nat):Prop:=FL 1 d (l.map fun (n:Nat)=>[.int .u8 (n:Int)])
theorem FU.len {d:D} {l:List Nat} (h:FU d l):X4 false d=some (.int .i64 (l.length:Int)):=by rw [FL.len h,List.length_map]
theorem FU.idx {d:D} {l:List Nat} (h:FU d l) {i:Nat} (hi:i<l.length) {k:IntKind}:M1 1 d (.int k (i:Int))=some (.fp [.int .u8 ((l.getD i 0:Nat):Int)] 0):=by
 rw [FL.idx h (by simpa using hi)]
 simp [List.getD,hi]
theorem a7l {d:D} (h:a3W (.slice 1 (.int .u8)) d):∃l:List Nat,FU d l/\∀b∈l,b<256:=by
 have h:a0b (.slice 1 (.int .u8)) [d]:=h
 simp only [a0b] at h
 rcases h with h | ⟨xs,h,_,hx⟩
 ·simp at h
  subst h
  exact ⟨[],.inl ⟨rfl,rfl⟩,by simp⟩
 ·simp at h
  subst h
  obtain ⟨bs,rfl,hb⟩:=b3l (f:=fun (b:Nat)=>[D.int .u8 (b:Int)]) (P:=fun b=>b<256) (xs:=xs) (fun x hm=>by
   obtain ⟨n,hn,hw⟩:=hx x hm
   have:=b5n hw
   refine ⟨n.toNat,?_,by omega⟩
   rw [hn,Int.toNat_of_nonneg this.1])
  exact ⟨bs,.inr rfl,hb⟩
def Z4 (l:List Nat) (i:Nat):Im:=.ch [99,97+i] (1+l.getD i 0 % 3) (1+l.getD i 0 / 3 % 8)
def Y2 (l:List Nat) (i:Nat):Im:=.vr [118,97+i] (1+l.getD i 0 % 8)
def a0c (l:List Nat) (i:Nat):Im:=.pr [112,97+i] (l.getD i 0 % 9)
def R7 (f:Nat->Im) (n:Nat):List Im:=(List.range n).map f
theorem a57 (f:Nat->Im) (n:Nat):R7 f (n+1)=R7 f n++[f n]:=by simp [R7,List.range_succ]
@[simp] theorem b1D (f:Nat->Im) (n:Nat):(R7 f n).length=n:=by simp [R7]
def a0P (r w s:List Nat):List Im:=R7 (Z4 r) r.length++(R7 (Y2 w) w.length++R7 (a0c s) s.length)
theorem a6l {r w s:List Nat} {it:Im} (h:it∈a0P r w s):(∃i,i<r.length/\it=Z4 r i)∨(∃i,i<w.length/\it=Y2 w i)∨∃i,i<s.length/\it=a0c s i:=by
 unfold a0P R7 at h
 simp only [List.mem_append,List.mem_map,List.mem_range] at h
 rcases h with ⟨i,h1,rfl⟩ | ⟨i,h1,rfl⟩ | ⟨i,h1,rfl⟩
 ·exact .inl ⟨i,h1,rfl⟩
 ·exact .inr (.inl ⟨i,h1,rfl⟩)
 ·exact .inr (.inr ⟨i,h1,rfl⟩)
theorem a7S {a i:Nat} (ha:a=99∨a=118∨a=112) (hi:i<8):a3L [a,97+i]:=by
 have h1:isL a=true:=by
  rcases ha with rfl | rfl | rfl<;>rfl
 have h2:isL (97+i)=true:=by
  unfold isL
  simp
  omega
 refine ⟨by simp,h1,?_,?_⟩
 ·intro c hc
  simp only [List.mem_cons,List.not_mem_nil,or_false] at hc
  unfold a15
  rcases hc with rfl | rfl
  ·rw [h1];rfl
  ·rw [h2];rfl
 ·intro c hc
  simp only [List.mem_cons,List.not_mem_nil,or_false] at hc
  omega
theorem a7s {r w s:List Nat} (hr:r.length<=3) (hw:w.length<=8) (hs:s.length<=4) {it:Im} (h:it∈a0P r w s):it.lex/\it.small/\it.name.length<=10/\it.size<=10:=by
 rcases a6l h with ⟨i,h1,rfl⟩ | ⟨i,h1,rfl⟩ | ⟨i,h1,rfl⟩
 ·exact ⟨⟨a7S (.inl rfl) (by omega),by omega,by omega⟩,⟨by omega,by omega⟩,by simp [Z4,Im.name],by simp [Z4,Im.size]⟩
 ·exact ⟨⟨a7S (.inr (.inl rfl)) (by omega),by omega⟩,(by show 1+w.getD i 0 % 8<=1000;omega),by simp [Y2,Im.name],by simp [Y2,Im.size]⟩
 ·exact ⟨a7S (.inr (.inr rfl)) (by omega),(by show s.getD i 0 % 9<=100;omega),by simp [a0c,Im.name],by simp only [a0c,Im.size];omega⟩
theorem b8a {r w s:List Nat}:(a0P r w s).length=r.length+(w.length+s.length):=by simp [a0P]
theorem b0j {a b c d:Nat} (ha:a<256) (hb:b<256) (hc:c<256) (hd:d<256) (h:a≠c∨b≠d):bs [a,b]≠bs [c,d]:=by
 intro e
 have:=a8Y (a:=[a,b]) (b:=[c,d]) (by simp;omega) (by simp;omega) e
 simp at this
 omega
theorem a7Q (f:Nat->Im) (k:Int) (n:Nat):((R7 f n).countP fun it=>it.tag==k)<=n:=by
 have:=List.countP_le_length (p:=fun it:Im=>it.tag==k) (l:=R7 f n)
 rwa [b1D] at this
theorem a4d (f:Nat->Im) (k j:Int) (n:Nat) (h:∀i,(f i).tag=j) (hk:j≠k):((R7 f n).countP fun it=>it.tag==k)=0:=by
 rw [List.countP_eq_zero]
 intro a ha
 obtain ⟨i,_,rfl⟩:=List.mem_map.1 ha
 rw [h i]
 simpa using hk
theorem b3O {r w s:List Nat} (hr:r.length<=3) (hw:w.length<=8) (hs:s.length<=4):a6o (a0P r w s):=by
 have t1:∀i,(Z4 r i).tag=1:=fun i=>rfl
 have t2:∀i,(Y2 w i).tag=2:=fun i=>rfl
 have t3:∀i,(a0c s i).tag=3:=fun i=>rfl
 refine ⟨?_,?_,?_,?_,?_,?_⟩
 ·intro n k m h
  rcases a6l h with ⟨i,h1,e⟩ | ⟨i,h1,e⟩ | ⟨i,h1,e⟩
  ·simp only [Z4,Im.ch.injEq] at e
   omega
  ·simp [Y2] at e
  ·simp [a0c] at e
 ·intro n m h
  rcases a6l h with ⟨i,h1,e⟩ | ⟨i,h1,e⟩ | ⟨i,h1,e⟩
  ·simp [Z4] at e
  ·simp only [Y2,Im.vr.injEq] at e
   omega
  ·simp [a0c] at e
 ·unfold a0P
  rw [List.countP_append,List.countP_append,a4d _ 1 2 _ t2 (by decide),a4d _ 1 3 _ t3 (by decide)]
  have:=a7Q (Z4 r) 1 r.length
  omega
 ·unfold a0P
  rw [List.countP_append,List.countP_append,a4d _ 2 1 _ t1 (by decide),a4d _ 2 3 _ t3 (by decide)]
  have:=a7Q (Y2 w) 2 w.length
  omega
 ·unfold a0P
  rw [List.countP_append,List.countP_append,a4d _ 3 1 _ t1 (by decide),a4d _ 3 2 _ t2 (by decide)]
  have:=a7Q (a0c s) 3 s.length
  omega
 ·have key:∀ (f:Nat->Im) (a n:Nat),(∀i,(f i).name=[a,97+i])->a<256->n<=8->(R7 f n).Pairwise fun x y=>bs x.name≠bs y.name:=by
   intro f a n hf ha hn
   unfold R7
   rw [List.pairwise_map]
   refine List.Pairwise.imp_of_mem ?_ (List.pairwise_lt_range (n:=n))
   intro i j hi hj hij
   rw [List.mem_range] at hi hj
   rw [hf,hf]
   exact b0j ha (by omega) ha (by omega) (.inr (by omega))
  have cross:∀ (f g:Nat->Im) (a b n m:Nat),(∀i,(f i).name=[a,97+i])->(∀i,(g i).name=[b,97+i])->a<256->b<256->a≠b->n<=8->m<=8->∀x∈R7 f n,∀y∈R7 g m,bs x.name≠bs y.name:=by
   intro f g a b n m hf hg ha hb hab hn hm x hx y hy
   unfold R7 at hx hy
   obtain ⟨i,hi,rfl⟩:=List.mem_map.1 hx
   obtain ⟨j,hj,rfl⟩:=List.mem_map.1 hy
   rw [List.mem_range] at hi hj
   rw [hf,hg]
   exact b0j ha (by omega) hb (by omega) (.inl hab)
  have n1:∀i,(Z4 r i).name=[99,97+i]:=fun i=>rfl
  have n2:∀i,(Y2 w i).name=[118,97+i]:=fun i=>rfl
  have n3:∀i,(a0c s i).name=[112,97+i]:=fun i=>rfl
  unfold List.Nodup
  rw [List.pairwise_map]
  unfold a0P
  rw [List.pairwise_append,List.pairwise_append]
  refine ⟨key _ 99 _ n1 (by decide) (by omega),⟨key _ 118 _ n2 (by decide) (by omega),key _ 112 _ n3 (by decide) (by omega),cross _ _ 118 112 _ _ n2 n3 (by decide) (by decide) (by decide) (by omega) (by omega)⟩,?_⟩
  intro x hx y hy
  rcases List.mem_append.1 hy with hy | hy
  ·exact cross _ _ 99 118 _ _ n1 n2 (by decide) (by decide) (by decide) (by omega) (by omega) x hx y hy
  ·exact cross _ _ 99 112 _ _ n1 n3 (by decide) (by decide) (by decide) (by omega) (by omega) x hx y hy
theorem a6b {f:Nat->Im} {m:Nat} (h:∀i,W2 (f i)<=m):∀n,szL W2 (R7 f n)<=m*n
 | 0=>by simp [R7,szL]
 | n+1=>by
   have:=a6b h n
   have:=h n
   rw [a57,a1y,Nat.mul_succ]
   simp only [szL,List.map_cons,List.map_nil,List.sum_cons,List.sum_nil] at *
   omega
theorem b35 (r:List Nat) (i:Nat):W2 (Z4 r i)<=26:=by
 have h1:1+r.getD i 0 % 3<=3:=by omega
 have h2:1+r.getD i 0 / 3 % 8<=8:=by omega
 have:=Nat.mul_le_mul h1 h2
 simp only [Z4,W2]
 omega
theorem b7b (w:List Nat) (i:Nat):W2 (Y2 w i)<=8:=by simp only [Y2,W2];omega
theorem b8h (s:List Nat) (i:Nat):W2 (a0c s i)<=16:=by simp only [a0c,W2];exact (a5M _).2
theorem a7O {f:Nat->Im} (h:∀i,(f i).name.length<=10/\(f i).size<=10) (n:Nat):(M9 (P2 (R7 f n))).length<=100*n:=by
 have:=a9s (its:=R7 f n) fun it hm=>by
  obtain ⟨i,_,rfl⟩:=List.mem_map.1 hm
  exact h i
 rwa [b1D] at this
theorem b7t {s:i8} {a b c:D}:U4 (s.push (.cells [a,b,c])).get (.arr s.next 0 3 1)=some [a,b,c]:=by
 simp only [U4,O4 rfl]
 rfl
theorem a8E {s:i8} {a:D}:U4 (s.push (.cells [a])).get (.arr s.next 0 1 1)=some [a]:=by
 simp only [U4,O4 rfl]
 rfl
theorem b0y {s:i8} {o:M6} {a:D}:U4 ((s.push o).push (.cells [a])).get (.arr (s.next+1) 0 1 1)=some [a]:=by
 have:=a8E (s:=s.push o) (a:=a)
 simpa only [i8.next_push] using this
theorem b8H (id n:Nat):Z7 1 (.arr id 0 n 1)=true:=rfl
attribute [go_sem] b8H
theorem a5y {n:Nat} (h:n<256):a5O (.int .u8 (n:Int))=some (UInt8.ofNat n):=by
 have e:a5O (.int .u8 (n:Int))=if 0<=(n:Int)/\(n:Int)<256 then some (UInt8.ofNat (n:Int).toNat) else none:=rfl
 rw [e,if_pos (by omega),Int.toNat_natCast]
theorem c0o {a b:Nat} (ha:a<256) (hb:b<256):a2i [.int .u8 (a:Int),.int .u8 91,.int .u8 (b:Int)]=some [UInt8.ofNat a,UInt8.ofNat 91,UInt8.ofNat b]:=by
 have h91:=a5y (n:=91) (by decide)
 have e:((91:Nat):Int)=91:=rfl
 rw [e] at h91
 simp only [a2i,a5y ha,a5y hb,h91]
theorem a5Q {a:Nat} (ha:a<256):a2i [.int .u8 (a:Int)]=some [UInt8.ofNat a]:=by
 simp only [a2i,a5y ha]
theorem a30 {n:Int} (h1:0<=n) (h2:n<256):IntKind.u8.wrap n=n:=by
 have e:IntKind.u8.wrap n=n % 256:=rfl
 rw [e]
 omega
end Go.V
namespace Go.Proofs.Ytlaeblilmppodaa
open Go.V
set_option maxRecDepth 100000
set_option maxHeartbeats 8000000
theorem b4J {d0 d1 d2:D} {sk wd rm:List Nat} (h0:FU d0 sk) (h1:FU d1 wd) (h2:FU d2 rm) (b0:∀b∈sk,b<256) (b1:∀b∈wd,b<256) (b2:∀b∈rm,b<256) (haw:Eqc vfs 23 [] (.bool true)) (hW:∀n,a2G n->Eqc vfs 24 [.int .i64 n] (.int .i64 (wid n:Int))) (hfin:∀its d t,O1 d t->TI t its->t.length<=800->a6o its->∃m ps mo,Eqc vfs 26 [d] (.tup [.agg (N2 m),.bool true])/\PZ (.agg (N2 m))/\MoF m mo ps/\Eqc vfs 27 [.agg (N2 m)] (.int .i64 ((szL W2 its+3:Nat):Int))):EvP vfs 7 [d0,d1,d2] i8.empty fun r _=>r=.bool true:=by
 have l0:=FU.len h0
 have l1:=FU.len h1
 have l2:=FU.len h2
 have o0:=FL.one h0
 have o1:=FL.one h1
 have o2:=FL.one h2
 by_cases c0:(4:Int)<(sk.length:Int)
 ·refine V8 (vf:=vf7) rfl ?_
  unfold vf7;refine zF ?_
  refine zY (aN haw (aN l0 (aN l1 (aN l2 (aN o0 (aN o1 (aN o2 c0))))))) ?_
  exact rfl
 by_cases c1:(8:Int)<(wd.length:Int)
 ·refine V8 (vf:=vf7) rfl ?_
  unfold vf7;refine zF ?_
  refine zY (aN haw (aN l0 (aN l1 (aN l2 (aN o0 (aN o1 (aN o2 (aN c0 c1)))))))) ?_
  exact rfl
 by_cases c2:(3:Int)<(rm.length:Int)
 ·refine V8 (vf:=vf7) rfl ?_
  unfold vf7;refine zF ?_
  refine zY (aN haw (aN l0 (aN l1 (aN l2 (aN o0 (aN o1 (aN o2 (aN c0 (aN c1 c2))))))))) ?_
  exact rfl
 refine V8 (vf:=vf7) rfl ?_
 unfold vf7;refine zF ?_
 refine zY (aN haw (aN l0 (aN l1 (aN l2 (aN o0 (aN o1 (aN o2 (aN c0 (aN c1 c2))))))))) ?_
 refine Y6 [0,1,2,6,12,13,14,15,16,17,18,19,20,37,88,120,140] 0 rm.length (fun i f s=>f 9=.int .i64 (i:Int)/\f 7=.str (bs (M9 (P2 (R7 (Z4 rm) i))))/\f 8=.int .i64 ((3+szL W2 (R7 (Z4 rm) i):Nat):Int)) (.mk rfl) (by omega) ⟨rfl,rfl,rfl⟩ ?_
 rintro i f s hi ⟨h9,h7,h8⟩
 have hbt:=a6b (f:=Z4 rm) (m:=26) (b35 rm) i
 have htx:=a7O (f:=Z4 rm) (fun i=>⟨by simp [Z4,Im.name],by simp [Z4,Im.size]⟩) i
 by_cases ci:i<rm.length
 ·have hx:=FU.idx h2 ci (k:=.i64)
  have hr:rm.getD i 0<256:=by rw [List.getD_eq_getElem?_getD,List.getElem?_eq_getElem ci];exact b2 _ (List.getElem_mem ci)
  have hit:Z4 rm i=.ch [99,97+i] (1+rm.getD i 0 % 3) (1+rm.getD i 0 / 3 % 8):=rfl
  have hns:=a57 (Z4 rm) i
  rw [hit] at hns
  generalize R7 (Z4 rm) i=X at *
  generalize rm.getD i 0=r at *
  have ek:IntKind.i64.wrap (1+(r:Int).tmod 3)=((1+r % 3:Nat):Int):=by
   have:(r:Int).tmod 3=((r % 3:Nat):Int):=rfl
   rw [this,P1 (by omega) (by omega)]
   omega
  have ew:IntKind.i64.wrap (1+(IntKind.i64.wrap ((r:Int).tdiv 3)).tmod 8)=((1+r / 3 % 8:Nat):Int):=by
   have e1:(r:Int).tdiv 3=((r / 3:Nat):Int):=rfl
   rw [e1,P1 (n:=((r / 3:Nat):Int)) (by omega) (by omega)]
   have e2:((r / 3:Nat):Int).tmod 8=((r / 3 % 8:Nat):Int):=rfl
   rw [e2,P1 (by omega) (by omega)]
   omega
  have hK:1+r % 3<=3:=by omega
  have hV:1+r / 3 % 8<=8:=by omega
  generalize 1+r % 3=K at *
  generalize 1+r / 3 % 8=V at *
  generalize htxe:M9 (P2 X)=tx at *
  have a1:a0g .add (bs tx) (bs [99,104,97,110,32,99])=some (.str (bs (tx++[99,104,97,110,32,99]))):=a05 (by simp;omega)
  have u1:IntKind.u8.wrap (97+(i:Int))=((97+i:Nat):Int):=by rw [a30 (by omega) (by omega)];omega
  have u2:IntKind.u8.wrap (48+(K:Int))=((48+K:Nat):Int):=by rw [a30 (by omega) (by omega)];omega
  have u3:IntKind.u8.wrap (48+(V:Int))=((48+V:Nat):Int):=by rw [a30 (by omega) (by omega)];omega
  have y1:=c0o (a:=97+i) (b:=48+K) (by omega) (by omega)
  have y2:=a5Q (a:=48+V) (by omega)
  have r1:=fun (s:i8) (a b c:D)=>b7t (s:=s) (a:=a) (b:=b) (c:=c)
  have r2:=fun (s:i8) (o:M6) (a:D)=>b0y (s:=s) (o:=o) (a:=a)
  have z1:(ByteArray.mk [UInt8.ofNat (97+i),UInt8.ofNat 91,UInt8.ofNat (48+K)].toArray)=bs [97+i,91,48+K]:=rfl
  have z2:(ByteArray.mk [UInt8.ofNat (48+V)].toArray)=bs [48+V]:=rfl
  have a2:a0g .add (bs (tx++[99,104,97,110,32,99])) (bs [97+i,91,48+K])=some (.str (bs ((tx++[99,104,97,110,32,99])++[97+i,91,48+K]))):=a05 (by simp;omega)
  have a3:a0g .add (bs ((tx++[99,104,97,110,32,99])++[97+i,91,48+K])) (bs [93,32,111,102,32])=some (.str (bs (((tx++[99,104,97,110,32,99])++[97+i,91,48+K])++[93,32,111,102,32]))):=a05 (by simp;omega)
  have a4:a0g .add (bs (((tx++[99,104,97,110,32,99])++[97+i,91,48+K])++[93,32,111,102,32])) (bs [48+V])=some (.str (bs ((((tx++[99,104,97,110,32,99])++[97+i,91,48+K])++[93,32,111,102,32])++[48+V]))):=a05 (by simp;omega)
  have a5:a0g .add (bs ((((tx++[99,104,97,110,32,99])++[97+i,91,48+K])++[93,32,111,102,32])++[48+V])) (bs [59,32])=some (.str (bs (((((tx++[99,104,97,110,32,99])++[97+i,91,48+K])++[93,32,111,102,32])++[48+V])++[59,32]))):=a05 (by simp;omega)
  refine zY (aN h9 (aN h7 (aN h8 (aN l2 (aN ci (aN hx (aN ek (aN ew (aN a1 (aN a2 (aN a3 (aN a4 (aN a5 (aN u1 (aN u2 (aN u3 (aN y1 (aN y2 (aN r1 (aN r2 (aN z1 z2))))))))))))))))))))) ?_
  constructor
  ·rw [hns,a16,a1B,a8J,b2w,htxe]
   simp
  ·rw [hns,a1y]
   have hm:=Nat.mul_le_mul hK hV
   have e1:(K:Int)*(V:Int)=((K*V:Nat):Int):=by simp
   have e2:szL W2 [Im.ch [99,97+i] K V]=2+K*V:=by simp [szL,W2]
   rw [e1,e2]
   generalize K*V=P at *
   rw [P1 (n:=(P:Int)) (by omega) (by omega),P1 (n:=2+(P:Int)) (by omega) (by omega),P1 (by omega) (by omega)]
   omega
 obtain rfl:i=rm.length:=by omega
 generalize hA:R7 (Z4 rm) rm.length=A at *
 refine zY (aN h9 (aN h7 (aN h8 (aN l2 ci)))) ?_
 refine Y6 [0,1,2,6,9,10,11,14,15,16,17,18,19,20,37,42,120,140] 0 wd.length (fun i f s=>f 12=.int .i64 (i:Int)/\f 7=.str (bs (M9 (P2 (A++R7 (Y2 wd) i))))/\f 8=.int .i64 ((3+szL W2 (A++R7 (Y2 wd) i):Nat):Int)) (.mk rfl) (by omega) ⟨rfl,?_,?_⟩ ?_
 ·show D.str _=_
  simp [R7]
 ·show D.int _ _=_
  simp [R7]
 clear h9 h7 h8 hi ci
 rintro i f s hi ⟨h9,h7,h8⟩
 have hbv:=a6b (f:=Y2 wd) (m:=8) (b7b wd) i
 have htv:=a7O (f:=Y2 wd) (fun i=>⟨by simp [Y2,Im.name],by simp [Y2,Im.size]⟩) i
 rw [a16,a1B] at h7
 rw [a1y] at h8
 by_cases ci:i<wd.length
 ·have hx:=FU.idx h1 ci (k:=.i64)
  have hr:wd.getD i 0<256:=by rw [List.getD_eq_getElem?_getD,List.getElem?_eq_getElem ci];exact b1 _ (List.getElem_mem ci)
  have hit:Y2 wd i=.vr [118,97+i] (1+wd.getD i 0 % 8):=rfl
  have hns:=a57 (Y2 wd) i
  rw [hit] at hns
  generalize R7 (Y2 wd) i=X at *
  generalize wd.getD i 0=r at *
  have ew:IntKind.i64.wrap (1+(r:Int).tmod 8)=((1+r % 8:Nat):Int):=by
   have:(r:Int).tmod 8=((r % 8:Nat):Int):=rfl
   rw [this,P1 (by omega) (by omega)]
   omega
  have hV:1+r % 8<=8:=by omega
  generalize 1+r % 8=V at *
  have htx2:(M9 (P2 A)++M9 (P2 X)).length<=1100:=by rw [List.length_append];omega
  generalize htxe:M9 (P2 A)++M9 (P2 X)=tx at *
  have a1:a0g .add (bs tx) (bs [118,97,114,32,118])=some (.str (bs (tx++[118,97,114,32,118]))):=a05 (by simp;omega)
  have u1:IntKind.u8.wrap (97+(i:Int))=((97+i:Nat):Int):=by rw [a30 (by omega) (by omega)];omega
  have u3:IntKind.u8.wrap (48+(V:Int))=((48+V:Nat):Int):=by rw [a30 (by omega) (by omega)];omega
  have y1:=a5Q (a:=97+i) (by omega)
  have y2:=a5Q (a:=48+V) (by omega)
  have r1:=fun (s:i8) (a:D)=>a8E (s:=s) (a:=a)
  have r2:=fun (s:i8) (o:M6) (a:D)=>b0y (s:=s) (o:=o) (a:=a)
  have z1:(ByteArray.mk [UInt8.ofNat (97+i)].toArray)=bs [97+i]:=rfl
  have z2:(ByteArray.mk [UInt8.ofNat (48+V)].toArray)=bs [48+V]:=rfl
  have a2:a0g .add (bs (tx++[118,97,114,32,118])) (bs [97+i])=some (.str (bs ((tx++[118,97,114,32,118])++[97+i]))):=a05 (by simp;omega)
  have a3:a0g .add (bs ((tx++[118,97,114,32,118])++[97+i])) (bs [32,111,102,32])=some (.str (bs (((tx++[118,97,114,32,118])++[97+i])++[32,111,102,32]))):=a05 (by simp;omega)
  have a4:a0g .add (bs (((tx++[118,97,114,32,118])++[97+i])++[32,111,102,32])) (bs [48+V])=some (.str (bs ((((tx++[118,97,114,32,118])++[97+i])++[32,111,102,32])++[48+V]))):=a05 (by simp;omega)
  have a5:a0g .add (bs ((((tx++[118,97,114,32,118])++[97+i])++[32,111,102,32])++[48+V])) (bs [59,32])=some (.str (bs (((((tx++[118,97,114,32,118])++[97+i])++[32,111,102,32])++[48+V])++[59,32]))):=a05 (by simp;omega)
  refine zY (aN h9 (aN h7 (aN h8 (aN l1 (aN ci (aN hx (aN ew (aN a1 (aN a2 (aN a3 (aN a4 (aN a5 (aN u1 (aN u3 (aN y1 (aN y2 (aN r1 (aN r2 (aN z1 z2))))))))))))))))))) ?_
  constructor
  ·rw [hns,a16,a16,a1B,a1B,a8J,b0I,<- List.append_assoc,htxe]
   simp
  ·rw [hns,a1y,a1y]
   have e2:szL W2 [Im.vr [118,97+i] V]=V:=by simp [szL,W2]
   rw [e2]
   omega
 obtain rfl:i=wd.length:=by omega
 rw [<- a1B,<- a16] at h7
 rw [<- a1y] at h8
 have hBt:(M9 (P2 (A++R7 (Y2 wd) wd.length))).length<=1100:=by rw [a16,a1B,List.length_append];omega
 have hBb:szL W2 (A++R7 (Y2 wd) wd.length)<=200:=by rw [a1y];omega
 generalize hB:A++R7 (Y2 wd) wd.length=B at *
 refine zY (aN h9 (aN h7 (aN h8 (aN l1 ci)))) ?_
 clear h9 h7 h8 hi ci hbv htv hbt htx
 refine Y6 [0,1,2,6,9,10,11,12,13,17,18,19,20,37,42,88] 0 sk.length (fun i f s=>f 14=.int .i64 (i:Int)/\f 7=.str (bs (M9 (P2 (B++R7 (a0c sk) i))))/\f 8=.int .i64 ((3+szL W2 (B++R7 (a0c sk) i):Nat):Int)) (.mk rfl) (by omega) ⟨rfl,?_,?_⟩ ?_
 ·show D.str _=_
  simp [R7]
 ·show D.int _ _=_
  simp [R7]
 rintro i f s hi ⟨h9,h7,h8⟩
 have hbv:=a6b (f:=a0c sk) (m:=16) (b8h sk) i
 have htv:=a7O (f:=a0c sk) (fun i=>⟨by simp [a0c,Im.name],by simp only [a0c,Im.size];omega⟩) i
 rw [a16,a1B] at h7
 rw [a1y] at h8
 by_cases ci:i<sk.length
 ·have hx:=FU.idx h0 ci (k:=.i64)
  have hr:sk.getD i 0<256:=by rw [List.getD_eq_getElem?_getD,List.getElem?_eq_getElem ci];exact b0 _ (List.getElem_mem ci)
  have hit:a0c sk i=.pr [112,97+i] (sk.getD i 0 % 9):=rfl
  have hns:=a57 (a0c sk) i
  rw [hit] at hns
  generalize R7 (a0c sk) i=X at *
  generalize sk.getD i 0=r at *
  have ew:(r:Int).tmod 9=((r % 9:Nat):Int):=rfl
  have hV:r % 9<=8:=by omega
  generalize r % 9=V at *
  have htx2:(M9 (P2 B)++M9 (P2 X)).length<=1500:=by rw [List.length_append];omega
  generalize htxe:M9 (P2 B)++M9 (P2 X)=tx at *
  have a1:a0g .add (bs tx) (bs [112,114,111,99,32,112])=some (.str (bs (tx++[112,114,111,99,32,112]))):=a05 (by simp;omega)
  have u1:IntKind.u8.wrap (97+(i:Int))=((97+i:Nat):Int):=by rw [a30 (by omega) (by omega)];omega
  have y1:=a5Q (a:=97+i) (by omega)
  have r1:=fun (s:i8) (a:D)=>a8E (s:=s) (a:=a)
  have z1:(ByteArray.mk [UInt8.ofNat (97+i)].toArray)=bs [97+i]:=rfl
  have a2:a0g .add (bs (tx++[112,114,111,99,32,112])) (bs [97+i])=some (.str (bs ((tx++[112,114,111,99,32,112])++[97+i]))):=a05 (by simp;omega)
  have a3:a0g .add (bs ((tx++[112,114,111,99,32,112])++[97+i])) (bs [32,123,32])=some (.str (bs (((tx++[112,114,111,99,32,112])++[97+i])++[32,123,32]))):=a05 (by simp;omega)
  refine zY (aN h9 (aN h7 (aN h8 (aN l0 (aN ci (aN hx (aN ew (aN a1 (aN a2 (aN a3 (aN u1 (aN y1 (aN r1 z1))))))))))))) ?_
  have htu:(tx++[112,114,111,99,32,112]++[97+i]++[32,123,32]).length<=1600:=by simp;omega
  have htue:tx++[112,114,111,99,32,112]++[97+i]++[32,123,32]=tx++([112,114,111,99,32]++([112,97+i]++[32,123,32])):=by simp
  generalize tx++[112,114,111,99,32,112]++[97+i]++[32,123,32]=ux at *
  refine Y6 [0,1,2,6,8,9,10,11,12,13,14,15,17,18,19,20,37,42,88,120] 0 V (fun q f s=>f 16=.int .i64 (q:Int)/\f 7=.str (bs (ux++a1D q))) (.mk rfl) (by omega) ⟨rfl,?_⟩ ?_
  ·show D.str _=_
   simp [a1D]
  rintro q g s2 hq ⟨k1,k7⟩
  have hsl:=a7F q
  by_cases cq:q<V
  ·have b1:a0g .add (bs (ux++a1D q)) (bs [115,107,105,112,59,32])=some (.str (bs ((ux++a1D q)++[115,107,105,112,59,32]))):=a05 (by simp;omega)
   refine zY (aN k1 (aN k7 (aN cq b1))) ?_
   rw [a1D,List.append_assoc]
  ·obtain rfl:q=V:=by omega
   have b1:a0g .add (bs (ux++a1D q)) (bs [125,32])=some (.str (bs ((ux++a1D q)++[125,32]))):=a05 (by simp;omega)
   have hw:=hW (max ((q+1:Nat):Int) 2) ⟨by omega,by omega⟩
   have hwe:max ((q+1:Nat):Int) 2=((max (q+1) 2:Nat):Int):=by omega
   have hwi:=a5M (max ((q+1:Nat):Int) 2)
   refine zY (aN k1 (aN k7 (aN cq (aN b1 hw)))) ?_
   refine ⟨ci,?_,?_⟩
   ·rw [hns,a16,a16,a1B,a1B,a8J,b02,<- List.append_assoc,htxe,htue]
    simp
   ·rw [hns,a1y,a1y,hwe]
    have e2:szL W2 [Im.pr [112,97+i] q]=wid ((max (q+1) 2:Nat):Int):=by simp [szL,W2]
    rw [hwe] at hwi
    rw [e2]
    omega
 obtain rfl:i=sk.length:=by omega
 rw [<- a1B,<- a16,<- hB,<- hA,List.append_assoc] at h7
 rw [<- a1y,<- hB,<- hA,List.append_assoc] at h8
 have hal:R7 (Z4 rm) rm.length++(R7 (Y2 wd) wd.length++R7 (a0c sk) sk.length)=a0P rm wd sk:=rfl
 rw [hal] at h7 h8
 have hln:=b8a (r:=rm) (w:=wd) (s:=sk)
 obtain ⟨dT,t,hpa,hT,hI⟩:=b6X (its:=a0P rm wd sk) (fun it hm=>by
  have:=a7s (r:=rm) (w:=wd) (s:=sk) (by omega) (by omega) (by omega) hm
  refine ⟨this.1,this.2.1,?_⟩
  rcases a6l hm with ⟨i,h1,rfl⟩ | ⟨i,h1,rfl⟩ | ⟨i,h1,rfl⟩
  ·exact b8e (by omega)
  ·exact c2T (by omega)
  ·exact b6I (by omega)) (fun it hm=>(a7s (r:=rm) (w:=wd) (s:=sk) (by omega) (by omega) (by omega) hm).2.2) (by omega)
 have htl:=hI.its.le
 have hsz:=a98 (its:=a0P rm wd sk) (m:=10) fun it hm=>(a7s (r:=rm) (w:=wd) (s:=sk) (by omega) (by omega) (by omega) hm).2.2.2
 obtain ⟨m,ps,mo,hmk,pm,hm,hbi⟩:=hfin _ dT t hT hI (by omega) (b3O (by omega) (by omega) (by omega))
 have pT:PZ dT:=hT.fl.pz
 have om:=hm.ones
 have oT:=FL.one hT.fl
 have e3:szL W2 (a0P rm wd sk)+3=3+szL W2 (a0P rm wd sk):=by omega
 rw [e3] at hbi
 generalize 3+szL W2 (a0P rm wd sk)=N at *
 unfold N2 at hmk hbi pm
 refine zY (aN h9 (aN h7 (aN h8 (aN l0 (aN ci (aN hpa (aN hmk (aN hbi (aN pT (aN pm (aN om oT))))))))))) ?_
 exact rfl
end Go.Proofs.Ytlaeblilmppodaa
namespace Go.Proofs.Ytlaeblilmppodaa
open Go.V
set_option maxRecDepth 100000
theorem c2q {f:Nat} {l:List D} {r:D} (h:Iso f l r) (hs:W5 r=true):a1a vfs f l r:=by
 obtain ⟨s1,h⟩:=h
 exact ⟨r,s1,h,a5v hs 19⟩
theorem a2D {f:Nat} {l:List D} {r:D} (h:Iso f l r) (hs:W5 r=true):Eqc vfs f l r:=a0s (c2q h hs)
end Go.Proofs.Ytlaeblilmppodaa
namespace Go.Proofs.Ytlaeblilmppodaa
open Go.V
set_option maxRecDepth 100000
set_option maxHeartbeats 4000000
end Go.Proofs.Ytlaeblilmppodaa
namespace Go.Proofs.Ytlaeblilmppodaa
open Go.V
set_option maxRecDepth 100000
set_option maxHeartbeats 4000000
variable {m:MdX} {mo:Mo} {ps:List (Pr×PrD)} {x:StD} {st:Stt}
end Go.Proofs.Ytlaeblilmppodaa
namespace Go.Proofs.Ytlaeblilmppodaa
open Go.V
set_option maxRecDepth 100000
set_option maxHeartbeats 4000000
variable {m:MdX} {mo:Mo} {ps:List (Pr×PrD)} {x:StD} {st:Stt}
end Go.Proofs.Ytlaeblilmppodaa
namespace Go.Proofs.Ytlaeblilmppodaa
open Go.V
set_option maxRecDepth 100000
set_option maxHeartbeats 4000000
variable {m:MdX} {mo:Mo} {ps:List (Pr×PrD)} {x:StD} {st:Stt}
end Go.Proofs.Ytlaeblilmppodaa
namespace Go.Proofs.Ytlaeblilmppodaa
open Go.V
set_option maxRecDepth 100000
set_option maxHeartbeats 4000000
variable {m:MdX} {mo:Mo} {ps:List (Pr×PrD)} {x:StD} {st:Stt}
end Go.Proofs.Ytlaeblilmppodaa
namespace Go.Proofs.Ytlaeblilmppodaa
open Go.V
set_option maxRecDepth 100000
set_option maxHeartbeats 4000000
variable {m:MdX} {mo:Mo} {ps:List (Pr×PrD)} {x:StD} {st:Stt}
end Go.Proofs.Ytlaeblilmppodaa
namespace Go.Proofs.Ytlaeblilmppodaa
open Go.V
set_option maxRecDepth 100000
set_option maxHeartbeats 4000000
theorem b3x {w:Nat} (h:w<=16):(2:Int) ^ w<=65536/\(1:Int)<=2 ^ w:=by
 have h1:2 ^ w<=2 ^ 16:=Nat.pow_le_pow_right (by omega) h
 have h2:0<2 ^ w:=Nat.two_pow_pos w
 have:=b8G w
 omega
theorem b7n {w:Nat} {k:IntKind} (h:w<=16):a5b .shl .i64 1 (w:Int)=some (.int .i64 (2 ^ w)):=by
 have:=b3x h
 unfold a5b
 rw [if_neg (by omega)]
 simp only [Int.toNat_natCast]
 rw [show min w IntKind.i64.bits=w by rw [show IntKind.i64.bits=64 from rfl];omega,Int.one_mul,P1 (by omega) (by omega)]
theorem b6q {n:Int}:Eqc vfs 33 [.int .i64 n] (.int .i64 (wid n:Int)):=by
 refine a0s ?_
 refine V3 (vf:=a8D) rfl ?_
 unfold a8D;refine zF ?_
 refine zY0 ?_
 refine Y6 [0,2] 0 15 (fun i f s=>f 3=.int .i64 ((i+1:Nat):Int)/\a1Y n (15-i) (i+1)=wid n) (.mk rfl) (by omega) ⟨rfl,rfl⟩ ?_
 rintro i f s hi ⟨hE,hw⟩
 have hs:=b7n (w:=i+1) (k:=.u64) (by omega)
 have hu:IntKind.u64.wrap ((i+1:Nat):Int)=((i+1:Nat):Int):=by
  rw [IntKind.wrap_u64];omega
 have h16:(((i+1:Nat):Int)<16)=(i<15):=by apply propext;omega
 by_cases ci:i<15
 ·have e:15-i=(15-(i+1))+1:=by omega
  rw [e,a1Y] at hw
  by_cases cn:(2:Int) ^ (i+1)<n
  ·rw [if_pos ⟨by omega,cn⟩] at hw
   refine zY (aN hE (aN hs (aN hu (aN h16 (aN ci cn))))) ?_
   exact hw
  ·rw [if_neg (by omega)] at hw
   refine zY (aN hE (aN hs (aN hu (aN h16 (aN ci cn))))) ?_
   exact hw
 ·obtain rfl:i=15:=by omega
  have hw:15+1=wid n:=hw
  refine zY (aN hE (aN hs (aN hu (aN h16 ci)))) ?_
  rw [<- hw];rfl
theorem b5l {n:Int} (hn:a2G n):Eqc vfs 24 [.int .i64 n] (.int .i64 (wid n:Int)):=by
 refine a0s ?_
 refine V3 (vf:=a9n) rfl ?_
 unfold a9n;refine zF ?_
 refine zY0 ?_
 refine Y6 [0,2] 0 15 (fun i f s=>f 3=.int .i64 ((i+1:Nat):Int)/\f 4=.int .i64 (2 ^ (i+1))/\a1Y n (15-i) (i+1)=wid n) (.mk rfl) (by omega) ⟨rfl,rfl,rfl⟩ ?_
 rintro i f s hi ⟨hE,hE4,hw⟩
 have h16:(((i+1:Nat):Int)<16)=(i<15):=by apply propext;omega
 have hp:=b3x (w:=i+1) (by omega)
 have hm:IntKind.i64.wrap ((2:Int) ^ (i+1)*2)=2 ^ (i+1+1):=by rw [P1 (by omega) (by omega),Int.pow_succ 2 (i+1)]
 by_cases cn:(2:Int) ^ (i+1)<n
 ·by_cases ci:i<15
  ·have e:15-i=(15-(i+1))+1:=by omega
   rw [e,a1Y,if_pos ⟨by omega,cn⟩] at hw
   refine zY (aN hE (aN hE4 (aN hm (aN h16 (aN ci cn))))) ?_
   exact hw
  ·obtain rfl:i=15:=by omega
   have hw:15+1=wid n:=hw
   refine zY (aN hE (aN hE4 (aN hm (aN h16 (aN ci cn))))) ?_
   rw [<- hw];rfl
 ·have hw:i+1=wid n:=by
   by_cases ci:i<15
   ·have e:15-i=(15-(i+1))+1:=by omega
    rw [e,a1Y,if_neg (by omega)] at hw
    exact hw
   ·obtain rfl:i=15:=by omega
    exact hw
  refine zY (aN hE (aN hE4 (aN hm (aN h16 cn)))) ?_
  exact hw
end Go.Proofs.Ytlaeblilmppodaa
namespace Go.Proofs.Ytlaeblilmppodaa
open Go.V
set_option maxRecDepth 100000
set_option maxHeartbeats 4000000
end Go.Proofs.Ytlaeblilmppodaa
namespace Go.Proofs.Ytlaeblilmppodaa
open Go.V
set_option maxRecDepth 100000
set_option maxHeartbeats 4000000
variable {m:MdX} {mo:Mo} {ps:List (Pr×PrD)} {x:StD} {st:Stt}
end Go.Proofs.Ytlaeblilmppodaa
namespace Go.V
def RdB (s:i8) (d:D) (l:List Bool):Prop:=FL 1 d (P0 l)∨∃id off cs,d=.arr id off l.length 1/\s.get id=some (.cells cs)/\off+l.length<=cs.length/\(cs.drop off).take l.length=a0G l
theorem RdB.one {s:i8} {d:D} {l:List Bool} (h:RdB s d l):q8 d=true:=by
 rcases h with h | ⟨id,off,cs,rfl,_⟩
 ·exact h.one
 ·rfl
theorem RdB.len {s:i8} {d:D} {l:List Bool} (h:RdB s d l):X4 false d=some (.int .i64 (l.length:Int)):=by
 rcases h with h | ⟨id,off,cs,rfl,_⟩
 ·exact b1v h
 ·rfl
theorem RdB.stay {s s':i8} {d:D} {l:List Bool} (h:RdB s d l) (hs:∀id off len,d=.arr id off len 1->s'.get id=s.get id):RdB s' d l:=by
 rcases h with h | ⟨id,off,cs,rfl,h1,h2,h3⟩
 ·exact .inl h
 ·exact .inr ⟨id,off,cs,rfl,by rw [hs id off _ rfl,h1],h2,h3⟩
theorem RdB.take {s:i8} {d:D} {l:List Bool} (h:RdB s d l) {n:Nat} (hn:n<=l.length) {k:IntKind}:∃d',a0E (some 1) d none (some (.int k (n:Int)))=some d'/\RdB s d' (l.take n):=by
 rcases h with h | ⟨id,off,cs,rfl,h1,h2,h3⟩
 ·obtain ⟨d',e1,e2⟩:=FL.take h (n:=n) (by simpa using hn) (k:=k)
  exact ⟨d',e1,.inl (by rw [c0M];exact e2)⟩
 ·by_cases h0:0<l.length
  ·refine ⟨.arr id off n 1,by simp [a0E,Z6,hn];intro h;subst h;simp at h0,.inr ⟨id,off,cs,by simp [Nat.min_eq_left hn],h1,by simp;omega,?_⟩⟩
   have:(l.take n).length=n:=by simp;omega
   rw [this]
   have e:=congrArg (List.take n) h3
   rw [List.take_take,Nat.min_eq_left hn] at e
   rw [e];simp [a0G,List.map_take]
  ·have e:l=[]:=List.eq_nil_of_length_eq_zero (by omega)
   subst e
   obtain rfl:n=0:=by simpa using hn
   exact ⟨.lst 1 [],by simp [a0E,Z6],.inl (.inr rfl)⟩
theorem RdB.drop {s:i8} {d:D} {l:List Bool} (h:RdB s d l) {n:Nat} (hn:n<=l.length) {k:IntKind}:∃d',a0E (some 1) d (some (.int k (n:Int))) none=some d'/\RdB s d' (l.drop n):=by
 rcases h with h | ⟨id,off,cs,rfl,h1,h2,h3⟩
 ·obtain ⟨d',e1,e2⟩:=FL.drop h (n:=n) (by simpa using hn) (k:=k)
  exact ⟨d',e1,.inl (by rw [b4n];exact e2)⟩
 ·by_cases h0:n<l.length
  ·refine ⟨.arr id (off+n) (l.length-n) 1,by simp [a0E,Z6,h0,hn],.inr ⟨id,off+n,cs,by simp,h1,by simp;omega,?_⟩⟩
   have e:=congrArg (List.drop n) h3
   rw [List.drop_take,List.drop_drop] at e
   rw [List.length_drop,e];simp [a0G,List.map_drop]
  ·have e:l.drop n=[]:=List.drop_eq_nil_of_le (by omega)
   rw [e]
   exact ⟨.lst 1 [],by simp [a0E,Z6,hn,h0],.inl (.inr rfl)⟩
theorem RdB.frz {s:i8} {d:D} {l:List Bool} (h:RdB s d l) (n:Nat):∃d',ice s.get (n+2) d=some d'/\FL 1 d' (P0 l):=by
 rcases h with h | ⟨id,off,cs,rfl,h1,h2,h3⟩
 ·rcases h with ⟨rfl,h⟩ | rfl
  ·exact ⟨.nils,rfl,.inl ⟨rfl,h⟩⟩
  ·exact ⟨_,rfl,.inr rfl⟩
 ·refine ⟨.lst 1 (P0 l),?_,.inr rfl⟩
  have e1:U4 s.get (.arr id off l.length 1)=some (a0G l):=by
   simp only [U4,h1,Nat.mul_one,h3]
   rw [if_pos h2]
  have e2:M3 (ice s.get (n+1)) (a0G l)=some (a0G l):=a5m (by simp [a0G,W5])
  simp only [ice,e1,e2,Option.map_some]
  have e3:=a6L (a0G l)
  rw [b0Z] at e3
  rw [e3]
  simp [a0G,P0]
theorem RdB.idx {s:i8} {d:D} {l:List Bool} (h:RdB s d l) {i:Nat} (hi:i<l.length) {k:IntKind}:∃p,M1 1 d (.int k (i:Int))=some p/\ldV s.get none p=some (.bool (aB l i)):=by
 rcases h with h | ⟨id,off,cs,rfl,h1,h2,h3⟩
 ·exact ⟨_,b9O h hi,rfl⟩
 ·refine ⟨.ptr id (off+i),?_,?_⟩
  ·have:(i:Int)<(l.length:Int):=by omega
   simp only [M1]
   rw [if_pos ⟨trivial,by omega,this⟩]
   simp
  ·have e:cs[off+i]?=some (.bool (aB l i)):=by
    have:=congrArg (fun x=>x[i]?) h3
    simp only [List.getElem?_take,hi,if_true,List.getElem?_drop] at this
    rw [this,b1e hi]
   simp only [ldV,h1,Y5,e]
   try rfl
theorem RdB.lt {s:i8} {d:D} {l:List Bool} (h:RdB s d l):∀id off len,d=.arr id off len 1->id<s.next:=by
 intro id off len e
 rcases h with h | ⟨id',off',cs,e',h1,_⟩
 ·subst e;rcases h with ⟨h,_⟩ | h<;>cases h
 ·rw [e] at e';cases e';exact k4 h1
def Rdq (s:i8) (r:Nat) (l:List Bool) (src:Nat->Prop):Prop:=∃d,s.get r=some (.cells [d])/\RdB s d l/\∀id off len,d=.arr id off len 1->src id
theorem Rdq.fr {s s':i8} {l:List Bool} {r:Nat} {src:Nat->Prop} {ids:List Nat} (h:Rdq s r l src) (hf:Fr ids s s') (h1:r∉ids) (h2:∀i,src i->i∉ids):Rdq s' r l src:=by
 obtain ⟨d,g,k,q⟩:=h
 refine ⟨d,by rw [hf.2 _ (k4 g) h1,g],?_,q⟩
 rcases k with k | ⟨id,off,cs,rfl,k1,k2,k3⟩
 ·exact .inl k
 ·exact .inr ⟨id,off,cs,rfl,by rw [hf.2 _ (k4 k1) (h2 id (q id off _ rfl)),k1],k2,k3⟩
structure UnN (n:Nat) (mcs:List D) (s0 s:i8) (dA dV dC:D) (W:Hs):Prop where
 hp:Hp s ((n+3,[dA,dV,dC,.int .i64 0])::(n+1,[.nils,.nils,.nils,.int .i64 0])::W) [(n,mcs)]
 nw:∀e∈W,n+4<=e.1
 old:∀j,j<n->s.get j=s0.get j
theorem UnN.lt {n:Nat} {mcs:List D} {s0 s:i8} {dA dV dC:D} {W:Hs} (h:UnN n mcs s0 s dA dV dC W):n+3<s.next:=k4 (h.hp.w (n+3,[dA,dV,dC,.int .i64 0]) (by simp))
theorem UnN.fr {n:Nat} {mcs:List D} {s0 s s':i8} {dA dV dC:D} {W:Hs} {ids:List Nat} (h:UnN n mcs s0 s dA dV dC W) (hf:Fr ids s s') (hi:∀i∈ids,i=n+2):UnN n mcs s0 s' dA dV dC W :=
 ⟨h.hp.frI hf fun w hw hn=>by
  have:=hi _ hn
  simp only [List.cons_append,List.mem_cons,List.mem_append,List.not_mem_nil,or_false] at hw
  rcases hw with rfl | rfl | hw | rfl
  ·simp at this
  ·simp at this
  ·have:=h.nw w hw;omega
  ·simp at this,h.nw,fun j hj=>by rw [hf.2 j (by have:=h.lt;omega) (fun hc=>by have:=hi j hc;omega),h.old j hj]⟩
structure StU (s:i8) (x:StD) (st:Stt):Prop where
 a:SN s 1 x.da (Q0 st.at')
 v:SN s 1 x.dv (a0H st.vars)
 c:∃qs:List D,SN s 1 x.dc (qs.map fun q=>[q])/\qs.length=st.chans.length/\∀j,j<qs.length->ChR s (dAt qs j) (cAt st.chans j)
theorem FL.sn {s:i8} {n:Nat} {d:D} {rows:List (List D)} (h:FL n d rows):SN s n d rows:=by
 rcases h with ⟨rfl,h⟩ | rfl
 ·exact .inl ⟨rfl,h⟩
 ·exact .inr (.inr rfl)
theorem FL.chr {s:i8} {d:D} {l:List Int} (h:FI d l):ChR s d l:=by
 rcases h with ⟨rfl,h⟩ | rfl
 ·exact .inl ⟨rfl,by simpa [a0H] using h⟩
 ·exact .inr (.inl rfl)
theorem StF.u {s:i8} {x:StD} {st:Stt} (h:StF x st):StU s x st:=by
 obtain ⟨ds,h1,h2,h3⟩:=h.c
 refine ⟨h.a.sn,FL.sn h.v,ds,h1.sn,h2,fun j hj=>?_⟩
 rw [a8d hj,a9o (by omega)]
 exact FL.chr (h3 j hj (by omega))
theorem a1i.u {s:i8} {cs:List D} {st:Stt} (h:a1i s cs st):∃x:StD,cs=[x.da,x.dv,x.dc,.int .i64 st.hold]/\StU s x st:=by
 obtain ⟨dA,dV,dC,qs,rfl,hA,hV,hC,hn,hl,hq⟩:=h
 exact ⟨⟨dA,dV,dC⟩,rfl,hA,hV,qs,hC,hl,fun j hj=>by
  rw [a8d hj,a9o (by omega)]
  exact hq j hj (by omega)⟩
theorem ChR.stay {s s':i8} {q:D} {l:List Int} (h:ChR s q l) (hf:Fr [] s s'):ChR s' q l:=by
 rcases h with h | h | ⟨id,off,cs,rfl,h1,h2,h3⟩
 ·exact .inl h
 ·exact .inr (.inl h)
 ·exact .inr (.inr ⟨id,off,cs,rfl,by rw [hf.2 _ (k4 h1) (by simp),h1],h2,h3⟩)
theorem StU.stay {s s':i8} {x:StD} {st:Stt} (h:StU s x st) (hf:Fr [] s s'):StU s' x st:=by
 obtain ⟨a,v,qs,h1,h2,h3⟩:=h
 exact ⟨a.stay hf,v.stay hf,qs,h1.stay hf,h2,fun j hj=>(h3 j hj).stay hf⟩
theorem StU.ones {s:i8} {x:StD} {st:Stt} (h:StU s x st):q8 x.da=true/\q8 x.dv=true/\q8 x.dc=true:=by
 obtain ⟨a,v,qs,h1,_⟩:=h
 exact ⟨a.one,v.one,h1.one⟩
theorem ChR.len {s:i8} {q:D} {l:List Int} (h:ChR s q l):X4 false q=some (.int .i64 (l.length:Int)):=by
 rcases h with ⟨rfl,rfl⟩ | rfl | ⟨id,off,cs,rfl,_⟩
 ·rfl
 ·exact b0b (.inr rfl)
 ·rfl
theorem a1i.stay {s s':i8} {cs:List D} {st:Stt} (h:a1i s cs st) (hf:Fr [] s s'):a1i s' cs st:=by
 obtain ⟨dA,dV,dC,qs,rfl,hA,hV,hC,hn,hl,hq⟩:=h
 exact ⟨dA,dV,dC,qs,rfl,hA.stay hf,hV.stay hf,hC.stay hf,hn,hl,fun j a b=>(hq j a b).stay hf⟩
end Go.V
namespace Go.Proofs.Ytlaeblilmppodaa
open Go.V
set_option maxRecDepth 100000
set_option maxHeartbeats 4000000
variable {m:MdX} {mo:Mo} {ps:List (Pr×PrD)} {x:StD} {st:Stt}
end Go.Proofs.Ytlaeblilmppodaa
namespace Go.Proofs.Ytlaeblilmppodaa
open Go.V
set_option maxRecDepth 100000
set_option maxHeartbeats 4000000
variable {m:MdX} {mo:Mo} {ps:List (Pr×PrD)} {x:StD} {st:Stt}
theorem c1a (hm:MoF m mo ps) (ho:a46 mo) (hf:a3w mo):Eqc vfs 27 [.agg [m.dt,.int .i64 m.g,m.dc,m.dv,m.dp,m.ds,.bool m.b]] (.int .i64 (mo.nbits:Int)):=by
 have om:=hm.ones
 have hmv:=hm.v
 have hmc:=hm.c
 have hnp:=ho.np
 have hnv:=ho.nv
 have hnc:=ho.nc
 refine a0s ?_
 refine V3 (vf:=a6W) rfl ?_
 unfold a6W;refine zF ?_
 refine zY om ?_
 have g0:(i8.empty.push (.cells [m.dt,.int .i64 m.g,m.dc,m.dv,m.dp,m.ds,.bool m.b])).get 0=some (.cells [m.dt,.int .i64 m.g,m.dc,m.dv,m.dp,m.ds,.bool m.b]):=by simp (disch:=(first|exact Rf.mk rfl|with_reducible assumption|omega|((repeat (first|rw [nP]|rw [nS]|rw [M4]))<;>omega)|decide)) only [go_sem,↓reduceIte]
 generalize i8.empty.push (.cells [m.dt,.int .i64 m.g,m.dc,m.dv,m.dp,m.ds,.bool m.b])=s0 at *
 refine Y6 [0,1,2,7,9,11,12,24,25,26,27,36,37,38,39] 0 mo.procs.length (fun i f s=>f 13=.int .i64 (i:Int)/\f 3=.int .i64 ((3+szL (fun p:Pr=>wid (p.places:Int)) (mo.procs.take i):Nat):Int)/\s.get 0=some (.cells [m.dt,.int .i64 m.g,m.dc,m.dv,m.dp,m.ds,.bool m.b])) (.mk rfl) (by omega) ⟨rfl,rfl,g0⟩ ?_
 clear g0
 rintro i f s hi ⟨hE,hE3,g0⟩
 have l0:=k4 g0
 have hb:=b4q ho i
 by_cases ci:i<mo.procs.length
 ·have hwd:=b6q (n:=((pAt mo.procs i).places:Int))
  have hin:=a5M ((pAt mo.procs i).places:Int)
  have hs:=c1b ci
  refine zY (aN hE (aN hE3 (aN ci (aN g0 (aN om hwd))))) ?_
  rw [hs];omega
 obtain rfl:i=mo.procs.length:=by omega
 rw [List.take_length] at hE3 hb
 refine zY (aN hE (aN hE3 (aN ci (aN g0 om)))) ?_
 refine Y6 [0,1,2,5,9,11,12,13,14,24,25,36,37,38,39] 0 mo.vars.length (fun i f s=>f 26=.int .i64 (i:Int)/\f 3=.int .i64 ((3+szL (fun p:Pr=>wid (p.places:Int)) mo.procs+szL (fun v:Vr=>v.width.toNat) (mo.vars.take i):Nat):Int)/\s.get 0=some (.cells [m.dt,.int .i64 m.g,m.dc,m.dv,m.dp,m.ds,.bool m.b])) (.mk rfl) (by omega) ⟨rfl,rfl,g0⟩ ?_
 clear g0 ci hE hE3 hi
 rintro i f s hi ⟨hE,hE3,g0⟩
 have l0:=k4 g0
 have hbv:=c2C ho hf i
 by_cases ci:i<mo.vars.length
 ·have hs:=b9T ci
  have hw:=hf.vr _ (b1E ci)
  have e1:IntKind.i64.wrap (((3+szL (fun p:Pr=>wid (p.places:Int)) mo.procs+szL (fun v:Vr=>v.width.toNat) (mo.vars.take i):Nat):Int)+(vAt mo.vars i).width)=((3+szL (fun p:Pr=>wid (p.places:Int)) mo.procs+szL (fun v:Vr=>v.width.toNat) (mo.vars.take (i+1)):Nat):Int):=by
   rw [hs,P1 (by omega) (by omega)];omega
  exact zZ (aN hE (aN hE3 (aN ci (aN g0 (aN om e1)))))
 obtain rfl:i=mo.vars.length:=by omega
 rw [List.take_length] at hE3 hbv
 refine zY (aN hE (aN hE3 (aN ci (aN g0 om)))) ?_
 refine Y6 [0,1,2,5,7,11,12,13,14,24,25,26,27,36,37] 0 mo.chans.length (fun i f s=>f 38=.int .i64 (i:Int)/\f 3=.int .i64 ((3+szL (fun p:Pr=>wid (p.places:Int)) mo.procs+szL (fun v:Vr=>v.width.toNat) mo.vars+szL (fun c:Ch=>2+c.room.toNat*c.width.toNat) (mo.chans.take i):Nat):Int)/\s.get 0=some (.cells [m.dt,.int .i64 m.g,m.dc,m.dv,m.dp,m.ds,.bool m.b])) (.mk rfl) (by omega) ⟨rfl,rfl,g0⟩ ?_
 clear g0 ci hE hE3 hi
 rintro i f s hi ⟨hE,hE3,g0⟩
 have l0:=k4 g0
 have hbc:=b3V ho hf i
 by_cases ci:i<mo.chans.length
 ·have hs:=b5U ci
  have hw:=hf.ch _ (b0e ci)
  have hmul:(X5 mo.chans i).room*(X5 mo.chans i).width=(((X5 mo.chans i).room.toNat*(X5 mo.chans i).width.toNat:Nat):Int):=by
   rw [Int.natCast_mul,Int.toNat_of_nonneg (by omega),Int.toNat_of_nonneg (by omega)]
  have hml:(X5 mo.chans i).room.toNat*(X5 mo.chans i).width.toNat<=3*8:=Nat.mul_le_mul (by omega) (by omega)
  generalize (X5 mo.chans i).room.toNat*(X5 mo.chans i).width.toNat=P at *
  have e0:IntKind.i64.wrap ((X5 mo.chans i).room*(X5 mo.chans i).width)=(P:Int):=by rw [hmul,P1 (by omega) (by omega)]
  have e2:IntKind.i64.wrap (2+(P:Int))=((2+P:Nat):Int):=by rw [P1 (by omega) (by omega)];omega
  refine zY (aN hE (aN hE3 (aN ci (aN g0 (aN om (aN e0 e2)))))) ?_
  rw [hs];omega
 ·obtain rfl:i=mo.chans.length:=by omega
  rw [List.take_length] at hE3
  refine zY (aN hE (aN hE3 (aN ci (aN g0 om)))) ?_
  unfold Mo.nbits
  omega
end Go.Proofs.Ytlaeblilmppodaa
namespace Go.Proofs.Ytlaeblilmppodaa
open Go.V
set_option maxRecDepth 100000
set_option maxHeartbeats 4000000
variable {m:MdX} {mo:Mo} {ps:List (Pr×PrD)} {x:StD} {st:Stt}
end Go.Proofs.Ytlaeblilmppodaa
namespace Go.Proofs.Ytlaeblilmppodaa
open Go.V
set_option maxRecDepth 100000
set_option maxHeartbeats 4000000
variable {m:MdX} {mo:Mo} {ps:List (Pr×PrD)} {x:StD} {st:Stt}
end Go.Proofs.Ytlaeblilmppodaa
namespace Go.Proofs.Ytlaeblilmppodaa
open Go.V
set_option maxRecDepth 100000
set_option maxHeartbeats 4000000
variable {m:MdX} {mo:Mo} {ps:List (Pr×PrD)} {x:StD} {st:Stt}
end Go.Proofs.Ytlaeblilmppodaa
namespace Go.Proofs.Ytlaeblilmppodaa
open Go.V
set_option maxRecDepth 100000
set_option maxHeartbeats 4000000
variable {m:MdX} {mo:Mo} {ps:List (Pr×PrD)} {x:StD} {st:Stt}
end Go.Proofs.Ytlaeblilmppodaa
namespace Go.Proofs.Ytlaeblilmppodaa
open Go.V
set_option maxRecDepth 100000
set_option maxHeartbeats 4000000
variable {d:D} {t:List Nd} {i:Nat}
theorem a8a (hT:O1 d t) (hR:M8 t) (hi:i<t.length) {k:Int} (hk:k=1∨k=2∨k=3):∃d',Eqc vfs 119 [d,.int .i64 (i:Int),.int .i64 k] d'/\FS d' (U5 t i k i):=by
 obtain ⟨s,r,d',h1,h2,h3⟩:=W1 hT hR hi hk
 exact ⟨d',a0s ⟨_,_,h1,h2⟩,h3⟩
theorem b50 (hT:O1 d t) (hR:M8 t) (hi:i<t.length) (hk:(nd t i).kind=0∨(nd t i).kind=1∨(nd t i).kind=2∨(nd t i).kind=3∨(nd t i).kind=14) (hs:1<=(nd t i).kind/\(nd t i).kind<=3->∀k:Int,1<=k/\k<=3->¬ a0p t k i ((nd t i).word 0)):Eqc vfs 103 [d,.int .i64 (i:Int)] (.bool false):=by
 obtain ⟨dc,h1,f1⟩:=a8a hT hR hi (.inl rfl)
 obtain ⟨dv,h2,f2⟩:=a8a hT hR hi (.inr (.inl rfl))
 obtain ⟨dp,h3,f3⟩:=a8a hT hR hi (.inr (.inr rfl))
 have pT:PZ d:=hT.fl.pz
 have p1:PZ dc:=FL.pz f1
 have p2:PZ dv:=FL.pz f2
 have p3:PZ dp:=FL.pz f3
 have hidx:=hT.at (z:=(i:Int)) (by omega) (by omega) (k:=.i64)
 rw [Int.toNat_natCast] at hidx
 have hx:=hT.nd hi
 have hnode:=hR.ok.node i hi
 have o1:=FL.one hx.w
 have o2:=FL.one hx.n
 have o3:=FL.one hx.k
 have q1:=FL.one f1
 have q2:=FL.one f2
 have q3:=FL.one f3
 by_cases c:1<=(nd t i).kind/\(nd t i).kind<=3
 ·have hs:=hs c
  have hwl:(nd t i).words.length=1:=by
   rw [hnode.wl]
   rcases hk with e | e | e | e | e<;>rw [e]<;>first | rfl | omega
  have w0:M1 1 (nd t i).dw (.int .i64 0)=some (.fp [.str ((nd t i).word 0)] 0):=by
   rw [a1A (by omega)];exact FS.idx hx.w (i:=0) (by omega)
  have n1:=a2D (a0q (x:=(nd t i).word 0) f1 (a0x hR hi)) rfl
  have n2:=a2D (a0q (x:=(nd t i).word 0) f2 (a0x hR hi)) rfl
  have n3:=a2D (a0q (x:=(nd t i).word 0) f3 (a0x hR hi)) rfl
  rw [a1J.2 (hs 1 (by omega))] at n1
  rw [a1J.2 (hs 2 (by omega))] at n2
  rw [a1J.2 (hs 3 (by omega))] at n3
  refine a0s ?_
  rcases hk with e | e | e | e | e
  ·omega
  ·rw [e] at hidx
   refine V3 (vf:=V7) rfl ?_
   unfold V7;refine zF ?_
   exact zZ (aN hidx (aN o1 (aN o2 (aN o3 (aN pT (aN p1 (aN p2 (aN p3 (aN q1 (aN q2 (aN q3 (aN h1 (aN h2 (aN h3 (aN w0 (aN n1 (aN n2 n3)))))))))))))))))
  ·rw [e] at hidx
   refine V3 (vf:=V7) rfl ?_
   unfold V7;refine zF ?_
   exact zZ (aN hidx (aN o1 (aN o2 (aN o3 (aN pT (aN p1 (aN p2 (aN p3 (aN q1 (aN q2 (aN q3 (aN h1 (aN h2 (aN h3 (aN w0 (aN n1 (aN n2 n3)))))))))))))))))
  ·rw [e] at hidx
   refine V3 (vf:=V7) rfl ?_
   unfold V7;refine zF ?_
   exact zZ (aN hidx (aN o1 (aN o2 (aN o3 (aN pT (aN p1 (aN p2 (aN p3 (aN q1 (aN q2 (aN q3 (aN h1 (aN h2 (aN h3 (aN w0 (aN n1 (aN n2 n3)))))))))))))))))
  ·omega
 ·refine a0s ?_
  rcases hk with e | e | e | e | e
  ·rw [e] at hidx
   refine V3 (vf:=V7) rfl ?_
   unfold V7;refine zF ?_
   exact zZ (aN hidx (aN o1 (aN o2 (aN o3 (aN pT (aN p1 (aN p2 (aN p3 (aN q1 (aN q2 (aN q3 (aN h1 (aN h2 h3)))))))))))))
  ·omega
  ·omega
  ·omega
  ·rw [e] at hidx
   refine V3 (vf:=V7) rfl ?_
   unfold V7;refine zF ?_
   exact zZ (aN hidx (aN o1 (aN o2 (aN o3 (aN pT (aN p1 (aN p2 (aN p3 (aN q1 (aN q2 (aN q3 (aN h1 (aN h2 h3)))))))))))))
theorem c1N (hT:O1 d t) (hR:M8 t) (hi:i<t.length) (hk:(nd t i).kind=0∨(nd t i).kind=1∨(nd t i).kind=2∨(nd t i).kind=3∨(nd t i).kind=14) (hf:a1Z t i):Eqc vfs 80 [d,.int .i64 (i:Int)] (.int .i64 0):=by
 have pT:PZ d:=hT.fl.pz
 have hidx:=hT.at (z:=(i:Int)) (by omega) (by omega) (k:=.i64)
 rw [Int.toNat_natCast] at hidx
 have hx:=hT.nd hi
 have hnode:=hR.ok.node i hi
 have o1:=FL.one hx.w
 have o2:=FL.one hx.n
 have o3:=FL.one hx.k
 refine a0s ?_
 rcases hk with e | e | e | e | e
 ·rw [e] at hidx
  refine V3 (vf:=P3) rfl ?_
  unfold P3;refine zF ?_
  exact zZ (aN hidx (aN o1 (aN o2 (aN o3 pT))))
 ·have hnl:(nd t i).nums.length=4:=by rw [hnode.nl,e];rfl
  have n0:M1 1 (nd t i).dn (.int .i64 0)=some (.fp [.int .i64 ((nd t i).num 0)] 0):=a01 hx (i:=0) (by omega)
  have n1:M1 1 (nd t i).dn (.int .i64 1)=some (.fp [.int .i64 ((nd t i).num 1)] 0):=a01 hx (i:=1) (by omega)
  have hs:=a2D (a3Y hT hR hi (kind:=1)) rfl
  obtain ⟨a1,a2,a3,a4,a5⟩:=hf.chan e
  have b1:¬ (nd t i).num 0<1:=by omega
  have b2:¬ 3<(nd t i).num 0:=by omega
  have b3:¬ (nd t i).num 1<1:=by omega
  have b4:¬ 8<(nd t i).num 1:=by omega
  have b5:¬ 3<O0 t 1 (i+1):=by omega
  rw [e] at hidx
  refine V3 (vf:=P3) rfl ?_
  unfold P3;refine zF ?_
  exact zZ (aN hidx (aN o1 (aN o2 (aN o3 (aN pT (aN n0 (aN n1 (aN hs (aN b1 (aN b2 (aN b3 (aN b4 b5))))))))))))
 ·have hnl:(nd t i).nums.length=2:=by rw [hnode.nl,e];rfl
  have n0:M1 1 (nd t i).dn (.int .i64 0)=some (.fp [.int .i64 ((nd t i).num 0)] 0):=a01 hx (i:=0) (by omega)
  have n1:M1 1 (nd t i).dn (.int .i64 1)=some (.fp [.int .i64 ((nd t i).num 1)] 0):=a01 hx (i:=1) (by omega)
  have hs:=a2D (a3Y hT hR hi (kind:=2)) rfl
  obtain ⟨a1,a2,a3,a4⟩:=hf.var e
  have hv:=hnode.var e
  have b1:¬ (nd t i).num 0<1:=by omega
  have b2:¬ 8<(nd t i).num 0:=by omega
  have ht:=a2D (b0C (x:=(nd t i).num 1) (n:=(nd t i).num 0) (w:=((nd t i).num 0).toNat) (by omega) ⟨by omega,by omega⟩) rfl
  rw [a3] at ht
  have b5:¬ 8<O0 t 2 (i+1):=by omega
  rw [e] at hidx
  refine V3 (vf:=P3) rfl ?_
  unfold P3;refine zF ?_
  exact zZ (aN hidx (aN o1 (aN o2 (aN o3 (aN pT (aN n0 (aN n1 (aN hs (aN ht (aN b1 (aN b2 b5)))))))))))
 ·have hnl:(nd t i).nums.length=1:=by rw [hnode.nl,e];rfl
  have n0:M1 1 (nd t i).dn (.int .i64 0)=some (.fp [.int .i64 ((nd t i).num 0)] 0):=a01 hx (i:=0) (by omega)
  have hs:=a2D (a3Y hT hR hi (kind:=3)) rfl
  obtain ⟨a1,a2⟩:=hf.proc e
  have b1:¬ (nd t i).num 0<1:=by omega
  have b5:¬ 4<O0 t 3 (i+1):=by omega
  rw [e] at hidx
  refine V3 (vf:=P3) rfl ?_
  unfold P3;refine zF ?_
  exact zZ (aN hidx (aN o1 (aN o2 (aN o3 (aN pT (aN n0 (aN hs (aN b1 b5))))))))
 ·rw [e] at hidx
  refine V3 (vf:=P3) rfl ?_
  unfold P3;refine zF ?_
  exact zZ (aN hidx (aN o1 (aN o2 (aN o3 pT))))
theorem b34 (hT:O1 d t) (hl:t.length<=800) (hb:∀i,i<t.length->Eqc vfs 103 [d,.int .i64 (i:Int)] (.bool false)):a1a vfs 79 [d] (.agg [.int .i64 0,.int .i64 0]):=by
 have pT:PZ d:=hT.fl.pz
 have hlen:=hT.len
 refine V3 (vf:=a4u) rfl ?_
 unfold a4u;refine zF ?_
 refine zY0 ?_
 have g0:(i8.empty.push (.cells [.int .i64 0,.int .i64 0])).get 0=some (.cells [.int .i64 0,.int .i64 0]):=by simp (disch:=(first|exact Rf.mk rfl|with_reducible assumption|omega|((repeat (first|rw [nP]|rw [nS]|rw [M4]))<;>omega)|decide)) only [go_sem,↓reduceIte]
 generalize i8.empty.push (.cells [.int .i64 0,.int .i64 0])=s0 at *
 refine Y6 [0,2] 0 t.length (fun i f s=>f 3=.int .i64 (i:Int)/\s.get 0=some (.cells [.int .i64 0,.int .i64 0])) (.mk rfl) (by omega) ⟨rfl,g0⟩ ?_
 clear g0
 rintro i f s hi ⟨hE,g0⟩
 have l0:=k4 g0
 by_cases ci:i<t.length
 ·have h:=hb i ci
  refine zY (aN hE (aN g0 (aN hlen (aN ci (aN pT h))))) ?_
  trivial
 ·exact zZ (aN hE (aN g0 (aN hlen ci)))
theorem b9P (hT:O1 d t) (hl:t.length<=800) (hb:∀i,i<t.length->Eqc vfs 103 [d,.int .i64 (i:Int)] (.bool false)) (hw:∀i,i<t.length->Eqc vfs 80 [d,.int .i64 (i:Int)] (.int .i64 0)):a1a vfs 54 [d] (.agg [.int .i64 0,.int .i64 0]):=by
 have pT:PZ d:=hT.fl.pz
 have hlen:=hT.len
 have h11:Eqc vfs 79 [d] (.agg [.int .i64 0,.int .i64 0]):=a0s (b34 hT hl hb)
 refine V3 (vf:=a3g) rfl ?_
 unfold a3g;refine zF ?_
 refine zY (aN pT h11) ?_
 refine Y6 [0,2,3,10] 0 t.length (fun i f s=>f 4=.int .i64 (i:Int)/\s.get 0=some (.cells [.int .i64 0,.int .i64 0])) (.mk rfl) (by omega) ⟨rfl,?_⟩ ?_
 ·exact zZ0
 rintro i f s hi ⟨hE,g0⟩
 have l0:=k4 g0
 by_cases ci:i<t.length
 ·have h:=hw i ci
  refine zY (aN hE (aN g0 (aN hlen (aN ci (aN pT h))))) ?_
  trivial
 ·exact zZ (aN hE (aN g0 (aN hlen ci)))
theorem b5B {its:List Im} (hT:O1 d t) (hI:TI t its) (hl:t.length<=800) (ho:a6o its):∃m ps,Eqc vfs 26 [d] (.tup [.agg (N2 m),.bool true])/\M8 t/\a11 t/\a00 t/\MoF m (a3b t) ps:=by
 have hR:=hI.right hl
 have hk:∀i,i<t.length->(nd t i).kind=0∨(nd t i).kind=1∨(nd t i).kind=2∨(nd t i).kind=3∨(nd t i).kind=14:=by
  intro i hi
  by_cases c:i=0
  ·subst c;exact .inl hI.kind
  rcases hI.its.node i (by omega) hi with ⟨a,ha,_,h⟩ | h
  ·have:=h.head.1
   have:=(its[a]).tag_in
   omega
  ·have:=h.kind;omega
 have hc:=b9P hT hl (fun i hi=>b50 hT hR hi (hk i hi) fun h k hk=>hI.once ho.nm hk hi h) fun i hi=>c1N hT hR hi (hk i hi) (hI.fine hl ho hi)
 obtain ⟨r,s1,h1,h2⟩:=c25 hT hR
 rcases h2 with ⟨_,e,a,⟨s2,h3⟩,h4⟩ | ⟨hS,hY,m,ps,rfl,hm,hn⟩
 ·have hc2:a1a vfs 54 [d] (.agg [.int .i64 e,.int .i64 a]):=⟨_,_,h3,rfl⟩
  have:=hc.det hc2
  simp at this
  exact (h4 this.1.symm).elim
 ·obtain ⟨m',ps',h3,h4⟩:=hm.frz hn true
  exact ⟨m',ps',a0s ⟨_,_,h1,h3⟩,hR,hS,hY,h4⟩
end Go.Proofs.Ytlaeblilmppodaa
namespace Go.Proofs.Ytlaeblilmppodaa
open Go.V
set_option maxRecDepth 100000
set_option maxHeartbeats 4000000
theorem b94 {d0 d1 d2:D} (h0:a3W (.slice 1 (.int .u8)) d0) (h1:a3W (.slice 1 (.int .u8)) d1) (h2:a3W (.slice 1 (.int .u8)) d2):EvP vfs 7 [d0,d1,d2] i8.empty fun r _=>r=.bool true:=by
 obtain ⟨l0,f0,b0⟩:=a7l h0
 obtain ⟨l1,f1,b1⟩:=a7l h1
 obtain ⟨l2,f2,b2⟩:=a7l h2
 refine b4J f0 f1 f2 b0 b1 b2 (a2D b4l rfl) (fun n hn=>b5l hn) ?_
 intro its d t hT hI hl ho
 obtain ⟨m,ps,h3,hR,hS,hY,hm⟩:=b5B hT hI hl ho
 have hb:=c1a hm (b4c hR hS hY) (c1R hR hY)
 rw [hI.bits] at hb
 exact ⟨m,ps,a3b t,h3,c2Y hm,hm,hb⟩
end Go.Proofs.Ytlaeblilmppodaa
