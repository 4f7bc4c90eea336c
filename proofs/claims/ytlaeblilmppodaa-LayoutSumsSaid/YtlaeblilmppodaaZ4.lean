/- Texts one behind the other. -/
import Derived.Test.YtlaeblilmppodaaZ3
import Derived.Test.YtlaeblilmppodaaVt
import Derived.Test.YtlaeblilmppodaaZ1
set_option linter.unusedSimpArgs false
set_option linter.unusedVariables false
namespace Go.Proofs.Ytlaeblilmppodaa
open Go.V
set_option maxRecDepth 100000
set_option maxHeartbeats 4000000
def a2H (f:Nat) (l:List D) (P:Prop):Prop:=∃e:Int,Iso f l (.int .i64 e)/\(e=0->P)
theorem a31 {f:Nat} {l:List D} {P:Prop} (h:EvP vfs f l i8.empty fun d _=>∃e:Int,d=.int .i64 e/\(e=0->P)):a2H f l P:=by
 obtain ⟨d,s',h,e,rfl,hp⟩:=h
 exact ⟨e,⟨s',h⟩,hp⟩
theorem b4V {d:D} {t:List Nd} (hT:O1 d t) (hR:M8 t) {i:Nat} (hi:i<t.length) (hK:(nd t i).kind=1):a2H 80 [d,.int .i64 (i:Int)] (a1Z t i):=by
 refine a31 ?_
 have hidx:=hT.at (z:=(i:Int)) (by omega) (by omega) (k:=.i64)
 rw [Int.toNat_natCast] at hidx
 have hx:=hT.nd hi
 have hnode:=hR.ok.node i hi
 have hle:=hR.ok.le
 have o1:=FL.one hx.w
 have o2:=FL.one hx.n
 have o3:=FL.one hx.k
 have hnl:(nd t i).nums.length=4:=by rw [hnode.nl,hK];rfl
 have n0:M1 1 (nd t i).dn (.int .i64 0)=some (.fp [.int .i64 ((nd t i).num 0)] 0):=a01 hx (i:=0) (by omega)
 have n1:M1 1 (nd t i).dn (.int .i64 1)=some (.fp [.int .i64 ((nd t i).num 1)] 0):=a01 hx (i:=1) (by omega)
 rw [hK] at hidx
 have hs:=a3Y hT hR hi (kind:=1)
 by_cases e0:(nd t i).num 0<1
 ·have d0:((nd t i).num 0<1)=True:=eq_true e0
  refine N8 (vf:=P3) rfl ?_
  unfold P3;refine zE ?_
  repeat first
  |(apply N1 hs rfl rfl (fz3 hT.fz u7 u7))
  |refine zW (aN hidx (aN o1 (aN o2 (aN o3 (aN n0 (aN n1 d0)))))) ?_
  exact ⟨.inr trivial,_,rR,_,rfl,by simp⟩
 have d0:((nd t i).num 0<1)=False:=eq_false e0
 by_cases e1:3<(nd t i).num 0
 ·have d1:(3<(nd t i).num 0)=True:=eq_true e1
  refine N8 (vf:=P3) rfl ?_
  unfold P3;refine zE ?_
  repeat first
  |(apply N1 hs rfl rfl (fz3 hT.fz u7 u7))
  |refine zW (aN hidx (aN o1 (aN o2 (aN o3 (aN n0 (aN n1 (aN d0 d1))))))) ?_
  exact ⟨.inr trivial,_,rR,_,rfl,by simp⟩
 have d1:(3<(nd t i).num 0)=False:=eq_false e1
 by_cases e2:(nd t i).num 1<1
 ·have d2:((nd t i).num 1<1)=True:=eq_true e2
  refine N8 (vf:=P3) rfl ?_
  unfold P3;refine zE ?_
  repeat first
  |(apply N1 hs rfl rfl (fz3 hT.fz u7 u7))
  |refine zW (aN hidx (aN o1 (aN o2 (aN o3 (aN n0 (aN n1 (aN d0 (aN d1 d2)))))))) ?_
  exact ⟨.inr trivial,_,rR,_,rfl,by simp⟩
 have d2:((nd t i).num 1<1)=False:=eq_false e2
 by_cases e3:8<(nd t i).num 1
 ·have d3:(8<(nd t i).num 1)=True:=eq_true e3
  refine N8 (vf:=P3) rfl ?_
  unfold P3;refine zE ?_
  repeat first
  |(apply N1 hs rfl rfl (fz3 hT.fz u7 u7))
  |refine zW (aN hidx (aN o1 (aN o2 (aN o3 (aN n0 (aN n1 (aN d0 (aN d1 (aN d2 d3))))))))) ?_
  exact ⟨.inr trivial,_,rR,_,rfl,by simp⟩
 have d3:(8<(nd t i).num 1)=False:=eq_false e3
 by_cases e4:3<O0 t 1 (i+1)
 ·have d4:(3<O0 t 1 (i+1))=True:=eq_true e4
  refine N8 (vf:=P3) rfl ?_
  unfold P3;refine zE ?_
  repeat first
  |(apply N1 hs rfl rfl (fz3 hT.fz u7 u7))
  |refine zW (aN hidx (aN o1 (aN o2 (aN o3 (aN n0 (aN n1 (aN d0 (aN d1 (aN d2 (aN d3 d4)))))))))) ?_
  exact ⟨.inr trivial,_,rR,_,rfl,by simp⟩
 have d4:(3<O0 t 1 (i+1))=False:=eq_false e4
 refine N8 (vf:=P3) rfl ?_
 unfold P3;refine zE ?_
 repeat first
 |(apply N1 hs rfl rfl (fz3 hT.fz u7 u7))
 |refine zW (aN hidx (aN o1 (aN o2 (aN o3 (aN n0 (aN n1 (aN d0 (aN d1 (aN d2 (aN d3 d4)))))))))) ?_
 exact ⟨.inr trivial,_,rR,_,rfl,fun _=>⟨fun _=>by omega,fun h=>by omega,fun h=>by omega,fun h=>by omega⟩⟩
theorem b6M {d:D} {t:List Nd} (hT:O1 d t) (hR:M8 t) {i:Nat} (hi:i<t.length) (hK:(nd t i).kind=2):a2H 80 [d,.int .i64 (i:Int)] (a1Z t i):=by
 refine a31 ?_
 have hidx:=hT.at (z:=(i:Int)) (by omega) (by omega) (k:=.i64)
 rw [Int.toNat_natCast] at hidx
 have hx:=hT.nd hi
 have hnode:=hR.ok.node i hi
 have hle:=hR.ok.le
 have o1:=FL.one hx.w
 have o2:=FL.one hx.n
 have o3:=FL.one hx.k
 have hnl:(nd t i).nums.length=2:=by rw [hnode.nl,hK];rfl
 have n0:M1 1 (nd t i).dn (.int .i64 0)=some (.fp [.int .i64 ((nd t i).num 0)] 0):=a01 hx (i:=0) (by omega)
 have n1:M1 1 (nd t i).dn (.int .i64 1)=some (.fp [.int .i64 ((nd t i).num 1)] 0):=a01 hx (i:=1) (by omega)
 rw [hK] at hidx
 have hs:=a3Y hT hR hi (kind:=2)
 have hv:=hnode.var hK
 by_cases e0:(nd t i).num 0<1
 ·have d0:((nd t i).num 0<1)=True:=eq_true e0
  refine N8 (vf:=P3) rfl ?_
  unfold P3;refine zE ?_
  repeat first
  |(apply N1 hs rfl rfl (fz3 hT.fz u7 u7))
  |refine zW (aN hidx (aN o1 (aN o2 (aN o3 (aN n0 (aN n1 d0)))))) ?_
  exact ⟨.inr trivial,_,rR,_,rfl,by simp⟩
 have d0:((nd t i).num 0<1)=False:=eq_false e0
 by_cases e1:8<(nd t i).num 0
 ·have d1:(8<(nd t i).num 0)=True:=eq_true e1
  refine N8 (vf:=P3) rfl ?_
  unfold P3;refine zE ?_
  repeat first
  |(apply N1 hs rfl rfl (fz3 hT.fz u7 u7))
  |refine zW (aN hidx (aN o1 (aN o2 (aN o3 (aN n0 (aN n1 (aN d0 d1))))))) ?_
  exact ⟨.inr trivial,_,rR,_,rfl,by simp⟩
 have d1:(8<(nd t i).num 0)=False:=eq_false e1
 have ht:=b0C (x:=(nd t i).num 1) (n:=(nd t i).num 0) (w:=((nd t i).num 0).toNat) (by omega) ⟨by omega,by omega⟩
 by_cases e2:S4 ((nd t i).num 1) ((nd t i).num 0).toNat=(nd t i).num 1
 ·have d2:(S4 ((nd t i).num 1) ((nd t i).num 0).toNat != (nd t i).num 1)=false:=by rw [e2];simp
  by_cases e3:8<O0 t 2 (i+1)
  ·have d3:(8<O0 t 2 (i+1))=True:=eq_true e3
   refine N8 (vf:=P3) rfl ?_
   unfold P3;refine zE ?_
   repeat first
   |(apply N1 hs rfl rfl (fz3 hT.fz u7 u7))
   |(apply N1 ht rfl rfl (fz2 u7 u7))
   |refine zW (aN hidx (aN o1 (aN o2 (aN o3 (aN n0 (aN n1 (aN d0 (aN d1 (aN d2 d3))))))))) ?_
   exact ⟨.inr trivial,_,rR,_,rfl,by simp⟩
  ·have d3:(8<O0 t 2 (i+1))=False:=eq_false e3
   refine N8 (vf:=P3) rfl ?_
   unfold P3;refine zE ?_
   repeat first
   |(apply N1 hs rfl rfl (fz3 hT.fz u7 u7))
   |(apply N1 ht rfl rfl (fz2 u7 u7))
   |refine zW (aN hidx (aN o1 (aN o2 (aN o3 (aN n0 (aN n1 (aN d0 (aN d1 (aN d2 d3))))))))) ?_
   exact ⟨.inr trivial,_,rR,_,rfl,fun _=>⟨fun h=>by omega,fun _=>⟨by omega,by omega,e2,by omega⟩,fun h=>by omega,fun h=>by omega⟩⟩
 ·have d2:(S4 ((nd t i).num 1) ((nd t i).num 0).toNat != (nd t i).num 1)=true:=by rw [bne_iff_ne];exact e2
  refine N8 (vf:=P3) rfl ?_
  unfold P3;refine zE ?_
  repeat first
  |(apply N1 hs rfl rfl (fz3 hT.fz u7 u7))
  |(apply N1 ht rfl rfl (fz2 u7 u7))
  |refine zW (aN hidx (aN o1 (aN o2 (aN o3 (aN n0 (aN n1 (aN d0 (aN d1 d2)))))))) ?_
  exact ⟨.inr trivial,_,rR,_,rfl,by simp⟩
theorem c1W {d:D} {t:List Nd} (hT:O1 d t) (hR:M8 t) {i:Nat} (hi:i<t.length) (hK:(nd t i).kind=3):a2H 80 [d,.int .i64 (i:Int)] (a1Z t i):=by
 refine a31 ?_
 have hidx:=hT.at (z:=(i:Int)) (by omega) (by omega) (k:=.i64)
 rw [Int.toNat_natCast] at hidx
 have hx:=hT.nd hi
 have hnode:=hR.ok.node i hi
 have hle:=hR.ok.le
 have o1:=FL.one hx.w
 have o2:=FL.one hx.n
 have o3:=FL.one hx.k
 have hnl:(nd t i).nums.length=1:=by rw [hnode.nl,hK];rfl
 have n0:M1 1 (nd t i).dn (.int .i64 0)=some (.fp [.int .i64 ((nd t i).num 0)] 0):=a01 hx (i:=0) (by omega)
 rw [hK] at hidx
 have hs:=a3Y hT hR hi (kind:=3)
 by_cases e0:(nd t i).num 0<1
 ·have d0:((nd t i).num 0<1)=True:=eq_true e0
  refine N8 (vf:=P3) rfl ?_
  unfold P3;refine zE ?_
  repeat first
  |(apply N1 hs rfl rfl (fz3 hT.fz u7 u7))
  |refine zW (aN hidx (aN o1 (aN o2 (aN o3 (aN n0 d0))))) ?_
  exact ⟨.inr trivial,_,rR,_,rfl,by simp⟩
 have d0:((nd t i).num 0<1)=False:=eq_false e0
 by_cases e1:4<O0 t 3 (i+1)
 ·have d1:(4<O0 t 3 (i+1))=True:=eq_true e1
  refine N8 (vf:=P3) rfl ?_
  unfold P3;refine zE ?_
  repeat first
  |(apply N1 hs rfl rfl (fz3 hT.fz u7 u7))
  |refine zW (aN hidx (aN o1 (aN o2 (aN o3 (aN n0 (aN d0 d1)))))) ?_
  exact ⟨.inr trivial,_,rR,_,rfl,by simp⟩
 have d1:(4<O0 t 3 (i+1))=False:=eq_false e1
 refine N8 (vf:=P3) rfl ?_
 unfold P3;refine zE ?_
 repeat first
 |(apply N1 hs rfl rfl (fz3 hT.fz u7 u7))
 |refine zW (aN hidx (aN o1 (aN o2 (aN o3 (aN n0 (aN d0 d1)))))) ?_
 exact ⟨.inr trivial,_,rR,_,rfl,fun _=>⟨fun h=>by omega,fun h=>by omega,fun _=>by omega,fun h=>by omega⟩⟩
theorem b7r {d:D} {t:List Nd} (hT:O1 d t) (hR:M8 t) {i:Nat} (hi:i<t.length) (hK:(nd t i).kind=17):a2H 80 [d,.int .i64 (i:Int)] (a1Z t i):=by
 refine a31 ?_
 have hidx:=hT.at (z:=(i:Int)) (by omega) (by omega) (k:=.i64)
 rw [Int.toNat_natCast] at hidx
 have hx:=hT.nd hi
 have hnode:=hR.ok.node i hi
 have hle:=hR.ok.le
 have o1:=FL.one hx.w
 have o2:=FL.one hx.n
 have o3:=FL.one hx.k
 have hnl:(nd t i).nums.length=1:=by rw [hnode.nl,hK];rfl
 have n0:M1 1 (nd t i).dn (.int .i64 0)=some (.fp [.int .i64 ((nd t i).num 0)] 0):=a01 hx (i:=0) (by omega)
 rw [hK] at hidx
 by_cases e0:127<(nd t i).num 0
 ·have d0:(127<(nd t i).num 0)=True:=eq_true e0
  refine N8 (vf:=P3) rfl ?_
  unfold P3;refine zE ?_
  try refine zW (aN hidx (aN o1 (aN o2 (aN o3 (aN n0 d0))))) ?_
  exact ⟨.inr trivial,_,rR,_,rfl,by simp⟩
 have d0:(127<(nd t i).num 0)=False:=eq_false e0
 refine N8 (vf:=P3) rfl ?_
 unfold P3;refine zE ?_
 try refine zW (aN hidx (aN o1 (aN o2 (aN o3 (aN n0 d0))))) ?_
 exact ⟨.inr trivial,_,rR,_,rfl,fun _=>⟨fun h=>by omega,fun h=>by omega,fun h=>by omega,fun _=>by omega⟩⟩
theorem b9i {d:D} {t:List Nd} (hT:O1 d t) (hR:M8 t) {i:Nat} (hi:i<t.length) (hK:(nd t i).kind=13):a2H 80 [d,.int .i64 (i:Int)] (a1Z t i):=by
 refine a31 ?_
 have hidx:=hT.at (z:=(i:Int)) (by omega) (by omega) (k:=.i64)
 rw [Int.toNat_natCast] at hidx
 have hx:=hT.nd hi
 have hnode:=hR.ok.node i hi
 have hle:=hR.ok.le
 have o1:=FL.one hx.w
 have o2:=FL.one hx.n
 have o3:=FL.one hx.k
 rw [hK] at hidx
 refine N8 (vf:=P3) rfl ?_
 unfold P3;refine zE ?_
 try refine zW (aN hidx (aN o1 (aN o2 o3))) ?_
 refine a0l (Q:=M7 1 _) (fun n env s=>∃j:Nat,j<=i/\n=i-j/\(env.get 0=d/\env.get 1=.int .i64 (i:Int)/\env.get 6=.bool false/\env.get 7=.int .i64 (j:Int))) ?_ i _ _ ⟨0,by omega,rfl,by simp [Env.get]⟩
 rintro n env s ⟨j,hj,rfl,hE⟩
 by_cases c1:j<i
 ·have c1':((j:Int)<(i:Int))=True:=eq_true (by omega)
  have hs:IntKind.i64.wrap ((j:Int)+1)=((j+1:Nat):Int):=by rw [P1 (by omega) (by omega)];omega
  have hjdx:=hT.at (z:=(j:Int)) (by omega) (by omega) (k:=.i64)
  rw [Int.toNat_natCast] at hjdx
  have hy:=hT.nd (i:=j) (by omega)
  have q1:=FL.one hy.w
  have q2:=FL.one hy.n
  have q3:=FL.one hy.k
  obtain ⟨b,hb,_⟩:=b2M hT hR (z:=(i:Int)) (t.length+1) j (by omega) (by omega)
  by_cases c2:(nd t j).kind=13
  ·have c2':((nd t j).kind==13)=true:=by rw [c2];rfl
   cases b
   ·repeat first
    |(apply N1 hb rfl;(focus (simp only [Env.evL,Env.ev,Env.get,Nat.reduceEqDiff,↓reduceIte,hE]));(focus exact fz3 hT.fz u7 u7))
    |refine zW (aN hE (aN hjdx (aN q1 (aN q2 (aN q3 (aN c1' (aN c2' hs))))))) ?_
    exact ⟨i-(j+1),by omega,j+1,by omega,rfl,(rG hE)⟩
   ·repeat first
    |(apply N1 hb rfl;(focus (simp only [Env.evL,Env.ev,Env.get,Nat.reduceEqDiff,↓reduceIte,hE]));(focus exact fz3 hT.fz u7 u7))
    |refine zW (aN hE (aN hjdx (aN q1 (aN q2 (aN q3 (aN c1' c2')))))) ?_
    exact ⟨.inr trivial,_,rR,_,rfl,by simp⟩
  ·have c2':((nd t j).kind==13)=false:=by rw [beq_eq_false_iff_ne];exact c2
   try refine zW (aN hE (aN hjdx (aN q1 (aN q2 (aN q3 (aN c1' (aN c2' hs))))))) ?_
   exact ⟨i-(j+1),by omega,j+1,by omega,rfl,(rG hE)⟩
 ·have c1':((j:Int)<(i:Int))=False:=eq_false (by omega)
  try refine zW (aN hE c1') ?_
  exact ⟨.inr trivial,_,rR,_,rfl,fun _=>⟨fun h=>by omega,fun h=>by omega,fun h=>by omega,fun h=>by omega⟩⟩
theorem b7z {d:D} {t:List Nd} (hT:O1 d t) (hR:M8 t) {i:Nat} (hi:i<t.length) (hK:(nd t i).kind≠1/\(nd t i).kind≠2/\(nd t i).kind≠3/\(nd t i).kind≠13/\(nd t i).kind≠17):a2H 80 [d,.int .i64 (i:Int)] (a1Z t i):=by
 refine a31 ?_
 have hidx:=hT.at (z:=(i:Int)) (by omega) (by omega) (k:=.i64)
 rw [Int.toNat_natCast] at hidx
 have hx:=hT.nd hi
 have hnode:=hR.ok.node i hi
 have hle:=hR.ok.le
 have o1:=FL.one hx.w
 have o2:=FL.one hx.n
 have o3:=FL.one hx.k
 have n1:((nd t i).kind==1)=false:=by rw [beq_eq_false_iff_ne];omega
 have n2:((nd t i).kind==2)=false:=by rw [beq_eq_false_iff_ne];omega
 have n3:((nd t i).kind==3)=false:=by rw [beq_eq_false_iff_ne];omega
 have n13:((nd t i).kind==13)=false:=by rw [beq_eq_false_iff_ne];omega
 have n17:((nd t i).kind==17)=false:=by rw [beq_eq_false_iff_ne];omega
 refine N8 (vf:=P3) rfl ?_
 unfold P3;refine zE ?_
 try refine zW (aN hidx (aN o1 (aN o2 (aN o3 (aN n1 (aN n2 (aN n3 (aN n13 n17)))))))) ?_
 exact ⟨.inr trivial,_,rR,_,rfl,fun _=>⟨fun h=>by omega,fun h=>by omega,fun h=>by omega,fun h=>by omega⟩⟩
theorem b4Q {d:D} {t:List Nd} (hT:O1 d t) (hR:M8 t) {i:Nat} (hi:i<t.length):a2H 80 [d,.int .i64 (i:Int)] (a1Z t i):=by
 by_cases k1:(nd t i).kind=1
 ·exact b4V hT hR hi k1
 by_cases k2:(nd t i).kind=2
 ·exact b6M hT hR hi k2
 by_cases k3:(nd t i).kind=3
 ·exact c1W hT hR hi k3
 by_cases k13:(nd t i).kind=13
 ·exact b9i hT hR hi k13
 by_cases k17:(nd t i).kind=17
 ·exact b7r hT hR hi k17
 exact b7z hT hR hi ⟨k1,k2,k3,k13,k17⟩
theorem c00 {d:D} {t:List Nd} (hT:O1 d t) (hR:M8 t):a71 54 [d] (a11 t/\a00 t):=by
 refine b1d ?_
 have hlen:=hT.len
 have hle:=hR.ok.le
 obtain ⟨e,a,hc,hp⟩:=c0J hT hR
 obtain ⟨sc,hc⟩:=hc
 by_cases c0:e=0
 ·subst c0
  refine N8 (vf:=a3g) rfl ?_
  unfold a3g;refine zE ?_
  repeat first
  |(refine a3y rfl (fz1 hT.fz) hc rfl rfl ?_)
  |refine zW0 ?_
  refine a0l (Q:=M7 0 _) (fun n env s=>∃i:Nat,i<=t.length/\n=t.length-i/\(∀j,j<i->a1Z t j)/\s.get 0=some (.cells [.int .i64 0,.int .i64 0])/\(env.get 0=d/\env.get 2=.ptr 0 0/\env.get 4=.int .i64 (i:Int))) ?_ t.length _ _ ⟨0,by omega,rfl,fun j h=>by omega,rfl,by simp [Env.get,P5.at];rfl⟩
  rintro n env s ⟨i,hi,rfl,hall,hg,hE⟩
  have hgl:=k4 hg
  by_cases c1:i<t.length
  ·have c1':((i:Int)<(t.length:Int))=True:=eq_true (by omega)
   have hs:IntKind.i64.wrap ((i:Int)+1)=((i+1:Nat):Int):=by rw [P1 (by omega) (by omega)];omega
   have hidx:=hT.at (z:=(i:Int)) (by omega) (by omega) (k:=.i64)
   rw [Int.toNat_natCast] at hidx
   have hx:=hT.nd c1
   have o1:=FL.one hx.w
   have o2:=FL.one hx.n
   have o3:=FL.one hx.k
   obtain ⟨e,hb,hq⟩:=b4Q hT hR c1
   by_cases c2:e=0
   ·subst c2
    repeat first
    |(apply N1 hb rfl;(focus (simp only [Env.evL,Env.ev,Env.get,Nat.reduceEqDiff,↓reduceIte,hE]));(focus exact fz2 hT.fz u7))
    |refine zW (aN hE (aN hlen (aN c1' hs))) ?_
    refine ⟨t.length-(i+1),by omega,i+1,by omega,rfl,fun j h=>?_,hg,(rG hE)⟩
    by_cases e:j=i
    ·subst e;exact hq rfl
    ·exact hall j (by omega)
   ·have c2':(e != 0)=true:=by rw [bne_iff_ne];exact c2
    repeat first
    |(apply N1 hb rfl;(focus (simp only [Env.evL,Env.ev,Env.get,Nat.reduceEqDiff,↓reduceIte,hE]));(focus exact fz2 hT.fz u7))
    |refine zW (aN hE (aN hlen (aN c1' (aN c2' (aN hidx (aN o1 (aN o2 (aN o3 hg)))))))) ?_
    refine ⟨.inr trivial,_,?_,e,(nd t i).pos,rfl,fun h=>(c2 h).elim⟩
    simp only [S7,U6,V6,Env.get,Nat.reduceEqDiff,↓reduceIte,hE,P8 hgl]
    rfl
  ·have c1':((i:Int)<(t.length:Int))=False:=eq_false (by omega)
   try refine zW (aN hE (aN hlen (aN c1' hg))) ?_
   refine ⟨.inr trivial,_,?_,0,0,rfl,fun _=>⟨hp rfl,⟨fun j h=>hall j (by omega)⟩⟩⟩
   simp only [S7,U6,V6,Env.get,Nat.reduceEqDiff,↓reduceIte,hE,P8 hgl]
   rfl
 ·have c0':(e != 0)=true:=by rw [bne_iff_ne];exact c0
  refine N8 (vf:=a3g) rfl ?_
  unfold a3g;refine zE ?_
  repeat first
  |(refine a3y rfl (fz1 hT.fz) hc rfl rfl ?_)
  |refine zW c0' ?_
  exact ⟨.inr trivial,_,rR,e,a,rfl,fun h=>(c0 h).elim⟩
end Go.Proofs.Ytlaeblilmppodaa
namespace Go.Proofs.Ytlaeblilmppodaa
open Go.V
set_option maxRecDepth 100000
set_option maxHeartbeats 4000000
theorem a4n {s:i8} {p:Pr} {x:PrD} (hp:M5 s p x) (hl:P7 p 1000000) :
 EvP vfs 83 [.agg (j0 p x)] s fun r s'=>∃x',r=.tup [.agg (j0 p.place x'),.int .i64 (p.places:Int)]/\Fr [] s s'/\M5 s' p.place x':=by
 have o1:=hp.l.one
 have o2:=hp.r.one
 have o3:=hp.e.one
 have o4:=hp.n.one
 have o5:=hp.v.one
 have hpl:=hl.pl
 have hrl:=hl.rl
 have e1:IntKind.i64.wrap ((p.places:Int)+1)=((p.places+1:Nat):Int):=by rw [P1 (by omega) (by omega)];omega
 have e2:IntKind.i64.wrap (((p.places+1:Nat):Int)-1)=(p.places:Int):=by rw [P1 (by omega) (by omega)];omega
 unfold j0
 refine N8 (vf:=a8G) rfl ?_
 unfold a8G;refine zE ?_
 try refine zW (aN o1 (aN o2 (aN o3 (aN o4 (aN o5 e1))))) ?_
 refine a07 (a4w (old:=[]) (rows:=P0 p.rest) (sz:=1) (bytes:=1) (d:=x.dr) ?_ (by simp) ?_ (a28 _) (by decide) (by simp;omega)) rfl rfl ?_
 ·exact O4 rfl
 ·exact hp.r.stay ((((Fr.push _).thenPush _).thenSet _ (.inr (Nat.le_refl _))).thenPush _)
 rintro d1 s1 ⟨id1,rfl,k1,f1,g1⟩
 have fr1:Fr [] s s1:=Fr.trans ((((Fr.push _).thenPush _).thenSet _ (.inr (Nat.le_refl _))).thenPush _) f1 (by simp;omega)
 have n1:=f1.1
 have kb:=f1.2 s.next (by simp only [i8.next_push,i8.next_set];omega) (by simp only [i8.next_push,i8.next_set,List.mem_singleton];omega)
 have kz:=f1.2 (s.next+1) (by simp only [i8.next_push,i8.next_set];omega) (by simp only [i8.next_push,i8.next_set,List.mem_singleton];omega)
 simp only [i8.next_push,i8.next_set] at n1 g1
 rw [S6 (by simp only [i8.next_push,i8.next_set];omega),P8 (by simp only [i8.next_push];omega)] at kb
 rw [S6 (by simp only [i8.next_push,i8.next_set];omega),O6 (by omega),O4 (by simp only [i8.next_push])] at kz
 have hid1:s.next+2<=id1:=by omega
 clear f1 g1
 rw [List.nil_append] at k1
 simp only [List.nil_append,a3A]
 have lid:=k4 k1
 try refine zW0 ?_
 refine a07 (a4w (old:=P0 p.rest) (rows:=P0 [false]) (sz:=1) (bytes:=1) (d:=.arr s1.next 0 1 1) ?_ (a28 _) (SN.of (O4 rfl) rfl) (a28 _) (by decide) (by simp;omega)) (by rw [a3A];rfl) rfl ?_
 ·rw [S6 lid,k1]
 rintro d2 s2 ⟨id2,rfl,k2,f2,g2⟩
 have fr2:Fr [] s s2:=(fr1.thenPush _).trans f2 (by simp;omega)
 have n2:=f2.1
 have kb2:=f2.2 s.next (by simp only [i8.next_push];omega) (by simp only [List.mem_singleton];omega)
 have kz2:=f2.2 (s.next+1) (by simp only [i8.next_push];omega) (by simp only [List.mem_singleton];omega)
 simp only [i8.next_push] at n2 g2
 rw [S6 (by omega),kb] at kb2
 rw [S6 (by omega),kz] at kz2
 have hid2:s.next+2<=id2:=by omega
 clear f2 g2 kb kz
 rw [<- b0M] at k2
 rw [<- b0M,a3A]
 have lid2:=k4 k2
 try refine zT (aN kb2 (aN kz2 (aN o1 (aN o3 (aN o4 (aN o5 e2)))))) ?_
 refine b5E (id:=s.next+1) (ob:=.cells [.str p.name,.int .i64 (p.copy:Int),x.dl,.int .i64 ((p.places+1:Nat):Int),.arr id2 0 (p.rest++[false]).length 1,x.de,x.dn,x.dv]) ?_ (by simp) rfl ?_
 ·simp (disch:=(first|with_reducible assumption|omega|((repeat (first|rw [nP]|rw [nS]))<;>omega)|fail)) only [go_sem,Env.ev,Env.get,↓reduceIte,kz2,o1,o3,o4,o5]
 try refine zW0 ?_
 have fr3:Fr [] s ((s2.set s.next (some (.cells [.str p.name,.int .i64 (p.copy:Int),x.dl,.int .i64 ((p.places+1:Nat):Int),.arr id2 0 (p.rest++[false]).length 1,x.de,x.dn,x.dv]))).set (s.next+1) (some (.cells [.str p.name,.int .i64 (p.copy:Int),x.dl,.int .i64 ((p.places+1:Nat):Int),.arr id2 0 (p.rest++[false]).length 1,x.de,x.dn,x.dv]))):=(fr2.thenSet _ (.inr (Nat.le_refl _))).thenSet _ (.inr (Nat.le_succ _))
 refine ⟨.inr trivial,_,?_,⟨x.dl,.arr id2 0 (p.rest++[false]).length 1,x.de,x.dn,x.dv⟩,rfl,fr3,?_⟩
 ·simp only [S7,U6,V6,Env.get,Nat.reduceEqDiff,↓reduceIte,P5.at,i8.next_push,P8 (s:=s2.set s.next _) (i:=s.next+1) (by simp only [i8.next_set];omega)]
  rfl
 refine ⟨hp.l.stay fr3,SN.of ?_ (by simp [Pr.place]),hp.e.stay fr3,hp.n.stay fr3,hp.v.stay fr3⟩
 rw [O6 (by omega),O6 (by omega),k2]
 rfl
end Go.Proofs.Ytlaeblilmppodaa
namespace Go.Proofs.Ytlaeblilmppodaa
open Go.V
set_option maxRecDepth 100000
set_option maxHeartbeats 4000000
theorem a1n {s:i8} {p:Pr} {x:PrD} (hp:M5 s p x) (hl:P7 p 1000000) {frm to act node:Nat} {expr v c:Int} :
 EvP vfs 81 [.agg (j0 p x),.int .i64 (frm:Int),.int .i64 (to:Int),.int .i64 (act:Int),.int .i64 (node:Int),.int .i64 expr,.int .i64 v,.int .i64 c] s fun r s'=>∃x',r=.agg (j0 (p.put frm to act node expr v c) x')/\Fr [] s s'/\M5 s' (p.put frm to act node expr v c) x'/\∃id,x'.de=.arr id 0 (p.put frm to act node expr v c).edges.length 8/\s.next<=id:=by
 have o1:=hp.l.one
 have o2:=hp.r.one
 have o3:=hp.e.one
 have o4:=hp.n.one
 have o5:=hp.v.one
 have hel:=hl.el
 unfold j0
 refine N8 (vf:=a8l) rfl ?_
 unfold a8l;refine zE ?_
 try refine zW (aN o1 (aN o2 (aN o3 (aN o4 o5)))) ?_
 refine a07 (a4w (old:=[]) (rows:=U1 p.edges) (sz:=8) (bytes:=64) (d:=x.de) ?_ (by simp) ?_ (a4b _) (by decide) (by simp;omega)) rfl rfl ?_
 ·exact O4 rfl
 ·exact hp.e.stay (((Fr.push _).thenPush _).thenPush _)
 rintro d1 s1 ⟨id1,rfl,k1,f1,g1⟩
 have fr1:Fr [] s s1:=Fr.trans (((Fr.push _).thenPush _).thenPush _) f1 (by simp;omega)
 have n1:=f1.1
 have kb:=f1.2 s.next (by simp only [i8.next_push];omega) (by simp only [i8.next_push,List.mem_singleton];omega)
 have kz:=f1.2 (s.next+1) (by simp only [i8.next_push];omega) (by simp only [i8.next_push,List.mem_singleton];omega)
 simp only [i8.next_push] at n1 g1
 rw [S6 (by simp only [i8.next_push];omega),S6 (by simp only [i8.next_push];omega),O4 rfl] at kb
 rw [S6 (by simp only [i8.next_push];omega),O4 (by simp only [i8.next_push])] at kz
 have hid1:s.next+2<=id1:=by omega
 clear f1 g1
 rw [List.nil_append] at k1
 simp only [List.nil_append,a3p]
 have lid:=k4 k1
 try refine zW0 ?_
 refine a07 (a4w (old:=U1 p.edges) (rows:=U1 [⟨frm,to,act,expr,v,c,false,node⟩]) (sz:=8) (bytes:=64) (d:=.arr s1.next 0 1 8) ?_ (a4b _) (SN.of (O4 rfl) rfl) (a4b _) (by decide) (by simp;omega)) (by rw [a3p];rfl) rfl ?_
 ·rw [S6 lid,k1]
 rintro d2 s2 ⟨id2,rfl,k2,f2,g2⟩
 have fr2:Fr [] s s2:=(fr1.thenPush _).trans f2 (by simp;omega)
 have n2:=f2.1
 have kb2:=f2.2 s.next (by simp only [i8.next_push];omega) (by simp only [List.mem_singleton];omega)
 have kz2:=f2.2 (s.next+1) (by simp only [i8.next_push];omega) (by simp only [List.mem_singleton];omega)
 simp only [i8.next_push] at n2 g2
 rw [S6 (by omega),kb] at kb2
 rw [S6 (by omega),kz] at kz2
 have hid2:s.next+2<=id2:=by omega
 clear f2 g2 kb kz
 rw [<- b1W] at k2
 rw [<- b1W,a3p]
 have lid2:=k4 k2
 try refine zW (aN kb2 (aN kz2 (aN o1 (aN o2 (aN o4 o5))))) ?_
 generalize hrow:[D.str p.name,.int .i64 (p.copy:Int),x.dl,.int .i64 (p.places:Int),x.dr,.arr id2 0 (p.edges++[(⟨frm,to,act,expr,v,c,false,node⟩:Ed)]).length 8,x.dn,x.dv]=row
 have fr3:Fr [] s ((s2.set s.next (some (.cells row))).set (s.next+1) (some (.cells row))):=(fr2.thenSet _ (.inr (Nat.le_refl _))).thenSet _ (.inr (Nat.le_succ _))
 refine ⟨.inr trivial,_,?_,⟨x.dl,x.dr,.arr id2 0 (p.edges++[(⟨frm,to,act,expr,v,c,false,node⟩:Ed)]).length 8,x.dn,x.dv⟩,rfl,fr3,?_,id2,rfl,by omega⟩
 ·simp only [S7,U6,V6,Env.get,Nat.reduceEqDiff,↓reduceIte,P5.at,i8.next_push,P8 (s:=s2.set s.next _) (i:=s.next+1) (by simp only [i8.next_set];omega)]
  rw [<- hrow]
  rfl
 refine ⟨hp.l.stay fr3,hp.r.stay fr3,SN.of ?_ (by simp [Pr.put]),hp.n.stay fr3,hp.v.stay fr3⟩
 rw [O6 (by omega),O6 (by omega),k2]
 rfl
theorem b9M (l:List Bool) (i:Nat) (b:Bool):(P0 l).flatten.set i (.bool b)=(P0 (l.set i b)).flatten:=by
 have key:∀l:List Bool,(P0 l).flatten=l.map .bool:=by
  intro l
  induction l with
  | nil=>rfl
  | cons a r ih=>simp only [P0,List.map_cons,List.flatten_cons] at ih ⊢;rw [ih];rfl
 rw [key,key,List.map_set]
theorem b3i (l:List Bool):(P0 l).flatten.length=l.length:=by rw [a4G (a28 l),a3A,Nat.mul_one]
theorem a67 {s:i8} {p:Pr} {x:PrD} (hp:M5 s p x) (hl:P7 p 1000000) {n:Nat} (hn:n<p.rest.length) {is:Int} :
 EvP vfs 108 [.agg (j0 p x),.int .i64 (n:Int),.int .i64 is] s fun r s'=>∃x',r=.agg (j0 (p.idle n is) x')/\Fr [] s s'/\M5 s' (p.idle n is) x':=by
 have o1:=hp.l.one
 have o2:=hp.r.one
 have o3:=hp.e.one
 have o4:=hp.n.one
 have o5:=hp.v.one
 have hrl:=hl.rl
 unfold j0
 refine N8 (vf:=a7H) rfl ?_
 unfold a7H;refine zE ?_
 try refine zW (aN o1 (aN o2 (aN o3 (aN o4 o5)))) ?_
 refine a07 (a4w (old:=[]) (rows:=P0 p.rest) (sz:=1) (bytes:=1) (d:=x.dr) ?_ (by simp) ?_ (a28 _) (by decide) (by simp;omega)) rfl rfl ?_
 ·exact O4 rfl
 ·exact hp.r.stay (((Fr.push _).thenPush _).thenPush _)
 rintro d1 s1 ⟨id1,rfl,k1,f1,g1⟩
 have fr1:Fr [] s s1:=Fr.trans (((Fr.push _).thenPush _).thenPush _) f1 (by simp;omega)
 have n1:=f1.1
 have kb:=f1.2 s.next (by simp only [i8.next_push];omega) (by simp only [i8.next_push,List.mem_singleton];omega)
 have kz:=f1.2 (s.next+1) (by simp only [i8.next_push];omega) (by simp only [i8.next_push,List.mem_singleton];omega)
 simp only [i8.next_push] at n1 g1
 rw [S6 (by simp only [i8.next_push];omega),S6 (by simp only [i8.next_push];omega),O4 rfl] at kb
 rw [S6 (by simp only [i8.next_push];omega),O4 (by simp only [i8.next_push])] at kz
 have hid1:s.next+2<=id1:=by omega
 clear f1 g1
 rw [List.nil_append] at k1
 simp only [List.nil_append,a3A]
 have lid:=k4 k1
 by_cases c:is=1
 ·have c':(is==1)=true:=by rw [c];rfl
  have hnl:((n:Int)<(p.rest.length:Int)):=by omega
  have hi:M1 1 (.arr id1 0 p.rest.length 1) (.int .i64 (n:Int))=some (.ptr id1 n):=by
   simp only [M1]
   rw [if_pos ⟨trivial,by omega,by omega⟩]
   simp
  repeat first
  |(refine a6e (x:=.bool true) k1 (n:=n) (by rw [b3i];omega) rfl ?_ rfl ?_;(focus (simp only [Env.ev,Env.get,Nat.reduceEqDiff,↓reduceIte])))
  |refine zW (aN c' hi) ?_
  have kb1:(s1.set id1 (some (.cells ((P0 p.rest).flatten.set n (.bool true))))).get s.next=some (.cells [.str p.name,.int .i64 (p.copy:Int),x.dl,.int .i64 (p.places:Int),x.dr,x.de,x.dn,x.dv]):=by rw [O6 (by omega),kb]
  have kz1:=O6 (s:=s1) (o:=some (.cells ((P0 p.rest).flatten.set n (.bool true)))) (i:=s.next+1) (id:=id1) (by omega)
  rw [kz] at kz1
  try refine zW (aN kb1 (aN kz1 (aN o1 (aN o3 (aN o4 o5))))) ?_
  generalize hrow:[D.str p.name,.int .i64 (p.copy:Int),x.dl,.int .i64 (p.places:Int),.arr id1 0 p.rest.length 1,x.de,x.dn,x.dv]=row
  have fr3:Fr [] s (((s1.set id1 (some (.cells ((P0 p.rest).flatten.set n (.bool true))))).set s.next (some (.cells row))).set (s.next+1) (some (.cells row))):=((fr1.thenSet _ (.inr (by omega))).thenSet _ (.inr (Nat.le_refl _))).thenSet _ (.inr (Nat.le_succ _))
  have hid:p.idle n is={ p with rest:=p.rest.set n true }:=by unfold Pr.idle;rw [if_pos c]
  rw [hid]
  refine ⟨.inr trivial,_,?_,⟨x.dl,.arr id1 0 p.rest.length 1,x.de,x.dn,x.dv⟩,rfl,fr3,?_⟩
  ·simp only [S7,U6,V6,Env.get,Nat.reduceEqDiff,↓reduceIte,P5.at,i8.next_push,P8 (i:=s.next+1) (s:=(s1.set id1 _).set s.next _) (by simp only [i8.next_set];omega)]
   rw [<- hrow]
   rfl
  refine ⟨hp.l.stay fr3,SN.of ?_ (by simp),hp.e.stay fr3,hp.n.stay fr3,hp.v.stay fr3⟩
  rw [O6 (by omega),O6 (by omega),P8 lid,b9M]
 ·have c':(is==1)=false:=by rw [beq_eq_false_iff_ne];exact c
  try refine zW (aN c' (aN kb (aN kz (aN o1 (aN o3 (aN o4 o5)))))) ?_
  generalize hrow:[D.str p.name,.int .i64 (p.copy:Int),x.dl,.int .i64 (p.places:Int),.arr id1 0 p.rest.length 1,x.de,x.dn,x.dv]=row
  have fr3:Fr [] s ((s1.set s.next (some (.cells row))).set (s.next+1) (some (.cells row))):=(fr1.thenSet _ (.inr (Nat.le_refl _))).thenSet _ (.inr (Nat.le_succ _))
  have hid:p.idle n is=p:=by unfold Pr.idle;rw [if_neg c]
  rw [hid]
  refine ⟨.inr trivial,_,?_,⟨x.dl,.arr id1 0 p.rest.length 1,x.de,x.dn,x.dv⟩,rfl,fr3,?_⟩
  ·simp only [S7,U6,V6,Env.get,Nat.reduceEqDiff,↓reduceIte,P5.at,i8.next_push,P8 (i:=s.next+1) (s:=s1.set s.next _) (by simp only [i8.next_set];omega)]
   rw [<- hrow]
   rfl
  refine ⟨hp.l.stay fr3,SN.of ?_ (by simp),hp.e.stay fr3,hp.n.stay fr3,hp.v.stay fr3⟩
  rw [O6 (by omega),O6 (by omega),k1]
end Go.Proofs.Ytlaeblilmppodaa
namespace Go.Proofs.Ytlaeblilmppodaa
open Go.V
set_option maxRecDepth 100000
set_option maxHeartbeats 4000000
theorem a84 {l:List ByteArray} {x:ByteArray} {i:Nat} (h:i<l.length) (hx:l[i]=x) (hb:∀j (hj:j<l.length),j<i->l[j]≠x):Z8 l x=i:=by
 have:l.findIdx (fun y=>decide (y=x))=i:=by
  rw [List.findIdx_eq h]
  exact ⟨by simpa using hx,fun j hj=>by simpa using hb j (by omega) hj⟩
 unfold Z8
 rw [this,if_pos h]
theorem b0g {l:List ByteArray} {x:ByteArray} (hb:∀j (hj:j<l.length),l[j]≠x):Z8 l x=0:=by
 unfold Z8
 rw [if_neg]
 rw [List.findIdx_lt_length]
 rintro ⟨y,hy,e⟩
 obtain ⟨j,hj,rfl⟩:=List.getElem_of_mem hy
 exact hb j hj (by simpa using e)
theorem b0a {s:i8} {d:D} {l:List ByteArray} {x:ByteArray} (hd:SN s 1 d (W9 l)) (hl:l.length<=1000000):Ev vfs 106 [d,.str x] s (.int .i64 (Z8 l x:Int)) s:=by
 have hlen:=hd.len
 rw [b7c] at hlen
 refine a7y (vf:=a7r) rfl ?_
 unfold a7r;refine zE ?_
 try refine zW0 ?_
 refine a0l (Q:=M7 0 _) (fun n env s1=>∃i:Nat,i<=l.length/\n=l.length-i/\(∀j (hj:j<l.length),j<i->l[j]≠x)/\s1=s/\(env.get 0=d/\env.get 1=.str x/\env.get 5=.int .i64 (i:Int))) ?_ l.length _ _ ⟨0,by omega,rfl,fun j _ h=>by omega,rfl,by simp [Env.get]⟩
 rintro n env s1 ⟨i,hi,rfl,hno,rfl,hE⟩
 by_cases c1:i<l.length
 ·have c1':((i:Int)<(l.length:Int))=True:=eq_true (by omega)
  have hs:IntKind.i64.wrap ((i:Int)+1)=((i+1:Nat):Int):=by rw [P1 (by omega) (by omega)];omega
  obtain ⟨pp,p1,p2,-⟩:=hd.get1 (a6w l) (i:=i) (c:=.str l[i]) (by simpa using c1) (by simp [W9]) rfl (by decide)
  by_cases c2:l[i]=x
  ·have hf:=a84 c1 c2 hno
   try refine zW (aN hE (aN hlen (aN c1' (aN p1 (aN p2 c2))))) ?_
   exact ⟨.inr trivial,trivial,by rw [hf];simp only [S7,U6,V6,Env.get,Nat.reduceEqDiff,↓reduceIte,hE]⟩
  ·try refine zW (aN hE (aN hlen (aN c1' (aN p1 (aN p2 (aN c2 hs)))))) ?_
   refine ⟨l.length-(i+1),by omega,i+1,by omega,rfl,fun j hj hji=>?_,trivial,(rG hE)⟩
   by_cases e:j=i
   ·subst e;exact c2
   ·exact hno j hj (by omega)
 ·have c1':((i:Int)<(l.length:Int))=False:=eq_false (by omega)
  have hf:=b0g (l:=l) (x:=x) fun j hj=>hno j hj (by omega)
  try refine zW (aN hE (aN hlen c1')) ?_
  exact ⟨.inr trivial,trivial,by rw [hf];rfl⟩
theorem b1k {s:i8} {m:MdX} {t:List Nd} {ch:List Ch} {x:ByteArray} (hm:a0j s m t ch) (hl:ch.length<=1000000) :
 EvP vfs 107 [.agg (N2 m),.str x] s fun r s'=>r=.int .i64 (Z8 (ch.map Ch.name) x:Int)/\Fr [] s s':=by
 have hlen:=hm.c.len
 rw [a5p] at hlen
 have o0:=FL.one hm.tr.fl
 have o1:=hm.c.one
 have o2:=hm.ov
 have o3:=hm.op
 have o4:=hm.os
 unfold N2
 refine N8 (vf:=a7D) rfl ?_
 unfold a7D;refine zE ?_
 try refine zW (aN o0 (aN o1 (aN o2 (aN o3 o4)))) ?_
 have hg0:(s.push (.cells [m.dt,.int .i64 m.g,m.dc,m.dv,m.dp,m.ds,.bool m.b])).get s.next=some (.cells [m.dt,.int .i64 m.g,m.dc,m.dv,m.dp,m.ds,.bool m.b]):=O4 rfl
 have hc:=hm.c.stay (Fr.push (ids:=[]) (s:=s) (.cells [m.dt,.int .i64 m.g,m.dc,m.dv,m.dp,m.ds,.bool m.b]))
 have fr:=Fr.push (ids:=[]) (s:=s) (.cells [m.dt,.int .i64 m.g,m.dc,m.dv,m.dp,m.ds,.bool m.b])
 generalize s.push (.cells [m.dt,.int .i64 m.g,m.dc,m.dv,m.dp,m.ds,.bool m.b])=s1 at *
 refine a0l (Q:=M7 0 _) (fun n env s2=>∃i:Nat,i<=ch.length/\n=ch.length-i/\(∀j (hj:j<(ch.map Ch.name).length),j<i->(ch.map Ch.name)[j]≠x)/\s2=s1/\(env.get 1=.str x/\env.get 2=.ptr s.next 0/\env.get 5=.int .i64 (i:Int))) ?_ ch.length _ _ ⟨0,by omega,rfl,fun j _ h=>by omega,rfl,by simp [Env.get,P5.at]⟩
 rintro n env s2 ⟨i,hi,rfl,hno,rfl,hE⟩
 by_cases c1:i<ch.length
 ·have c1':((i:Int)<(ch.length:Int))=True:=eq_true (by omega)
  have hs:IntKind.i64.wrap ((i:Int)+1)=((i+1:Nat):Int):=by rw [P1 (by omega) (by omega)];omega
  rcases hc with ⟨_,h0⟩ | ⟨id,hdc,hg⟩ | hdc
  ·have:=congrArg List.length h0
   rw [a5p,List.length_nil] at this
   omega
  ·have hq:(a0d ch).flatten[i*5]?=some (.str ch[i].name):=by
    have:=a4l (a9p ch) (i:=i) (f:=0) (by simpa using c1) (by decide)
    rw [Nat.add_zero] at this
    rw [this]
    simp [a0d,Ch.row]
   rw [a5p] at hdc
   have hnm:(ch.map Ch.name)[i]'(by simpa using c1)=ch[i].name:=by simp
   rw [hdc] at hg0 hlen o1
   by_cases c2:ch[i].name=x
   ·have hf:=a84 (l:=ch.map Ch.name) (i:=i) (by simpa using c1) (by rw [hnm];exact c2) hno
    try refine zW (aN hE (aN hg0 (aN o0 (aN o1 (aN o2 (aN o3 (aN o4 (aN hlen (aN c1' (aN hg (aN hq c2))))))))))) ?_
    exact ⟨.inr trivial,_,rR,by rw [hf],fr⟩
   ·try refine zW (aN hE (aN hg0 (aN o0 (aN o1 (aN o2 (aN o3 (aN o4 (aN hlen (aN c1' (aN hg (aN hq (aN c2 hs)))))))))))) ?_
    refine ⟨ch.length-(i+1),by omega,i+1,by omega,rfl,fun j hj hji=>?_,trivial,(rG hE)⟩
    by_cases e:j=i
    ·subst e;rw [hnm];exact c2
    ·exact hno j hj (by omega)
  ·have hnm:(ch.map Ch.name)[i]'(by simpa using c1)=ch[i].name:=by simp
   have hix:M1 5 m.dc (.int .i64 (i:Int))=some (.fp [.str ch[i].name,.int .i64 ch[i].room,.int .i64 ch[i].width,.bool ch[i].lossy,.bool ch[i].copying] 0):=by
    rw [hdc]
    simp [M1,a0d,c1,Ch.row]
   by_cases c2:ch[i].name=x
   ·have hf:=a84 (l:=ch.map Ch.name) (i:=i) (by simpa using c1) (by rw [hnm];exact c2) hno
    try refine zW (aN hE (aN hg0 (aN o0 (aN o1 (aN o2 (aN o3 (aN o4 (aN hlen (aN c1' (aN hix c2)))))))))) ?_
    exact ⟨.inr trivial,_,rR,by rw [hf],fr⟩
   ·try refine zW (aN hE (aN hg0 (aN o0 (aN o1 (aN o2 (aN o3 (aN o4 (aN hlen (aN c1' (aN hix (aN c2 hs))))))))))) ?_
    refine ⟨ch.length-(i+1),by omega,i+1,by omega,rfl,fun j hj hji=>?_,trivial,(rG hE)⟩
    by_cases e:j=i
    ·subst e;rw [hnm];exact c2
    ·exact hno j hj (by omega)
 ·have c1':((i:Int)<(ch.length:Int))=False:=eq_false (by omega)
  have hf:=b0g (l:=ch.map Ch.name) (x:=x) fun j hj=>hno j hj (by simp at hj;omega)
  try refine zW (aN hE (aN hg0 (aN o0 (aN o1 (aN o2 (aN o3 (aN o4 (aN hlen c1')))))))) ?_
  exact ⟨.inr trivial,_,rR,by rw [hf];rfl,fr⟩
end Go.Proofs.Ytlaeblilmppodaa
namespace Go.Proofs.Ytlaeblilmppodaa
open Go.V
set_option maxRecDepth 100000
set_option maxHeartbeats 4000000
theorem b0p {s:i8} {d:D} {l:List Nat} {i:Nat} (h:SN s 1 d (Q0 l)) (hi:i<l.length):∃p,M1 1 d (.int .i64 (i:Int))=some p/\ldV s.get none p=some (.int .i64 ((l.getD i 0:Nat):Int))/\∀id off,p=.ptr id off->id<s.next :=
 h.get1 (a2q l) (by simpa using hi) (by simp [Q0,List.getD,hi]) rfl (by decide)
theorem a0o {p:Pr} {a b:Nat} (h:P7 p a) (k:a<=b):P7 p b:=⟨by have:=h.pl;omega,by have:=h.rl;omega,by have:=h.el;omega⟩
theorem a7a {p:Pr} {a n:Nat} {is:Int} (h:P7 p a):P7 (p.idle n is) a:=by
 have g:=a6c p n is
 exact ⟨by have:=h.pl;have:=g.pl;omega,by have:=h.rl;have:=g.rl;omega,by have:=h.el;have:=g.el;omega⟩
theorem a0S {p q:Pr} {a b n:Nat} (h:P7 p a) (g:Gw p q n) (k:a+n<=b):P7 q b:=⟨by have:=h.pl;have:=g.pl;omega,by have:=h.rl;have:=g.rl;omega,by have:=h.el;have:=g.el;omega⟩
theorem b63 {s:i8} {m:MdX} {t:List Nd} {ch:List Ch} (hm:a0j s m t ch) (ht:Y8 t) {p:Pr} {x:PrD} (hp:M5 s p x) (hl:P7 p 900000) {k frm to:Nat} (hk:k<t.length) (hK:(nd t k).kind=14) {f:Nat} :
 EvP vfs 82 [.agg (N2 m),.agg (j0 p x),.int .i64 (k:Int),.int .i64 (frm:Int),.int .i64 (to:Int)] s (StR s p (y0 t (ch.map Ch.name) (f+1) p k frm to)):=by
 have hF:y0 t (ch.map Ch.name) (f+1) p k frm to=p.put frm to 0 k (-1) (-1) (-1):=by simp [y0,hK]
 rw [hF]
 have hidx:=hm.tr.at (z:=(k:Int)) (by omega) (by omega) (k:=.i64)
 rw [Int.toNat_natCast,hK] at hidx
 have on:=a0L hm.tr hk
 have op:=hp.ones
 have om:=hm.ones
 have hl':P7 p 1000000:=⟨by have:=hl.pl;omega,by have:=hl.rl;omega,by have:=hl.el;omega⟩
 have hno:=ht.node k hk
 unfold N2 j0
 refine N8 (vf:=a0a) rfl ?_
 unfold a0a;refine zE ?_
 try refine zW (aN hidx (aN on (aN op om))) ?_
 refine V0 (Φ:=SF s m [.int .i64 14,(nd t k).dw,(nd t k).dn,(nd t k).dk,.int .i64 (nd t k).pos] (j0 p x)) ?_ ?_
 ·refine ⟨(((((Fr.push _).thenPush _).thenPush _).thenPush _).thenSet _ (.inr (by first | omega | (simp only [i8.next_push];omega)))),by simp only [i8.next_push,i8.next_set];omega,?_,?_,?_,?_⟩<;>(simp (disch:=(first|with_reducible assumption|omega|((repeat (first|rw [nP]|rw [nS]))<;>omega)|fail)) only [S6,O4,O6,P8,i8.next_push,i8.next_set])<;>rfl
 intro s4 h4
 simp only [P5.at,i8.next_push,i8.next_set]
 apply U2 (a1n (to:=to) (act:=0) (hp.stay h4.fr) hl')
 ·rfl
 rintro r s9 ⟨x9,rfl,f9,hp9,id9,e9,z9⟩
 have h9:=h4.call f9
 have hz9:Z1 s x9.de:=a2B e9 z9 h4.fr.1
 have op9:=hp9.ones
 have r9:=h9.r
 repeat first
  |with_reducible first|apply vA|apply vB|apply vC
  |((with_reducible apply vD);(focus rfl))
  |((with_reducible first|apply vE|apply vF|apply vG|apply vH);simp only [Env.keep,Env.get,Env.ev,List.map,Nat.reduceEqDiff,↓reduceIte,O5,M7])
  |((with_reducible first|apply vI|apply vJ|apply vK|apply vL|apply vM|apply vN);(focus (simp (disch:=(first|with_reducible assumption|omega|((repeat (first|rw [nP]|rw [nS]))<;>omega)|fail)) only [go_sem,Env.ev,Env.get,↓reduceIte,r9,op9,j0]<;>rfl));(first|(with_reducible (first|apply vO|apply vP|apply vQ|apply vR|apply vS|apply vT|apply vU);try simp only [Env.put])|with_reducible refine (?_:WQ _ _ _ _ _ _)))
  |fail
 exact ⟨.inr trivial,_,h9.res rfl,h9.fin hp9 hz9⟩
theorem c2t {s:i8} {m:MdX} {t:List Nd} {ch:List Ch} (hm:a0j s m t ch) (ht:Y8 t) {p:Pr} {x:PrD} (hp:M5 s p x) (hl:P7 p 900000) {k frm to:Nat} (hk:k<t.length) (hK:(nd t k).kind=15) {f:Nat} :
 EvP vfs 82 [.agg (N2 m),.agg (j0 p x),.int .i64 (k:Int),.int .i64 (frm:Int),.int .i64 (to:Int)] s (StR s p (y0 t (ch.map Ch.name) (f+1) p k frm to)):=by
 have hF:y0 t (ch.map Ch.name) (f+1) p k frm to=p.put frm 1 0 k (-1) (-1) (-1):=by simp [y0,hK]
 rw [hF]
 have hidx:=hm.tr.at (z:=(k:Int)) (by omega) (by omega) (k:=.i64)
 rw [Int.toNat_natCast,hK] at hidx
 have on:=a0L hm.tr hk
 have op:=hp.ones
 have om:=hm.ones
 have hl':P7 p 1000000:=⟨by have:=hl.pl;omega,by have:=hl.rl;omega,by have:=hl.el;omega⟩
 have hno:=ht.node k hk
 unfold N2 j0
 refine N8 (vf:=a0a) rfl ?_
 unfold a0a;refine zE ?_
 try refine zW (aN hidx (aN on (aN op om))) ?_
 refine V0 (Φ:=SF s m [.int .i64 15,(nd t k).dw,(nd t k).dn,(nd t k).dk,.int .i64 (nd t k).pos] (j0 p x)) ?_ ?_
 ·refine ⟨(((((Fr.push _).thenPush _).thenPush _).thenPush _).thenSet _ (.inr (by first | omega | (simp only [i8.next_push];omega)))),by simp only [i8.next_push,i8.next_set];omega,?_,?_,?_,?_⟩<;>(simp (disch:=(first|with_reducible assumption|omega|((repeat (first|rw [nP]|rw [nS]))<;>omega)|fail)) only [S6,O4,O6,P8,i8.next_push,i8.next_set])<;>rfl
 intro s4 h4
 simp only [P5.at,i8.next_push,i8.next_set]
 apply U2 (a1n (to:=1) (act:=0) (hp.stay h4.fr) hl')
 ·rfl
 rintro r s9 ⟨x9,rfl,f9,hp9,id9,e9,z9⟩
 have h9:=h4.call f9
 have hz9:Z1 s x9.de:=a2B e9 z9 h4.fr.1
 have op9:=hp9.ones
 have r9:=h9.r
 repeat first
  |with_reducible first|apply vA|apply vB|apply vC
  |((with_reducible apply vD);(focus rfl))
  |((with_reducible first|apply vE|apply vF|apply vG|apply vH);simp only [Env.keep,Env.get,Env.ev,List.map,Nat.reduceEqDiff,↓reduceIte,O5,M7])
  |((with_reducible first|apply vI|apply vJ|apply vK|apply vL|apply vM|apply vN);(focus (simp (disch:=(first|with_reducible assumption|omega|((repeat (first|rw [nP]|rw [nS]))<;>omega)|fail)) only [go_sem,Env.ev,Env.get,↓reduceIte,r9,op9,j0]<;>rfl));(first|(with_reducible (first|apply vO|apply vP|apply vQ|apply vR|apply vS|apply vT|apply vU);try simp only [Env.put])|with_reducible refine (?_:WQ _ _ _ _ _ _)))
  |fail
 exact ⟨.inr trivial,_,h9.res rfl,h9.fin hp9 hz9⟩
theorem b7x {s:i8} {m:MdX} {t:List Nd} {ch:List Ch} (hm:a0j s m t ch) (ht:Y8 t) {p:Pr} {x:PrD} (hp:M5 s p x) (hl:P7 p 900000) (hnv:p.names.length=p.vars.length) (hn0:0<p.names.length) (hnb:p.names.length<=1000000) {k frm to:Nat} (hk:k<t.length) (hK:(nd t k).kind=6) {f:Nat} :
 EvP vfs 82 [.agg (N2 m),.agg (j0 p x),.int .i64 (k:Int),.int .i64 (frm:Int),.int .i64 (to:Int)] s (StR s p (y0 t (ch.map Ch.name) (f+1) p k frm to)):=by
 have hF:y0 t (ch.map Ch.name) (f+1) p k frm to=p.put frm to 1 k ((nd t k).kid 0) (p.vars.getD (Z8 p.names ((nd t k).word 0)) 0:Nat) (-1):=by simp [y0,hK]
 rw [hF]
 have hidx:=hm.tr.at (z:=(k:Int)) (by omega) (by omega) (k:=.i64)
 rw [Int.toNat_natCast,hK] at hidx
 have on:=a0L hm.tr hk
 have op:=hp.ones
 have om:=hm.ones
 have hl':P7 p 1000000:=⟨by have:=hl.pl;omega,by have:=hl.rl;omega,by have:=hl.el;omega⟩
 have hno:=ht.node k hk
 have hk1:=hno.one (by omega)
 have k0:M1 1 (nd t k).dk (.int .i64 0)=some (.fp [.int .i64 ((nd t k).kid 0:Int)] 0):=a0W hm.tr ht hk (i:=0) (by omega)
 have hwl:(nd t k).words.length=1:=by rw [hno.wl,hK];rfl
 have w0:M1 1 (nd t k).dw (.int .i64 0)=some (.fp [.str ((nd t k).word 0)] 0):=a2W hm.tr hk (i:=0) (by omega)
 have hfl:=a6F (s:=(nd t k).word 0) hn0
 unfold N2 j0
 refine N8 (vf:=a0a) rfl ?_
 unfold a0a;refine zE ?_
 try refine zW (aN hidx (aN on (aN op (aN om (aN k0 w0))))) ?_
 refine V0 (Φ:=SF s m [.int .i64 6,(nd t k).dw,(nd t k).dn,(nd t k).dk,.int .i64 (nd t k).pos] (j0 p x)) ?_ ?_
 ·refine ⟨(((((Fr.push _).thenPush _).thenPush _).thenPush _).thenSet _ (.inr (by first | omega | (simp only [i8.next_push];omega)))),by simp only [i8.next_push,i8.next_set];omega,?_,?_,?_,?_⟩<;>(simp (disch:=(first|with_reducible assumption|omega|((repeat (first|rw [nP]|rw [nS]))<;>omega)|fail)) only [S6,O4,O6,P8,i8.next_push,i8.next_set])<;>rfl
 intro s4 h4
 simp only [P5.at,i8.next_push,i8.next_set]
 refine b9r (l:=[x.dn,.str ((nd t k).word 0)]) rfl (b0a (hp.stay h4.fr).n hnb) ?_
 obtain ⟨id,v1,v2,v3⟩:=b0p (hp.stay h4.fr).v (i:=Z8 p.names ((nd t k).word 0)) (by omega)
 try refine zW (aN v1 v2) ?_
 apply U2 (a1n (act:=1) (hp.stay h4.fr) hl')
 ·rfl
 rintro r s9 ⟨x9,rfl,f9,hp9,id9,e9,z9⟩
 have h9:=h4.call f9
 have hz9:Z1 s x9.de:=a2B e9 z9 h4.fr.1
 have op9:=hp9.ones
 have r9:=h9.r
 repeat first
  |with_reducible first|apply vA|apply vB|apply vC
  |((with_reducible apply vD);(focus rfl))
  |((with_reducible first|apply vE|apply vF|apply vG|apply vH);simp only [Env.keep,Env.get,Env.ev,List.map,Nat.reduceEqDiff,↓reduceIte,O5,M7])
  |((with_reducible first|apply vI|apply vJ|apply vK|apply vL|apply vM|apply vN);(focus (simp (disch:=(first|with_reducible assumption|omega|((repeat (first|rw [nP]|rw [nS]))<;>omega)|fail)) only [go_sem,Env.ev,Env.get,↓reduceIte,r9,op9,j0]<;>rfl));(first|(with_reducible (first|apply vO|apply vP|apply vQ|apply vR|apply vS|apply vT|apply vU);try simp only [Env.put])|with_reducible refine (?_:WQ _ _ _ _ _ _)))
  |fail
 exact ⟨.inr trivial,_,h9.res rfl,h9.fin hp9 hz9⟩
theorem b61 {s:i8} {m:MdX} {t:List Nd} {ch:List Ch} (hm:a0j s m t ch) (ht:Y8 t) {p:Pr} {x:PrD} (hp:M5 s p x) (hl:P7 p 900000) (hcb:ch.length<=1000000) {k frm to:Nat} (hk:k<t.length) (hK:(nd t k).kind=7) {f:Nat} :
 EvP vfs 82 [.agg (N2 m),.agg (j0 p x),.int .i64 (k:Int),.int .i64 (frm:Int),.int .i64 (to:Int)] s (StR s p (y0 t (ch.map Ch.name) (f+1) p k frm to)):=by
 have hF:y0 t (ch.map Ch.name) (f+1) p k frm to=p.put frm to 2 k ((nd t k).kid 0) (-1) (Z8 (ch.map Ch.name) ((nd t k).word 0):Nat):=by simp [y0,hK]
 rw [hF]
 have hidx:=hm.tr.at (z:=(k:Int)) (by omega) (by omega) (k:=.i64)
 rw [Int.toNat_natCast,hK] at hidx
 have on:=a0L hm.tr hk
 have op:=hp.ones
 have om:=hm.ones
 have hl':P7 p 1000000:=⟨by have:=hl.pl;omega,by have:=hl.rl;omega,by have:=hl.el;omega⟩
 have hno:=ht.node k hk
 have hk1:=hno.one (by omega)
 have k0:M1 1 (nd t k).dk (.int .i64 0)=some (.fp [.int .i64 ((nd t k).kid 0:Int)] 0):=a0W hm.tr ht hk (i:=0) (by omega)
 have hwl:(nd t k).words.length=1:=by rw [hno.wl,hK];rfl
 have w0:M1 1 (nd t k).dw (.int .i64 0)=some (.fp [.str ((nd t k).word 0)] 0):=a2W hm.tr hk (i:=0) (by omega)
 unfold N2 j0
 refine N8 (vf:=a0a) rfl ?_
 unfold a0a;refine zE ?_
 try refine zT (aN hidx (aN on (aN op (aN om (aN k0 w0))))) ?_
 refine a9I (Φ:=SF s m [.int .i64 7,(nd t k).dw,(nd t k).dn,(nd t k).dk,.int .i64 (nd t k).pos] (j0 p x)) ?_ ?_
 ·refine ⟨(((((Fr.push _).thenPush _).thenPush _).thenPush _).thenSet _ (.inr (by first | omega | (simp only [i8.next_push];omega)))),by simp only [i8.next_push,i8.next_set];omega,?_,?_,?_,?_⟩<;>(simp (disch:=(first|with_reducible assumption|omega|((repeat (first|rw [nP]|rw [nS]))<;>omega)|fail)) only [S6,O4,O6,P8,i8.next_push,i8.next_set])<;>rfl
 intro s4 h4
 simp only [P5.at,i8.next_push,i8.next_set]
 refine b0U (b1k (hm.stay h4.fr) hcb) (fun d s' h=>h.2) (by
  intro id hid
  have:=h4.nx
  simp only [List.mem_cons,List.not_mem_nil,or_false] at hid
  omega) rfl rfl ?_
 rintro r s5 ⟨rfl,f5⟩
 have h5:=h4.call f5
 apply U2 (a1n (act:=2) (hp.stay h5.fr) hl')
 ·rfl
 rintro r s9 ⟨x9,rfl,f9,hp9,id9,e9,z9⟩
 have h9:=h5.call f9
 have hz9:Z1 s x9.de:=a2B e9 z9 h5.fr.1
 have op9:=hp9.ones
 have r9:=h9.r
 repeat first
  |with_reducible first|apply vA|apply vB|apply vC
  |((with_reducible apply vD);(focus rfl))
  |((with_reducible first|apply vE|apply vF|apply vG|apply vH);simp only [Env.keep,Env.get,Env.ev,List.map,Nat.reduceEqDiff,↓reduceIte,O5,M7])
  |((with_reducible first|apply vI|apply vJ|apply vK|apply vL|apply vM|apply vN);(focus (simp (disch:=(first|with_reducible assumption|omega|((repeat (first|rw [nP]|rw [nS]))<;>omega)|fail)) only [go_sem,Env.ev,Env.get,↓reduceIte,r9,op9,j0]<;>rfl));(first|(with_reducible (first|apply vO|apply vP|apply vQ|apply vR|apply vS|apply vT|apply vU);try simp only [Env.put])|with_reducible refine (?_:WQ _ _ _ _ _ _)))
  |fail
 exact ⟨.inr trivial,_,h9.res rfl,h9.fin hp9 hz9⟩
theorem b9v {s:i8} {m:MdX} {t:List Nd} {ch:List Ch} (hm:a0j s m t ch) (ht:Y8 t) {p:Pr} {x:PrD} (hp:M5 s p x) (hl:P7 p 900000) {k frm to:Nat} (hfr:frm<p.rest.length) (hk:k<t.length) (hK:(nd t k).kind=9) {f:Nat} :
 EvP vfs 82 [.agg (N2 m),.agg (j0 p x),.int .i64 (k:Int),.int .i64 (frm:Int),.int .i64 (to:Int)] s (StR s p (y0 t (ch.map Ch.name) (f+1) p k frm to)):=by
 have hF:y0 t (ch.map Ch.name) (f+1) p k frm to=(p.idle frm ((nd t k).num 0)).put frm to 4 k ((nd t k).kid 0) (-1) (-1):=by simp [y0,hK]
 rw [hF]
 have hidx:=hm.tr.at (z:=(k:Int)) (by omega) (by omega) (k:=.i64)
 rw [Int.toNat_natCast,hK] at hidx
 have on:=a0L hm.tr hk
 have op:=hp.ones
 have om:=hm.ones
 have hl':P7 p 1000000:=⟨by have:=hl.pl;omega,by have:=hl.rl;omega,by have:=hl.el;omega⟩
 have hno:=ht.node k hk
 have hk1:=hno.one (by omega)
 have k0:M1 1 (nd t k).dk (.int .i64 0)=some (.fp [.int .i64 ((nd t k).kid 0:Int)] 0):=a0W hm.tr ht hk (i:=0) (by omega)
 have hnl:(nd t k).nums.length=1:=by rw [hno.nl,hK];rfl
 have n0:M1 1 (nd t k).dn (.int .i64 0)=some (.fp [.int .i64 ((nd t k).num 0)] 0):=a01 (hm.tr.nd hk) (i:=0) (by omega)
 unfold N2 j0
 refine N8 (vf:=a0a) rfl ?_
 unfold a0a;refine zE ?_
 try refine zW (aN hidx (aN on (aN op (aN om n0)))) ?_
 refine V0 (Φ:=SF s m [.int .i64 9,(nd t k).dw,(nd t k).dn,(nd t k).dk,.int .i64 (nd t k).pos] (j0 p x)) ?_ ?_
 ·refine ⟨(((((Fr.push _).thenPush _).thenPush _).thenPush _).thenSet _ (.inr (by first | omega | (simp only [i8.next_push];omega)))),by simp only [i8.next_push,i8.next_set];omega,?_,?_,?_,?_⟩<;>(simp (disch:=(first|with_reducible assumption|omega|((repeat (first|rw [nP]|rw [nS]))<;>omega)|fail)) only [S6,O4,O6,P8,i8.next_push,i8.next_set])<;>rfl
 intro s4 h4
 simp only [P5.at,i8.next_push,i8.next_set]
 apply U2 (a67 (hp.stay h4.fr) hl' hfr)
 ·rfl
 rintro r s5 ⟨x5,rfl,f5,hp5⟩
 have h5:=h4.call f5
 have op5:=hp5.ones
 have p5:=h5.p
 unfold j0 at p5
 have hp6:M5 (s5.set (s.next+1) (some (.cells (j0 (p.idle frm ((nd t k).num 0)) x5)))) (p.idle frm ((nd t k).num 0)) x5:=hp5.set p5
 have h6:SF s m _ (j0 (p.idle frm ((nd t k).num 0)) x5) (s5.set (s.next+1) (some (.cells (j0 (p.idle frm ((nd t k).num 0)) x5)))):=h5.setP
 have ip:=a5r p frm ((nd t k).num 0)
 have hl6:P7 (p.idle frm ((nd t k).num 0)) 1000000:=a7a hl'
 generalize p.idle frm ((nd t k).num 0)=q at *
 repeat first
  |with_reducible first|apply vA|apply vB|apply vC
  |((with_reducible apply vD);(focus rfl))
  |((with_reducible first|apply vE|apply vF|apply vG|apply vH);simp only [Env.keep,Env.get,Env.ev,List.map,Nat.reduceEqDiff,↓reduceIte,O5,M7])
  |((with_reducible first|apply vI|apply vJ|apply vK|apply vL|apply vM|apply vN);(focus (simp (disch:=(first|with_reducible assumption|omega|((repeat (first|rw [nP]|rw [nS]))<;>omega)|fail)) only [go_sem,Env.ev,Env.get,↓reduceIte,p5,op5,j0]<;>rfl));(first|(with_reducible (first|apply vO|apply vP|apply vQ|apply vR|apply vS|apply vT|apply vU);try simp only [Env.put])|with_reducible refine (?_:WQ _ _ _ _ _ _)))
  |fail
 refine V0 (Φ:=fun s'=>SF s m _ (j0 q x5) s'/\M5 s' q x5) ⟨h6,hp6⟩ ?_
 rintro s6 ⟨h6,hp6⟩
 have p6:=h6.p
 have n6:=h6.n
 unfold j0 at p6
 try refine zW (aN p6 (aN n6 (aN op5 (aN on k0)))) ?_
 apply U2 (a1n (act:=4) hp6 hl6)
 ·rfl
 rintro r s9 ⟨x9,rfl,f9,hp9,id9,e9,z9⟩
 have h9:=h6.call f9
 have hz9:Z1 s x9.de:=a2B e9 z9 h6.fr.1
 have op9:=hp9.ones
 have r9:=h9.r
 repeat first
  |with_reducible first|apply vA|apply vB|apply vC
  |((with_reducible apply vD);(focus rfl))
  |((with_reducible first|apply vE|apply vF|apply vG|apply vH);simp only [Env.keep,Env.get,Env.ev,List.map,Nat.reduceEqDiff,↓reduceIte,O5,M7])
  |((with_reducible first|apply vI|apply vJ|apply vK|apply vL|apply vM|apply vN);(focus (simp (disch:=(first|with_reducible assumption|omega|((repeat (first|rw [nP]|rw [nS]))<;>omega)|fail)) only [go_sem,Env.ev,Env.get,↓reduceIte,r9,op9,j0]<;>rfl));(first|(with_reducible (first|apply vO|apply vP|apply vQ|apply vR|apply vS|apply vT|apply vU);try simp only [Env.put])|with_reducible refine (?_:WQ _ _ _ _ _ _)))
  |fail
 exact ⟨.inr trivial,_,h9.res rfl,h9.fin hp9 hz9⟩
theorem b7L {s:i8} {m:MdX} {t:List Nd} {ch:List Ch} (hm:a0j s m t ch) (ht:Y8 t) {p:Pr} {x:PrD} (hp:M5 s p x) (hl:P7 p 900000) (hnv:p.names.length=p.vars.length) (hn0:0<p.names.length) (hnb:p.names.length<=1000000) (hcb:ch.length<=1000000) {k frm to:Nat} (hfr:frm<p.rest.length) (hk:k<t.length) (hK:(nd t k).kind=8) {f:Nat} :
 EvP vfs 82 [.agg (N2 m),.agg (j0 p x),.int .i64 (k:Int),.int .i64 (frm:Int),.int .i64 (to:Int)] s (StR s p (y0 t (ch.map Ch.name) (f+1) p k frm to)):=by
 have hF:y0 t (ch.map Ch.name) (f+1) p k frm to=(p.idle frm ((nd t k).num 0)).put frm to 3 k (-1) (p.vars.getD (Z8 p.names ((nd t k).word 1)) 0:Nat) (Z8 (ch.map Ch.name) ((nd t k).word 0):Nat):=by simp [y0,hK]
 rw [hF]
 have hidx:=hm.tr.at (z:=(k:Int)) (by omega) (by omega) (k:=.i64)
 rw [Int.toNat_natCast,hK] at hidx
 have on:=a0L hm.tr hk
 have op:=hp.ones
 have om:=hm.ones
 have hl':P7 p 1000000:=⟨by have:=hl.pl;omega,by have:=hl.rl;omega,by have:=hl.el;omega⟩
 have hno:=ht.node k hk
 have hwl:(nd t k).words.length=2:=by rw [hno.wl,hK];rfl
 have w0:M1 1 (nd t k).dw (.int .i64 0)=some (.fp [.str ((nd t k).word 0)] 0):=a2W hm.tr hk (i:=0) (by omega)
 have w1:M1 1 (nd t k).dw (.int .i64 1)=some (.fp [.str ((nd t k).word 1)] 0):=a2W hm.tr hk (i:=1) (by omega)
 have hnl:(nd t k).nums.length=1:=by rw [hno.nl,hK];rfl
 have n0:M1 1 (nd t k).dn (.int .i64 0)=some (.fp [.int .i64 ((nd t k).num 0)] 0):=a01 (hm.tr.nd hk) (i:=0) (by omega)
 have hfl:=a6F (s:=(nd t k).word 1) hn0
 unfold N2 j0
 refine N8 (vf:=a0a) rfl ?_
 unfold a0a;refine zE ?_
 try refine zW (aN hidx (aN on (aN op (aN om n0)))) ?_
 refine V0 (Φ:=SF s m [.int .i64 8,(nd t k).dw,(nd t k).dn,(nd t k).dk,.int .i64 (nd t k).pos] (j0 p x)) ?_ ?_
 ·refine ⟨(((((Fr.push _).thenPush _).thenPush _).thenPush _).thenSet _ (.inr (by first | omega | (simp only [i8.next_push];omega)))),by simp only [i8.next_push,i8.next_set];omega,?_,?_,?_,?_⟩<;>(simp (disch:=(first|with_reducible assumption|omega|((repeat (first|rw [nP]|rw [nS]))<;>omega)|fail)) only [S6,O4,O6,P8,i8.next_push,i8.next_set])<;>rfl
 intro s4 h4
 simp only [P5.at,i8.next_push,i8.next_set]
 apply U2 (a67 (hp.stay h4.fr) hl' hfr)
 ·rfl
 rintro r s5 ⟨x5,rfl,f5,hp5⟩
 have h5:=h4.call f5
 have op5:=hp5.ones
 have p5:=h5.p
 unfold j0 at p5
 have hp6:M5 (s5.set (s.next+1) (some (.cells (j0 (p.idle frm ((nd t k).num 0)) x5)))) (p.idle frm ((nd t k).num 0)) x5:=hp5.set p5
 have h6:SF s m _ (j0 (p.idle frm ((nd t k).num 0)) x5) (s5.set (s.next+1) (some (.cells (j0 (p.idle frm ((nd t k).num 0)) x5)))):=h5.setP
 have ip:=a5r p frm ((nd t k).num 0)
 have hl6:P7 (p.idle frm ((nd t k).num 0)) 1000000:=a7a hl'
 generalize p.idle frm ((nd t k).num 0)=q at *
 have hnb':q.names.length<=1000000:=by rw [ip.2.2.2];exact hnb
 have hfl':Z8 q.names ((nd t k).word 1)<q.vars.length:=by rw [ip.2.2.2,ip.2.2.1];omega
 rw [<- ip.2.2.1,<- ip.2.2.2]
 repeat first
  |(with_reducible refine a7N ?_)
  |((with_reducible apply a7e);(focus (simp (disch:=(first|with_reducible assumption|omega|((repeat (first|rw [nP]|rw [nS]))<;>omega)|fail)) only [go_sem,Env.ev,Env.get,↓reduceIte,p5,op5,j0]<;>rfl)))
  |((with_reducible apply a7d);(focus (simp only [Env.ev,Env.get,Nat.reduceEqDiff,↓reduceIte,P5.at,Nat.add_zero,Nat.zero_add,p5,op5,j0]<;>rfl));(focus (simp (disch:=(first|with_reducible assumption|omega|((repeat (first|rw [nP]|rw [nS]))<;>omega)|fail)) only [go_sem,Env.ev,Env.get,↓reduceIte,p5,op5,j0]<;>rfl)))
  |((with_reducible apply a9m);(focus (simp only [Env.ev,Env.get,Nat.reduceEqDiff,↓reduceIte,P5.at,Nat.add_zero,Nat.zero_add,p5,op5,j0]<;>rfl));(focus (simp (disch:=(first|with_reducible assumption|omega|((repeat (first|rw [nP]|rw [nS]))<;>omega)|fail)) only [go_sem,Env.ev,Env.get,↓reduceIte,p5,op5,j0]<;>rfl)))
  |with_reducible first|apply vA|apply vB|apply vC
  |((with_reducible apply vD);(focus rfl))
  |((with_reducible first|apply vE|apply vF|apply vG|apply vH);simp only [Env.keep,Env.get,Env.ev,List.map,Nat.reduceEqDiff,↓reduceIte,O5,M7])
  |((with_reducible first|apply vI|apply vJ|apply vK|apply vL|apply vM|apply vN);(focus (simp (disch:=(first|with_reducible assumption|omega|((repeat (first|rw [nP]|rw [nS]))<;>omega)|fail)) only [go_sem,Env.ev,Env.get,↓reduceIte,p5,op5,j0]<;>rfl));(first|(with_reducible (first|apply vO|apply vP|apply vQ|apply vR|apply vS|apply vT|apply vU);try simp only [Env.put])|with_reducible refine (?_:WQ _ _ _ _ _ _)))
  |fail
 refine a9I (Φ:=fun s'=>SF s m _ (j0 q x5) s'/\M5 s' q x5) ⟨h6,hp6⟩ ?_
 rintro s6 ⟨h6,hp6⟩
 have p6:=h6.p
 have n6:=h6.n
 have m6:=h6.m
 unfold j0 at p6
 unfold N2 at m6
 try refine zT (aN p6 (aN n6 (aN m6 (aN op5 (aN on (aN om (aN w0 w1))))))) ?_
 refine b8c (b0a hp6.n hnb') rfl ?_
 obtain ⟨id,v1,v2,v3⟩:=b0p hp6.v (i:=Z8 q.names ((nd t k).word 1)) (by omega)
 repeat first
 |(apply c2l v2;(focus (simp only [Env.ev,Env.get,Nat.reduceEqDiff,↓reduceIte])))
 |refine zT (aN v1 (aN p6 (aN n6 (aN m6 (aN op5 (aN on (aN om (aN w0 w1)))))))) ?_
 refine b0U (b1k (hm.stay h6.fr) hcb) (fun d s' h=>h.2) (by
  intro i hid
  have:=h6.nx
  simp only [List.mem_cons,List.mem_append,List.not_mem_nil,or_false] at hid
  by_cases hv:i∈a4i id
  ·obtain ⟨off,e⟩:=b9b hv
   exact v3 _ _ e
  ·simp only [hv,false_or,or_false] at hid
   omega) rfl rfl ?_
 rintro r s7 ⟨rfl,f7⟩
 have h7:=h6.call f7
 try refine zW0 ?_
 apply U2 (a1n (act:=3) (hp6.stay f7) hl6)
 ·rfl
 rintro r s9 ⟨x9,rfl,f9,hp9,id9,e9,z9⟩
 have h9:=h7.call f9
 have hz9:Z1 s x9.de:=a2B e9 z9 h7.fr.1
 have op9:=hp9.ones
 have r9:=h9.r
 repeat first
  |with_reducible first|apply vA|apply vB|apply vC
  |((with_reducible apply vD);(focus rfl))
  |((with_reducible first|apply vE|apply vF|apply vG|apply vH);simp only [Env.keep,Env.get,Env.ev,List.map,Nat.reduceEqDiff,↓reduceIte,O5,M7])
  |((with_reducible first|apply vI|apply vJ|apply vK|apply vL|apply vM|apply vN);(focus (simp (disch:=(first|with_reducible assumption|omega|((repeat (first|rw [nP]|rw [nS]))<;>omega)|fail)) only [go_sem,Env.ev,Env.get,↓reduceIte,r9,op9,j0]<;>rfl));(first|(with_reducible (first|apply vO|apply vP|apply vQ|apply vR|apply vS|apply vT|apply vU);try simp only [Env.put])|with_reducible refine (?_:WQ _ _ _ _ _ _)))
  |fail
 exact ⟨.inr trivial,_,h9.res rfl,h9.fin hp9 hz9⟩
end Go.Proofs.Ytlaeblilmppodaa
namespace Go.Proofs.Ytlaeblilmppodaa
open Go.V
set_option maxRecDepth 100000
set_option maxHeartbeats 4000000
theorem b9w {s:i8} {m:MdX} {t:List Nd} {ch:List Ch} {names:List ByteArray} {vars:List Nat} (hm:a0j s m t ch) (ht:Y8 t) {p:Pr} {x:PrD} (hp:M5 s p x) (hi:W8 t ch.length p) (hpn:p.names=names) (hpv:p.vars=vars) {k frm to:Nat} (hfr:frm<p.places) (hto:to<p.places) (hk:k<t.length) (hK:(nd t k).kind=11) {f:Nat}
 {g n:Nat} (hw:U7 t g k=(n,true)) {N:Nat} (hl:P7 p N) (hN:N+4*(n-k)<=900000) (hS:∀b∈(nd t k).ks,(nd t b).kind=16->∀c∈(nd t b).ks,a09 t ch.length names vars (y0 t (ch.map Ch.name) f) c/\StG t (y0 t (ch.map Ch.name) f) c) (hB:∀b∈(nd t k).ks,(nd t b).kind=16->a3x vfs 109 t ch names vars f b) :
 EvP vfs 82 [.agg (N2 m),.agg (j0 p x),.int .i64 (k:Int),.int .i64 (frm:Int),.int .i64 (to:Int)] s (StR s p (y0 t (ch.map Ch.name) (f+1) p k frm to)):=by
 have hidx:=hm.tr.at (z:=(k:Int)) (by omega) (by omega) (k:=.i64)
 rw [Int.toNat_natCast,hK] at hidx
 have on:=a0L hm.tr hk
 have op:=hp.ones
 have om:=hm.ones
 have hl':P7 p 1000000:=a0o hl (by omega)
 have hno:=ht.node k hk
 obtain ⟨g',rfl,hkf⟩:=a2d hw
 have hks:=ht.ks hk
 obtain ⟨c1,c2,c3,c4⟩:=hno.cond hK
 have k0:M1 1 (nd t k).dk (.int .i64 0)=some (.fp [.int .i64 ((nd t k).kid 0:Int)] 0):=a0W hm.tr ht hk (i:=0) (by omega)
 have k1:M1 1 (nd t k).dk (.int .i64 1)=some (.fp [.int .i64 ((nd t k).kid 1:Int)] 0):=a0W hm.tr ht hk (i:=1) (by omega)
 have m1:=Z3 (x:=nd t k) (i:=1) (by omega)
 have q0:=(hks _ (Z3 (x:=nd t k) (i:=0) (by omega))).2
 have hlk:=FI.len (hm.tr.nd hk).k
 have hF:y0 t (ch.map Ch.name) (f+1) p k frm to=(let p1:=W0 t (y0 t (ch.map Ch.name) f) (p.place.put frm p.places 4 k ((nd t k).kid 0) (-1) (-1)) ((nd t k).kid 1) p.places to
  if (nd t k).kids.length=2 then p1.put frm to 5 k ((nd t k).kid 0) (-1) (-1) else W0 t (y0 t (ch.map Ch.name) f) (p1.place.put frm p1.places 5 k ((nd t k).kid 0) (-1) (-1)) ((nd t k).kid 2) p1.places to):=by simp [y0,hK]
 rw [hF]
 simp only
 obtain ⟨b1,u1,v1⟩:∃b1,U7 t g' ((nd t k).kid 1)=(b1,true)/\k+2<=(nd t k).kid 1/\(nd t k).kid 1<b1/\((nd t k).kids.length=2->b1<=n)/\((nd t k).kids.length=3->∃b2,U7 t g' ((nd t k).kid 2)=(b2,true)/\b1=(nd t k).kid 2/\(nd t k).kid 2<b2/\b2<=n):=by
  match hkk:(nd t k).kids,c1,hkf with
  | [z0,z1],_,hkf =>
    obtain ⟨e0,_,b0,_,s0,_,hkf⟩:=hkf.cons
    obtain ⟨e1,_,b1,w1,s1,_,hkf⟩:=hkf.cons
    have:=hkf.nil
    have kk:(nd t k).kid 1=b0:=by simp [Nd.kid,hkk,e1]
    rw [kk]
    exact ⟨b1,w1,by omega,s1,fun _=>by omega,fun h=>by simp at h⟩
  | [z0,z1,z2],_,hkf =>
    obtain ⟨e0,_,b0,_,s0,_,hkf⟩:=hkf.cons
    obtain ⟨e1,_,b1,w1,s1,_,hkf⟩:=hkf.cons
    obtain ⟨e2,_,b2,w2,s2,_,hkf⟩:=hkf.cons
    have:=hkf.nil
    have kk:(nd t k).kid 1=b0:=by simp [Nd.kid,hkk,e1]
    have k2:(nd t k).kid 2=b1:=by simp [Nd.kid,hkk,e2]
    rw [kk,k2]
    exact ⟨b1,w1,by omega,s1,fun h=>by simp at h,fun _=>⟨b2,w2,rfl,s2,by omega⟩⟩
 obtain ⟨v1,v2,v3,v4⟩:=v1
 unfold N2 j0
 refine N8 (vf:=a0a) rfl ?_
 unfold a0a;refine zE ?_
 try refine zW (aN hidx (aN on (aN op om))) ?_
 refine V0 (Φ:=SF s m [.int .i64 11,(nd t k).dw,(nd t k).dn,(nd t k).dk,.int .i64 (nd t k).pos] (j0 p x)) ?_ ?_
 ·refine ⟨(((((Fr.push _).thenPush _).thenPush _).thenPush _).thenSet _ (.inr (by first | omega | (simp only [i8.next_push];omega)))),by simp only [i8.next_push,i8.next_set];omega,?_,?_,?_,?_⟩<;>(simp (disch:=(first|with_reducible assumption|omega|((repeat (first|rw [nP]|rw [nS]))<;>omega)|fail)) only [S6,O4,O6,P8,i8.next_push,i8.next_set])<;>rfl
 intro s4 h4
 simp only [P5.at,i8.next_push,i8.next_set]
 apply U2 (a4n (hp.stay h4.fr) hl')
 ·rfl
 rintro r s5 ⟨x5,rfl,f5,hp5⟩
 have h5:=h4.call f5
 have op5:=hp5.ones
 have nx5:=h5.nx
 have n5:=h5.n
 have m5:=h5.m
 have i5:=a1M hi
 have g5:=a17 p
 have w5:P7 p.place (N+1):=a0S hl (a1T p) (by omega)
 have e5:p.place.places=p.places+1:=rfl
 repeat first
  |with_reducible first|apply vA|apply vB|apply vC
  |((with_reducible apply vD);(focus rfl))
  |((with_reducible first|apply vE|apply vF|apply vG|apply vH);simp only [Env.keep,Env.get,Env.ev,List.map,Nat.reduceEqDiff,↓reduceIte,O5,M7])
  |((with_reducible first|apply vI|apply vJ|apply vK|apply vL|apply vM|apply vN);(focus (simp (disch:=(first|with_reducible assumption|omega|((repeat (first|rw [nP]|rw [nS]))<;>omega)|fail)) only [go_sem,Env.ev,Env.get,↓reduceIte,n5,on,op5,j0,k0,k1]<;>rfl));(first|(with_reducible (first|apply vO|apply vP|apply vQ|apply vR|apply vS|apply vT|apply vU);try simp only [Env.put])|with_reducible refine (?_:WQ _ _ _ _ _ _)))
  |fail
 refine V0 (Φ:=fun s'=>SL s m _ _ s5.next (j0 p.place x5) s'/\M5 s' p.place x5) ⟨SL.new h5,hp5.new⟩ ?_
 rintro s6 ⟨h6,hp6⟩
 have l6:=h6.l
 have n6:=h6.sf.n
 have m6:=h6.sf.m
 unfold j0 at l6
 unfold N2 at m6
 apply U2 (a1n (to:=p.places) (act:=4) (expr:=((nd t k).kid 0:Nat)) hp6 (a0o w5 (by omega)))
 ·rfl
 rintro r s7 ⟨x7,rfl,f7,hp7,-⟩
 have h7:=h6.call f7
 have op7:=hp7.ones
 have l7:=h7.l
 have n7:=h7.sf.n
 have m7:=h7.sf.m
 have lt7:=k4 l7
 have lo7:=h7.lo
 have nx7:=h7.sf.nx
 unfold j0 at l7
 unfold N2 at m7
 have i7:=a0C (node:=k) i5 (a2a (.inl rfl) (frm:=frm) (to:=p.places) (Nat.lt_succ_of_lt hfr) (Nat.lt_succ_self _) q0 c2)
 have g7:=g5.trans (a0B p.place frm p.places 4 k ((nd t k).kid 0:Nat) (-1) (-1))
 have w7:P7 (p.place.put frm p.places 4 k ((nd t k).kid 0:Nat) (-1) (-1)) (N+2):=a0S w5 (a0t _ _ _ _ _ _ _ _) (by omega)
 have e7:(p.place.put frm p.places 4 k ((nd t k).kid 0:Nat) (-1) (-1)).places=p.places+1:=rfl
 generalize p.place.put frm p.places 4 k ((nd t k).kid 0:Nat) (-1) (-1)=q7 at *
 have hp8:=hp7.set (o:=some (.cells (j0 q7 x7))) l7
 have h8:SL s m _ _ s5.next (j0 q7 x7) (s7.set s5.next (some (.cells (j0 q7 x7)))):=h7.setL
 repeat first
  |with_reducible first|apply vA|apply vB|apply vC
  |((with_reducible apply vD);(focus rfl))
  |((with_reducible first|apply vE|apply vF|apply vG|apply vH);simp only [Env.keep,Env.get,Env.ev,List.map,Nat.reduceEqDiff,↓reduceIte,O5,M7])
  |((with_reducible first|apply vI|apply vJ|apply vK|apply vL|apply vM|apply vN);(focus (simp (disch:=(first|with_reducible assumption|omega|((repeat (first|rw [nP]|rw [nS]))<;>omega)|fail)) only [go_sem,Env.ev,Env.get,↓reduceIte,l7,n7,m7,on,om,op7,j0,k0,k1]<;>rfl));(first|(with_reducible (first|apply vO|apply vP|apply vQ|apply vR|apply vS|apply vT|apply vU);try simp only [Env.put])|with_reducible refine (?_:WQ _ _ _ _ _ _)))
  |fail
 refine V0 (Φ:=fun s'=>SL s m _ _ s5.next (j0 q7 x7) s'/\M5 s' q7 x7) ⟨h8,hp8⟩ ?_
 rintro s9 ⟨h9,hp9⟩
 have l9:=h9.l
 have n9:=h9.sf.n
 have m9:=h9.sf.m
 unfold j0 at l9
 unfold N2 at m9
 apply U2 (hB _ m1 c3 _ _ u1 s9 m q7 x7 p.places to (hm.stay h9.sf.fr) hp9 i7 (g7.names.trans hpn) (g7.vars.trans hpv) (by omega) (by omega) _ w7 (by omega))
 ·rfl
 rintro r sa ⟨xa,rfl,fa,hpa,hza⟩
 have ha:=h9.call fa
 have opa:=hpa.ones
 have la:=ha.l
 have na:=ha.sf.n
 have ma:=ha.sf.m
 have lta:=k4 la
 have loa:=ha.lo
 have nxa:=ha.sf.nx
 unfold j0 at la
 unfold N2 at ma
 have sa1:=a3v (b:=(nd t k).kid 1) (frm:=p.places) (to:=to) (fun c hc=>(hS _ m1 c3 c hc).1) i7 (g7.names.trans hpn) (g7.vars.trans hpv) (by omega) (by omega)
 have wa:P7 (W0 t (y0 t (ch.map Ch.name) f) q7 ((nd t k).kid 1) p.places to) (N+2+(4*(b1-(nd t k).kid 1)-3)):=a0S w7 (a1v (hks _ m1).2 u1 fun c hc=>(hS _ m1 c3 c hc).2) (by omega)
 have ga:=g7.trans sa1.2
 have pla:=sa1.2.places
 have ia:=sa1.1
 generalize W0 t (y0 t (ch.map Ch.name) f) q7 ((nd t k).kid 1) p.places to=qa at *
 have hpb:=hpa.set (o:=some (.cells (j0 qa xa))) la
 have hb:SL s m _ _ s5.next (j0 qa xa) (sa.set s5.next (some (.cells (j0 qa xa)))):=ha.setL
 by_cases c5:(nd t k).kids.length=2
 ·have c5':((nd t k).kids.length==2)=true:=by rw [c5];rfl
  have c5'':(((nd t k).kids.length:Int)==2)=true:=by rw [c5];rfl
  rw [if_pos c5]
  have v3:=v3 c5
  clear v4
  repeat first
   |with_reducible first|apply vA|apply vB|apply vC
   |((with_reducible apply vD);(focus rfl))
   |((with_reducible first|apply vE|apply vF|apply vG|apply vH);simp only [Env.keep,Env.get,Env.ev,List.map,Nat.reduceEqDiff,↓reduceIte,O5,M7])
   |((with_reducible first|apply vI|apply vJ|apply vK|apply vL|apply vM|apply vN);(focus (simp (disch:=(first|with_reducible assumption|omega|((repeat (first|rw [nP]|rw [nS]))<;>omega)|fail)) only [go_sem,Env.ev,Env.get,↓reduceIte,la,na,ma,on,om,opa,j0,k0,k1,hlk,c5'']<;>rfl));(first|(with_reducible (first|apply vO|apply vP|apply vQ|apply vR|apply vS|apply vT|apply vU);try simp only [Env.put])|with_reducible refine (?_:WQ _ _ _ _ _ _)))
   |fail
  refine V0 (Φ:=fun s'=>SL s m _ _ s5.next (j0 qa xa) s'/\M5 s' qa xa) ⟨hb,hpb⟩ ?_
  rintro sc ⟨hc,hpc⟩
  have lc:=hc.l
  have nc:=hc.sf.n
  unfold j0 at lc
  try refine zW (aN lc (aN nc (aN on (aN opa k0)))) ?_
  apply U2 (a1n (to:=to) (act:=5) (expr:=((nd t k).kid 0:Nat)) hpc (a0o wa (by omega)))
  ·rfl
  rintro r sd ⟨xd,rfl,fd,hpd,id9,e9,z9⟩
  have h9:=hc.sf.call fd
  have hz9:Z1 s xd.de:=a2B e9 z9 hc.sf.fr.1
  have hp9:=hpd
  have op9:=hp9.ones
  have r9:=h9.r
  repeat first
   |with_reducible first|apply vA|apply vB|apply vC
   |((with_reducible apply vD);(focus rfl))
   |((with_reducible first|apply vE|apply vF|apply vG|apply vH);simp only [Env.keep,Env.get,Env.ev,List.map,Nat.reduceEqDiff,↓reduceIte,O5,M7])
   |((with_reducible first|apply vI|apply vJ|apply vK|apply vL|apply vM|apply vN);(focus (simp (disch:=(first|with_reducible assumption|omega|((repeat (first|rw [nP]|rw [nS]))<;>omega)|fail)) only [go_sem,Env.ev,Env.get,↓reduceIte,r9,op9,j0]<;>rfl));(first|(with_reducible (first|apply vO|apply vP|apply vQ|apply vR|apply vS|apply vT|apply vU);try simp only [Env.put])|with_reducible refine (?_:WQ _ _ _ _ _ _)))
   |fail
  exact ⟨.inr trivial,_,h9.res rfl,h9.fin hp9 hz9⟩
 ·have c6:(nd t k).kids.length=3:=c1.resolve_left c5
  have c5'':(((nd t k).kids.length:Int)==2)=false:=by rw [c6];rfl
  rw [if_neg c5]
  obtain ⟨b2,u2,y1,y2,y3⟩:=v4 c6
  clear v4 v3
  have c4:=c4 c6
  have m2:=Z3 (x:=nd t k) (i:=2) (by omega)
  have k2:M1 1 (nd t k).dk (.int .i64 2)=some (.fp [.int .i64 ((nd t k).kid 2:Int)] 0):=a0W hm.tr ht hk (i:=2) (by omega)
  repeat first
   |with_reducible first|apply vA|apply vB|apply vC
   |((with_reducible apply vD);(focus rfl))
   |((with_reducible first|apply vE|apply vF|apply vG|apply vH);simp only [Env.keep,Env.get,Env.ev,List.map,Nat.reduceEqDiff,↓reduceIte,O5,M7])
   |((with_reducible first|apply vI|apply vJ|apply vK|apply vL|apply vM|apply vN);(focus (simp (disch:=(first|with_reducible assumption|omega|((repeat (first|rw [nP]|rw [nS]))<;>omega)|fail)) only [go_sem,Env.ev,Env.get,↓reduceIte,la,na,ma,on,om,opa,j0,k0,k1,hlk,c5'']<;>rfl));(first|(with_reducible (first|apply vO|apply vP|apply vQ|apply vR|apply vS|apply vT|apply vU);try simp only [Env.put])|with_reducible refine (?_:WQ _ _ _ _ _ _)))
   |fail
  refine V0 (Φ:=fun s'=>SL s m _ _ s5.next (j0 qa xa) s'/\M5 s' qa xa) ⟨hb,hpb⟩ ?_
  rintro sc ⟨hc,hpc⟩
  have lc:=hc.l
  unfold j0 at lc
  try refine zW (aN lc opa) ?_
  apply U2 (a4n hpc (a0o wa (by omega)))
  ·rfl
  rintro r sd ⟨xd,rfl,fd,hpd⟩
  have hd:=hc.call fd
  have opd:=hpd.ones
  have ld:=hd.l
  have nd':=hd.sf.n
  have md:=hd.sf.m
  have ltd:=k4 ld
  have lod:=hd.lo
  have nxd:=hd.sf.nx
  unfold j0 at ld
  unfold N2 at md
  have id':=a1M ia
  have gd:=ga.trans (a17 qa)
  have wd:=a0S wa (a1T qa) (Nat.le_refl _)
  have hpe:=hpd.set (o:=some (.cells (j0 qa.place xd))) ld
  have he:SL s m _ _ s5.next (j0 qa.place xd) (sd.set s5.next (some (.cells (j0 qa.place xd)))):=hd.setL
  repeat first
   |with_reducible first|apply vA|apply vB|apply vC
   |((with_reducible apply vD);(focus rfl))
   |((with_reducible first|apply vE|apply vF|apply vG|apply vH);simp only [Env.keep,Env.get,Env.ev,List.map,Nat.reduceEqDiff,↓reduceIte,O5,M7])
   |((with_reducible first|apply vI|apply vJ|apply vK|apply vL|apply vM|apply vN);(focus (simp (disch:=(first|with_reducible assumption|omega|((repeat (first|rw [nP]|rw [nS]))<;>omega)|fail)) only [go_sem,Env.ev,Env.get,↓reduceIte,ld,nd',md,on,om,opd,j0,k0]<;>rfl));(first|(with_reducible (first|apply vO|apply vP|apply vQ|apply vR|apply vS|apply vT|apply vU);try simp only [Env.put])|with_reducible refine (?_:WQ _ _ _ _ _ _)))
   |fail
  refine V0 (Φ:=fun s'=>SL s m _ _ s5.next (j0 qa.place xd) s'/\M5 s' qa.place xd) ⟨he,hpe⟩ ?_
  rintro sf ⟨hf,hpf⟩
  have lf:=hf.l
  have nf:=hf.sf.n
  unfold j0 at lf
  try refine zW (aN lf (aN nf (aN on (aN opd k0)))) ?_
  apply U2 (a1n (to:=qa.places) (act:=5) (expr:=((nd t k).kid 0:Nat)) hpf (a0o wd (by omega)))
  ·rfl
  rintro r sg ⟨xg,rfl,fg,hpg,-⟩
  have hg:=hf.call fg
  have opg:=hpg.ones
  have lg:=hg.l
  have ng:=hg.sf.n
  have mg:=hg.sf.m
  have ltg:=k4 lg
  have log:=hg.lo
  have nxg:=hg.sf.nx
  unfold j0 at lg
  unfold N2 at mg
  have ep:qa.place.places=qa.places+1:=rfl
  have ig:=a0C (node:=k) id' (a2a (.inr rfl) (frm:=frm) (to:=qa.places) (by omega) (Nat.lt_succ_self _) q0 c2)
  have gg:=gd.trans (a0B qa.place frm qa.places 5 k ((nd t k).kid 0:Nat) (-1) (-1))
  have wg:=a0S wd (a0t qa.place frm qa.places 5 k ((nd t k).kid 0:Nat) (-1) (-1)) (Nat.le_refl _)
  have eg:(qa.place.put frm qa.places 5 k ((nd t k).kid 0:Nat) (-1) (-1)).places=qa.places+1:=rfl
  generalize qa.place.put frm qa.places 5 k ((nd t k).kid 0:Nat) (-1) (-1)=qg at *
  have hph:=hpg.set (o:=some (.cells (j0 qg xg))) lg
  have hh:SL s m _ _ s5.next (j0 qg xg) (sg.set s5.next (some (.cells (j0 qg xg)))):=hg.setL
  repeat first
   |with_reducible first|apply vA|apply vB|apply vC
   |((with_reducible apply vD);(focus rfl))
   |((with_reducible first|apply vE|apply vF|apply vG|apply vH);simp only [Env.keep,Env.get,Env.ev,List.map,Nat.reduceEqDiff,↓reduceIte,O5,M7])
   |((with_reducible first|apply vI|apply vJ|apply vK|apply vL|apply vM|apply vN);(focus (simp (disch:=(first|with_reducible assumption|omega|((repeat (first|rw [nP]|rw [nS]))<;>omega)|fail)) only [go_sem,Env.ev,Env.get,↓reduceIte,lg,ng,mg,on,om,opg,j0,k2]<;>rfl));(first|(with_reducible (first|apply vO|apply vP|apply vQ|apply vR|apply vS|apply vT|apply vU);try simp only [Env.put])|with_reducible refine (?_:WQ _ _ _ _ _ _)))
   |fail
  refine V0 (Φ:=fun s'=>SL s m _ _ s5.next (j0 qg xg) s'/\M5 s' qg xg) ⟨hh,hph⟩ ?_
  rintro si ⟨hi',hpi⟩
  have li:=hi'.l
  have ni:=hi'.sf.n
  have mi:=hi'.sf.m
  unfold j0 at li
  unfold N2 at mi
  try refine zW (aN li (aN ni (aN mi (aN on (aN om (aN opg k2)))))) ?_
  apply U2 (hB _ m2 c4 _ _ u2 si m qg xg qa.places to (hm.stay hi'.sf.fr) hpi ig (gg.names.trans hpn) (gg.vars.trans hpv) (by omega) (by omega) _ wg (by omega))
  ·rfl
  rintro r sj ⟨xj,rfl,fj,hpj,hzj⟩
  have h9:=hi'.sf.call fj
  have hz9:Z1 s xj.de:=hzj.mono hi'.sf.fr.1
  have hp9:=hpj
  have op9:=hp9.ones
  have r9:=h9.r
  repeat first
   |with_reducible first|apply vA|apply vB|apply vC
   |((with_reducible apply vD);(focus rfl))
   |((with_reducible first|apply vE|apply vF|apply vG|apply vH);simp only [Env.keep,Env.get,Env.ev,List.map,Nat.reduceEqDiff,↓reduceIte,O5,M7])
   |((with_reducible first|apply vI|apply vJ|apply vK|apply vL|apply vM|apply vN);(focus (simp (disch:=(first|with_reducible assumption|omega|((repeat (first|rw [nP]|rw [nS]))<;>omega)|fail)) only [go_sem,Env.ev,Env.get,↓reduceIte,r9,op9,j0]<;>rfl));(first|(with_reducible (first|apply vO|apply vP|apply vQ|apply vR|apply vS|apply vT|apply vU);try simp only [Env.put])|with_reducible refine (?_:WQ _ _ _ _ _ _)))
   |fail
  exact ⟨.inr trivial,_,h9.res rfl,h9.fin hp9 hz9⟩
theorem b7j {s:i8} {m:MdX} {t:List Nd} {ch:List Ch} {names:List ByteArray} {vars:List Nat} (hm:a0j s m t ch) (ht:Y8 t) {p:Pr} {x:PrD} (hp:M5 s p x) (hi:W8 t ch.length p) (hpn:p.names=names) (hpv:p.vars=vars) {k frm to:Nat} (hfr:frm<p.places) (hto:to<p.places) (hk:k<t.length) (hK:(nd t k).kind=12) {f:Nat}
 {g n:Nat} (hw:U7 t g k=(n,true)) {N:Nat} (hl:P7 p N) (hN:N+4*(n-k)<=900000) (hS:∀b∈(nd t k).ks,(nd t b).kind=16->∀c∈(nd t b).ks,a09 t ch.length names vars (y0 t (ch.map Ch.name) f) c/\StG t (y0 t (ch.map Ch.name) f) c) (hB:∀b∈(nd t k).ks,(nd t b).kind=16->a3x vfs 109 t ch names vars f b) :
 EvP vfs 82 [.agg (N2 m),.agg (j0 p x),.int .i64 (k:Int),.int .i64 (frm:Int),.int .i64 (to:Int)] s (StR s p (y0 t (ch.map Ch.name) (f+1) p k frm to)):=by
 have hidx:=hm.tr.at (z:=(k:Int)) (by omega) (by omega) (k:=.i64)
 rw [Int.toNat_natCast,hK] at hidx
 have on:=a0L hm.tr hk
 have op:=hp.ones
 have om:=hm.ones
 have hl':P7 p 1000000:=a0o hl (by omega)
 have hno:=ht.node k hk
 obtain ⟨g',rfl,hkf⟩:=a2d hw
 have hks:=ht.ks hk
 obtain ⟨c1,c2,c3⟩:=hno.loop hK
 have k0:M1 1 (nd t k).dk (.int .i64 0)=some (.fp [.int .i64 ((nd t k).kid 0:Int)] 0):=a0W hm.tr ht hk (i:=0) (by omega)
 have k1:M1 1 (nd t k).dk (.int .i64 1)=some (.fp [.int .i64 ((nd t k).kid 1:Int)] 0):=a0W hm.tr ht hk (i:=1) (by omega)
 have m1:=Z3 (x:=nd t k) (i:=1) (by omega)
 have q0:=(hks _ (Z3 (x:=nd t k) (i:=0) (by omega))).2
 have hlk:=FI.len (hm.tr.nd hk).k
 have hF:y0 t (ch.map Ch.name) (f+1) p k frm to=W0 t (y0 t (ch.map Ch.name) f) ((p.place.put frm p.places 4 k ((nd t k).kid 0) (-1) (-1)).put frm to 5 k ((nd t k).kid 0) (-1) (-1)) ((nd t k).kid 1) p.places frm:=by simp [y0,hK]
 rw [hF]
 obtain ⟨b1,u1,v1,v2,v3⟩:∃b1,U7 t g' ((nd t k).kid 1)=(b1,true)/\k+2<=(nd t k).kid 1/\(nd t k).kid 1<b1/\b1<=n:=by
  match hkk:(nd t k).kids,c1,hkf with
  | [z0,z1],_,hkf =>
    obtain ⟨e0,_,b0,_,s0,_,hkf⟩:=hkf.cons
    obtain ⟨e1,_,b1,w1,s1,_,hkf⟩:=hkf.cons
    have:=hkf.nil
    have kk:(nd t k).kid 1=b0:=by simp [Nd.kid,hkk,e1]
    rw [kk]
    exact ⟨b1,w1,by omega,s1,by omega⟩
 unfold N2 j0
 refine N8 (vf:=a0a) rfl ?_
 unfold a0a;refine zE ?_
 try refine zW (aN hidx (aN on (aN op om))) ?_
 refine V0 (Φ:=SF s m [.int .i64 12,(nd t k).dw,(nd t k).dn,(nd t k).dk,.int .i64 (nd t k).pos] (j0 p x)) ?_ ?_
 ·refine ⟨(((((Fr.push _).thenPush _).thenPush _).thenPush _).thenSet _ (.inr (by first | omega | (simp only [i8.next_push];omega)))),by simp only [i8.next_push,i8.next_set];omega,?_,?_,?_,?_⟩<;>(simp (disch:=(first|with_reducible assumption|omega|((repeat (first|rw [nP]|rw [nS]))<;>omega)|fail)) only [S6,O4,O6,P8,i8.next_push,i8.next_set])<;>rfl
 intro s4 h4
 simp only [P5.at,i8.next_push,i8.next_set]
 apply U2 (a4n (hp.stay h4.fr) hl')
 ·rfl
 rintro r s5 ⟨x5,rfl,f5,hp5⟩
 have h5:=h4.call f5
 have op5:=hp5.ones
 have nx5:=h5.nx
 have n5:=h5.n
 have m5:=h5.m
 have i5:=a1M hi
 have g5:=a17 p
 have w5:P7 p.place (N+1):=a0S hl (a1T p) (by omega)
 have e5:p.place.places=p.places+1:=rfl
 repeat first
  |with_reducible first|apply vA|apply vB|apply vC
  |((with_reducible apply vD);(focus rfl))
  |((with_reducible first|apply vE|apply vF|apply vG|apply vH);simp only [Env.keep,Env.get,Env.ev,List.map,Nat.reduceEqDiff,↓reduceIte,O5,M7])
  |((with_reducible first|apply vI|apply vJ|apply vK|apply vL|apply vM|apply vN);(focus (simp (disch:=(first|with_reducible assumption|omega|((repeat (first|rw [nP]|rw [nS]))<;>omega)|fail)) only [go_sem,Env.ev,Env.get,↓reduceIte,n5,on,op5,j0,k0,k1]<;>rfl));(first|(with_reducible (first|apply vO|apply vP|apply vQ|apply vR|apply vS|apply vT|apply vU);try simp only [Env.put])|with_reducible refine (?_:WQ _ _ _ _ _ _)))
  |fail
 refine V0 (Φ:=fun s'=>SL s m _ _ s5.next (j0 p.place x5) s'/\M5 s' p.place x5) ⟨SL.new h5,hp5.new⟩ ?_
 rintro s6 ⟨h6,hp6⟩
 have l6:=h6.l
 have n6:=h6.sf.n
 have m6:=h6.sf.m
 unfold j0 at l6
 unfold N2 at m6
 apply U2 (a1n (to:=p.places) (act:=4) (expr:=((nd t k).kid 0:Nat)) hp6 (a0o w5 (by omega)))
 ·rfl
 rintro r s7 ⟨x7,rfl,f7,hp7,-⟩
 have h7:=h6.call f7
 have op7:=hp7.ones
 have l7:=h7.l
 have n7:=h7.sf.n
 have m7:=h7.sf.m
 have lt7:=k4 l7
 have lo7:=h7.lo
 have nx7:=h7.sf.nx
 unfold j0 at l7
 unfold N2 at m7
 have i7:=a0C (node:=k) i5 (a2a (.inl rfl) (frm:=frm) (to:=p.places) (Nat.lt_succ_of_lt hfr) (Nat.lt_succ_self _) q0 c2)
 have g7:=g5.trans (a0B p.place frm p.places 4 k ((nd t k).kid 0:Nat) (-1) (-1))
 have w7:P7 (p.place.put frm p.places 4 k ((nd t k).kid 0:Nat) (-1) (-1)) (N+2):=a0S w5 (a0t _ _ _ _ _ _ _ _) (by omega)
 have e7:(p.place.put frm p.places 4 k ((nd t k).kid 0:Nat) (-1) (-1)).places=p.places+1:=rfl
 generalize p.place.put frm p.places 4 k ((nd t k).kid 0:Nat) (-1) (-1)=q7 at *
 have hp8:=hp7.set (o:=some (.cells (j0 q7 x7))) l7
 have h8:SL s m _ _ s5.next (j0 q7 x7) (s7.set s5.next (some (.cells (j0 q7 x7)))):=h7.setL
 repeat first
  |with_reducible first|apply vA|apply vB|apply vC
  |((with_reducible apply vD);(focus rfl))
  |((with_reducible first|apply vE|apply vF|apply vG|apply vH);simp only [Env.keep,Env.get,Env.ev,List.map,Nat.reduceEqDiff,↓reduceIte,O5,M7])
  |((with_reducible first|apply vI|apply vJ|apply vK|apply vL|apply vM|apply vN);(focus (simp (disch:=(first|with_reducible assumption|omega|((repeat (first|rw [nP]|rw [nS]))<;>omega)|fail)) only [go_sem,Env.ev,Env.get,↓reduceIte,l7,n7,m7,on,om,op7,j0,k0,k1]<;>rfl));(first|(with_reducible (first|apply vO|apply vP|apply vQ|apply vR|apply vS|apply vT|apply vU);try simp only [Env.put])|with_reducible refine (?_:WQ _ _ _ _ _ _)))
  |fail
 refine V0 (Φ:=fun s'=>SL s m _ _ s5.next (j0 q7 x7) s'/\M5 s' q7 x7) ⟨h8,hp8⟩ ?_
 rintro s9 ⟨h9,hp9⟩
 have l9:=h9.l
 have n9:=h9.sf.n
 have m9:=h9.sf.m
 unfold j0 at l9
 unfold N2 at m9
 apply U2 (a1n (to:=to) (act:=5) (expr:=((nd t k).kid 0:Nat)) hp9 (a0o w7 (by omega)))
 ·rfl
 rintro r sa ⟨xa,rfl,fa,hpa,-⟩
 have ha:=h9.call fa
 have opa:=hpa.ones
 have la:=ha.l
 have na:=ha.sf.n
 have ma:=ha.sf.m
 have lta:=k4 la
 have loa:=ha.lo
 have nxa:=ha.sf.nx
 unfold j0 at la
 unfold N2 at ma
 have ia:=a0C (node:=k) i7 (a2a (.inr rfl) (frm:=frm) (to:=to) (by omega) (by omega) q0 c2)
 have ga:=g7.trans (a0B q7 frm to 5 k ((nd t k).kid 0:Nat) (-1) (-1))
 have wa:P7 (q7.put frm to 5 k ((nd t k).kid 0:Nat) (-1) (-1)) (N+3):=a0S w7 (a0t _ _ _ _ _ _ _ _) (by omega)
 have ea:(q7.put frm to 5 k ((nd t k).kid 0:Nat) (-1) (-1)).places=p.places+1:=e7
 generalize q7.put frm to 5 k ((nd t k).kid 0:Nat) (-1) (-1)=qa at *
 have hpb:=hpa.set (o:=some (.cells (j0 qa xa))) la
 have hb:SL s m _ _ s5.next (j0 qa xa) (sa.set s5.next (some (.cells (j0 qa xa)))):=ha.setL
 repeat first
  |with_reducible first|apply vA|apply vB|apply vC
  |((with_reducible apply vD);(focus rfl))
  |((with_reducible first|apply vE|apply vF|apply vG|apply vH);simp only [Env.keep,Env.get,Env.ev,List.map,Nat.reduceEqDiff,↓reduceIte,O5,M7])
  |((with_reducible first|apply vI|apply vJ|apply vK|apply vL|apply vM|apply vN);(focus (simp (disch:=(first|with_reducible assumption|omega|((repeat (first|rw [nP]|rw [nS]))<;>omega)|fail)) only [go_sem,Env.ev,Env.get,↓reduceIte,la,na,ma,on,om,opa,j0,k0,k1]<;>rfl));(first|(with_reducible (first|apply vO|apply vP|apply vQ|apply vR|apply vS|apply vT|apply vU);try simp only [Env.put])|with_reducible refine (?_:WQ _ _ _ _ _ _)))
  |fail
 refine V0 (Φ:=fun s'=>SL s m _ _ s5.next (j0 qa xa) s'/\M5 s' qa xa) ⟨hb,hpb⟩ ?_
 rintro sc ⟨hc,hpc⟩
 have lc:=hc.l
 have nc:=hc.sf.n
 have mc:=hc.sf.m
 unfold j0 at lc
 unfold N2 at mc
 try refine zW (aN lc (aN nc (aN mc (aN on (aN om (aN opa k1)))))) ?_
 apply U2 (hB _ m1 c3 _ _ u1 sc m qa xa p.places frm (hm.stay hc.sf.fr) hpc ia (ga.names.trans hpn) (ga.vars.trans hpv) (by omega) (by omega) _ wa (by omega))
 ·rfl
 rintro r sd ⟨xd,rfl,fd,hpd,hzd⟩
 have h9:=hc.sf.call fd
 have hz9:Z1 s xd.de:=hzd.mono hc.sf.fr.1
 have hp9:=hpd
 have op9:=hp9.ones
 have r9:=h9.r
 repeat first
  |with_reducible first|apply vA|apply vB|apply vC
  |((with_reducible apply vD);(focus rfl))
  |((with_reducible first|apply vE|apply vF|apply vG|apply vH);simp only [Env.keep,Env.get,Env.ev,List.map,Nat.reduceEqDiff,↓reduceIte,O5,M7])
  |((with_reducible first|apply vI|apply vJ|apply vK|apply vL|apply vM|apply vN);(focus (simp (disch:=(first|with_reducible assumption|omega|((repeat (first|rw [nP]|rw [nS]))<;>omega)|fail)) only [go_sem,Env.ev,Env.get,↓reduceIte,r9,op9,j0]<;>rfl));(first|(with_reducible (first|apply vO|apply vP|apply vQ|apply vR|apply vS|apply vT|apply vU);try simp only [Env.put])|with_reducible refine (?_:WQ _ _ _ _ _ _)))
  |fail
 exact ⟨.inr trivial,_,h9.res rfl,h9.fin hp9 hz9⟩
end Go.Proofs.Ytlaeblilmppodaa
namespace Go.Proofs.Ytlaeblilmppodaa
open Go.V
set_option maxRecDepth 100000
set_option maxHeartbeats 4000000
theorem b7S {s:i8} {m:MdX} {t:List Nd} {ch:List Ch} {names:List ByteArray} {vars:List Nat} (hm:a0j s m t ch) (ht:Y8 t) {p:Pr} {x:PrD} (hp:M5 s p x) (hi:W8 t ch.length p) (hpn:p.names=names) (hpv:p.vars=vars) {k frm to:Nat} (hfr:frm<p.places) (hto:to<p.places) (hk:k<t.length) (hK:(nd t k).kind=13) {f:Nat}
 {g n:Nat} (hw:U7 t g k=(n,true)) {N:Nat} (hl:P7 p N) (hN:N+4*(n-k)<=900000) (hS:∀b∈(nd t k).ks,(nd t b).kind=16->∀c∈(nd t b).ks,a09 t ch.length names vars (y0 t (ch.map Ch.name) f) c/\StG t (y0 t (ch.map Ch.name) f) c) (hB:∀b∈(nd t k).ks,(nd t b).kind=16->a3x vfs 109 t ch names vars f b) :
 EvP vfs 82 [.agg (N2 m),.agg (j0 p x),.int .i64 (k:Int),.int .i64 (frm:Int),.int .i64 (to:Int)] s (StR s p (y0 t (ch.map Ch.name) (f+1) p k frm to)):=by
 have hidx:=hm.tr.at (z:=(k:Int)) (by omega) (by omega) (k:=.i64)
 rw [Int.toNat_natCast,hK] at hidx
 have on:=a0L hm.tr hk
 have op:=hp.ones
 have om:=hm.ones
 have hl':P7 p 1000000:=a0o hl (by omega)
 have hno:=ht.node k hk
 obtain ⟨g',rfl,hkf⟩:=a2d hw
 have hks:=ht.ks hk
 obtain ⟨c1,c2⟩:=hno.atom hK
 have k0:M1 1 (nd t k).dk (.int .i64 0)=some (.fp [.int .i64 ((nd t k).kid 0:Int)] 0):=a0W hm.tr ht hk (i:=0) (by omega)
 have m0:=Z3 (x:=nd t k) (i:=0) (by omega)
 have hF:y0 t (ch.map Ch.name) (f+1) p k frm to={ W0 t (y0 t (ch.map Ch.name) f) p ((nd t k).kid 0) frm to with edges:=a06 p.edges.length to (W0 t (y0 t (ch.map Ch.name) f) p ((nd t k).kid 0) frm to).edges }:=by simp [y0,hK]
 rw [hF]
 obtain ⟨b1,u1,v1,v2,v3⟩:∃b1,U7 t g' ((nd t k).kid 0)=(b1,true)/\k+1<=(nd t k).kid 0/\(nd t k).kid 0<b1/\b1<=n:=by
  match hkk:(nd t k).kids,c1,hkf with
  | [z0],_,hkf =>
    obtain ⟨e0,_,b0,w0,s0,_,hkf⟩:=hkf.cons
    have:=hkf.nil
    have kk:(nd t k).kid 0=k+1:=by simp [Nd.kid,hkk,e0]
    rw [kk]
    exact ⟨b0,w0,by omega,s0,by omega⟩
 have hel:=hp.e.len
 rw [a3p] at hel
 unfold N2 j0
 refine N8 (vf:=a0a) rfl ?_
 unfold a0a;refine zE ?_
 try refine zW (aN hidx (aN on (aN op (aN om (aN hel k0))))) ?_
 refine V0 (Φ:=SF s m [.int .i64 13,(nd t k).dw,(nd t k).dn,(nd t k).dk,.int .i64 (nd t k).pos] (j0 p x)) ?_ ?_
 ·refine ⟨(((((Fr.push _).thenPush _).thenPush _).thenPush _).thenSet _ (.inr (by first | omega | (simp only [i8.next_push];omega)))),by simp only [i8.next_push,i8.next_set];omega,?_,?_,?_,?_⟩<;>(simp (disch:=(first|with_reducible assumption|omega|((repeat (first|rw [nP]|rw [nS]))<;>omega)|fail)) only [S6,O4,O6,P8,i8.next_push,i8.next_set])<;>rfl
 intro s4 h4
 simp only [P5.at,i8.next_push,i8.next_set]
 apply U2 (hB _ m0 c2 _ _ u1 s4 m p x frm to (hm.stay h4.fr) (hp.stay h4.fr) hi hpn hpv hfr hto _ hl (by omega))
 ·rfl
 rintro r s5 ⟨x5,rfl,f5,hp5,hz5⟩
 have h5:=h4.call f5
 have op5:=hp5.ones
 have p5:=h5.p
 unfold j0 at p5
 have sb:=a3v (b:=(nd t k).kid 0) (frm:=frm) (to:=to) (fun c hc=>(hS _ m0 c2 c hc).1) hi hpn hpv hfr hto
 have wb:=a0S hl (a1v (p:=p) (frm:=frm) (to:=to) (hks _ m0).2 u1 fun c hc=>(hS _ m0 c2 c hc).2) (Nat.le_refl _)
 have hge:p.edges.length<=(W0 t (y0 t (ch.map Ch.name) f) p ((nd t k).kid 0) frm to).edges.length:=by
  obtain ⟨l,hl⟩:=sb.2.edges
  rw [hl,List.length_append];omega
 generalize W0 t (y0 t (ch.map Ch.name) f) p ((nd t k).kid 0) frm to=q at *
 have hel5:=wb.el
 have hp6:M5 (s5.set (s.next+1) (some (.cells (j0 q x5)))) q x5:=hp5.set p5
 have h6:SF s m _ (j0 q x5) (s5.set (s.next+1) (some (.cells (j0 q x5)))):=h5.setP
 have nx4:=h4.nx
 repeat first
  |with_reducible first|apply vA|apply vB|apply vC
  |((with_reducible apply vD);(focus rfl))
  |((with_reducible first|apply vE|apply vF|apply vG|apply vH);simp only [Env.keep,Env.get,Env.ev,List.map,Nat.reduceEqDiff,↓reduceIte,O5,M7])
  |((with_reducible first|apply vI|apply vJ|apply vK|apply vL|apply vM|apply vN);(focus (simp (disch:=(first|with_reducible assumption|omega|((repeat (first|rw [nP]|rw [nS]))<;>omega)|fail)) only [go_sem,Env.ev,Env.get,↓reduceIte,p5,op5,j0]<;>rfl));(first|(with_reducible (first|apply vO|apply vP|apply vQ|apply vR|apply vS|apply vT|apply vU);try simp only [Env.put])|with_reducible refine (?_:WQ _ _ _ _ _ _)))
  |fail
 generalize hA:a06 p.edges.length to q.edges=A at *
 have hAl:A.length=q.edges.length:=by rw [<- hA,b2c]
 refine a0l (Q:=M7 3 _) (fun n' env s'=>∃i:Nat,p.edges.length<=i/\i<=q.edges.length/\n'=q.edges.length-i/\SF s m [.int .i64 13,(nd t k).dw,(nd t k).dn,(nd t k).dk,.int .i64 (nd t k).pos] (j0 q x5) s'/\M5 s' { q with edges:=a0e A q.edges i } x5/\(env.get 4=.int .i64 (to:Int)/\env.get 6=.ptr (s.next+1) 0/\env.get 10=.ptr (s.next+2) 0/\env.get 21=.int .i64 (i:Int))) ?_ (q.edges.length-p.edges.length) _ _ ⟨p.edges.length,Nat.le_refl _,hge,rfl,h6,by rw [<- hA,b4M hge];exact hp6,by simp [Env.get]⟩
 clear h6 hp6
 rintro n' env s' ⟨i,hi1,hi2,rfl,h6,hp6,hE⟩
 have p6:=h6.p
 have r6:=h6.r
 unfold j0 at p6
 have hel6:=hp6.e.len
 rw [a3p,a41 hAl] at hel6
 by_cases cc:i<q.edges.length
 ·have cc':((i:Int)<(q.edges.length:Int))=True:=eq_true (by omega)
  have hs:IntKind.i64.wrap ((i:Int)+1)=((i+1:Nat):Int):=by rw [P1 (by omega) (by omega)];omega
  have hmi:i<(a0e A q.edges i).length:=by rw [a41 hAl];exact cc
  obtain ⟨a1,a2,a3,a4,a5⟩:=hz5
  rcases hp6.e with ⟨h0,_⟩ | ⟨id,hde,hg⟩ | h0
  ·rw [a4] at h0;cases h0
  rotate_left
  ·rw [a4] at h0;cases h0
  ·have hidn:s4.next<=id:=by
    rw [a4] at hde
    cases hde
    exact a5
   have hid:=h6.nx
   rw [a3p,a41 hAl] at hde
   have hto':(U1 (a0e A q.edges i)).flatten[i*8+1]?=some (.int .i64 (q.edges[i].to:Int)):=by
    rw [b1K hmi (by decide),b3t hAl cc];rfl
   have hix:M1 8 x5.de (.int .i64 (i:Int))=some (.ptr id (i*8)):=by
    rw [hde]
    simp only [M1]
    rw [if_pos ⟨trivial,by omega,by omega⟩]
    simp
   have hAi:A[i]'(by omega)={ q.edges[i] with keep:=q.edges[i].to != to&&q.edges[i].to != 1 }:=by
    subst hA
    exact b8K cc hi1
   have key:∀b,(q.edges[i].to != to&&q.edges[i].to != 1)=b->SF s m [.int .i64 13,(nd t k).dw,(nd t k).dn,(nd t k).dk,.int .i64 (nd t k).pos] (j0 q x5) (s'.set id (some (.cells ((U1 (a0e A q.edges i)).flatten.set (i*8+6) (.bool b)))))/\M5 (s'.set id (some (.cells ((U1 (a0e A q.edges i)).flatten.set (i*8+6) (.bool b))))) { q with edges:=a0e A q.edges (i+1) } x5:=fun b hb=>by
    refine ⟨h6.setO (by omega),?_⟩
    have:=hp6.edge (b:=b) (i:=i) hde hmi
    have e2:(a0e A q.edges i).set i { (a0e A q.edges i)[i] with keep:=b }=a0e A q.edges (i+1):=by
     rw [<- b7o hAl cc,hAi,hb,b3t hAl cc]
    simp only [e2] at this
    exact this
   have hfl:i*8+6<(U1 (a0e A q.edges i)).flatten.length:=by rw [a4G (a4b _),a3p,a41 hAl];omega
   by_cases d1:q.edges[i].to=to
   ·have d1':((q.edges[i].to:Int) != (to:Int))=false:=by rw [d1];simp
    have kk:=key false (by rw [d1];simp)
    repeat first
    |(refine a6e (x:=.bool false) hg hfl rfl ?_ rfl ?_;(focus (simp only [Env.ev,Env.get,Nat.reduceEqDiff,↓reduceIte])))
    |refine zW (aN hE (aN p6 (aN hel6 (aN op5 (aN cc' (aN hix (aN hg (aN hto' (aN d1' hs))))))))) ?_
    exact ⟨q.edges.length-(i+1),by omega,i+1,by omega,by omega,rfl,kk.1,kk.2,(rG hE)⟩
   ·have d1':((q.edges[i].to:Int) != (to:Int))=true:=by rw [bne_iff_ne];omega
    by_cases d2:q.edges[i].to=1
    ·have d2':((q.edges[i].to:Int) != 1)=false:=by rw [d2];rfl
     have kk:=key false (by rw [d2];simp)
     repeat first
     |(refine a6e (x:=.bool false) hg hfl rfl ?_ rfl ?_;(focus (simp only [Env.ev,Env.get,Nat.reduceEqDiff,↓reduceIte])))
     |refine zW (aN hE (aN p6 (aN hel6 (aN op5 (aN cc' (aN hix (aN hg (aN hto' (aN d1' (aN d2' hs)))))))))) ?_
     exact ⟨q.edges.length-(i+1),by omega,i+1,by omega,by omega,rfl,kk.1,kk.2,(rG hE)⟩
    ·have d2':((q.edges[i].to:Int) != 1)=true:=by rw [bne_iff_ne];omega
     have kk:=key true (by rw [Bool.and_eq_true,bne_iff_ne,bne_iff_ne];exact ⟨d1,d2⟩)
     repeat first
     |(refine a6e (x:=.bool true) hg hfl rfl ?_ rfl ?_;(focus (simp only [Env.ev,Env.get,Nat.reduceEqDiff,↓reduceIte])))
     |refine zW (aN hE (aN p6 (aN hel6 (aN op5 (aN cc' (aN hix (aN hg (aN hto' (aN d1' (aN d2' hs)))))))))) ?_
     exact ⟨q.edges.length-(i+1),by omega,i+1,by omega,by omega,rfl,kk.1,kk.2,(rG hE)⟩
 ·have cc':((i:Int)<(q.edges.length:Int))=False:=eq_false (by omega)
  obtain rfl:i=q.edges.length:=by omega
  rw [b5r hAl] at hp6
  have hx:S7 env s' []=some (.tup []):=rfl
  repeat first
   |with_reducible first|apply vA|apply vB|apply vC
   |((with_reducible apply vD);(focus rfl))
   |((with_reducible first|apply vE|apply vF|apply vG|apply vH);simp only [Env.keep,Env.get,Env.ev,List.map,Nat.reduceEqDiff,↓reduceIte,O5,M7])
   |((with_reducible first|apply vI|apply vJ|apply vK|apply vL|apply vM|apply vN);(focus (simp (disch:=(first|with_reducible assumption|omega|((repeat (first|rw [nP]|rw [nS]))<;>omega)|fail)) only [go_sem,Env.ev,Env.get,↓reduceIte,hE,p6,r6,hel6,op5,cc',j0]<;>rfl));(first|(with_reducible (first|apply vO|apply vP|apply vQ|apply vR|apply vS|apply vT|apply vU);try simp only [Env.put])|with_reducible refine (?_:WQ _ _ _ _ _ _)))
   |fail
  refine ⟨.inr trivial,.agg (j0 { q with edges:=A } x5),?_,?_⟩
  ·exact h6.res (q:={ q with edges:=A }) (x:=x5) (by simp only [Env.get,Nat.reduceEqDiff,↓reduceIte,hE])
  ·exact h6.fin (q:={ q with edges:=A }) hp6 (hz5.mono h4.fr.1)
theorem b5W {s:i8} {m:MdX} {t:List Nd} {ch:List Ch} {names:List ByteArray} {vars:List Nat} (hm:a0j s m t ch) (ht:Y8 t) {p:Pr} {x:PrD} (hp:M5 s p x) (hi:W8 t ch.length p) (hpn:p.names=names) (hpv:p.vars=vars) {k frm to:Nat} (hfr:frm<p.places) (hto:to<p.places) (hk:k<t.length) (hK:(nd t k).kind=10) {f:Nat}
 {g n:Nat} (hw:U7 t g k=(n,true)) {N:Nat} (hl:P7 p N) (hN:N+4*(n-k)<=900000) (hS:∀b∈(nd t k).ks,(nd t b).kind=16->∀c∈(nd t b).ks,a09 t ch.length names vars (y0 t (ch.map Ch.name) f) c/\StG t (y0 t (ch.map Ch.name) f) c) (hB:∀b∈(nd t k).ks,(nd t b).kind=16->a3x vfs 109 t ch names vars f b) :
 EvP vfs 82 [.agg (N2 m),.agg (j0 p x),.int .i64 (k:Int),.int .i64 (frm:Int),.int .i64 (to:Int)] s (StR s p (y0 t (ch.map Ch.name) (f+1) p k frm to)):=by
 have hidx:=hm.tr.at (z:=(k:Int)) (by omega) (by omega) (k:=.i64)
 rw [Int.toNat_natCast,hK] at hidx
 have on:=a0L hm.tr hk
 have op:=hp.ones
 have om:=hm.ones
 have hl':P7 p 1000000:=a0o hl (by omega)
 have hno:=ht.node k hk
 obtain ⟨g',rfl,hkf⟩:=a2d hw
 have hks:=ht.ks hk
 obtain ⟨c1,c2⟩:=hno.choose hK
 have hnl:(nd t k).nums.length=1:=by rw [hno.nl,hK];rfl
 have n0:M1 1 (nd t k).dn (.int .i64 0)=some (.fp [.int .i64 ((nd t k).num 0)] 0):=a01 (hm.tr.nd hk) (i:=0) (by omega)
 have hlk:=FI.len (hm.tr.nd hk).k
 have hkl:=(hm.tr.nd hk).kl
 have hF:y0 t (ch.map Ch.name) (f+1) p k frm to=a0i t (y0 t (ch.map Ch.name) f) frm to (p.idle frm ((nd t k).num 0)) (nd t k).ks:=by simp [y0,hK]
 rw [hF]
 have hrl:frm<p.rest.length:=by rw [hi.rest];exact hfr
 unfold N2 j0
 refine N8 (vf:=a0a) rfl ?_
 unfold a0a;refine zE ?_
 try refine zW (aN hidx (aN on (aN op (aN om n0)))) ?_
 refine V0 (Φ:=SF s m [.int .i64 10,(nd t k).dw,(nd t k).dn,(nd t k).dk,.int .i64 (nd t k).pos] (j0 p x)) ?_ ?_
 ·refine ⟨(((((Fr.push _).thenPush _).thenPush _).thenPush _).thenSet _ (.inr (by first | omega | (simp only [i8.next_push];omega)))),by simp only [i8.next_push,i8.next_set];omega,?_,?_,?_,?_⟩<;>(simp (disch:=(first|with_reducible assumption|omega|((repeat (first|rw [nP]|rw [nS]))<;>omega)|fail)) only [S6,O4,O6,P8,i8.next_push,i8.next_set])<;>rfl
 intro s4 h4
 simp only [P5.at,i8.next_push,i8.next_set]
 apply U2 (a67 (hp.stay h4.fr) hl' hrl)
 ·rfl
 rintro r s5 ⟨x5,rfl,f5,hp5⟩
 have h5:=h4.call f5
 have op5:=hp5.ones
 have p5:=h5.p
 unfold j0 at p5
 have hp6:M5 (s5.set (s.next+1) (some (.cells (j0 (p.idle frm ((nd t k).num 0)) x5)))) (p.idle frm ((nd t k).num 0)) x5:=hp5.set p5
 have h6:SF s m _ (j0 (p.idle frm ((nd t k).num 0)) x5) (s5.set (s.next+1) (some (.cells (j0 (p.idle frm ((nd t k).num 0)) x5)))):=h5.setP
 have ip:=a5r p frm ((nd t k).num 0)
 have hl6:P7 (p.idle frm ((nd t k).num 0)) N:=a7a hl
 have i6:W8 t ch.length (p.idle frm ((nd t k).num 0)):=b0x hi
 have g6:=b3c p frm ((nd t k).num 0)
 generalize p.idle frm ((nd t k).num 0)=q0 at *
 repeat first
  |with_reducible first|apply vA|apply vB|apply vC
  |((with_reducible apply vD);(focus rfl))
  |((with_reducible first|apply vE|apply vF|apply vG|apply vH);simp only [Env.keep,Env.get,Env.ev,List.map,Nat.reduceEqDiff,↓reduceIte,O5,M7])
  |((with_reducible first|apply vI|apply vJ|apply vK|apply vL|apply vM|apply vN);(focus (simp (disch:=(first|with_reducible assumption|omega|((repeat (first|rw [nP]|rw [nS]))<;>omega)|fail)) only [go_sem,Env.ev,Env.get,↓reduceIte,p5,op5,j0]<;>rfl));(first|(with_reducible (first|apply vO|apply vP|apply vQ|apply vR|apply vS|apply vT|apply vU);try simp only [Env.put])|with_reducible refine (?_:WQ _ _ _ _ _ _)))
  |fail
 refine a0l (Q:=M7 1 _) (fun n' env s'=>∃ (j:Nat) (q:Pr) (x:PrD) (a:Nat),j<=(nd t k).kids.length/\n'=(nd t k).kids.length-j/\SF s m [.int .i64 10,(nd t k).dw,(nd t k).dn,(nd t k).dk,.int .i64 (nd t k).pos] (j0 q x) s'/\M5 s' q x/\W8 t ch.length q/\a0m p q/\KF t g' ((nd t k).kids.drop j) a n/\P7 q (N+4*(a-(k+1)))/\(j=0∨Z1 s x.de)/\a0i t (y0 t (ch.map Ch.name) f) frm to q0 (nd t k).ks=a0i t (y0 t (ch.map Ch.name) f) frm to q (((nd t k).kids.drop j).map Int.toNat) /\
  (env.get 2=.int .i64 (k:Int)/\env.get 3=.int .i64 (frm:Int)/\env.get 4=.int .i64 (to:Int)/\env.get 5=.ptr s.next 0/\env.get 6=.ptr (s.next+1) 0/\env.get 10=.ptr (s.next+2) 0/\env.get 11=.ptr (s.next+3) 0/\env.get 12=.int .i64 (j:Int))) ?_ (nd t k).kids.length _ _ ⟨0,q0,x5,k+1,by omega,rfl,h6,hp6,i6,g6,hkf,a0o hl6 (by omega),.inl rfl,rfl,by simp [Env.get]⟩
 clear h6 hp6 op5 p5 hp5 h5
 rintro n' env s' ⟨j,q,xq,a,hj,rfl,h6,hp6,iq,gq,hkq,wq,hzq,hch,hE⟩
 have p6:=h6.p
 have r6:=h6.r
 have n6:=h6.n
 have m6:=h6.m
 have nx6:=h6.nx
 unfold j0 at p6
 unfold N2 at m6
 have opq:=hp6.ones
 by_cases cc:j<(nd t k).kids.length
 ·have cc':((j:Int)<((nd t k).kids.length:Int))=True:=eq_true (by omega)
  have hs:=a6a cc hkl
  rw [List.drop_eq_getElem_cons cc] at hkq hch
  obtain ⟨ea,qa,b,wb,lb,lb2,hkf'⟩:=hkq.cons
  have hle':=hkf'.le
  have ka:M1 1 (nd t k).dk (.int .i64 (j:Int))=some (.fp [.int .i64 (a:Int)] 0):=by
   rw [FI.idx (hm.tr.nd hk).k cc (k:=.i64),ea]
  have hbm:a∈(nd t k).ks:=by
   have:=List.mem_map_of_mem (f:=Int.toNat) (List.getElem_mem cc)
   rw [ea,Int.toNat_natCast] at this
   exact this
  have hab:=hks a hbm
  have hb16:=c2 a hbm
  have hadx:=hm.tr.at (z:=(a:Int)) (by omega) (by omega) (k:=.i64)
  rw [Int.toNat_natCast] at hadx
  have ona:=a0L hm.tr hab.2
  have hlb:=FI.len (hm.tr.nd hab.2).k
  have gp:=gq.places
  rw [List.map_cons,a0i,ea,Int.toNat_natCast] at hch
  by_cases cl:a4y t a=true
  ·rw [if_pos cl] at hch
   have hk0:0<(nd t a).kids.length:=by
    unfold a4y at cl
    rw [<- a1d]
    cases hks':(nd t a).ks with
    | nil=>rw [hks'] at cl;cases cl
    | cons y ys=>simp
   have k12:(nd t ((nd t a).kid 0)).kind=12:=by
    unfold a4y at cl
    have:(nd t a).ks=(nd t a).kid 0::(nd t a).ks.tail:=by
     unfold Nd.ks Nd.kid
     cases hks':(nd t a).kids with
     | nil=>rw [hks'] at hk0;simp at hk0
     | cons y ys=>simp
    rw [this] at cl
    simpa using cl
   have hk0':((0:Int)<((nd t a).kids.length:Int))=True:=eq_true (by omega)
   have ka0:M1 1 (nd t a).dk (.int .i64 0)=some (.fp [.int .i64 ((nd t a).kid 0:Int)] 0):=a0W hm.tr ht hab.2 (i:=0) hk0
   have hkk0:=ht.ks hab.2 _ (Z3 (x:=nd t a) (i:=0) hk0)
   have hcdx:=hm.tr.at (z:=((nd t a).kid 0:Int)) (by omega) (by omega) (k:=.i64)
   rw [Int.toNat_natCast,k12] at hcdx
   have onc:=a0L hm.tr hkk0.2
   try refine zW (aN hE (aN n6 (aN m6 (aN p6 (aN on (aN om (aN hlk (aN cc' (aN ka (aN hadx (aN ona (aN hlb (aN hk0' (aN ka0 (aN hcdx (aN onc opq)))))))))))))))) ?_
   refine V0 (Φ:=fun s2=>SF s m [.int .i64 10,(nd t k).dw,(nd t k).dn,(nd t k).dk,.int .i64 (nd t k).pos] (j0 q xq) s2/\M5 s2 q xq) ⟨(h6.call (Fr.push (ids:=[]) _)).setO (by omega),hp6.stay ((Fr.push (ids:=[]) _).thenSet _ (.inr (Nat.le_refl _)))⟩ ?_
   rintro s2 ⟨h2,hp2⟩
   apply U2 (a4n hp2 (a0o wq (by omega)))
   ·simp only [Env.evL,Env.ev,Env.get,Nat.reduceEqDiff,↓reduceIte,hE];rfl
   rintro r s7 ⟨x7,rfl,f7,hp7⟩
   have h7:=h2.call f7
   have op7:=hp7.ones
   have p7:=h7.p
   have n7:=h7.n
   have nx7:=h7.nx
   unfold j0 at p7
   have hp8:M5 (s7.set (s.next+1) (some (.cells (j0 q.place x7)))) q.place x7:=hp7.set p7
   have h8:SF s m [.int .i64 10,(nd t k).dw,(nd t k).dn,(nd t k).dk,.int .i64 (nd t k).pos] (j0 q.place x7) (s7.set (s.next+1) (some (.cells (j0 q.place x7)))):=h7.setP
   have w8:=a0S wq (a1T q) (Nat.le_refl _)
   repeat first
    |with_reducible first|apply vA|apply vB|apply vC
    |((with_reducible apply vD);(focus rfl))
    |((with_reducible first|apply vE|apply vF|apply vG|apply vH);simp only [Env.keep,Env.get,Env.ev,List.map,Nat.reduceEqDiff,↓reduceIte,O5,M7])
    |((with_reducible first|apply vI|apply vJ|apply vK|apply vL|apply vM|apply vN);(focus (simp (disch:=(first|with_reducible assumption|omega|((repeat (first|rw [nP]|rw [nS]))<;>omega)|fail)) only [go_sem,Env.ev,Env.get,↓reduceIte,hE,p7,n7,op7,j0,on,ka]<;>rfl));(first|(with_reducible (first|apply vO|apply vP|apply vQ|apply vR|apply vS|apply vT|apply vU);try simp only [Env.put])|with_reducible refine (?_:WQ _ _ _ _ _ _)))
    |fail
   refine V0 (Φ:=fun s2=>SF s m [.int .i64 10,(nd t k).dw,(nd t k).dn,(nd t k).dk,.int .i64 (nd t k).pos] (j0 q.place x7) s2/\M5 s2 q.place x7) ⟨h8,hp8⟩ ?_
   rintro s8 ⟨h8,hp8⟩
   have p8:=h8.p
   have n8:=h8.n
   unfold j0 at p8
   try refine zW (aN hE (aN p8 (aN n8 (aN op7 (aN on ka))))) ?_
   apply U2 (a1n (to:=q.places) (act:=0) (node:=a) hp8 (a0o w8 (by omega)))
   ·simp only [Env.evL,Env.ev,Env.get,Nat.reduceEqDiff,↓reduceIte,hE];rfl
   rintro r s9 ⟨x9,rfl,f9,hp9,-⟩
   have h9:=h8.call f9
   have op9:=hp9.ones
   have p9:=h9.p
   have n9:=h9.n
   have m9:=h9.m
   have nx9:=h9.nx
   unfold j0 at p9
   unfold N2 at m9
   have w9:=a0S w8 (a0t q.place frm q.places 0 a (-1) (-1) (-1)) (Nat.le_refl _)
   have i9:=a0C (node:=a) (a1M iq) (a45 (frm:=frm) (to:=q.places) (Nat.lt_succ_of_lt (by omega)) (Nat.lt_succ_self _))
   have g9:=(gq.trans (a17 q)).trans (a0B q.place frm q.places 0 a (-1) (-1) (-1))
   have e9:(q.place.put frm q.places 0 a (-1) (-1) (-1)).places=q.places+1:=rfl
   have hpA:M5 (s9.set (s.next+1) (some (.cells (j0 (q.place.put frm q.places 0 a (-1) (-1) (-1)) x9)))) (q.place.put frm q.places 0 a (-1) (-1) (-1)) x9:=hp9.set p9
   have hA:SF s m [.int .i64 10,(nd t k).dw,(nd t k).dn,(nd t k).dk,.int .i64 (nd t k).pos] (j0 (q.place.put frm q.places 0 a (-1) (-1) (-1)) x9) (s9.set (s.next+1) (some (.cells (j0 (q.place.put frm q.places 0 a (-1) (-1) (-1)) x9)))):=h9.setP
   generalize q.place.put frm q.places 0 a (-1) (-1) (-1)=q9 at *
   repeat first
    |with_reducible first|apply vA|apply vB|apply vC
    |((with_reducible apply vD);(focus rfl))
    |((with_reducible first|apply vE|apply vF|apply vG|apply vH);simp only [Env.keep,Env.get,Env.ev,List.map,Nat.reduceEqDiff,↓reduceIte,O5,M7])
    |((with_reducible first|apply vI|apply vJ|apply vK|apply vL|apply vM|apply vN);(focus (simp (disch:=(first|with_reducible assumption|omega|((repeat (first|rw [nP]|rw [nS]))<;>omega)|fail)) only [go_sem,Env.ev,Env.get,↓reduceIte,hE,p9,n9,m9,op9,j0,on,om,ka]<;>rfl));(first|(with_reducible (first|apply vO|apply vP|apply vQ|apply vR|apply vS|apply vT|apply vU);try simp only [Env.put])|with_reducible refine (?_:WQ _ _ _ _ _ _)))
    |fail
   refine V0 (Φ:=fun s2=>SF s m [.int .i64 10,(nd t k).dw,(nd t k).dn,(nd t k).dk,.int .i64 (nd t k).pos] (j0 q9 x9) s2/\M5 s2 q9 x9) ⟨hA,hpA⟩ ?_
   rintro sB ⟨hB',hpB⟩
   have pB:=hB'.p
   have nB:=hB'.n
   have mB:=hB'.m
   unfold j0 at pB
   unfold N2 at mB
   try refine zW (aN hE (aN pB (aN nB (aN mB (aN op9 (aN on (aN om ka))))))) ?_
   apply U2 (hB _ hbm hb16 _ _ wb sB m q9 x9 q.places to (hm.stay hB'.fr) hpB i9 (g9.names.trans hpn) (g9.vars.trans hpv) (by omega) (by omega) _ w9 (by omega))
   ·simp only [Env.evL,Env.ev,Env.get,Nat.reduceEqDiff,↓reduceIte,hE];rfl
   rintro r sz ⟨xz,rfl,fz,hpz,hzz⟩
   have hz:=hB'.call fz
   have opz:=hpz.ones
   have pz:=hz.p
   unfold j0 at pz
   have sbk:=a3v (b:=a) (frm:=q.places) (to:=to) (fun c hc=>(hS _ hbm hb16 c hc).1) i9 (g9.names.trans hpn) (g9.vars.trans hpv) (by omega) (by omega)
   have wz:=a0S w9 (a1v (p:=q9) (frm:=q.places) (to:=to) (hks _ hbm).2 wb fun c hc=>(hS _ hbm hb16 c hc).2) (Nat.le_refl _)
   have hch2:a0i t (y0 t (ch.map Ch.name) f) frm to q0 (nd t k).ks=a0i t (y0 t (ch.map Ch.name) f) frm to (W0 t (y0 t (ch.map Ch.name) f) q9 a q.places to) (((nd t k).kids.drop (j+1)).map Int.toNat):=hch
   generalize W0 t (y0 t (ch.map Ch.name) f) q9 a q.places to=qz at *
   have hpz6:M5 (sz.set (s.next+1) (some (.cells (j0 qz xz)))) qz xz:=hpz.set pz
   have hz6:SF s m _ (j0 qz xz) (sz.set (s.next+1) (some (.cells (j0 qz xz)))):=hz.setP
   repeat first
    |with_reducible first|apply vA|apply vB|apply vC
    |((with_reducible apply vD);(focus rfl))
    |((with_reducible first|apply vE|apply vF|apply vG|apply vH);simp only [Env.keep,Env.get,Env.ev,List.map,Nat.reduceEqDiff,↓reduceIte,O5,M7])
    |((with_reducible first|apply vI|apply vJ|apply vK|apply vL|apply vM|apply vN);(focus (simp (disch:=(first|with_reducible assumption|omega|((repeat (first|rw [nP]|rw [nS]))<;>omega)|fail)) only [go_sem,Env.ev,Env.get,↓reduceIte,hE,pz,opz,j0,hs]<;>rfl));(first|(with_reducible (first|apply vO|apply vP|apply vQ|apply vR|apply vS|apply vT|apply vU);try simp only [Env.put])|with_reducible refine (?_:WQ _ _ _ _ _ _)))
    |fail
   exact ⟨(nd t k).kids.length-(j+1),by omega,j+1,qz,xz,b,by omega,rfl,hz6,hpz6,sbk.1,g9.trans sbk.2,hkf',a0o wz (by omega),.inr (hzz.mono hB'.fr.1),hch2,(rG hE)⟩
  ·rw [if_neg cl] at hch
   by_cases ck:0<(nd t a).kids.length
   ·have hk0':((0:Int)<((nd t a).kids.length:Int))=True:=eq_true (by omega)
    have ka0:M1 1 (nd t a).dk (.int .i64 0)=some (.fp [.int .i64 ((nd t a).kid 0:Int)] 0):=a0W hm.tr ht hab.2 (i:=0) ck
    have hkk0:=ht.ks hab.2 _ (Z3 (x:=nd t a) (i:=0) ck)
    have hcdx:=hm.tr.at (z:=((nd t a).kid 0:Int)) (by omega) (by omega) (k:=.i64)
    rw [Int.toNat_natCast] at hcdx
    have onc:=a0L hm.tr hkk0.2
    have k12:((nd t ((nd t a).kid 0)).kind==12)=false:=by
     unfold a4y at cl
     have:(nd t a).ks=(nd t a).kid 0::(nd t a).ks.tail:=by
      unfold Nd.ks Nd.kid
      cases hks':(nd t a).kids with
      | nil=>rw [hks'] at ck;simp at ck
      | cons y ys=>simp
     rw [this] at cl
     simpa using cl
    try refine zW (aN hE (aN n6 (aN m6 (aN p6 (aN on (aN om (aN hlk (aN cc' (aN ka (aN hadx (aN ona (aN hlb (aN hk0' (aN ka0 (aN hcdx (aN onc (aN k12 opq))))))))))))))))) ?_
    refine V0 (Φ:=fun s2=>SF s m [.int .i64 10,(nd t k).dw,(nd t k).dn,(nd t k).dk,.int .i64 (nd t k).pos] (j0 q xq) s2/\M5 s2 q xq) ⟨(h6.call (Fr.push (ids:=[]) _)).setO (by omega),hp6.stay ((Fr.push (ids:=[]) _).thenSet _ (.inr (Nat.le_refl _)))⟩ ?_
    rintro s2 ⟨h2,hp2⟩
    apply U2 (hB _ hbm hb16 _ _ wb s2 m q xq frm to (hm.stay h2.fr) hp2 iq (gq.names.trans hpn) (gq.vars.trans hpv) (by omega) (by omega) _ wq (by omega))
    ·simp only [Env.evL,Env.ev,Env.get,Nat.reduceEqDiff,↓reduceIte,hE];rfl
    rintro r sz ⟨xz,rfl,fz,hpz,hzz⟩
    have hz:=h2.call fz
    have opz:=hpz.ones
    have pz:=hz.p
    unfold j0 at pz
    have sbk:=a3v (b:=a) (frm:=frm) (to:=to) (fun c hc=>(hS _ hbm hb16 c hc).1) iq (gq.names.trans hpn) (gq.vars.trans hpv) (by omega) (by omega)
    have wz:=a0S wq (a1v (p:=q) (frm:=frm) (to:=to) (hks _ hbm).2 wb fun c hc=>(hS _ hbm hb16 c hc).2) (Nat.le_refl _)
    have hch2:a0i t (y0 t (ch.map Ch.name) f) frm to q0 (nd t k).ks=a0i t (y0 t (ch.map Ch.name) f) frm to (W0 t (y0 t (ch.map Ch.name) f) q a frm to) (((nd t k).kids.drop (j+1)).map Int.toNat):=hch
    generalize W0 t (y0 t (ch.map Ch.name) f) q a frm to=qz at *
    have hpz6:M5 (sz.set (s.next+1) (some (.cells (j0 qz xz)))) qz xz:=hpz.set pz
    have hz6:SF s m _ (j0 qz xz) (sz.set (s.next+1) (some (.cells (j0 qz xz)))):=hz.setP
    repeat first
     |with_reducible first|apply vA|apply vB|apply vC
     |((with_reducible apply vD);(focus rfl))
     |((with_reducible first|apply vE|apply vF|apply vG|apply vH);simp only [Env.keep,Env.get,Env.ev,List.map,Nat.reduceEqDiff,↓reduceIte,O5,M7])
     |((with_reducible first|apply vI|apply vJ|apply vK|apply vL|apply vM|apply vN);(focus (simp (disch:=(first|with_reducible assumption|omega|((repeat (first|rw [nP]|rw [nS]))<;>omega)|fail)) only [go_sem,Env.ev,Env.get,↓reduceIte,hE,pz,opz,j0,hs]<;>rfl));(first|(with_reducible (first|apply vO|apply vP|apply vQ|apply vR|apply vS|apply vT|apply vU);try simp only [Env.put])|with_reducible refine (?_:WQ _ _ _ _ _ _)))
     |fail
    exact ⟨(nd t k).kids.length-(j+1),by omega,j+1,qz,xz,b,by omega,rfl,hz6,hpz6,sbk.1,gq.trans sbk.2,hkf',a0o wz (by omega),.inr (hzz.mono h2.fr.1),hch2,(rG hE)⟩
   ·have hk0':((0:Int)<((nd t a).kids.length:Int))=False:=eq_false (by omega)
    try refine zW (aN hE (aN n6 (aN m6 (aN p6 (aN on (aN om (aN hlk (aN cc' (aN ka (aN hadx (aN ona (aN hlb (aN hk0' opq))))))))))))) ?_
    refine V0 (Φ:=fun s2=>SF s m [.int .i64 10,(nd t k).dw,(nd t k).dn,(nd t k).dk,.int .i64 (nd t k).pos] (j0 q xq) s2/\M5 s2 q xq) ⟨(h6.call (Fr.push (ids:=[]) _)).setO (by omega),hp6.stay ((Fr.push (ids:=[]) _).thenSet _ (.inr (Nat.le_refl _)))⟩ ?_
    rintro s2 ⟨h2,hp2⟩
    apply U2 (hB _ hbm hb16 _ _ wb s2 m q xq frm to (hm.stay h2.fr) hp2 iq (gq.names.trans hpn) (gq.vars.trans hpv) (by omega) (by omega) _ wq (by omega))
    ·simp only [Env.evL,Env.ev,Env.get,Nat.reduceEqDiff,↓reduceIte,hE];rfl
    rintro r sz ⟨xz,rfl,fz,hpz,hzz⟩
    have hz:=h2.call fz
    have opz:=hpz.ones
    have pz:=hz.p
    unfold j0 at pz
    have sbk:=a3v (b:=a) (frm:=frm) (to:=to) (fun c hc=>(hS _ hbm hb16 c hc).1) iq (gq.names.trans hpn) (gq.vars.trans hpv) (by omega) (by omega)
    have wz:=a0S wq (a1v (p:=q) (frm:=frm) (to:=to) (hks _ hbm).2 wb fun c hc=>(hS _ hbm hb16 c hc).2) (Nat.le_refl _)
    have hch2:a0i t (y0 t (ch.map Ch.name) f) frm to q0 (nd t k).ks=a0i t (y0 t (ch.map Ch.name) f) frm to (W0 t (y0 t (ch.map Ch.name) f) q a frm to) (((nd t k).kids.drop (j+1)).map Int.toNat):=hch
    generalize W0 t (y0 t (ch.map Ch.name) f) q a frm to=qz at *
    have hpz6:M5 (sz.set (s.next+1) (some (.cells (j0 qz xz)))) qz xz:=hpz.set pz
    have hz6:SF s m _ (j0 qz xz) (sz.set (s.next+1) (some (.cells (j0 qz xz)))):=hz.setP
    repeat first
     |with_reducible first|apply vA|apply vB|apply vC
     |((with_reducible apply vD);(focus rfl))
     |((with_reducible first|apply vE|apply vF|apply vG|apply vH);simp only [Env.keep,Env.get,Env.ev,List.map,Nat.reduceEqDiff,↓reduceIte,O5,M7])
     |((with_reducible first|apply vI|apply vJ|apply vK|apply vL|apply vM|apply vN);(focus (simp (disch:=(first|with_reducible assumption|omega|((repeat (first|rw [nP]|rw [nS]))<;>omega)|fail)) only [go_sem,Env.ev,Env.get,↓reduceIte,hE,pz,opz,j0,hs]<;>rfl));(first|(with_reducible (first|apply vO|apply vP|apply vQ|apply vR|apply vS|apply vT|apply vU);try simp only [Env.put])|with_reducible refine (?_:WQ _ _ _ _ _ _)))
     |fail
    exact ⟨(nd t k).kids.length-(j+1),by omega,j+1,qz,xz,b,by omega,rfl,hz6,hpz6,sbk.1,gq.trans sbk.2,hkf',a0o wz (by omega),.inr (hzz.mono h2.fr.1),hch2,(rG hE)⟩
 ·have cc':((j:Int)<((nd t k).kids.length:Int))=False:=eq_false (by omega)
  rw [List.drop_eq_nil_of_le (by omega)] at hch
  have hz9:Z1 s xq.de:=by
   rcases hzq with h | h
   ·omega
   ·exact h
  rw [hch]
  repeat first
   |with_reducible first|apply vA|apply vB|apply vC
   |((with_reducible apply vD);(focus rfl))
   |((with_reducible first|apply vE|apply vF|apply vG|apply vH);simp only [Env.keep,Env.get,Env.ev,List.map,Nat.reduceEqDiff,↓reduceIte,O5,M7])
   |((with_reducible first|apply vI|apply vJ|apply vK|apply vL|apply vM|apply vN);(focus (simp (disch:=(first|with_reducible assumption|omega|((repeat (first|rw [nP]|rw [nS]))<;>omega)|fail)) only [go_sem,Env.ev,Env.get,↓reduceIte,hE,n6,m6,p6,r6,on,om,hlk,cc',opq,j0]<;>rfl));(first|(with_reducible (first|apply vO|apply vP|apply vQ|apply vR|apply vS|apply vT|apply vU);try simp only [Env.put])|with_reducible refine (?_:WQ _ _ _ _ _ _)))
   |fail
  exact ⟨.inr trivial,.agg (j0 q xq),h6.res (by simp only [Env.get,Nat.reduceEqDiff,↓reduceIte,hE]),h6.fin hp6 hz9⟩
end Go.Proofs.Ytlaeblilmppodaa
namespace Go.Proofs.Ytlaeblilmppodaa
open Go.V
set_option maxRecDepth 100000
set_option maxHeartbeats 4000000
theorem a8j {t:List Nd} {ch:List Ch} {names:List ByteArray} {vars:List Nat} {f g node:Nat}:∀ (ks:List Int) (dk:D) (a n:Nat),KF t g ks a n->FI dk ks->(∀c∈ks.map Int.toNat,a5Z vfs 82 t ch names vars f c/\a09 t ch.length names vars (y0 t (ch.map Ch.name) f) c/\StG t (y0 t (ch.map Ch.name) f) c) ->
 ∀ (s:i8) (m:MdX) (p:Pr) (x:PrD) (frm to:Nat),a0j s m t ch->M5 s p x->W8 t ch.length p->p.names=names->p.vars=vars->frm<p.places->to<p.places->∀N,P7 p N->N+4*(n-a)+1<=900000 ->
 EvP vfs 55 [.agg (N2 m),.agg (j0 p x),dk,.int .i64 (node:Int),.int .i64 (frm:Int),.int .i64 (to:Int)] s (StR s p (a1b (y0 t (ch.map Ch.name) f) node p (ks.map Int.toNat) frm to))
 | [],dk,a,n,hkf,hdk,hS,s,m,p,x,frm,to,hm,hp,hi,hpn,hpv,hfr,hto,N,hl,hN=>by
   have hlen:=FI.len hdk
   have l0:(((([]:List Int).length:Nat):Int)==0)=true:=rfl
   have op:=hp.ones
   have om:=hm.ones
   have hl':P7 p 1000000:=a0o hl (by omega)
   show EvP _ _ _ _ (StR s p (p.put frm to 0 node (-1) (-1) (-1)))
   unfold N2 j0
   refine N8 (vf:=a2Y) rfl ?_
   unfold a2Y;refine zE ?_
   try refine zW (aN op (aN om (aN hlen l0))) ?_
   refine V0 (Φ:=S3 s m (j0 p x)) ?_ ?_
   ·refine ⟨((Fr.push _).thenPush _).thenPush _,by simp only [i8.next_push];omega,?_,?_,?_⟩<;>(simp (disch:=(first|with_reducible assumption|omega|((repeat (first|rw [nP]|rw [nS]))<;>omega)|fail)) only [S6,O4,O6,P8,i8.next_push,i8.next_set])<;>rfl
   intro s4 h4
   simp only [P5.at,i8.next_push]
   apply U2 (a1n (act:=0) (hp.stay h4.fr) hl')
   ·rfl
   rintro r s9 ⟨x9,rfl,f9,hp9,id9,e9,z9⟩
   have h9:=h4.call f9
   have hz9:Z1 s x9.de:=a2B e9 z9 h4.fr.1
   have op9:=hp9.ones
   have r9:=h9.r
   repeat first
    |with_reducible first|apply vA|apply vB|apply vC
    |((with_reducible apply vD);(focus rfl))
    |((with_reducible first|apply vE|apply vF|apply vG|apply vH);simp only [Env.keep,Env.get,Env.ev,List.map,Nat.reduceEqDiff,↓reduceIte,O5,M7])
    |((with_reducible first|apply vI|apply vJ|apply vK|apply vL|apply vM|apply vN);(focus (simp (disch:=(first|with_reducible assumption|omega|((repeat (first|rw [nP]|rw [nS]))<;>omega)|fail)) only [go_sem,Env.ev,Env.get,↓reduceIte,r9,op9,j0]<;>rfl));(first|(with_reducible (first|apply vO|apply vP|apply vQ|apply vR|apply vS|apply vT|apply vU);try simp only [Env.put])|with_reducible refine (?_:WQ _ _ _ _ _ _)))
    |fail
   exact ⟨.inr trivial,_,h9.res rfl,h9.fin hp9 hz9⟩
 | [z],dk,a,n,hkf,hdk,hS,s,m,p,x,frm,to,hm,hp,hi,hpn,hpv,hfr,hto,N,hl,hN=>by
   obtain ⟨rfl,q1,b,wb,lb,lb2,hkf⟩:=hkf.cons
   obtain rfl:=hkf.nil
   have hlen:=FI.len hdk
   have l0:((([(a:Int)].length:Nat):Int)==0)=false:=rfl
   have l1:((([(a:Int)].length:Nat):Int)==1)=true:=rfl
   have ki:M1 1 dk (.int .i64 0)=some (.fp [.int .i64 (a:Int)] 0):=FI.idx hdk (i:=0) (by simp)
   have op:=hp.ones
   have om:=hm.ones
   obtain ⟨hst,-,-⟩:=hS a (by simp)
   show EvP _ _ _ _ (StR s p (y0 t (ch.map Ch.name) f p a frm to))
   unfold N2 j0
   refine N8 (vf:=a2Y) rfl ?_
   unfold a2Y;refine zE ?_
   try refine zW (aN op (aN om (aN hlen (aN l0 (aN l1 ki))))) ?_
   refine V0 (Φ:=S3 s m (j0 p x)) ?_ ?_
   ·refine ⟨((Fr.push _).thenPush _).thenPush _,by simp only [i8.next_push];omega,?_,?_,?_⟩<;>(simp (disch:=(first|with_reducible assumption|omega|((repeat (first|rw [nP]|rw [nS]))<;>omega)|fail)) only [S6,O4,O6,P8,i8.next_push,i8.next_set])<;>rfl
   intro s4 h4
   simp only [P5.at,i8.next_push]
   apply U2 (hst _ _ wb s4 m p x frm to (hm.stay h4.fr) (hp.stay h4.fr) hi hpn hpv hfr hto N hl (by omega))
   ·rfl
   rintro r s9 ⟨x9,rfl,f9,hp9,hzz⟩
   have h9:=h4.call f9
   have hz9:Z1 s x9.de:=hzz.mono h4.fr.1
   have op9:=hp9.ones
   have r9:=h9.r
   repeat first
    |with_reducible first|apply vA|apply vB|apply vC
    |((with_reducible apply vD);(focus rfl))
    |((with_reducible first|apply vE|apply vF|apply vG|apply vH);simp only [Env.keep,Env.get,Env.ev,List.map,Nat.reduceEqDiff,↓reduceIte,O5,M7])
    |((with_reducible first|apply vI|apply vJ|apply vK|apply vL|apply vM|apply vN);(focus (simp (disch:=(first|with_reducible assumption|omega|((repeat (first|rw [nP]|rw [nS]))<;>omega)|fail)) only [go_sem,Env.ev,Env.get,↓reduceIte,r9,op9,j0]<;>rfl));(first|(with_reducible (first|apply vO|apply vP|apply vQ|apply vR|apply vS|apply vT|apply vU);try simp only [Env.put])|with_reducible refine (?_:WQ _ _ _ _ _ _)))
    |fail
   exact ⟨.inr trivial,_,h9.res rfl,h9.fin hp9 hz9⟩
 | z::z'::zs,dk,a,n,hkf,hdk,hS,s,m,p,x,frm,to,hm,hp,hi,hpn,hpv,hfr,hto,N,hl,hN=>by
   obtain ⟨rfl,q1,b,wb,lb,lb2,hkf⟩:=hkf.cons
   have hle:=hkf.le
   have hlen:=FI.len hdk
   have l0:(((((a:Int)::z'::zs).length:Nat):Int)==0)=false:=by rw [beq_eq_false_iff_ne];simp only [List.length_cons];omega
   have l1:(((((a:Int)::z'::zs).length:Nat):Int)==1)=false:=by rw [beq_eq_false_iff_ne];simp only [List.length_cons];omega
   have ki:M1 1 dk (.int .i64 0)=some (.fp [.int .i64 (a:Int)] 0):=FI.idx hdk (i:=0) (by simp)
   obtain ⟨dk',sl,hdk'⟩:=FL.drop hdk (n:=1) (by simp) (k:=.i64)
   have one:((1:Nat):Int)=1:=rfl
   rw [one] at sl
   have hdk':FI dk' (z'::zs):=hdk'
   have op:=hp.ones
   have om:=hm.ones
   have hl':P7 p 1000000:=a0o hl (by omega)
   obtain ⟨hst,hso,hsg⟩:=hS a (by simp)
   show EvP _ _ _ _ (StR s p (a1b (y0 t (ch.map Ch.name) f) node (y0 t (ch.map Ch.name) f p.place a frm p.places) ((z'::zs).map Int.toNat) p.places to))
   unfold N2 j0
   refine N8 (vf:=a2Y) rfl ?_
   unfold a2Y;refine zE ?_
   try refine zW (aN op (aN om (aN hlen (aN l0 (aN l1 ki))))) ?_
   refine V0 (Φ:=S3 s m (j0 p x)) ?_ ?_
   ·refine ⟨((Fr.push _).thenPush _).thenPush _,by simp only [i8.next_push];omega,?_,?_,?_⟩<;>(simp (disch:=(first|with_reducible assumption|omega|((repeat (first|rw [nP]|rw [nS]))<;>omega)|fail)) only [S6,O4,O6,P8,i8.next_push,i8.next_set])<;>rfl
   intro s4 h4
   simp only [P5.at,i8.next_push]
   apply U2 (a4n (hp.stay h4.fr) hl')
   ·rfl
   rintro r s5 ⟨x5,rfl,f5,hp5⟩
   have h5:=h4.call f5
   have op5:=hp5.ones
   have p5:=h5.p
   have m5:=h5.m
   have nx5:=h5.nx
   unfold j0 at p5
   unfold N2 at m5
   have hp6:M5 (s5.set (s.next+1) (some (.cells (j0 p.place x5)))) p.place x5:=hp5.set p5
   have h6:S3 s m (j0 p.place x5) (s5.set (s.next+1) (some (.cells (j0 p.place x5)))):=h5.setP
   have w5:P7 p.place (N+1):=a0S hl (a1T p) (by omega)
   have e5:p.place.places=p.places+1:=rfl
   repeat first
    |with_reducible first|apply vA|apply vB|apply vC
    |((with_reducible apply vD);(focus rfl))
    |((with_reducible first|apply vE|apply vF|apply vG|apply vH);simp only [Env.keep,Env.get,Env.ev,List.map,Nat.reduceEqDiff,↓reduceIte,O5,M7])
    |((with_reducible first|apply vI|apply vJ|apply vK|apply vL|apply vM|apply vN);(focus (simp (disch:=(first|with_reducible assumption|omega|((repeat (first|rw [nP]|rw [nS]))<;>omega)|fail)) only [go_sem,Env.ev,Env.get,↓reduceIte,p5,m5,op5,om,j0,ki]<;>rfl));(first|(with_reducible (first|apply vO|apply vP|apply vQ|apply vR|apply vS|apply vT|apply vU);try simp only [Env.put])|with_reducible refine (?_:WQ _ _ _ _ _ _)))
    |fail
   refine V0 (Φ:=fun s'=>S3 s m (j0 p.place x5) s'/\M5 s' p.place x5) ⟨h6,hp6⟩ ?_
   rintro s6 ⟨h6,hp6⟩
   have p6:=h6.p
   have m6:=h6.m
   unfold j0 at p6
   unfold N2 at m6
   try refine zW (aN p6 (aN m6 (aN op5 (aN om ki)))) ?_
   apply U2 (hst _ _ wb s6 m p.place x5 frm p.places (hm.stay h6.fr) hp6 (a1M hi) hpn hpv (by omega) (by omega) _ w5 (by omega))
   ·rfl
   rintro r s7 ⟨x7,rfl,f7,hp7,hz7⟩
   have h7:=h6.call f7
   have op7:=hp7.ones
   have p7:=h7.p
   have m7:=h7.m
   have nx7:=h7.nx
   unfold j0 at p7
   unfold N2 at m7
   have sok:=hso p.place frm p.places (a1M hi) hpn hpv (by omega) (by omega)
   have w7:=a0S w5 (hsg _ _ wb p.place frm p.places) (Nat.le_refl _)
   have g7:=(a17 p).trans sok.2
   have pl7:=sok.2.places
   have hp8:M5 (s7.set (s.next+1) (some (.cells (j0 (y0 t (ch.map Ch.name) f p.place a frm p.places) x7)))) (y0 t (ch.map Ch.name) f p.place a frm p.places) x7:=hp7.set p7
   have h8:S3 s m (j0 (y0 t (ch.map Ch.name) f p.place a frm p.places) x7) (s7.set (s.next+1) (some (.cells (j0 (y0 t (ch.map Ch.name) f p.place a frm p.places) x7)))):=h7.setP
   have i7:=sok.1
   generalize y0 t (ch.map Ch.name) f p.place a frm p.places=q7 at *
   repeat first
    |with_reducible first|apply vA|apply vB|apply vC
    |((with_reducible apply vD);(focus rfl))
    |((with_reducible first|apply vE|apply vF|apply vG|apply vH);simp only [Env.keep,Env.get,Env.ev,List.map,Nat.reduceEqDiff,↓reduceIte,O5,M7])
    |((with_reducible first|apply vI|apply vJ|apply vK|apply vL|apply vM|apply vN);(focus (simp (disch:=(first|with_reducible assumption|omega|((repeat (first|rw [nP]|rw [nS]))<;>omega)|fail)) only [go_sem,Env.ev,Env.get,↓reduceIte,p7,m7,op7,om,j0]<;>rfl));(first|(with_reducible (first|apply vO|apply vP|apply vQ|apply vR|apply vS|apply vT|apply vU);try simp only [Env.put])|with_reducible refine (?_:WQ _ _ _ _ _ _)))
    |fail
   refine V0 (Φ:=fun s'=>S3 s m (j0 q7 x7) s'/\M5 s' q7 x7) ⟨h8,hp8⟩ ?_
   rintro s8 ⟨h8,hp8⟩
   have p8:=h8.p
   have m8:=h8.m
   unfold j0 at p8
   unfold N2 at m8
   repeat first
   |(refine a6I (o:=.slice _ _ _ _) (d:=dk') sl ?_)
   |refine zW (aN p8 (aN m8 (aN op7 om))) ?_
   apply U2 (a8j (z'::zs) dk' b n hkf hdk' (fun c hc=>hS c (by simp only [List.map_cons,List.mem_cons] at hc ⊢;right;exact hc)) s8 m q7 x7 p.places to (hm.stay h8.fr) hp8 i7 (g7.names.trans hpn) (g7.vars.trans hpv) (by omega) (by omega) _ w7 (by omega))
   ·rfl
   rintro r s9 ⟨x9,rfl,f9,hp9,hzz⟩
   have h9:=h8.call f9
   have hz9:Z1 s x9.de:=hzz.mono h8.fr.1
   have op9:=hp9.ones
   have r9:=h9.r
   repeat first
    |with_reducible first|apply vA|apply vB|apply vC
    |((with_reducible apply vD);(focus rfl))
    |((with_reducible first|apply vE|apply vF|apply vG|apply vH);simp only [Env.keep,Env.get,Env.ev,List.map,Nat.reduceEqDiff,↓reduceIte,O5,M7])
    |((with_reducible first|apply vI|apply vJ|apply vK|apply vL|apply vM|apply vN);(focus (simp (disch:=(first|with_reducible assumption|omega|((repeat (first|rw [nP]|rw [nS]))<;>omega)|fail)) only [go_sem,Env.ev,Env.get,↓reduceIte,r9,op9,j0]<;>rfl));(first|(with_reducible (first|apply vO|apply vP|apply vQ|apply vR|apply vS|apply vT|apply vU);try simp only [Env.put])|with_reducible refine (?_:WQ _ _ _ _ _ _)))
    |fail
   exact ⟨.inr trivial,_,h9.res rfl,h9.fin hp9 hz9⟩
theorem b5v {t:List Nd} (ht:Y8 t) {ch:List Ch} {names:List ByteArray} {vars:List Nat} {f b:Nat} (hb:b<t.length) (hS:∀c∈(nd t b).ks,a5Z vfs 82 t ch names vars f c/\a09 t ch.length names vars (y0 t (ch.map Ch.name) f) c/\StG t (y0 t (ch.map Ch.name) f) c):a3x vfs 109 t ch names vars f b:=by
 intro g n hw s m p x frm to hm hp hi hpn hpv hfr hto N hl hN
 obtain ⟨g',rfl,hkf⟩:=a2d hw
 have hle:=hkf.le
 have hidx:=hm.tr.at (z:=(b:Int)) (by omega) (by omega) (k:=.i64)
 rw [Int.toNat_natCast] at hidx
 have on:=a0L hm.tr hb
 have op:=hp.ones
 have om:=hm.ones
 show EvP _ _ _ _ (StR s p (a1b (y0 t (ch.map Ch.name) f) b p ((nd t b).kids.map Int.toNat) frm to))
 unfold N2 j0
 refine N8 (vf:=a88) rfl ?_
 unfold a88;refine zE ?_
 try refine zW (aN op (aN om (aN hidx on))) ?_
 refine V0 (Φ:=S3 s m (j0 p x)) ?_ ?_
 ·refine ⟨((Fr.push _).thenPush _).thenPush _,by simp only [i8.next_push];omega,?_,?_,?_⟩<;>(simp (disch:=(first|with_reducible assumption|omega|((repeat (first|rw [nP]|rw [nS]))<;>omega)|fail)) only [S6,O4,O6,P8,i8.next_push,i8.next_set])<;>rfl
 intro s4 h4
 simp only [P5.at,i8.next_push]
 apply U2 (a8j (node:=b) (nd t b).kids (nd t b).dk (b+1) n hkf (hm.tr.nd hb).k hS s4 m p x frm to (hm.stay h4.fr) (hp.stay h4.fr) hi hpn hpv hfr hto N hl (by omega))
 ·rfl
 rintro r s9 ⟨x9,rfl,f9,hp9,hzz⟩
 have h9:=h4.call f9
 have hz9:Z1 s x9.de:=hzz.mono h4.fr.1
 have op9:=hp9.ones
 have r9:=h9.r
 repeat first
  |with_reducible first|apply vA|apply vB|apply vC
  |((with_reducible apply vD);(focus rfl))
  |((with_reducible first|apply vE|apply vF|apply vG|apply vH);simp only [Env.keep,Env.get,Env.ev,List.map,Nat.reduceEqDiff,↓reduceIte,O5,M7])
  |((with_reducible first|apply vI|apply vJ|apply vK|apply vL|apply vM|apply vN);(focus (simp (disch:=(first|with_reducible assumption|omega|((repeat (first|rw [nP]|rw [nS]))<;>omega)|fail)) only [go_sem,Env.ev,Env.get,↓reduceIte,r9,op9,j0]<;>rfl));(first|(with_reducible (first|apply vO|apply vP|apply vQ|apply vR|apply vS|apply vT|apply vU);try simp only [Env.put])|with_reducible refine (?_:WQ _ _ _ _ _ _)))
  |fail
 exact ⟨.inr trivial,_,h9.res rfl,h9.fin hp9 hz9⟩
theorem a99 {t:List Nd} (ht:Y8 t) {ch:List Ch} (hcb:ch.length<=1000000) {names:List ByteArray} {vars:List Nat} (hnb:names.length<=1000000) {P:Nat->Prop} (hc:∀j,j<t.length->P j->∀k∈(nd t j).ks,P k) (hs:∀k,P k->a6z t ch.length (ch.map Ch.name) names vars k):∀ (f k:Nat),k<t.length->P k->a10 (nd t k).kind->t.length-k<f->a5Z vfs 82 t ch names vars f k
 | 0,k,_,_,_,h=>by omega
 | f+1,k,hk,hP,hst,hf=>by
   intro g n hw s m p x frm to hm hp hi hpn hpv hfr hto N hl hN
   have hno:=ht.node k hk
   have hks:=ht.ks hk
   have hSi:=hs k hP
   have sub:∀b∈(nd t k).ks,(nd t b).kind=16->∀c∈(nd t b).ks,a5Z vfs 82 t ch names vars f c/\a09 t ch.length names vars (y0 t (ch.map Ch.name) f) c/\StG t (y0 t (ch.map Ch.name) f) c:=fun b hb hb16 c hc'=>by
    have h1:=hks b hb
    have h2:=ht.ks h1.2 c hc'
    have h3:=(ht.node b h1.2).block hb16 c hc'
    have hPc:=hc b h1.2 (hc k hk hP b hb) c hc'
    exact ⟨a99 ht hcb hnb hc hs f c h2.2 hPc h3 (by omega),a5I ht hc hs f c h2.2 hPc h3 (by omega),a6k ht _ f c h2.2 h3 (by omega)⟩
   have hS:∀b∈(nd t k).ks,(nd t b).kind=16->∀c∈(nd t b).ks,a09 t ch.length names vars (y0 t (ch.map Ch.name) f) c/\StG t (y0 t (ch.map Ch.name) f) c:=fun b hb hb16 c hc=>(sub b hb hb16 c hc).2
   have hB:∀b∈(nd t k).ks,(nd t b).kind=16->a3x vfs 109 t ch names vars f b:=fun b hb hb16=>b5v ht (hks b hb).2 (sub b hb hb16)
   have hl9:P7 p 900000:=a0o hl (by omega)
   have hnv:p.names.length=p.vars.length:=by rw [hpn,hpv];exact hSi.same
   have hnb':p.names.length<=1000000:=by rw [hpn];exact hnb
   have hrl:frm<p.rest.length:=by rw [hi.rest];exact hfr
   have hcs:(nd t k).kind=6∨(nd t k).kind=7∨(nd t k).kind=8∨(nd t k).kind=9∨(nd t k).kind=10∨(nd t k).kind=11∨(nd t k).kind=12∨(nd t k).kind=13∨(nd t k).kind=14∨(nd t k).kind=15:=by
    unfold a10 at hst
    omega
   rcases hcs with h | h | h | h | h | h | h | h | h | h
   ·exact b7x hm ht hp hl9 hnv (by rw [hpn];exact hSi.v (.inl h)) hnb' hk h
   ·exact b61 hm ht hp hl9 hcb hk h
   ·exact b7L hm ht hp hl9 hnv (by rw [hpn];exact hSi.v (.inr h)) hnb' hcb hrl hk h
   ·exact b9v hm ht hp hl9 hrl hk h
   ·exact b5W hm ht hp hi hpn hpv hfr hto hk h hw hl hN hS hB
   ·exact b9w hm ht hp hi hpn hpv hfr hto hk h hw hl hN hS hB
   ·exact b7j hm ht hp hi hpn hpv hfr hto hk h hw hl hN hS hB
   ·exact b7S hm ht hp hi hpn hpv hfr hto hk h hw hl hN hS hB
   ·exact b63 hm ht hp hl9 hk h
   ·exact c2t hm ht hp hl9 hk h
end Go.Proofs.Ytlaeblilmppodaa
namespace Go.Proofs.Ytlaeblilmppodaa
open Go.V
set_option maxRecDepth 100000
set_option maxHeartbeats 4000000
theorem c25 {d:D} {t:List Nd} (hT:O1 d t) (hR:M8 t) :
 EvP vfs 26 [d] i8.empty fun r s'=>(r=.tup [.agg [.nils,.int .i64 0,.nils,.nils,.nils,.nils,.bool false],.bool false]/\∃e a:Int,Iso 54 [d] (.agg [.int .i64 e,.int .i64 a])/\e≠0)∨(a11 t/\a00 t/\∃m ps,r=.tup [.agg (N2 m),.bool true]/\a9j s' m (a3b t) ps/\m.dp≠.lst 8 (a0M ps)):=by
 have hlen:=hT.len
 have hle:=hR.ok.le
 have hpos:=hR.ok.pos
 have hks:=hR.subs.length
 obtain ⟨e,a,hc,hp⟩:=c00 hT hR
 obtain ⟨sc,hc⟩:=hc
 by_cases c0:e=0
 rotate_left
 ·have c0':(e != 0)=true:=by rw [bne_iff_ne];exact c0
  refine N8 (vf:=a4U) rfl ?_
  unfold a4U;refine zE ?_
  repeat first
  |(refine a3y rfl (fz1 hT.fz) hc rfl rfl ?_)
  |refine zW c0' ?_
  exact ⟨.inr trivial,_,rR,.inl ⟨rfl,e,a,⟨sc,hc⟩,c0⟩⟩
 subst c0
 have c0':((0:Int) != 0)=false:=rfl
 have h0:=hT.at (z:=0) (by omega) (by omega) (k:=.i64)
 have x0:=hT.nd (i:=0) (by omega)
 have z0:(0:Int).toNat=0:=rfl
 rw [z0] at h0
 have o1:=FL.one x0.w
 have o2:=FL.one x0.n
 have o3:=FL.one x0.k
 have hkl:=FI.len x0.k
 have od:=FL.one hT.fl
 refine N8 (vf:=a4U) rfl ?_
 unfold a4U;refine zE ?_
 repeat first
 |(refine a3y rfl (fz1 hT.fz) hc rfl rfl ?_)
 |refine zW (aN c0' od) ?_
 refine a4H (P:=fun env s=>∃ (dc dv ds:D) (Ec Ev Es:Hs),
  Rp dc 5 (a0d (gat t).ch) Ec/\Rp dv 3 (X2 (gat t).vs) Ev/\Rp ds 1 (Q0 (gat t).sf) Es /\
  Hp s ((0,[.nils,.int .i64 0,.nils,.nils,.nils,.nils,.bool false])::(2,[d,.int .i64 0,dc,dv,.nils,ds,.bool (gat t).dead])::(Ec++(Ev++Es))) []/\(env.get 0=d/\env.get 2=.ptr 0 0/\env.get 5=.ptr 2 0)) ?_ ?_
 ·refine a0l (Q:=M7 0 _) (fun n env s=>∃ (i:Nat) (dc dv ds:D) (Ec Ev Es:Hs),i<=(nd t 0).kids.length/\n=(nd t 0).kids.length-i /\
   Rp dc 5 (a0d (pass1 t ((nd t 0).ks.take i)).ch) Ec/\Rp dv 3 (X2 (pass1 t ((nd t 0).ks.take i)).vs) Ev/\Rp ds 1 (Q0 (pass1 t ((nd t 0).ks.take i)).sf) Es /\
   Hp s ((0,[.nils,.int .i64 0,.nils,.nils,.nils,.nils,.bool false])::(2,[d,.int .i64 0,dc,dv,.nils,ds,.bool (pass1 t ((nd t 0).ks.take i)).dead])::(Ec++(Ev++Es))) []/\(env.get 0=d/\env.get 2=.ptr 0 0/\env.get 5=.ptr 2 0/\env.get 6=.int .i64 (i:Int))) ?_ (nd t 0).kids.length _ _ ?_
  rotate_left
  ·refine ⟨0,.nils,.nils,.nils,[],[],[],by omega,rfl,.inl ⟨rfl,rfl,rfl⟩,.inl ⟨rfl,rfl,rfl⟩,.inl ⟨rfl,rfl,rfl⟩,?_,by simp [Env.get,P5.at];rfl⟩
   refine ⟨by simp,by simp,?_,by simp [Has]⟩
   intro x hx
   simp only [List.append_nil,List.mem_cons,List.not_mem_nil,or_false] at hx
   rcases hx with rfl | rfl<;>rfl
  ·rintro n env s ⟨i,dc,dv,ds,Ec,Ev,Es,hi,rfl,rc,rv,rs,hh,hE⟩
   have hb:=a8N t ((nd t 0).ks.take i)
   have hb1:((nd t 0).ks.take i).length<=i:=by simp;omega
   have hM:=Hp.get (A:=[(0,_)]) hh
   have hMl:=k4 hM
   by_cases c1:i<(nd t 0).kids.length
   ·have c1':((i:Int)<((nd t 0).kids.length:Int))=True:=eq_true (by omega)
    have hs:IntKind.i64.wrap ((i:Int)+1)=((i+1:Nat):Int):=by rw [P1 (by omega) (by omega)];omega
    have hki:=a0W hT hR.ok (k:=0) (by omega) c1
    have hkm:=Z3 c1
    have hkt:=b1i c1
    generalize (nd t 0).kid i=K at *
    obtain ⟨K1,K2,-⟩:=hR.item hkm
    have hidx:=hT.at (z:=(K:Int)) (by omega) (by omega) (k:=.i64)
    rw [Int.toNat_natCast] at hidx
    have on:=a0L hT K2
    have hno:=hR.ok.node K K2
    have hpr:=hR.ok.node 0 (by omega)
    have hw:=a2W hT K2 (i:=0)
    have n0:=a21 hT K2 (i:=0)
    have n1:=a21 hT K2 (i:=1)
    have n2:=a21 hT K2 (i:=2)
    have n3:=a21 hT K2 (i:=3)
    have k0:=a0W hT hR.ok K2 (i:=0)
    have e0:((0:Nat):Int)=0:=rfl
    have e1:((1:Nat):Int)=1:=rfl
    have e2:((2:Nat):Int)=2:=rfl
    have e3:((3:Nat):Int)=3:=rfl
    rw [hno.wl,e0] at hw
    rw [hno.nl] at n0 n1 n2 n3
    rw [e0] at n0 k0
    rw [e1] at n1
    rw [e2] at n2
    rw [e3] at n3
    have hnx:pass1 t ((nd t 0).ks.take (i+1))=one1 t (pass1 t ((nd t 0).ks.take i)) K:=by rw [hkt,b6z]
    generalize hA:pass1 t ((nd t 0).ks.take i)=a at *
    have fr:∀z o,Fr [] s ((s.push z).set s.next (some o)):=fun z o=>(Fr.push _).thenSet _ (.inr (Nat.le_refl _))
    by_cases q1:(nd t K).kind=1
    ·rw [q1] at hw n0 n1 n2 n3
     have hw:=hw (by decide)
     have n0:=n0 (by decide)
     have n1:=n1 (by decide)
     have n2:=n2 (by decide)
     have n3:=n3 (by decide)
     have q1':((nd t K).kind==1)=true:=by rw [q1];rfl
     have e:one1 t a K={ a with ch:=a.ch++[a2R (nd t K)] }:=by unfold one1;rw [if_pos q1]
     rw [e] at hnx
     try refine zW (aN hE (aN hM (aN o1 (aN o2 (aN o3 (aN h0 (aN hkl (aN c1' (aN hki (aN hidx (aN on (aN q1' (aN rc.one (aN rv.one (aN rs.one (aN od (aN hw (aN n0 (aN n1 (aN n2 n3)))))))))))))))))))) ?_
     refine a07 (Rp.app (A:=[(0,_),(2,_)]) (B:=Ev++Es) rc (hh.fr ((fr _ _).thenPush _)) (O4 rfl) rfl (a9p _) (by decide) (by simp;omega)) rfl rfl ?_
     rintro d' s' ⟨E',rc',hh',hn'⟩
     have od':=rc'.one
     simp only [List.append_assoc,List.cons_append,List.nil_append] at hh'
     have hM':=Hp.get (A:=[(0,_)]) hh'
     have hMl':=k4 hM'
     simp only [i8.next_push,i8.next_set] at hn'
     try refine zW (aN hM' (aN od' (aN rv.one (aN rs.one (aN od (aN hE hs)))))) ?_
     refine ⟨(nd t 0).kids.length-(i+1),by omega,i+1,d',dv,ds,E',Ev,Es,by omega,rfl,?_,?_,?_,?_,(rG hE)⟩
     ·rw [hnx];show Rp d' 5 (a0d (a.ch++[a2R (nd t K)])) E';rw [<- b8p];exact rc'
     ·rw [hnx];exact rv
     ·rw [hnx];exact rs
     ·rw [hnx]
      exact Hp.set (A:=[(0,_)]) hh' [d,.int .i64 0,d',dv,.nils,ds,.bool a.dead]
    have q1':((nd t K).kind==1)=false:=by rw [beq_eq_false_iff_ne];exact q1
    by_cases q2:(nd t K).kind=2
    ·rw [q2] at hw n0 n1
     have hw:=hw (by decide)
     have n0:=n0 (by decide)
     have n1:=n1 (by decide)
     have q2':((nd t K).kind==2)=true:=by rw [q2];rfl
     have e:one1 t a K={ a with vs:=a.vs++[a08 (nd t K)] }:=by unfold one1;rw [if_neg q1,if_pos q2]
     rw [e] at hnx
     try refine zW (aN hE (aN hM (aN o1 (aN o2 (aN o3 (aN h0 (aN hkl (aN c1' (aN hki (aN hidx (aN on (aN q1' (aN q2' (aN rc.one (aN rv.one (aN rs.one (aN od (aN hw (aN n0 n1))))))))))))))))))) ?_
     refine a07 (Rp.app (A:=[(0,_),(2,_)]++Ec) (B:=Es) rv (by simpa only [List.append_assoc,List.cons_append,List.nil_append] using (hh.fr ((fr _ _).thenPush _))) (O4 rfl) rfl (a6D _) (by decide) (by simp;omega)) rfl rfl ?_
     rintro d' s' ⟨E',rv',hh',hn'⟩
     have od':=rv'.one
     simp only [List.append_assoc,List.cons_append,List.nil_append] at hh'
     have hM':=Hp.get (A:=[(0,_)]) hh'
     have hMl':=k4 hM'
     simp only [i8.next_push,i8.next_set] at hn'
     try refine zW (aN hM' (aN rc.one (aN od' (aN rs.one (aN od (aN hE hs)))))) ?_
     refine ⟨(nd t 0).kids.length-(i+1),by omega,i+1,dc,d',ds,Ec,E',Es,by omega,rfl,?_,?_,?_,?_,(rG hE)⟩
     ·rw [hnx];exact rc
     ·rw [hnx];show Rp d' 3 (X2 (a.vs++[a08 (nd t K)])) E';rw [<- b0B];exact rv'
     ·rw [hnx];exact rs
     ·rw [hnx]
      exact Hp.set (A:=[(0,_)]) hh' [d,.int .i64 0,dc,d',.nils,ds,.bool a.dead]
    have q2':((nd t K).kind==2)=false:=by rw [beq_eq_false_iff_ne];exact q2
    by_cases q4:(nd t K).kind=4
    ·have hone:=hno.one (.inl q4)
     have k0:=k0 (by omega)
     have q4':((nd t K).kind==4)=true:=by rw [q4];rfl
     have e:one1 t a K={ a with sf:=a.sf++[(nd t K).kid 0] }:=by unfold one1;rw [if_neg q1,if_neg q2,if_pos q4]
     rw [e] at hnx
     try refine zW (aN hE (aN hM (aN o1 (aN o2 (aN o3 (aN h0 (aN hkl (aN c1' (aN hki (aN hidx (aN on (aN q1' (aN q2' (aN q4' (aN rc.one (aN rv.one (aN rs.one (aN od k0)))))))))))))))))) ?_
     refine a07 (Rp.app (A:=[(0,_),(2,_)]++Ec++Ev) (B:=[]) rs (by simpa only [List.append_assoc,List.cons_append,List.nil_append,List.append_nil] using (hh.fr ((fr _ _).thenPush _))) (O4 rfl) rfl (a2q _) (by decide) (by simp;omega)) rfl rfl ?_
     rintro d' s' ⟨E',rs',hh',hn'⟩
     have od':=rs'.one
     simp only [List.append_assoc,List.cons_append,List.nil_append,List.append_nil] at hh'
     have hM':=Hp.get (A:=[(0,_)]) hh'
     have hMl':=k4 hM'
     simp only [i8.next_push,i8.next_set] at hn'
     try refine zW (aN hM' (aN rc.one (aN rv.one (aN od' (aN od (aN hE hs)))))) ?_
     refine ⟨(nd t 0).kids.length-(i+1),by omega,i+1,dc,dv,d',Ec,Ev,E',by omega,rfl,?_,?_,?_,?_,(rG hE)⟩
     ·rw [hnx];exact rc
     ·rw [hnx];exact rv
     ·rw [hnx];show Rp d' 1 (Q0 (a.sf++[(nd t K).kid 0])) E';rw [<- a5W];exact rs'
     ·rw [hnx]
      exact Hp.set (A:=[(0,_)]) hh' [d,.int .i64 0,dc,dv,.nils,d',.bool a.dead]
    have q4':((nd t K).kind==4)=false:=by rw [beq_eq_false_iff_ne];exact q4
    by_cases q5:(nd t K).kind=5
    ·have q5':((nd t K).kind==5)=true:=by rw [q5];rfl
     have e:one1 t a K={ a with dead:=true }:=by unfold one1;rw [if_neg q1,if_neg q2,if_neg q4,if_pos q5]
     rw [e] at hnx
     try refine zW (aN hE (aN hM (aN o1 (aN o2 (aN o3 (aN h0 (aN hkl (aN c1' (aN hki (aN hidx (aN on (aN q1' (aN q2' (aN q4' (aN q5' (aN rc.one (aN rv.one (aN rs.one (aN od hs))))))))))))))))))) ?_
     refine ⟨(nd t 0).kids.length-(i+1),by omega,i+1,dc,dv,ds,Ec,Ev,Es,by omega,rfl,?_,?_,?_,?_,(rG hE)⟩
     ·rw [hnx];exact rc
     ·rw [hnx];exact rv
     ·rw [hnx];exact rs
     ·rw [hnx]
      exact Hp.set (A:=[(0,_)]) (hh.fr (fr _ _)) [d,.int .i64 0,dc,dv,.nils,ds,.bool true]
    ·have q5':((nd t K).kind==5)=false:=by rw [beq_eq_false_iff_ne];exact q5
     have e:one1 t a K=a:=by unfold one1;rw [if_neg q1,if_neg q2,if_neg q4,if_neg q5]
     rw [e] at hnx
     try refine zW (aN hE (aN hM (aN o1 (aN o2 (aN o3 (aN h0 (aN hkl (aN c1' (aN hki (aN hidx (aN on (aN q1' (aN q2' (aN q4' (aN q5' (aN rc.one (aN rv.one (aN rs.one (aN od hs))))))))))))))))))) ?_
     refine ⟨(nd t 0).kids.length-(i+1),by omega,i+1,dc,dv,ds,Ec,Ev,Es,by omega,rfl,?_,?_,?_,?_,(rG hE)⟩
     ·rw [hnx];exact rc
     ·rw [hnx];exact rv
     ·rw [hnx];exact rs
     ·rw [hnx]
      exact hh.fr (fr _ _)
   ·have c1':((i:Int)<((nd t 0).kids.length:Int))=False:=eq_false (by omega)
    obtain rfl:i=(nd t 0).kids.length:=by omega
    have hall:(nd t 0).ks.take (nd t 0).kids.length=(nd t 0).ks:=by rw [<- a1d,List.take_length]
    rw [hall] at rc rv rs hh hM
    try refine zW (aN hE (aN hM (aN o1 (aN o2 (aN o3 (aN h0 (aN hkl (aN c1' od)))))))) ?_
    exact ⟨trivial,dc,dv,ds,Ec,Ev,Es,rc,rv,rs,hh,(rG hE)⟩
 rintro env s ⟨dc,dv,ds,Ec,Ev,Es,rc,rv,rs,hh,hE⟩
 have hvl:=rv.len
 rw [a8M] at hvl
 have oc:=rc.one
 have ov:=rv.one
 have os:=rs.one
 have hM:=Hp.get (A:=[(0,_)]) hh
 have hMl:=k4 hM
 simp only [O5]
 try refine zW (aN hE (aN hM (aN od (aN oc (aN ov (aN os hvl)))))) ?_
 have hg1:=a8N t (nd t 0).ks
 rw [a1d] at hg1
 have hcl:(gat t).ch.length<=800:=by unfold gat;omega
 have hgl:(gat t).vs.length<=800:=by unfold gat;omega
 have hh2:=Hp.freeze (W':=(0,[.nils,.int .i64 0,.nils,.nils,.nils,.nils,.bool false])::(2,[d,.int .i64 (((gat t).vs.length:Nat):Int),dc,dv,.nils,ds,.bool (gat t).dead])::(Ev++[])) (F:=Ec++Es) (Hp.set (A:=[(0,_)]) hh [d,.int .i64 (((gat t).vs.length:Nat):Int),dc,dv,.nils,ds,.bool (gat t).dead]) (by
  simp only [List.append_nil,List.cons_append,List.nil_append]
  refine .cons _ (.cons _ ?_)
  rw [<- List.append_assoc,<- List.append_assoc]
  exact List.perm_append_comm.append_right _)
 have fc:InR (fun s=>SN s 5 dc (a0d (gat t).ch)) (Ec++Es):=fun s hs=>rc.sn hs.left
 have fs:InR (fun s=>SN s 1 ds (Q0 (gat t).sf)) (Ec++Es):=fun s hs=>rs.sn hs.right
 rw [List.append_nil,List.append_nil] at hh2
 generalize Ec++Es=R0 at *
 refine a4H (P:=fun env s=>∃ (dv dp:D) (Ev Ep R:Hs) (ps:List (Pr×PrD)),MkI s d dc ds (((gat t).vs.length:Nat):Int) (gat t).dead [.nils,.int .i64 0,.nils,.nils,.nils,.nils,.bool false] R0 (gbt t).vs (gbt t).ps dv dp Ev Ep R ps/\(env.get 0=d/\env.get 2=.ptr 0 0/\env.get 5=.ptr 2 0)) ?_ ?_
 rotate_left
 ·clear hE
  rintro env s ⟨dv,dp,Ev,Ep,R,ps,hI,hE⟩
  have ov:=hI.v.one
  have op:=hI.p.one
  have hM:=Hp.get (A:=[(0,_)]) hI.h
  have hZ:=Hp.get (A:=[]) hI.h
  have hMl:=k4 hM
  have hZl:=k4 hZ
  simp only [O5]
  try refine zW (aN hE (aN hM (aN hZ (aN od (aN oc (aN ov (aN os op))))))) ?_
  have hf:=Hp.set (A:=[]) hI.h [d,.int .i64 (((gat t).vs.length:Nat):Int),dc,dv,dp,ds,.bool (gat t).dead]
  have hrr:∀x∈R0,x∈R:=hI.sub
  refine ⟨.inr trivial,_,?_,.inr ⟨(hp rfl).1,(hp rfl).2,⟨d,dc,dv,dp,ds,(((gat t).vs.length:Nat):Int),(gat t).dead⟩,ps,rfl,?_,by rcases hI.p with ⟨e,_⟩ | ⟨id,e,_⟩<;>simp [e]⟩⟩
  ·simp only [S7,U6,V6,Env.get,Nat.reduceEqDiff,↓reduceIte,hE,P8 hZl]
   rfl
  ·refine ⟨hT,fc _ fun x hx=>hf.r x (hrr x hx),hI.v.sn fun x hx=>hf.w x (by simp [hx]),hI.p.sn fun x hx=>hf.w x (by simp [hx]),hI.eq,fun q hq=>hI.at' q hq _ hf.r,fs _ fun x hx=>hf.r x (hrr x hx),rfl,rfl⟩
 refine a0l (Q:=M7 3 _) (fun n env s=>∃ (i:Nat) (dv dp:D) (Ev Ep R:Hs) (ps:List (Pr×PrD)),i<=(nd t 0).kids.length/\n=(nd t 0).kids.length-i /\
  MkI s d dc ds (((gat t).vs.length:Nat):Int) (gat t).dead [.nils,.int .i64 0,.nils,.nils,.nils,.nils,.bool false] R0 (pass2 t (chs t) (gat t).vs ((nd t 0).ks.take i)).vs (pass2 t (chs t) (gat t).vs ((nd t 0).ks.take i)).ps dv dp Ev Ep R ps/\(pass2 t (chs t) (gat t).vs ((nd t 0).ks.take i)).vs.length<=800+3200*i/\ps.length<=4*i /\
  (env.get 0=d/\env.get 2=.ptr 0 0/\env.get 5=.ptr 2 0/\env.get 8=.int .i64 ((pass2 t (chs t) (gat t).vs ((nd t 0).ks.take i)).seen:Int)/\env.get 9=.int .i64 (i:Int))) ?_ (nd t 0).kids.length _ _ ?_
 rotate_left
 ·refine ⟨0,dv,.nils,Ev,[],R0,[],by omega,rfl,⟨rv,.inl ⟨rfl,rfl,rfl⟩,rfl,by simp,fun _ h=>h,by rw [List.append_nil];exact hh2⟩,?_,by simp,by simp [Env.get,hE];rfl⟩
  show (gat t).vs.length<=_
  omega
 clear hh2 hE hM hMl rv ov hvl hh
 rintro n env s ⟨i,dv,dp,Ev,Ep,R,ps,hi,rfl,hI,hvb,hpb,hE⟩
 have ov:=hI.v.one
 have op:=hI.p.one
 have hM:=Hp.get (A:=[(0,_)]) hI.h
 have hMl:=k4 hM
 by_cases c1:i<(nd t 0).kids.length
 rotate_left
 ·have c1':((i:Int)<((nd t 0).kids.length:Int))=False:=eq_false (by omega)
  obtain rfl:i=(nd t 0).kids.length:=by omega
  have hall:(nd t 0).ks.take (nd t 0).kids.length=(nd t 0).ks:=by rw [<- a1d,List.take_length]
  rw [hall] at hI
  try refine zW (aN hE (aN hM (aN o1 (aN o2 (aN o3 (aN h0 (aN hkl (aN c1' od)))))))) ?_
  exact ⟨trivial,dv,dp,Ev,Ep,R,ps,hI,(rG hE)⟩
 have c1':((i:Int)<((nd t 0).kids.length:Int))=True:=eq_true (by omega)
 have hs:IntKind.i64.wrap ((i:Int)+1)=((i+1:Nat):Int):=by rw [P1 (by omega) (by omega)];omega
 have hki:=a0W hT hR.ok (k:=0) (by omega) c1
 have hkm:=Z3 c1
 have hkt:=b1i c1
 have hkg:=a3r (x:=nd t 0) (i:=i) (by rw [a1d];exact c1)
 generalize hK:(nd t 0).kid i=K at *
 obtain ⟨K1,K2,bK,bw,bl,bl2,bkf⟩:=hR.item hkm
 have hidx:=hT.at (z:=(K:Int)) (by omega) (by omega) (k:=.i64)
 rw [Int.toNat_natCast] at hidx
 have on:=a0L hT K2
 have hno:=hR.ok.node K K2
 have hnx:pass2 t (chs t) (gat t).vs ((nd t 0).ks.take (i+1))=Z0 t (chs t) (pass2 t (chs t) (gat t).vs ((nd t 0).ks.take i)) K:=by rw [hkt,b0q]
 obtain ⟨tk1,tk2,tk3⟩:=b3H t (chs t) i
 generalize pass2 t (chs t) (gat t).vs ((nd t 0).ks.take i)=b at *
 have hN:=hI.h.newR (.cells [.int .i64 0,.nils,.nils,.nils,.int .i64 0]) [.int .i64 (nd t K).kind,(nd t K).dw,(nd t K).dn,(nd t K).dk,.int .i64 (nd t K).pos]
 have hIn:MkI ((s.push (.cells [.int .i64 0,.nils,.nils,.nils,.int .i64 0])).set s.next (some (.cells [.int .i64 (nd t K).kind,(nd t K).dw,(nd t K).dn,(nd t K).dk,.int .i64 (nd t K).pos]))) d dc ds (((gat t).vs.length:Nat):Int) (gat t).dead [.nils,.int .i64 0,.nils,.nils,.nils,.nils,.bool false] R0 b.vs b.ps dv dp Ev Ep ((s.next,[.int .i64 (nd t K).kind,(nd t K).dw,(nd t K).dn,(nd t K).dk,.int .i64 (nd t K).pos])::R) ps :=
  ⟨hI.v,hI.p,hI.eq,fun q hq=>(hI.at' q hq).mono fun x hx=>by simp [hx],fun x hx=>by simp [hI.sub x hx],hN⟩
 by_cases q3:(nd t K).kind=3
 rotate_left
 ·have q3':((nd t K).kind==3)=false:=by rw [beq_eq_false_iff_ne];exact q3
  by_cases q2:(nd t K).kind=2
  ·have q2':((nd t K).kind==2)=true:=by rw [q2];rfl
   have hs2:IntKind.i64.wrap ((b.seen:Int)+1)=((b.seen+1:Nat):Int):=by rw [P1 (by omega) (by omega)];omega
   have e:Z0 t (chs t) b K=⟨b.seen+1,b.vs,b.ps⟩:=by unfold Z0;rw [if_neg q3,if_pos q2]
   rw [e] at hnx
   try refine zW (aN hE (aN hM (aN o1 (aN o2 (aN o3 (aN h0 (aN hkl (aN c1' (aN hki (aN hidx (aN on (aN q2' (aN od hs2))))))))))))) ?_
   refine a61 ?_
   try refine zW (aN q3' (aN hE hs)) ?_
   exact ⟨(nd t 0).kids.length-(i+1),by omega,i+1,dv,dp,Ev,Ep,_,ps,by omega,rfl,by rw [hnx];exact hIn,by rw [hnx];show b.vs.length<=_;omega,by omega,by simp only [Env.get,Nat.reduceEqDiff,↓reduceIte,hE,hnx,and_self]⟩
  ·have q2':((nd t K).kind==2)=false:=by rw [beq_eq_false_iff_ne];exact q2
   have e:Z0 t (chs t) b K=b:=by unfold Z0;rw [if_neg q3,if_neg q2]
   rw [e] at hnx
   try refine zW (aN hE (aN hM (aN o1 (aN o2 (aN o3 (aN h0 (aN hkl (aN c1' (aN hki (aN hidx (aN on (aN q2' od)))))))))))) ?_
   refine a61 ?_
   try refine zW (aN q3' (aN hE hs)) ?_
   exact ⟨(nd t 0).kids.length-(i+1),by omega,i+1,dv,dp,Ev,Ep,_,ps,by omega,rfl,by rw [hnx];exact hIn,by rw [hnx];omega,by omega,by simp only [Env.get,Nat.reduceEqDiff,↓reduceIte,hE,hnx,and_self]⟩
 have q3':((nd t K).kind==3)=true:=by rw [q3];rfl
 have q2':((nd t K).kind==2)=false:=by rw [q3];rfl
 have e:Z0 t (chs t) b K=⟨b.seen,(U0 t (chs t) K b.seen ((nd t K).num 0).toNat (b.vs,b.ps)).1,(U0 t (chs t) K b.seen ((nd t K).num 0).toNat (b.vs,b.ps)).2⟩:=by unfold Z0;rw [if_pos q3]
 rw [e] at hnx
 have hcop:=a8Q hR (hp rfl).2 hkm q3
 try refine zW (aN hE (aN hM (aN o1 (aN o2 (aN o3 (aN h0 (aN hkl (aN c1' (aN hki (aN hidx (aN on (aN q2' od)))))))))))) ?_
 generalize hB0:s.next=B0 at *
 generalize (s.push (.cells [.int .i64 0,.nils,.nils,.nils,.int .i64 0])).set B0 (some (.cells [.int .i64 (nd t K).kind,(nd t K).dw,(nd t K).dn,(nd t K).dk,.int .i64 (nd t K).pos]))=s1 at *
 have hmem:(B0,[D.int .i64 (nd t K).kind,(nd t K).dw,(nd t K).dn,(nd t K).dk,.int .i64 (nd t K).pos])∈(B0,[D.int .i64 (nd t K).kind,(nd t K).dw,(nd t K).dn,(nd t K).dk,.int .i64 (nd t K).pos])::R:=by simp
 generalize (B0,[D.int .i64 (nd t K).kind,(nd t K).dw,(nd t K).dn,(nd t K).dk,.int .i64 (nd t K).pos])::R=R1 at *
 have hw:=a2W hT K2 (i:=0)
 have n0:=a21 hT K2 (i:=0)
 have z0:((0:Nat):Int)=0:=rfl
 rw [hno.wl,z0,q3] at hw
 rw [hno.nl,z0,q3] at n0
 have hw:=hw (by decide)
 have n0:=n0 (by decide)
 refine a4H (P:=fun env s=>∃ (dv dp:D) (Ev Ep R:Hs) (ps:List (Pr×PrD)),MkI s d dc ds (((gat t).vs.length:Nat):Int) (gat t).dead [.nils,.int .i64 0,.nils,.nils,.nils,.nils,.bool false] R0 (U0 t (chs t) K b.seen ((nd t K).num 0).toNat (b.vs,b.ps)).1 (U0 t (chs t) K b.seen ((nd t K).num 0).toNat (b.vs,b.ps)).2 dv dp Ev Ep R ps/\(U0 t (chs t) K b.seen ((nd t K).num 0).toNat (b.vs,b.ps)).1.length<=800+3200*(i+1)/\ps.length<=4*(i+1)/\(env.get 0=d/\env.get 2=.ptr 0 0/\env.get 5=.ptr 2 0/\env.get 8=.int .i64 (b.seen:Int)/\env.get 9=.int .i64 (i:Int))) ?_ ?_
 rotate_left
 ·clear hE
  rintro env s ⟨dv,dp,Ev,Ep,R,ps,hI,l1,l2,hE⟩
  simp only [O5,M7]
  try refine zW (aN hE hs) ?_
  exact ⟨(nd t 0).kids.length-(i+1),by omega,i+1,dv,dp,Ev,Ep,R,ps,by omega,rfl,by rw [hnx];exact hI,by rw [hnx];exact l1,l2,by simp only [Env.get,Nat.reduceEqDiff,↓reduceIte,hE,hnx,and_self]⟩
 refine a0l (Q:=M7 5 _) (fun n env s=>∃ (c:Nat) (dv dp:D) (Ev Ep R:Hs) (ps:List (Pr×PrD)),(c:Int)<=(nd t K).num 0/\n=((nd t K).num 0).toNat-c /\
  MkI s d dc ds (((gat t).vs.length:Nat):Int) (gat t).dead [.nils,.int .i64 0,.nils,.nils,.nils,.nils,.bool false] R0 (U0 t (chs t) K b.seen c (b.vs,b.ps)).1 (U0 t (chs t) K b.seen c (b.vs,b.ps)).2 dv dp Ev Ep R ps /\
  (B0,[D.int .i64 (nd t K).kind,(nd t K).dw,(nd t K).dn,(nd t K).dk,.int .i64 (nd t K).pos])∈R/\(U0 t (chs t) K b.seen c (b.vs,b.ps)).1.length<=800+3200*i+800*c/\ps.length<=4*i+c /\
  (env.get 0=d/\env.get 2=.ptr 0 0/\env.get 5=.ptr 2 0/\env.get 8=.int .i64 (b.seen:Int)/\env.get 9=.int .i64 (i:Int)/\env.get 10=.ptr B0 0/\env.get 11=.int .i64 (c:Int))) ?_ ((nd t K).num 0).toNat _ _ ?_
 rotate_left
 ·exact ⟨0,dv,dp,Ev,Ep,R1,ps,by omega,rfl,hIn,hmem,by simpa [U0] using hvb,by omega,by simp [Env.get,hE,P5.at]⟩
 clear hE hM hMl hIn hI hmem hN ov op
 rintro n env s ⟨c,dv,dp,Ev,Ep,R,ps,hc0,rfl,hI,hmem,hvb,hpb,hE⟩
 have ov:=hI.v.one
 have op:=hI.p.one
 have hM:=Hp.get (A:=[(0,_)]) hI.h
 have hMl:=k4 hM
 have hB:=hI.h.r _ hmem
 have hBl:=k4 hB
 simp only at hB hBl
 by_cases c2:(c:Int)<(nd t K).num 0
 rotate_left
 ·have c2':((c:Int)<(nd t K).num 0)=False:=eq_false c2
  have e:c=((nd t K).num 0).toNat:=by omega
  try refine zW (aN hE (aN hB (aN q3' (aN n0 (aN c2' on))))) ?_
  rw [e] at hI hvb
  exact ⟨trivial,dv,dp,Ev,Ep,R,ps,hI,by omega,by omega,(rG hE)⟩
 have c2':((c:Int)<(nd t K).num 0)=True:=eq_true c2
 have hsc:IntKind.i64.wrap ((c:Int)+1)=((c+1:Nat):Int):=by rw [P1 (by omega) (by omega)];omega
 obtain ⟨ct1,ct2⟩:=a9w (t:=t) (ch:=chs t) (k:=K) (c:=c) (a:=(b.vs,b.ps)) tk2
 simp only at ct1 ct2
 have hcn1:(U0 t (chs t) K b.seen (c+1) (b.vs,b.ps)).1=(U0 t (chs t) K b.seen c (b.vs,b.ps)).1++(T8 t (nd t K)).map a08:=rfl
 have hcn2:(U0 t (chs t) K b.seen (c+1) (b.vs,b.ps)).2=(U0 t (chs t) K b.seen c (b.vs,b.ps)).2++[a2p t (chs t) K b.seen c (U0 t (chs t) K b.seen c (b.vs,b.ps)).1]:=rfl
 generalize U0 t (chs t) K b.seen c (b.vs,b.ps)=a at *
 try refine zW (aN hE (aN hB (aN q3' (aN n0 (aN c2' (aN on hw)))))) ?_
 have hW:=(hI.h.pushR [.bool false,.bool true]).newW (.cells [.str (bs []),.int .i64 0,.nils,.int .i64 0,.nils,.nils,.nils,.nils]) [.str ((nd t K).word 0),.int .i64 (c:Int),.nils,.int .i64 2,.arr s.next 0 2 1,.nils,.nils,.nils]
 simp only [i8.next_push] at hW
 generalize hs2:((s.push (.cells [.bool false,.bool true])).push (.cells [.str (bs []),.int .i64 0,.nils,.int .i64 0,.nils,.nils,.nils,.nils])).set (s.next+1) (some (.cells [.str ((nd t K).word 0),.int .i64 (c:Int),.nils,.int .i64 2,.arr s.next 0 2 1,.nils,.nils,.nils]))=s2 at *
 have hsub0:∀x∈R,x∈(s.next,[D.bool false,.bool true])::R:=fun x hx=>by simp [hx]
 have hrest:(s.next,[D.bool false,.bool true])∈(s.next,[D.bool false,.bool true])::R:=by simp
 generalize (s.next,[D.bool false,.bool true])::R=R2 at *
 have hsubI:=hI.sub
 have hatI:=hI.at'
 have heqI:=hI.eq
 have rv:=hI.v
 have rp:=hI.p
 clear hI hM hMl hB hBl hs2
 refine a4H (P:=fun env s'=>∃ (dn dx:D) (En Ex:Hs),Rp dn 1 (W9 ((a.1.take b.seen).map Vr.name)) En/\Rp dx 1 (Q0 (List.range b.seen)) Ex /\
  Hp s' ((s.next+1,[.str ((nd t K).word 0),.int .i64 (c:Int),.nils,.int .i64 2,.arr s.next 0 2 1,.nils,dn,dx])::(0,[.nils,.int .i64 0,.nils,.nils,.nils,.nils,.bool false])::(2,[d,.int .i64 (((gat t).vs.length:Nat):Int),dc,dv,dp,ds,.bool (gat t).dead])::(Ev++(Ep++(En++Ex)))) R2 /\
  (env.get 0=d/\env.get 2=.ptr 0 0/\env.get 5=.ptr 2 0/\env.get 8=.int .i64 (b.seen:Int)/\env.get 9=.int .i64 (i:Int)/\env.get 10=.ptr B0 0/\env.get 11=.int .i64 (c:Int)/\env.get 12=.ptr (s.next+1) 0)) ?_ ?_
 ·refine a0l (Q:=M7 7 _) (fun n env s'=>∃ (v:Nat) (dn dx:D) (En Ex:Hs),v<=b.seen/\n=b.seen-v/\Rp dn 1 (W9 ((a.1.take v).map Vr.name)) En/\Rp dx 1 (Q0 (List.range v)) Ex /\
   Hp s' ((s.next+1,[.str ((nd t K).word 0),.int .i64 (c:Int),.nils,.int .i64 2,.arr s.next 0 2 1,.nils,dn,dx])::(0,[.nils,.int .i64 0,.nils,.nils,.nils,.nils,.bool false])::(2,[d,.int .i64 (((gat t).vs.length:Nat):Int),dc,dv,dp,ds,.bool (gat t).dead])::(Ev++(Ep++(En++Ex)))) R2 /\
   (env.get 0=d/\env.get 2=.ptr 0 0/\env.get 5=.ptr 2 0/\env.get 8=.int .i64 (b.seen:Int)/\env.get 9=.int .i64 (i:Int)/\env.get 10=.ptr B0 0/\env.get 11=.int .i64 (c:Int)/\env.get 12=.ptr (s.next+1) 0/\env.get 13=.int .i64 (v:Int))) ?_ b.seen _ _ ?_
  rotate_left
  ·exact ⟨0,.nils,.nils,[],[],by omega,rfl,.inl ⟨rfl,rfl,rfl⟩,.inl ⟨rfl,rfl,rfl⟩,by simpa only [List.append_nil] using hW,by simp [Env.get,hE,P5.at]⟩
  clear hE hW
  rintro n env s' ⟨v,dn,dx,En,Ex,hv,rfl,rn,rx,hh,hE⟩
  by_cases c3:v<b.seen
  rotate_left
  ·have c3':((v:Int)<(b.seen:Int))=False:=eq_false (by omega)
   obtain rfl:v=b.seen:=by omega
   try refine zW (aN hE c3') ?_
   exact ⟨trivial,dn,dx,En,Ex,rn,rx,hh,(rG hE)⟩
  have c3':((v:Int)<(b.seen:Int))=True:=eq_true (by omega)
  have hsv:IntKind.i64.wrap ((v:Int)+1)=((v+1:Nat):Int):=by rw [P1 (by omega) (by omega)];omega
  have hP:=Hp.get (A:=[]) hh
  have hM:=Hp.get (A:=[(s.next+1,_),(0,_)]) hh
  have hPl:=k4 hP
  have hMl:=k4 hM
  have o5:=rn.one
  have o6:=rx.one
  have hva:v<a.1.length:=by omega
  obtain ⟨idv,rfl,rfl⟩:=rv.arr (by simp;omega)
  have hV:=hh.w (idv,(X2 a.1).flatten) (by simp)
  simp only at hV
  have hVl:=k4 hV
  have hfl:=c1J hva
  have hrl:v<(X2 a.1).length:=by simpa using hva
  have hmn:2≠s.next+1:=by
   have:=hh.nd
   simp only [List.map_cons,List.nodup_cons,List.mem_cons] at this
   omega
  try refine zW (aN hE (aN c3' (aN hP (aN hM (aN hV (aN o5 (aN o6 (aN op (aN oc (aN os (aN od hfl))))))))))) ?_
  refine a07 (Rp.app (row:=[.str a.1[v].name]) (A:=[(s.next+1,_),(0,_),(2,_)]++[(idv,(X2 a.1).flatten)]++Ep) (B:=Ex) rn (by simpa only [List.append_assoc,List.cons_append,List.nil_append] using (hh.push _)) (O4 rfl) rfl (a6w _) (by decide) (by simp;omega)) rfl rfl ?_
  rintro d' s'' ⟨E',rn',hh',hn'⟩
  have od':=rn'.one
  simp only [List.append_assoc,List.cons_append,List.nil_append] at hh'
  have hP':=Hp.get (A:=[]) hh'
  have hPl':=k4 hP'
  have hh2:=Hp.set (A:=[]) hh' [.str ((nd t K).word 0),.int .i64 (c:Int),.nils,.int .i64 2,.arr s.next 0 2 1,.nils,d',dx]
  try refine zW (aN hE (aN hP' (aN od' o6))) ?_
  refine a07 (Rp.app (row:=[.int .i64 (v:Int)]) (A:=[(s.next+1,_),(0,_),(2,_)]++[(idv,(X2 a.1).flatten)]++Ep++E') (B:=[]) rx (by simpa only [List.append_assoc,List.cons_append,List.nil_append,List.append_nil] using (hh2.push _)) (O4 rfl) rfl (a2q _) (by decide) (by simp;omega)) rfl rfl ?_
  clear hP' hPl' hh'
  rintro d2 s3 ⟨E2,rx',hh',hn''⟩
  have od2:=rx'.one
  simp only [List.append_assoc,List.cons_append,List.nil_append,List.append_nil] at hh'
  have hP':=Hp.get (A:=[]) hh'
  have hPl':=k4 hP'
  try refine zW (aN hE (aN hP' (aN od' (aN od2 hsv)))) ?_
  have hh3:=Hp.set (A:=[]) hh' [.str ((nd t K).word 0),.int .i64 (c:Int),.nils,.int .i64 2,.arr s.next 0 2 1,.nils,d',d2]
  refine ⟨b.seen-(v+1),by omega,v+1,d',d2,E',E2,by omega,rfl,?_,?_,hh3,(rG hE)⟩
  ·rw [b4p hva,<- a94];exact rn'
  ·rw [List.range_succ,<- a5W];exact rx'
 clear hE hW
 rintro env s3 ⟨dn,dx,En,Ex,rn,rx,hh,hE⟩
 simp only [O5]
 have hkk:=FI.len (hT.nd K2).k
 have hkl2:=bkf.length
 have hll:=a5q t (nd t K)
 rw [a1d] at hll
 try refine zW hE ?_
 refine a4H (P:=fun env s'=>∃ (dl dn dx dv:D) (El En Ex Ev:Hs),Rp dl 1 (Q0 ((List.range (N5 t (nd t K))).map (a.1.length+·))) El/\Rp dn 1 (W9 ((a.1.take b.seen).map Vr.name++((T8 t (nd t K)).take (N5 t (nd t K))).map fun y=>y.word 0)) En/\Rp dx 1 (Q0 (List.range b.seen++(List.range (N5 t (nd t K))).map (a.1.length+·))) Ex/\Rp dv 3 (X2 (a.1++((T8 t (nd t K)).take (N5 t (nd t K))).map a08)) Ev /\
  Hp s' ((s.next+1,[.str ((nd t K).word 0),.int .i64 (c:Int),dl,.int .i64 2,.arr s.next 0 2 1,.nils,dn,dx])::(0,[.nils,.int .i64 0,.nils,.nils,.nils,.nils,.bool false])::(2,[d,.int .i64 (((gat t).vs.length:Nat):Int),dc,dv,dp,ds,.bool (gat t).dead])::(Ev++(Ep++(El++(En++Ex))))) R2 /\
  (env.get 0=d/\env.get 2=.ptr 0 0/\env.get 5=.ptr 2 0/\env.get 8=.int .i64 (b.seen:Int)/\env.get 9=.int .i64 (i:Int)/\env.get 10=.ptr B0 0/\env.get 11=.int .i64 (c:Int)/\env.get 12=.ptr (s.next+1) 0/\env.get 14=.int .i64 (((N5 t (nd t K)):Nat):Int))) ?_ ?_
 ·refine a0l (Q:=M7 9 _) (fun n env s'=>∃ (k:Nat) (dl dn dx dv:D) (El En Ex Ev:Hs),k<=N5 t (nd t K)/\n=N5 t (nd t K)-k/\Rp dl 1 (Q0 ((List.range k).map (a.1.length+·))) El/\Rp dn 1 (W9 ((a.1.take b.seen).map Vr.name++((T8 t (nd t K)).take k).map fun y=>y.word 0)) En/\Rp dx 1 (Q0 (List.range b.seen++(List.range k).map (a.1.length+·))) Ex/\Rp dv 3 (X2 (a.1++((T8 t (nd t K)).take k).map a08)) Ev /\
   Hp s' ((s.next+1,[.str ((nd t K).word 0),.int .i64 (c:Int),dl,.int .i64 2,.arr s.next 0 2 1,.nils,dn,dx])::(0,[.nils,.int .i64 0,.nils,.nils,.nils,.nils,.bool false])::(2,[d,.int .i64 (((gat t).vs.length:Nat):Int),dc,dv,dp,ds,.bool (gat t).dead])::(Ev++(Ep++(El++(En++Ex))))) R2 /\
   (env.get 0=d/\env.get 2=.ptr 0 0/\env.get 5=.ptr 2 0/\env.get 8=.int .i64 (b.seen:Int)/\env.get 9=.int .i64 (i:Int)/\env.get 10=.ptr B0 0/\env.get 11=.int .i64 (c:Int)/\env.get 12=.ptr (s.next+1) 0/\env.get 14=.int .i64 ((k:Nat):Int))) ?_ (N5 t (nd t K)) _ _ ?_
  rotate_left
  ·exact ⟨0,.nils,dn,dx,dv,[],En,Ex,Ev,by omega,rfl,.inl ⟨rfl,rfl,rfl⟩,by simpa using rn,by simpa using rx,by simpa using rv,hh,by simp [Env.get,hE]⟩
  clear hE hh rn rx rv ov
  clear Ev dv dn dx En Ex
  rintro n env s' ⟨k,dl,dn,dx,dv,El,En,Ex,Ev,hk,rfl,rl,rn,rx,rv,hh,hE⟩
  have hB:=hh.r _ (hsub0 _ hmem)
  have hBl:=k4 hB
  simp only at hB hBl
  by_cases c3:k<N5 t (nd t K)
  rotate_left
  ·obtain rfl:k=N5 t (nd t K):=by omega
   by_cases c4:N5 t (nd t K)<(nd t K).kids.length
   ·have c4':((N5 t (nd t K):Int)<((nd t K).kids.length:Int))=True:=eq_true (by omega)
    have hki2:=a0W hT hR.ok K2 c4
    have hkm2:=Z3 c4
    have hJ:=hR.ok.ks K2 _ hkm2
    have hkd:(nd t ((nd t K).kid (N5 t (nd t K)))).kind≠2:=by
     have h1:N5 t (nd t K)<(nd t K).ks.length:=by rw [a1d];exact c4
     have:=b2Z h1
     rw [a3r h1] at this
     exact this
    generalize (nd t K).kid (N5 t (nd t K))=J at *
    have hidx2:=hT.at (z:=(J:Int)) (by omega) (by omega) (k:=.i64)
    rw [Int.toNat_natCast] at hidx2
    have hkd':((nd t J).kind==2)=false:=by rw [beq_eq_false_iff_ne];exact hkd
    try refine zW (aN hE (aN hB (aN hkk (aN c4' (aN hki2 (aN hidx2 (aN hkd' on))))))) ?_
    exact ⟨trivial,dl,dn,dx,dv,El,En,Ex,Ev,rl,rn,rx,rv,hh,(rG hE)⟩
   ·have c4':((N5 t (nd t K):Int)<((nd t K).kids.length:Int))=False:=eq_false (by omega)
    try refine zW (aN hE (aN hB (aN hkk (aN c4' on)))) ?_
    exact ⟨trivial,dl,dn,dx,dv,El,En,Ex,Ev,rl,rn,rx,rv,hh,(rG hE)⟩
  have c4:k<(nd t K).kids.length:=by omega
  have c4':((k:Int)<((nd t K).kids.length:Int))=True:=eq_true (by omega)
  have hki2:=a0W hT hR.ok K2 c4
  have hkm2:=Z3 c4
  have hJ:=hR.ok.ks K2 _ hkm2
  have hkd:(nd t ((nd t K).kid k)).kind=2:=by
   have h1:k<(nd t K).ks.length:=by rw [a1d];exact c4
   have:=a5C c3 h1
   rw [a3r h1] at this
   exact this
  have hlk:=c0V c3
  generalize (nd t K).kid k=J at *
  have hidx2:=hT.at (z:=(J:Int)) (by omega) (by omega) (k:=.i64)
  rw [Int.toNat_natCast] at hidx2
  have hkd':((nd t J).kind==2)=true:=by rw [hkd];rfl
  have onJ:=a0L hT hJ.2
  have hnJ:=hR.ok.node J hJ.2
  have hwJ:=a2W hT hJ.2 (i:=0)
  have n0J:=a21 hT hJ.2 (i:=0)
  have n1J:=a21 hT hJ.2 (i:=1)
  have e1:((1:Nat):Int)=1:=rfl
  rw [hnJ.wl,z0,hkd] at hwJ
  rw [hnJ.nl,z0,hkd] at n0J
  rw [hnJ.nl,e1,hkd] at n1J
  have hwJ:=hwJ (by decide)
  have n0J:=n0J (by decide)
  have n1J:=n1J (by decide)
  have hsk:IntKind.i64.wrap ((k:Int)+1)=((k+1:Nat):Int):=by rw [P1 (by omega) (by omega)];omega
  have hP:=Hp.get (A:=[]) hh
  have hM:=Hp.get (A:=[(s.next+1,_),(0,_)]) hh
  have hPl:=k4 hP
  have hMl:=k4 hM
  have ov:=rv.one
  have hvl:=rv.len
  have hlt:((T8 t (nd t K)).take k).length=k:=by rw [List.length_take,a18];omega
  rw [a8M,List.length_append,List.length_map,hlt] at hvl
  have o5:=rn.one
  have o6:=rx.one
  have o7:=rl.one
  have hmn:2≠s.next+1:=by
   have:=hh.nd
   simp only [List.map_cons,List.nodup_cons,List.mem_cons] at this
   omega
  have hh1:=hh.newR (.cells [.int .i64 0,.nils,.nils,.nils,.int .i64 0]) [.int .i64 (nd t J).kind,(nd t J).dw,(nd t J).dn,(nd t J).dk,.int .i64 (nd t J).pos]
  try refine zW (aN hE (aN hB (aN hkk (aN c4' (aN hki2 (aN hidx2 (aN hkd' (aN on (aN onJ (aN hP (aN hM (aN o5 (aN o6 (aN o7 (aN od (aN oc (aN ov (aN op (aN os hvl))))))))))))))))))) ?_
  refine a07 (Rp.app (row:=[.int .i64 ((a.1.length+k:Nat):Int)]) (A:=[(s.next+1,_),(0,_),(2,_)]++Ev++Ep) (B:=En++Ex) rl (by simpa only [List.append_assoc,List.cons_append,List.nil_append,List.append_nil] using (hh1.push _)) (O4 rfl) rfl (a2q _) (by decide) (by simp;omega)) rfl rfl ?_
  rintro d1 s1 ⟨E1,rl',hh2,hn1⟩
  clear hh hh1 hP hPl hM hMl
  have od1:=rl'.one
  simp only [List.append_assoc,List.cons_append,List.nil_append,List.append_nil] at hh2
  have hP:=Hp.get (A:=[]) hh2
  have hPl:=k4 hP
  have hX:=hh2.r _ (List.mem_cons_self)
  have hXl:=k4 hX
  simp only at hX hXl
  have hPX:s.next+1≠s'.next:=hh2.ap _ (List.mem_cons_self) _ (List.mem_cons_self)
  have hh3:=Hp.set (A:=[]) hh2 [.str ((nd t K).word 0),.int .i64 (c:Int),d1,.int .i64 2,.arr s.next 0 2 1,.nils,dn,dx]
  try refine zW (aN hE (aN hP (aN hX (aN onJ (aN hwJ (aN od1 (aN o5 o6))))))) ?_
  refine a07 (Rp.app (row:=[.str ((nd t J).word 0)]) (A:=[(s.next+1,_),(0,_),(2,_)]++Ev++Ep++E1) (B:=Ex) rn (by simpa only [List.append_assoc,List.cons_append,List.nil_append,List.append_nil] using (hh3.push _)) (O4 rfl) rfl (a6w _) (by decide) (by simp;omega)) rfl rfl ?_
  rintro d2 s2 ⟨E2,rn',hh4,hn2⟩
  clear hh2 hh3 hP hPl hX hXl
  have od2:=rn'.one
  simp only [List.append_assoc,List.cons_append,List.nil_append,List.append_nil] at hh4
  have hP:=Hp.get (A:=[]) hh4
  have hM:=Hp.get (A:=[(s.next+1,_),(0,_)]) hh4
  have hPl:=k4 hP
  have hMl:=k4 hM
  have hh5:=Hp.set (A:=[]) hh4 [.str ((nd t K).word 0),.int .i64 (c:Int),d1,.int .i64 2,.arr s.next 0 2 1,.nils,d2,dx]
  try refine zW (aN hE (aN hP (aN hM (aN od1 (aN od2 (aN o6 (aN od (aN oc (aN ov (aN op (aN os hvl))))))))))) ?_
  refine a07 (Rp.app (row:=[.int .i64 ((a.1.length+k:Nat):Int)]) (A:=[(s.next+1,_),(0,_),(2,_)]++Ev++Ep++E1++E2) (B:=[]) rx (by simpa only [List.append_assoc,List.cons_append,List.nil_append,List.append_nil] using (hh5.push _)) (O4 rfl) rfl (a2q _) (by decide) (by simp;omega)) rfl rfl ?_
  rintro d3 s3 ⟨E3,rx',hh6,hn3⟩
  clear hh4 hh5 hP hPl hM hMl
  have od3:=rx'.one
  simp only [List.append_assoc,List.cons_append,List.nil_append,List.append_nil] at hh6
  have hP:=Hp.get (A:=[]) hh6
  have hPl:=k4 hP
  have hh7:=Hp.set (A:=[]) hh6 [.str ((nd t K).word 0),.int .i64 (c:Int),d1,.int .i64 2,.arr s.next 0 2 1,.nils,d2,d3]
  have hM:=Hp.get (A:=[(s.next+1,_),(0,_)]) hh6
  have hMl:=k4 hM
  have hX:=hh6.r _ (List.mem_cons_self)
  have hXl:=k4 hX
  simp only at hX hXl
  try refine zW (aN hE (aN hP (aN hM (aN hX (aN onJ (aN hwJ (aN n0J (aN n1J (aN od1 (aN od2 (aN od3 (aN od (aN oc (aN ov (aN op (aN os hvl)))))))))))))))) ?_
  refine a07 (Rp.app (row:=(a08 (nd t J)).row) (A:=[(s.next+1,_),(0,_),(2,_)]) (B:=Ep++(E1++(E2++E3))) rv (by simpa only [List.append_assoc,List.cons_append,List.nil_append,List.append_nil] using (hh7.push _)) (O4 rfl) rfl (a6D _) (by decide) (by simp;omega)) rfl rfl ?_
  rintro d4 s4 ⟨E4,rv',hh8,hn4⟩
  clear hh6 hh7 hP hPl hM hMl hX hXl
  have od4:=rv'.one
  simp only [List.append_assoc,List.cons_append,List.nil_append,List.append_nil] at hh8
  have hM:=Hp.get (A:=[(s.next+1,_),(0,_)]) hh8
  have hMl:=k4 hM
  have hh9:=Hp.set (A:=[(s.next+1,_),(0,_)]) hh8 [d,.int .i64 (((gat t).vs.length:Nat):Int),dc,d4,dp,ds,.bool (gat t).dead]
  try refine zW (aN hE (aN hM (aN od (aN oc (aN od4 (aN op (aN os hsk))))))) ?_
  refine ⟨N5 t (nd t K)-(k+1),by omega,k+1,d1,d2,d3,d4,E1,E2,E3,E4,by omega,rfl,?_,?_,?_,?_,?_,(rG hE)⟩
  ·rw [a9r,<- a5W];exact rl'
  ·rw [hlk,List.map_append,<- List.append_assoc,List.map_singleton,<- a94];exact rn'
  ·rw [a9r,<- List.append_assoc,<- a5W];exact rx'
  ·rw [hlk,List.map_append,<- List.append_assoc,List.map_singleton,<- b0B];exact rv'
  ·exact hh9.sub (List.Sublist.refl _) fun x hx=>by simp [hx]
 clear hE hh rn rx rv ov
 clear Ev dv dn dx En Ex
 rintro env s3 ⟨dl,dn,dx,dv,El,En,Ex,Ev,rl,rn,rx,rv,hh,hE⟩
 have hlt:(T8 t (nd t K)).take (N5 t (nd t K))=T8 t (nd t K):=by rw [<- a18,List.take_length]
 rw [hlt] at rn rv
 have hB:=hh.r _ (hsub0 _ hmem)
 have hBl:=k4 hB
 simp only at hB hBl
 have hRst:=hh.r _ hrest
 simp only at hRst
 have hP:=Hp.get (A:=[]) hh
 have hM:=Hp.get (A:=[(s.next+1,_),(0,_)]) hh
 have hPl:=k4 hP
 have hMl:=k4 hM
 have ov:=rv.one
 have o5:=rn.one
 have o6:=rx.one
 have o7:=rl.one
 obtain ⟨dk',hsl,hdk'⟩:=FL.drop (hT.nd K2).k (n:=N5 t (nd t K)) (by simpa using hll) (k:=.i64)
 rw [<- List.map_drop] at hdk'
 have hdk':FI dk' ((nd t K).kids.drop (N5 t (nd t K))):=hdk'
 obtain ⟨b',hb1,hkf'⟩:=bkf.drop (N5 t (nd t K))
 have hsub:=(a2k 19 K2 bw).1
 have hsg:=b0P hR (hp rfl).1 (i:=i) (by rw [a1d];exact c1) hkg q3 hsub (seen:=b.seen) (c:=c) (vs:=a.1) (by rw [ct1,tk1]) (by omega)
 have hpc:=a5N (hno.proc q3)
 have hclo:∀j,j<t.length->(K<=j/\j<bK)->∀k∈(nd t j).ks,K<=k/\k<bK:=fun j _ hj k hk=>by
  obtain ⟨z,hz,rfl⟩:=List.mem_map.1 hk
  have:=hsub.down j hj.1 hj.2 z hz
  omega
 have hat:M5 s3 (pr0 (nd t K) c b.seen a.1 (T8 t (nd t K))) ⟨dl,.arr s.next 0 2 1,.nils,dn,dx⟩:=by
  refine ⟨?_,?_,.inl ⟨rfl,rfl⟩,?_,?_⟩
  ·show SN s3 1 dl (Q0 ((List.range (T8 t (nd t K)).length).map (a.1.length+·)))
   rw [a18]
   exact rl.sn fun x hx=>hh.w x (by simp [hx])
  ·exact SN.of (rows:=P0 [false,true]) hRst rfl
  ·exact rn.sn fun x hx=>hh.w x (by simp [hx])
  ·show SN s3 1 dx (Q0 (List.range b.seen++(List.range (T8 t (nd t K)).length).map (a.1.length+·)))
   rw [a18]
   exact rx.sn fun x hx=>hh.w x (by simp [hx])
 have hmd:a0j s3 ⟨d,dc,dv,dp,ds,(((gat t).vs.length:Nat):Int),(gat t).dead⟩ t (gat t).ch:=⟨hT,fc _ fun x hx=>hh.r x (hsub0 x (hsubI x hx)),ov,op,os⟩
 have hcal:=a8j (t:=t) (ch:=(gat t).ch) (names:=(pr0 (nd t K) c b.seen a.1 (T8 t (nd t K))).names) (vars:=(pr0 (nd t K) c b.seen a.1 (T8 t (nd t K))).vars) (f:=t.length+1) (node:=K) _ dk' b' bK hkf' hdk' (fun k hk=>by
  rw [List.map_drop] at hk
  have hst:=hpc.1 k hk
  have hkm:=List.mem_of_mem_drop hk
  have hkk:=hR.ok.ks K2 k hkm
  have hPk:=hclo K K2 ⟨Nat.le_refl _,bl⟩ k hkm
  exact ⟨a99 hR.ok (by omega) (by simp [pr0];omega) hclo hsg (t.length+1) k hkk.2 hPk hst (by omega),a5I hR.ok hclo hsg (t.length+1) k hkk.2 hPk hst (by omega),a6k hR.ok _ (t.length+1) k hkk.2 hst (by omega)⟩)
  s3 _ _ _ 0 1 hmd hat ⟨by simp [pr0],by simp [pr0],by simp [pr0]⟩ rfl rfl (by simp [pr0]) (by simp [pr0]) 2 ⟨by simp [pr0],by simp [pr0],by simp [pr0]⟩ (by omega)
 simp only [O5]
 repeat first
 |(refine a6I (o:=.slice _ _ _ _) (d:=dk') hsl ?_)
 |refine zW (aN hE (aN hP (aN hM (aN hB (aN on (aN od (aN oc (aN ov (aN op (aN os (aN o1 (aN o2 (aN o3 (aN o5 (aN o6 (aN o7 (aN h0 hki))))))))))))))))) ?_
 apply U2 hcal
 ·rfl
 have hq:a1b (y0 t ((gat t).ch.map Ch.name) (t.length+1)) K (pr0 (nd t K) c b.seen a.1 (T8 t (nd t K))) (((nd t K).kids.drop (N5 t (nd t K))).map Int.toNat) 0 1=a2p t (chs t) K b.seen c a.1:=by
  unfold a2p Nd.ks
  rw [List.map_drop]
  rfl
 rw [hq]
 clear hcal hq
 generalize a2p t (chs t) K b.seen c a.1=q at *
 rintro r s9 ⟨x9,rfl,f9,hp9,hz9⟩
 have hh9:=hh.fr f9
 have hP9:=Hp.get (A:=[]) hh9
 have hPl9:=k4 hP9
 have op9:=hp9.ones
 have hp10:M5 (s9.set (s.next+1) (some (.cells (j0 q x9)))) q x9:=hp9.set hP9
 have hh10:=Hp.set (A:=[]) hh9 (j0 q x9)
 obtain ⟨E,hE1,hE2,hE3⟩:=hp10.parts
 have hh11:=(hh10.sub (W':=(s.next+1,j0 q x9)::(0,[.nils,.int .i64 0,.nils,.nils,.nils,.nils,.bool false])::(2,[d,.int .i64 (((gat t).vs.length:Nat):Int),dc,dv,dp,ds,.bool (gat t).dead])::(Ev++Ep)) (R':=R2) (.cons_cons _ (.cons_cons _ (.cons_cons _ (List.Sublist.append_left (List.sublist_append_left _ _) _)))) fun _ hx=>hx).addR hE1 (by
  intro w hw x hx
  have hsl:=hE2 x hx
  simp only [List.mem_cons,List.mem_append] at hw
  rcases hw with rfl | rfl | rfl | hw | hw
  ·exact hsl.ne_si
  ·exact hsl.ne_nil
  ·exact hsl.ne_box hT
  ·obtain ⟨a,k,n,rest,e⟩:=rv.si (c0p _) w hw
   rw [e]
   exact hsl.ne_si
  ·obtain ⟨a,k,n,rest,e⟩:=rp.si (c0e _) w hw
   rw [e]
   exact hsl.ne_si)
 clear hh10 hP hPl hM hMl hh
 have hM:=Hp.get (A:=[(s.next+1,_),(0,_)]) hh11
 unfold j0 at hP9
 have hMl:=k4 hM
 repeat first
  |with_reducible first|apply vA|apply vB|apply vC
  |((with_reducible apply vD);(focus rfl))
  |((with_reducible first|apply vE|apply vF|apply vG|apply vH);simp only [Env.keep,Env.get,Env.ev,List.map,Nat.reduceEqDiff,↓reduceIte,O5,M7])
  |((with_reducible first|apply vI|apply vJ|apply vK|apply vL|apply vM|apply vN);(focus (simp (disch:=(first|with_reducible assumption|omega|((repeat (first|rw [nP]|rw [nS]))<;>omega)|fail)) only [go_sem,Env.ev,Env.get,↓reduceIte,hP9,hE,op9,j0]<;>rfl));(first|(with_reducible (first|apply vO|apply vP|apply vQ|apply vR|apply vS|apply vT|apply vU);try simp only [Env.put])|with_reducible refine (?_:WQ _ _ _ _ _ _)))
  |fail
 refine V0 (Φ:=fun s'=>s'=s9.set (s.next+1) (some (.cells (j0 q x9)))) rfl ?_
 rintro s10 rfl
 generalize s9.set (s.next+1) (some (.cells (j0 q x9)))=s10 at *
 have hP:=Hp.get (A:=[]) hh11
 unfold j0 at hP
 try refine zW (aN hE (aN hP (aN hM (aN op9 (aN od (aN oc (aN ov (aN op os)))))))) ?_
 refine a07 (Rp.app (sz:=8) (bytes:=152) (row:=j0 q x9) (A:=[(s.next+1,_),(0,_),(2,_)]++Ev) (B:=[]) rp (by simpa only [List.append_assoc,List.cons_append,List.nil_append,List.append_nil] using (hh11.push _)) (O4 rfl) rfl (b1Z _) (by decide) (by simp;omega)) rfl rfl ?_
 rintro d5 s5 ⟨E5,rp',hh12,hn5⟩
 have od5:=rp'.one
 simp only [List.append_assoc,List.cons_append,List.nil_append,List.append_nil] at hh12
 have hM5:=Hp.get (A:=[(s.next+1,_),(0,_)]) hh12
 have hMl5:=k4 hM5
 have hh13:=Hp.set (A:=[(s.next+1,_),(0,_)]) hh12 [d,.int .i64 (((gat t).vs.length:Nat):Int),dc,dv,d5,ds,.bool (gat t).dead]
 try refine zW (aN hE (aN hM5 (aN od5 (aN od (aN oc (aN ov (aN op (aN os hsc)))))))) ?_
 refine ⟨((nd t K).num 0).toNat-(c+1),by omega,c+1,dv,d5,Ev,E5,E++R2,ps++[(q,x9)],by omega,rfl,⟨by rw [hcn1];exact rv,by rw [<- b8S];exact rp',by rw [hcn2,List.map_append,heqI];rfl,?_,fun x hx=>List.mem_append_right _ (hsub0 x (hsubI x hx)),?_⟩,List.mem_append_right _ (hsub0 _ hmem),?_,?_,(rG hE)⟩
 ·intro y hy
  rcases List.mem_append.1 hy with hy | hy
  ·exact (hatI y hy).mono fun x hx=>List.mem_append_right _ (hsub0 x hx)
  ·simp only [List.mem_singleton] at hy
   subst hy
   exact hE3.mono fun x hx=>List.mem_append_left _ hx
 ·exact hh13.sub (List.sublist_cons_self _ _) fun _ hx=>hx
 ·rw [hcn1];simp only [List.length_append,List.length_map,a18];omega
 ·simp only [List.length_append,List.length_singleton];omega
end Go.Proofs.Ytlaeblilmppodaa
namespace Go.Proofs.Ytlaeblilmppodaa
open Go.V
set_option maxRecDepth 100000
set_option maxHeartbeats 4000000
end Go.Proofs.Ytlaeblilmppodaa
namespace Go.Proofs.Ytlaeblilmppodaa
open Go.V
set_option maxRecDepth 100000
set_option maxHeartbeats 4000000
end Go.Proofs.Ytlaeblilmppodaa
namespace Go.Proofs.Ytlaeblilmppodaa
open Go.V
set_option maxRecDepth 100000
theorem b4l:∃s',Ev vfs 23 [] i8.empty (.bool true) s':=S2 (n:=400) (by kernel_rfl)
end Go.Proofs.Ytlaeblilmppodaa
namespace Go.V
variable {fs:FuncId->Option o8}
def a1a (fs:FuncId->Option o8) (f:FuncId) (args:List D) (d:D):Prop:=∃r s1,Ev fs f args i8.empty r s1/\ice s1.get 20 r=some d
theorem a1a.det {f:FuncId} {args:List D} {d d':D} (h:a1a fs f args d) (k:a1a fs f args d'):d=d':=by
 obtain ⟨r,s1,h1,h2⟩:=h
 obtain ⟨r',s1',k1,k2⟩:=k
 obtain ⟨rfl,rfl⟩:=h1.det k1
 rw [h2] at k2
 exact Option.some.inj k2
def PZ (d:D):Prop:=U3 d=true/\Fz d
theorem FL.pz {sz:Nat} {d:D} {rows:List (List D)} (h:FL sz d rows):PZ d:=⟨h.pure,h.fz⟩
theorem b5X {l:List D} (h:∀d∈l,U3 d=true/\∀g n,ice g (n+2) d=some d):PZ (.agg l):=⟨by
 show pureL l=true
 induction l with
 | nil=>rfl
 | cons a r ih=>simp only [pureL,(h a (by simp)).1,Bool.true_and];exact ih fun d hd=>h d (by simp [hd]),a5a fun d hd=>(h d hd).2⟩
def End (Q:V2->Env->i8->Prop) (e:V2) (env:Env) (s:i8):Prop:=Q e env s
def RgK (vars:List Nat) (Q:V2->Env->i8->Prop) (env:Env) (s:i8):Prop:=End Q .normal (env.keep vars) s
abbrev Kt:=Env->i8->Prop
abbrev Ops:=List (Nat×N6)
abbrev Prs:=List (Nat×Nat)
def a5j (pairs:Prs) (ops:Ops):Bool:=ops.all fun o=>pairs.all fun p=>p.2 != o.1
def XQ (fs:FuncId->Option o8):Prs->Ops->Env->i8->Kt->Prop
 | _,[],env,s,K=>K env s
 | pairs,(i,⟨dst,op,g⟩)::rest,env,s,K =>
   let run:Prop:=match dst,op with
    | some t,.p o=>match evP env o with
      | some d=>XQ fs pairs rest ((t,d)::env) s K
      | none=>False
    | some t,.r o=>match evR env s.get o with
      | some d=>XQ fs pairs rest ((t,d)::env) s K
      | none=>False
    | some t,.a o=>match pairs with
      | []=>match evA env o with
        | some (ob,m)=>XQ fs [] rest ((t,m.at s.next)::env) (s.push ob) K
        | none=>False
      | p::ps=>if a5j (p::ps) ((i,⟨some t,.a o,none⟩)::rest)=true then (match evA env o with
        | some (ob,m)=>XQ fs [] rest ((t,m.at s.next)::env) (s.push ob) K
        | none=>False) else WQ fs (p::ps) ((i,⟨some t,.a o,none⟩)::rest) env s K
    | none,.w n a v=>match pairs with
      | []=>match evW env s.get n a v with
        | some (id,ob)=>XQ fs [] rest env (s.set id (some ob)) K
        | none=>False
      | p::ps=>if a5j (p::ps) ((i,⟨none,.w n a v,none⟩)::rest)=true then (match evW env s.get n a v with
        | some (id,ob)=>XQ fs [] rest env (s.set id (some ob)) K
        | none=>False) else WQ fs (p::ps) ((i,⟨none,.w n a v,none⟩)::rest) env s K
    | some t,.m o=>match o,pairs with
      | .call .iso (.cst (.fn f [])) args,pairs=>match M3 (ice s.get 20) (env.evL args) with
        | some l=>∃d,a1a fs f l d/\(Y1 d||pureL (env.evL args))=true/\XQ fs pairs rest ((t,d)::env) s K
        | none=>False
      | .append sz bytes a x,[]=>match S9 sz bytes (env.ev a) (env.ev x) s with
        | some (d,s')=>XQ fs [] rest ((t,d)::env) s' K
        | none=>False
      | .append sz bytes a x,p::ps=>if a5j (p::ps) ((i,⟨some t,.m (.append sz bytes a x),none⟩)::rest)=true then (match S9 sz bytes (env.ev a) (env.ev x) s with
        | some (d,s')=>XQ fs [] rest ((t,d)::env) s' K
        | none=>False) else WQ fs (p::ps) ((i,⟨some t,.m (.append sz bytes a x),none⟩)::rest) env s K
      | o,pairs=>WQ fs pairs ((i,⟨some t,.m o,none⟩)::rest) env s K
    | dst,op=>WQ fs pairs ((i,⟨dst,op,none⟩)::rest) env s K
   match g with
   | none=>run
   | some (r,b)=>Way (env.get r) b run (XQ fs pairs rest (env.put dst (.tup [])) s K)
def BP (r:Option D) (fs:FuncId->Option o8) (pairs:Prs) (t:Nat) (rest:Ops) (env:Env) (s:i8) (K:Kt):Prop:=match r with
 | some d=>XQ fs pairs rest ((t,d)::env) s K
 | none=>False
def BA (r:Option (M6×P5)) (fs:FuncId->Option o8) (t:Nat) (rest:Ops) (env:Env) (s:i8) (K:Kt):Prop:=match r with
 | some (ob,m)=>XQ fs [] rest ((t,m.at s.next)::env) (s.push ob) K
 | none=>False
def BW (r:Option (Nat×M6)) (fs:FuncId->Option o8) (rest:Ops) (env:Env) (s:i8) (K:Kt):Prop:=match r with
 | some (id,ob)=>XQ fs [] rest env (s.set id (some ob)) K
 | none=>False
def BM (r:Option (D×i8)) (fs:FuncId->Option o8) (t:Nat) (rest:Ops) (env:Env) (K:Kt):Prop:=match r with
 | some (d,s)=>XQ fs [] rest ((t,d)::env) s K
 | none=>False
def BC (fs:FuncId->Option o8) (f:FuncId) (l:List D) (p:Bool) (pairs:Prs) (t:Nat) (rest:Ops) (env:Env) (s:i8) (K:Kt):Prop:=∃d,a1a fs f l d/\(Y1 d||p)=true/\XQ fs pairs rest ((t,d)::env) s K
def BL (r:Option (List D)) (p:Bool) (fs:FuncId->Option o8) (f:FuncId) (pairs:Prs) (t:Nat) (rest:Ops) (env:Env) (s:i8) (K:Kt):Prop:=match r with
 | some l=>BC fs f l p pairs t rest env s K
 | none=>False
def BF (b:Bool) (d:D) (fs:FuncId->Option o8) (pairs:Prs) (t:Nat) (rest:Ops) (env:Env) (s:i8) (K:Kt):Prop:=match b with
 | true=>XQ fs pairs rest ((t,d)::env) s K
 | false=>False
def GW (d:D) (b:Bool) (fs:FuncId->Option o8) (pairs:Prs) (x:Nat×N6) (t:Option Nat) (rest:Ops) (env:Env) (s:i8) (K:Kt):Prop:=Way d b (XQ fs pairs (x::rest) env s K) (XQ fs pairs rest (env.put t (.tup [])) s K)
def a4C (a b:Nat):Prop:=a≠b
def a2u (id:Nat):List Nat->Prop
 | []=>True
 | x::r=>a4C id x/\a2u id r
theorem a6v {id:Nat}:∀ {l:List Nat},a2u id l->id∉l
 | [],_=>by simp
 | x::r,h=>by
   have:=a6v h.2
   have h1:id≠x:=h.1
   simp [h1,this]
def a1R:Prs->Nat->Nat->Bool
 | [],_,_=>false
 | (a,b)::r,i,j=>match Nat.beq a i with
   | true=>match Nat.beq b j with
     | true=>true
     | false=>a1R r i j
   | false=>a1R r i j
theorem a5B:∀ {l:Prs} {i j:Nat},(i,j)∈l->a1R l i j=true
 | (a,b)::r,i,j,h=>by
   simp only [a1R]
   rcases List.mem_cons.1 h with h | h
   ·cases h
    have e:∀n:Nat,Nat.beq n n=true:=fun n=>Nat.beq_refl n
    rw [e,e]
   ·have ih:=a5B h
    split
    ·split
     ·rfl
     ·exact ih
    ·exact ih
def a2h (pairs:Prs) (i id:Nat):List Ent->Prop
 | []=>True
 | e::T=>(a1R pairs e.i i=true->a2u id e.eff)/\a2h pairs i id T
theorem b2o {pairs:Prs} {i id:Nat}:∀ {T:List Ent},a2h pairs i id T->∀e∈T,(e.i,i)∈pairs->id∉e.eff
 | e::T,h,x,hx,hp=>by
   rcases List.mem_cons.1 hx with rfl | hx
   ·exact a6v (h.1 (a5B hp))
   ·exact b2o h.2 x hx hp
def NeO (r:Option Nat) (id:Nat):Prop:=match r with
 | some x=>a4C x id
 | none=>True
def a1u (pairs:Prs) (i id:Nat):List Ent->Prop
 | []=>True
 | e::T=>(a1R pairs e.i i=true->NeO e.rd id/\a2u id e.eff)/\a1u pairs i id T
theorem b0T {pairs:Prs} {i id:Nat}:∀ {T:List Ent},a1u pairs i id T->∀e∈T,(e.i,i)∈pairs->e.rd≠some id/\id∉e.eff
 | e::T,h,x,hx,hp=>by
   rcases List.mem_cons.1 hx with rfl | hx
   ·obtain ⟨h1,h2⟩:=h.1 (a5B hp)
    refine ⟨fun he=>?_,a6v h2⟩
    rw [he] at h1;exact h1 rfl
   ·exact b0T h.2 x hx hp
def a3j (pairs:Prs) (i:Nat) (E:List Nat):List Ent->Prop
 | []=>True
 | e::T=>(a1R pairs e.i i=true->match e.rd with | some x=>a2u x E | none=>True)/\a3j pairs i E T
theorem b1j {pairs:Prs} {i:Nat} {E:List Nat}:∀ {T:List Ent},a3j pairs i E T->∀e∈T,(e.i,i)∈pairs->∀id,e.rd=some id->id∉E
 | e::T,h,x,hx,hp,id,hr=>by
   rcases List.mem_cons.1 hx with rfl | hx
   ·have h1:=h.1 (a5B hp)
    rw [hr] at h1
    exact a6v h1
   ·exact b1j h.2 x hx hp id hr
def XX (fs:FuncId->Option o8) (pairs:Prs):List Ent->Ops->Env->i8->Kt->Prop
 | _,[],env,s,K=>K env s
 | T,(i,⟨dst,op,g⟩)::rest,env,s,K =>
   let run:Prop:=match dst,op with
    | some t,.p o=>match evP env o with
      | some d=>XX fs pairs T rest ((t,d)::env) s K
      | none=>False
    | some t,.r (.load n x)=>match env.ev x with
      | .fp cs off=>match ldV s.get n (.fp cs off) with
        | some d=>XX fs pairs T rest ((t,d)::env) s K
        | none=>False
      | .ptr id off=>match ldV s.get n (.ptr id off) with
        | some d=>a2h pairs i id T/\XX fs pairs (⟨i,some id,[]⟩::T) rest ((t,d)::env) s K
        | none=>False
      | _=>False
    | some t,.a o=>match evA env o with
      | some (ob,m)=>XX fs pairs (⟨i,none,[s.next]⟩::T) rest ((t,m.at s.next)::env) (s.push ob) K
      | none=>False
    | none,.w n a v=>match env.ev a with
      | .ptr id _=>match evW env s.get n a v with
        | some (id',ob)=>id'=id/\a1u pairs i id T/\XX fs pairs (⟨i,some id,[id]⟩::T) rest env (s.set id (some ob)) K
        | none=>False
      | _=>False
    | some t,.m (.call .iso (.cst (.fn f [])) args)=>match M3 (ice s.get 20) (env.evL args) with
      | some l=>∃d,a1a fs f l d/\(Y1 d||pureL (env.evL args))=true/\XX fs pairs T rest ((t,d)::env) s K
      | none=>False
    | some t,.m (.append sz bytes a x)=>∃d s' E,S9 sz bytes (env.ev a) (env.ev x) s=some (d,s')/\s.next<=s'.next/\(∀id,id∉E->s.get id=s'.get id)/\a3j pairs i E T/\XX fs pairs (⟨i,none,E⟩::T) rest ((t,d)::env) s' K
    | dst,op=>WX fs pairs T ((i,⟨dst,op,none⟩)::rest) env s K
   match g with
   | none=>run
   | some (r,b)=>Way (env.get r) b run (XX fs pairs T rest (env.put dst (.tup [])) s K)
theorem b8m {pairs T i t o r b rest s Q} {env:Env} {d:D} (hw:env.get r=d)
 (h:Way d b (WX fs pairs T ((i,⟨t,o,none⟩)::rest) env s Q) (WX fs pairs T rest (env.put t (.tup [])) s Q)):WX fs pairs T ((i,⟨t,o,some (r,b)⟩)::rest) env s Q:=by
 unfold Way at h
 split at h
 ·rename_i c
  by_cases hc:c=b
  ·rw [if_pos hc] at h;subst hc
   intro tr ht
   obtain ⟨n,env',s',h1,h2⟩:=h tr ht
   refine ⟨n,env',s',?_,h2⟩
   simp only [V1,Y3,hw,beq_self_eq_true] at h1 ⊢
   exact h1
  ·rw [if_neg hc] at h
   exact b2X (by simp only [Y3,hw];cases c<;>cases b<;>simp_all) h
 ·exact b2X (by simp only [Y3,hw]) h
 ·exact h.elim
theorem a1Q {pairs:Prs}:∀ {T:List Ent} {ops:Ops} {env:Env} {s:i8} {K:Kt},XX fs pairs T ops env s K->WX fs pairs T ops env s K
 | T,[],env,s,K,h=>c2H h
 | T,(i,⟨dst,op,g⟩)::rest,env,s,K,h=>by
   have key:∀ (h:XX fs pairs T ((i,⟨dst,op,none⟩)::rest) env s K),WX fs pairs T ((i,⟨dst,op,none⟩)::rest) env s K:=by
    intro h
    unfold XX at h
    simp only at h
    split at h
    ·split at h
     ·rename_i d e;exact b7a e (a1Q h)
     ·exact h.elim
    ·split at h
     ·rename_i e
      split at h
      ·rename_i d e2;exact b9Q e e2 (a1Q h)
      ·exact h.elim
     ·rename_i e
      split at h
      ·rename_i d e2;exact c0Z e e2 (b2o h.1) (a1Q h.2)
      ·exact h.elim
     ·exact h.elim
    ·split at h
     ·rename_i ob m e;exact b6s e (a1Q h)
     ·exact h.elim
    ·split at h
     ·rename_i e
      split at h
      ·rename_i id' ob e2
       obtain ⟨rfl,h2,h3⟩:=h
       exact b6v e e2 (b0T h2) (a1Q h3)
      ·exact h.elim
     ·exact h.elim
    ·split at h
     ·rename_i l hl
      obtain ⟨d,⟨r,s1,h1,h2⟩,h3,h4⟩:=h
      exact b44 rfl hl h1 h2 h3 (a1Q h4)
     ·exact h.elim
    ·obtain ⟨d,s',E,h1,h2,h3,h4,h5⟩:=h
     exact b15 ⟨0,by simp only [evM];exact h1⟩ h3 h2 (b1j h4) (a1Q h5)
    ·exact h
   cases g with
   | none=>exact key h
   | some rb =>
     obtain ⟨r,b⟩:=rb
     refine b8m (d:=env.get r) rfl ?_
     have h':Way (env.get r) b (XX fs pairs T ((i,⟨dst,op,none⟩)::rest) env s K) (XX fs pairs T rest (env.put dst (.tup [])) s K):=h
     unfold Way at h' ⊢
     split at h'
     ·rename_i c _
      split at h'
      ·rename_i hc;simp only [hc,if_true];exact key h'
      ·rename_i hc;simp only [hc,if_false];exact a1Q h'
     ·exact a1Q h'
     ·exact h'
def RX (fs:FuncId->Option o8) (pairs:Prs) (ops:Ops) (env:Env) (s:i8) (K:Kt):Prop:=match pairs with
 | []=>XQ fs [] ops env s K
 | p::ps=>XX fs (p::ps) [] ops env s K
def b3y (k:Env->i8->Prop) (Q:V2->Env->i8->Prop):V2->Env->i8->Prop
 | .normal,env,s=>k env s
 | e,env,s=>Q e env s
def YW (fs:FuncId->Option o8) (vars:List Nat):Z5->(V2->Env->i8->Prop)->Env->i8->Prop
 | .skip,Q,env,s=>End Q .normal env s
 | .region r,Q,env,s=>RX fs r.pairs r.ops env s (RgK vars Q)
 | .seq a b,Q,env,s=>YW fs vars a (b3y (YW fs vars b Q) Q) env s
 | .cond c x y,Q,env,s=>a0X (env.ev c) (YW fs vars x Q env s) (YW fs vars y Q env s)
 | .block id b,Q,env,s=>YW fs vars b (M7 id Q) env s
 | .loop b,Q,env,s=>WP fs vars (.loop b) env s Q
 | .exit id,Q,env,s=>End Q (.exit id) env s
 | .ret,Q,env,s=>End Q .ret env s
def a5k (fs:FuncId->Option o8) (vars:List Nat) (b:Z5) (Q:V2->Env->i8->Prop):V2->Env->i8->Prop
 | .normal,env,s=>YW fs vars b Q env s
 | e,env,s=>Q e env s
theorem a1h:∀ {pairs:Prs} {ops:Ops} {env:Env} {s:i8} {K:Kt},XQ fs pairs ops env s K->WQ fs pairs ops env s K
 | pairs,[],env,s,K,h=>b0m h
 | pairs,(i,⟨dst,op,g⟩)::rest,env,s,K,h=>by
   have key:∀ (h:XQ fs pairs ((i,⟨dst,op,none⟩)::rest) env s K),WQ fs pairs ((i,⟨dst,op,none⟩)::rest) env s K:=by
    intro h
    unfold XQ at h
    simp only at h
    split at h
    ·split at h
     ·rename_i d e;exact a6I e (a1h h)
     ·exact h.elim
    ·split at h
     ·rename_i d e;exact a9Q e (a1h h)
     ·exact h.elim
    ·split at h
     ·split at h
      ·rename_i ob m e;exact a62 e (a1h h)
      ·exact h.elim
     ·split at h
      ·rename_i hf
       refine a6d hf ?_
       split at h
       ·rename_i ob m e;exact a62 e (a1h h)
       ·exact h.elim
      ·exact h
    ·split at h
     ·split at h
      ·rename_i ob m e;exact a6f e (a1h h)
      ·exact h.elim
     ·split at h
      ·rename_i hf
       refine a6d hf ?_
       split at h
       ·rename_i ob m e;exact a6f e (a1h h)
       ·exact h.elim
      ·exact h
    ·split at h
     ·split at h
      ·rename_i l hl
       obtain ⟨d,⟨r,s1,h1,h2⟩,h3,h4⟩:=h
       exact b2e hl h1 h2 h3 (a1h h4)
      ·exact h.elim
     ·split at h
      ·rename_i d s' e;exact a8g e (a1h h)
      ·exact h.elim
     ·split at h
      ·rename_i hf
       refine a6d hf ?_
       split at h
       ·rename_i d s' e;exact a8g e (a1h h)
       ·exact h.elim
      ·exact h
     ·exact h
    ·exact h
   cases g with
   | none=>exact key h
   | some rb =>
     obtain ⟨r,b⟩:=rb
     refine b2P (d:=env.get r) rfl ?_
     have h':Way (env.get r) b (XQ fs pairs ((i,⟨dst,op,none⟩)::rest) env s K) (XQ fs pairs rest (env.put dst (.tup [])) s K):=h
     unfold Way at h' ⊢
     split at h'
     ·rename_i c _
      split at h'
      ·rename_i hc;simp only [hc,if_true];exact key h'
      ·rename_i hc;simp only [hc,if_false];exact a1h h'
     ·exact a1h h'
     ·exact h'
theorem a3q {vars:List Nat}:∀ {c:Z5} {Q:V2->Env->i8->Prop} {env:Env} {s:i8},YW fs vars c Q env s->WP fs vars c env s Q
 | .skip,_,_,_,h=>b3k h
 | .region ⟨ops,[],dr⟩,Q,_,_,h=>b1G (a1h h)
 | .region ⟨ops,p::ps,dr⟩,Q,_,_,h=>c1F (a1Q h)
 | .seq a b,Q,env,s,h=>by
   refine b2v ((a3q (c:=a) h).mono fun e env s h=>?_)
   cases e with
   | normal=>exact a3q (c:=b) h
   | exit id=>exact h
   | ret=>exact h
 | .cond c x y,Q,env,s,h=>by
   refine b2j (d:=env.ev c) rfl ?_
   have h':a0X (env.ev c) (YW fs vars x Q env s) (YW fs vars y Q env s):=h
   unfold a0X at h' ⊢
   split at h'
   ·split at h'
    ·rename_i hc;simp only [hc,if_true];exact a3q h'
    ·rename_i hc;simp only [hc];exact a3q h'
   ·exact h'
 | .block id b,Q,env,s,h=>b1X (a3q (c:=b) h)
 | .loop b,Q,env,s,h=>h
 | .exit id,_,_,_,h=>b1p h
 | .ret,_,_,_,h=>b29 h
theorem b57 {vars b Q}:b3y (YW fs vars b Q) Q=a5k fs vars b Q:=by
 funext e env s
 cases e<;>rfl
theorem c1I {vars Q env s}:YW fs vars .skip Q env s=End Q .normal env s:=Eq.trans rfl rfl
theorem b4j {vars a b Q env s}:YW fs vars (.seq a b) Q env s=YW fs vars a (a5k fs vars b Q) env s:=by rw [<- b57];rfl
def CW (d:D) (fs:FuncId->Option o8) (vars:List Nat) (x y:Z5) (Q:V2->Env->i8->Prop) (env:Env) (s:i8):Prop:=a0X d (YW fs vars x Q env s) (YW fs vars y Q env s)
theorem b5q {vars c x y Q env s}:YW fs vars (.cond c x y) Q env s=CW (env.ev c) fs vars x y Q env s:=Eq.trans rfl rfl
theorem c0Y {vars id b Q env s}:YW fs vars (.block id b) Q env s=YW fs vars b (M7 id Q) env s:=Eq.trans rfl rfl
theorem c0P {vars id Q env s}:YW fs vars (.exit id) Q env s=End Q (.exit id) env s:=Eq.trans rfl rfl
theorem b6V {vars b Q env s}:YW fs vars (.loop b) Q env s=WP fs vars (.loop b) env s Q:=Eq.trans rfl rfl
theorem c1p {vars Q env s}:YW fs vars .ret Q env s=End Q .ret env s:=Eq.trans rfl rfl
theorem c1w {pairs vars Q env s}:XQ fs pairs [] env s (RgK vars Q)=End Q .normal (env.keep vars) s:=Eq.trans rfl rfl
theorem c2G {pairs i t o r b rest env s K}:XQ fs pairs ((i,⟨t,o,some (r,b)⟩)::rest) env s K=GW (env.get r) b fs pairs (i,⟨t,o,none⟩) t rest env s K:=Eq.trans rfl rfl
theorem c2d {pairs i t o rest env s K}:XQ fs pairs ((i,⟨some t,.r o,none⟩)::rest) env s K=BP (evR env s.get o) fs pairs t rest env s K:=Eq.trans rfl rfl
theorem b3o {pairs i t f args rest env s K}:XQ fs pairs ((i,⟨some t,.m (.call .iso (.cst (.fn f [])) args),none⟩)::rest) env s K=BL (M3 (ice s.get 20) (env.evL args)) (pureL (env.evL args)) fs f pairs t rest env s K:=by
 unfold XQ BL BC;cases pairs<;>rfl
theorem a9D {pairs i t f args rest env s K}:XQ fs pairs ((i,⟨some t,.m (.call .raw f args),none⟩)::rest) env s K=WQ fs pairs ((i,⟨some t,.m (.call .raw f args),none⟩)::rest) env s K:=by cases pairs<;>rfl
theorem b4K {i t sz bytes a x rest env s K}:XQ fs [] ((i,⟨some t,.m (.append sz bytes a x),none⟩)::rest) env s K=BM (S9 sz bytes (env.ev a) (env.ev x) s) fs t rest env K:=Eq.trans rfl rfl
theorem b8O {d pairs t rest env s K}:BP (some d) fs pairs t rest env s K=XQ fs pairs rest ((t,d)::env) s K:=Eq.trans rfl rfl
theorem b8U {ob t rest env s K}:BA (some (ob,.ptr)) fs t rest env s K=XQ fs [] rest ((t,.ptr s.next 0)::env) (s.push ob) K:=Eq.trans rfl rfl
theorem b79 {ob t rest env s K l sz}:BA (some (ob,.arr l sz)) fs t rest env s K=XQ fs [] rest ((t,.arr s.next 0 l sz)::env) (s.push ob) K:=Eq.trans rfl rfl
theorem b3P {id ob rest env s K}:BW (some (id,ob)) fs rest env s K=XQ fs [] rest env (s.set id (some ob)) K:=Eq.trans rfl rfl
theorem b6C {l p f pairs t rest env s K}:BL (some l) p fs f pairs t rest env s K=BC fs f l p pairs t rest env s K:=Eq.trans rfl rfl
theorem c1Y {d pairs t rest env s K}:BF true d fs pairs t rest env s K=XQ fs pairs rest ((t,d)::env) s K:=Eq.trans rfl rfl
theorem b7Q {vars x y Q env s}:CW (.bool true) fs vars x y Q env s=YW fs vars x Q env s:=by simp [CW,a0X]
theorem c1E {vars x y Q env s}:CW (.bool false) fs vars x y Q env s=YW fs vars y Q env s:=by simp [CW,a0X]
theorem c0r {pairs x t rest env s K}:GW (.bool true) true fs pairs x t rest env s K=XQ fs pairs (x::rest) env s K:=by simp [GW,Way]
theorem c08 {pairs x t rest env s K}:GW (.bool false) false fs pairs x t rest env s K=XQ fs pairs (x::rest) env s K:=by simp [GW,Way]
theorem c0d {pairs x t rest env s K}:GW (.bool true) false fs pairs x t rest env s K=XQ fs pairs rest (env.put t (.tup [])) s K:=by simp [GW,Way]
theorem c2w {pairs x t rest env s K}:GW (.bool false) true fs pairs x t rest env s K=XQ fs pairs rest (env.put t (.tup [])) s K:=by simp [GW,Way]
theorem c1j {b pairs x t rest env s K}:GW (.tup []) b fs pairs x t rest env s K=XQ fs pairs rest (env.put t (.tup [])) s K:=Eq.trans rfl rfl
theorem c0T {env:Env} {t d}:env.put (some t) d=(t,d)::env:=Eq.trans rfl rfl
theorem b3N {vars b Q env s}:End (a5k fs vars b Q) .normal env s=YW fs vars b Q env s:=Eq.trans rfl rfl
theorem b9c {vars b Q id env s}:End (a5k fs vars b Q) (.exit id) env s=End Q (.exit id) env s:=Eq.trans rfl rfl
theorem b7h {vars b Q env s}:End (a5k fs vars b Q) .ret env s=End Q .ret env s:=Eq.trans rfl rfl
theorem b8q {id Q env s}:End (M7 id Q) .normal env s=End Q .normal env s:=Eq.trans rfl rfl
theorem b8Y {id Q env s}:End (M7 id Q) .ret env s=End Q .ret env s:=Eq.trans rfl rfl
theorem b52 {id id' Q env s}:End (M7 id Q) (.exit id') env s=if id'=id then End Q .normal env s else End Q (.exit id') env s:=Eq.trans rfl rfl
theorem b5Q {g:O7} {n:Nat}:M3 (ice g (n+1)) []=some []:=Eq.trans rfl rfl
theorem b9Y {g:O7} {n:Nat} {k:IntKind} {x:Int} {l:List D}:M3 (ice g (n+1)) (.int k x::l)=(M3 (ice g (n+1)) l).map (.int k x::·):=by
 simp only [M3,ice];cases M3 (ice g (n+1)) l<;>rfl
theorem c1C {g:O7} {n:Nat} {x:ByteArray} {l:List D}:M3 (ice g (n+1)) (.str x::l)=(M3 (ice g (n+1)) l).map (.str x::·):=by
 simp only [M3,ice];cases M3 (ice g (n+1)) l<;>rfl
theorem c2c {g:O7} {n:Nat} {d:D} {l:List D} (h:PZ d):M3 (ice g (n+3)) (d::l)=(M3 (ice g (n+3)) l).map (d::·):=by
 simp only [M3,h.2 g n];cases M3 (ice g (n+3)) l<;>rfl
theorem c0m {d:D} (h:PZ d):U3 d=true:=h.1
theorem b4R:pureL []=true:=Eq.trans rfl rfl
theorem b6t {d:D} {l:List D}:pureL (d::l)=(U3 d&&pureL l):=Eq.trans rfl rfl
theorem b66 {k:IntKind} {n:Int}:U3 (.int k n)=true:=Eq.trans rfl rfl
theorem b9D {b:ByteArray}:U3 (.str b)=true:=Eq.trans rfl rfl
theorem b7m {k:IntKind} {n:Int}:Y1 (.int k n)=true:=Eq.trans rfl rfl
theorem b4k {b:Bool}:Y1 (.bool b)=true:=Eq.trans rfl rfl
theorem c1P {b:ByteArray}:Y1 (.str b)=true:=Eq.trans rfl rfl
theorem c0A {l:List D}:Y1 (.agg l)=scalarL l:=Eq.trans rfl rfl
theorem b7v {l:List D}:Y1 (.tup l)=scalarL l:=Eq.trans rfl rfl
theorem b9s:scalarL []=true:=Eq.trans rfl rfl
theorem c0s {d:D} {l:List D}:scalarL (d::l)=(Y1 d&&scalarL l):=Eq.trans rfl rfl
theorem b51 {g:O7} {n:Nat} {k:IntKind} {x:Int}:ice g (n+1) (.int k x)=some (.int k x):=Eq.trans rfl rfl
theorem b6m {g:O7} {n:Nat} {x:Bool}:ice g (n+1) (.bool x)=some (.bool x):=Eq.trans rfl rfl
theorem b6K {g:O7} {n:Nat} {x:ByteArray}:ice g (n+1) (.str x)=some (.str x):=Eq.trans rfl rfl
theorem c0c {g:O7} {n:Nat} {l:List D}:ice g (n+1) (.agg l)=(M3 (ice g n) l).map .agg:=Eq.trans rfl rfl
theorem c1l {g:O7} {n:Nat} {l:List D}:ice g (n+1) (.tup l)=(M3 (ice g n) l).map .tup:=Eq.trans rfl rfl
theorem b53 {env:Env} {s:i8} {x}:S7 env s [x]=V6 env s x:=by
 unfold S7 U6
 cases V6 env s x<;>rfl
theorem b88 {env:Env} {s:i8} {x y l}:S7 env s (x::y::l)=(U6 env s (x::y::l)).map .tup:=by
 unfold S7
 simp only [U6]
 cases V6 env s x<;>cases V6 env s y<;>cases U6 env s l<;>rfl
theorem b7K {env:Env} {s:i8}:U6 env s []=some []:=Eq.trans rfl rfl
theorem b4b {env:Env} {s:i8} {x l}:U6 env s (x::l)=(V6 env s x).bind fun d=>(U6 env s l).map (d::·):=by
 simp only [U6]
 cases V6 env s x<;>cases U6 env s l<;>rfl
theorem c0F {env:Env} {s:i8} {t}:V6 env s (t,none)=some (env.get t):=Eq.trans rfl rfl
def a8S (s:i8) (n:Option Nat):D->Option D
 | .ptr id off=>ldV s.get n (.ptr id off)
 | _=>none
theorem b7M {env:Env} {s:i8} {t n}:V6 env s (t,some n)=a8S s n (env.get t):=by
 simp only [V6,a8S]
 cases h:env.get t<;>rfl
theorem b3R {s:i8} {n id off}:a8S s n (.ptr id off)=ldV s.get n (.ptr id off):=Eq.trans rfl rfl
def a3c (res:List (Nat×Option (Option Nat))) (P:D->i8->Prop):V2->Env->i8->Prop:=fun e env s=>(e=.normal∨e=.ret)/\∃d,S7 env s res=some d/\P d s
def RB (r:Option D) (s:i8) (P:D->i8->Prop):Prop:=match r with
 | some d=>P d s
 | none=>False
theorem c1s {res P env s}:End (a3c res P) .ret env s=RB (S7 env s res) s P:=by
 unfold End a3c RB
 apply propext
 cases S7 env s res<;>simp
theorem b8B {res P env s}:End (a3c res P) .normal env s=RB (S7 env s res) s P:=by
 unfold End a3c RB
 apply propext
 cases S7 env s res<;>simp
def a9P (x:D):D->i8->Prop:=fun r s=>ice s.get 20 r=some x
theorem b3Z {d s x}:RB (some d) s (a9P x)=(ice s.get 20 d=some x):=Eq.trans rfl rfl
def b1O (P:D->Prop):D->i8->Prop:=fun r s=>∃d,ice s.get 20 r=some d/\P d
theorem b4A {d s P}:RB (some d) s (b1O P)=∃x,ice s.get 20 d=some x/\P x:=Eq.trans rfl rfl
theorem V8 {f:FuncId} {vf:o8} {args:List D} {s:i8} {P:D->i8->Prop} (hf:fs f=some vf) (h:YW fs vf.vars vf.code (a3c vf.res P) (vf.vars.map fun t=>(t,args.getD t .undef)) s):EvP fs f args s P:=N8 hf (a3q h)
theorem V3 {f:FuncId} {vf:o8} {args:List D} {d:D} (hf:fs f=some vf) (h:YW fs vf.vars vf.code (a3c vf.res (a9P d)) (vf.vars.map fun t=>(t,args.getD t .undef)) i8.empty):a1a fs f args d:=by
 obtain ⟨r,s1,h1,h2⟩:=V8 hf h
 exact ⟨r,s1,h1,h2⟩
def a83 (fs:FuncId->Option o8) (f:FuncId) (args:List D) (P:D->Prop):Prop:=∃d,a1a fs f args d/\P d
theorem b1y {f:FuncId} {vf:o8} {args:List D} {P:D->Prop} (hf:fs f=some vf) (h:YW fs vf.vars vf.code (a3c vf.res (b1O P)) (vf.vars.map fun t=>(t,args.getD t .undef)) i8.empty):a83 fs f args P:=by
 obtain ⟨r,s1,h1,d,h2,h3⟩:=V8 hf h
 exact ⟨d,⟨r,s1,h1,h2⟩,h3⟩
theorem N4 {i t f args rest s K} {env:Env} {l:List D} {P:D->i8->Prop} (hr:EvP fs f l s P) (ha:env.evL args=l)
 (h:∀d s',P d s'->XQ fs [] rest ((t,d)::env) s' K):WQ fs [] ((i,⟨some t,.m (.call .raw (.cst (.fn f [])) args),none⟩)::rest) env s K:=U2 hr ha fun d s' hp=>a1h (h d s' hp)
inductive Rf {α:Type} (a b:α):Prop where
 | mk (h:a=b)
def a3m:Env->Nat->Option D
 | [],_=>none
 | (s,d)::r,t=>match Nat.beq s t with
   | true=>some d
   | false=>a3m r t
theorem a6t:∀ {env:Env} {t:Nat} {d:D},a3m env t=some d->env.get t=d
 | [],_,_,h=>by simp [a3m] at h
 | (s,d)::r,t,d',h=>by
   simp only [a3m] at h
   split at h
   ·rename_i e
    have:=Nat.eq_of_beq_eq_true e
    cases h
    simp only [Env.get,this,if_true]
   ·rename_i e
    have:s≠t:=fun he=>by subst he;simp at e
    simp only [Env.get,this,if_false]
    exact a6t h
theorem b9I {env:Env} {t:Nat} {d:D} (h:Rf (a3m env t) (some d)):Env.get env t=d:=a6t h.1
def a12:List Nat->Env->Option Env
 | [],_=>some []
 | t::r,env=>match a3m env t with
   | some d=>match a12 r env with
     | some l=>some ((t,d)::l)
     | none=>none
   | none=>none
theorem a3U:∀ {vars:List Nat} {env e:Env},a12 vars env=some e->env.keep vars=e
 | [],_,_,h=>by simp [a12] at h;exact h.symm
 | t::r,env,e,h=>by
   simp only [a12] at h
   split at h
   ·rename_i d hd
    split at h
    ·rename_i l hl
     cases h
     show (t,env.get t)::env.keep r=_
     rw [a6t hd,a3U hl]
    ·cases h
   ·cases h
theorem b4a {vars:List Nat} {env e:Env} (h:Rf (a12 vars env) (some e)):env.keep vars=e:=a3U h.1
def a3n (vars l:List Nat) (e0:Env) (f:Nat->D):Env:=vars.map fun t=>(t,if l.contains t then e0.get t else f t)
def a6E:List Nat->Nat->Bool
 | [],_=>false
 | s::r,t=>match Nat.beq s t with
   | true=>true
   | false=>a6E r t
theorem a9O:∀ {l:List Nat} {t:Nat},a6E l t=l.contains t
 | [],_=>rfl
 | s::r,t=>by
   simp only [a6E,List.contains_cons]
   split
   ·rename_i e
    have:=Nat.eq_of_beq_eq_true e
    simp [this]
   ·rename_i e
    have:(t==s)=false:=by
     rw [beq_eq_false_iff_ne];intro he;subst he;simp at e
    rw [this,Bool.false_or];exact a9O
def a3R:List Nat->List Nat->Env->(Nat->D)->Option Env
 | [],_,_,_=>some []
 | t::r,l,e0,f=>match a6E l t with
   | true=>match a3m e0 t with
     | some d=>match a3R r l e0 f with
       | some e=>some ((t,d)::e)
       | none=>none
     | none=>none
   | false=>match a3R r l e0 f with
     | some e=>some ((t,f t)::e)
     | none=>none
theorem a6O:∀ {vars l:List Nat} {e0 e:Env} {f:Nat->D},a3R vars l e0 f=some e->a3n vars l e0 f=e
 | [],_,_,_,_,h=>by simp [a3R] at h;exact h.symm
 | t::r,l,e0,e,f,h=>by
   simp only [a3R] at h
   show (t,if l.contains t then e0.get t else f t)::a3n r l e0 f=e
   rw [<- a9O]
   split at h
   ·rename_i hb
    split at h
    ·rename_i d hd
     split at h
     ·rename_i e' he
      cases h
      rw [hb,if_pos rfl,a6t hd,a6O he]
     ·cases h
    ·cases h
   ·rename_i hb
    split at h
    ·rename_i e' he
     cases h
     rw [hb,if_neg (by simp),a6O he]
    ·cases h
theorem b4w {vars l:List Nat} {e0 e:Env} {f:Nat->D} (h:Rf (a3R vars l e0 f) (some e)):a3n vars l e0 f=e:=a6O h.1
def a2A (vars l:List Nat) (e0 e:Env):Prop:=e.keep vars=e/\e.keep l=e0.keep l
theorem c1A {vars l:List Nat} {e0 e x:Env} (h1:Rf (a12 vars e) (some e)) (h2:Rf (a12 l e0) (some x)) (h3:Rf (a12 l e) (some x)):a2A vars l e0 e=True:=eq_true ⟨a3U h1.1,by rw [a3U h2.1,a3U h3.1]⟩
theorem b62 {l:List Nat} {e e0:Env} (h:e.keep l=e0.keep l) {t:Nat} (ht:t∈l):e.get t=e0.get t:=by
 unfold Env.keep at h
 have:=List.map_inj_left.1 h t ht
 simpa using this
theorem b2J {vars l:List Nat} {e0 e:Env} (h:a2A vars l e0 e):e=a3n vars l e0 fun t=>e.get t:=by
 conv=>lhs;rw [<- h.1]
 unfold Env.keep a3n
 refine List.map_congr_left fun t _=>?_
 by_cases ht:t∈l
 ·rw [if_pos (List.contains_iff_mem.2 ht),b62 h.2 ht]
 ·rw [if_neg (by simpa using ht)]
abbrev It:=Nat->(Nat->D)->i8->Prop
def UpQ (vars l:List Nat) (e0:Env) (n i:Nat) (I:It) (Q:V2->Env->i8->Prop):V2->Env->i8->Prop
 | .normal,env,s=>a2A vars l e0 env/\i<n/\I (i+1) (fun t=>env.get t) s
 | e,env,s=>Q e env s
theorem b38 {vars l e0 n i I Q env s}:End (UpQ vars l e0 n i I Q) .normal env s=(a2A vars l e0 env/\i<n/\I (i+1) (fun t=>env.get t) s):=Eq.trans rfl rfl
theorem c1v {vars l e0 n i I Q id env s}:End (UpQ vars l e0 n i I Q) (.exit id) env s=End Q (.exit id) env s:=Eq.trans rfl rfl
theorem b99 {vars l e0 n i I Q env s}:End (UpQ vars l e0 n i I Q) .ret env s=End Q .ret env s:=Eq.trans rfl rfl
theorem b6j {vars l:List Nat} {e:Env} (h:Rf (a12 vars e) (some e)):a2A vars l e e:=⟨a3U h.1,rfl⟩
theorem Y6 {vars b Q env0 s0} (l:List Nat) (a n:Nat) (I:It) (h1:Rf (a12 vars env0) (some env0)) (ha:a<=n) (h0:I a (fun t=>env0.get t) s0) (hs:∀i f s,i<=n->I i f s->YW fs vars b (UpQ vars l env0 n i I Q) (a3n vars l env0 f) s):WP fs vars (.loop b) env0 s0 Q:=by
 refine a0l (fun k env s=>∃i,i<=n/\k=n-i/\a2A vars l env0 env/\I i (fun t=>env.get t) s) ?_ (n-a) _ _ ⟨a,ha,rfl,b6j h1,h0⟩
 rintro k env s ⟨i,hi,rfl,hk,hI⟩
 have:=hs i _ s hi hI
 rw [<- b2J hk] at this
 refine (a3q this).mono fun e env' s' h=>?_
 cases e with
 | normal =>
   obtain ⟨h1,h2,h3⟩:=h
   exact ⟨n-(i+1),by omega,i+1,by omega,rfl,h1,h3⟩
 | exit id=>exact h
 | ret=>exact h
def a8K (vars l:List Nat) (e0:Env) (P:(Nat->D)->i8->Prop) (Q:V2->Env->i8->Prop):V2->Env->i8->Prop
 | .normal,env,s=>a2A vars l e0 env/\P (fun t=>env.get t) s
 | e,env,s=>Q e env s
theorem c1K {vars l e0 P Q env s}:End (a8K vars l e0 P Q) .normal env s=(a2A vars l e0 env/\P (fun t=>env.get t) s):=Eq.trans rfl rfl
theorem WQ.mono {pairs ops env s} {K K':Env->i8->Prop} (h:WQ fs pairs ops env s K) (hk:∀env s,K env s->K' env s):WQ fs pairs ops env s K':=fun tr ht=>by
 obtain ⟨n,env',s',h1,h2⟩:=h tr ht
 exact ⟨n,env',s',h1,hk _ _ h2⟩
theorem Way.mono {d:D} {b:Bool} {A B A' B':Prop} (h:Way d b A B) (h1:A->A') (h2:B->B'):Way d b A' B':=by
 unfold Way at *;split at h
 ·split at h
  ·rename_i hc;rw [if_pos hc];exact h1 h
  ·rename_i hc;rw [if_neg hc];exact h2 h
 ·exact h2 h
 ·exact h
theorem a0X.mono {d:D} {A B A' B':Prop} (h:a0X d A B) (h1:A->A') (h2:B->B'):a0X d A' B':=by
 unfold a0X at *;split at h
 ·split at h
  ·rename_i hc;rw [if_pos hc];exact h1 h
  ·rename_i hc;rw [if_neg hc];exact h2 h
 ·exact h
theorem WX.mono {pairs T ops env s} {K K':Kt} (h:WX fs pairs T ops env s K) (hk:∀env s,K env s->K' env s):WX fs pairs T ops env s K':=fun tr ht=>by
 obtain ⟨n,env',s',h1,h2⟩:=h tr ht
 exact ⟨n,env',s',h1,hk _ _ h2⟩
theorem a6K {vars c Q env s id} (l:List Nat) (P:(Nat->D)->i8->Prop) (h:WP fs vars c env s (M7 id (a8K vars l env P Q))) (k:∀f s,P f s->End Q .normal (a3n vars l env f) s):WP fs vars c env s (M7 id Q):=by
 have key:∀env' s,a8K vars l env P Q .normal env' s->Q .normal env' s:=fun env' s h=>by
  have:=k _ s h.2
  rw [<- b2J h.1] at this
  exact this
 refine WP.mono h fun e env' s h=>?_
 cases e with
 | normal=>exact key _ _ h
 | exit id' =>
   simp only [M7] at h ⊢
   by_cases hc:id'=id
   ·rw [if_pos hc] at h ⊢;exact key _ _ h
   ·rw [if_neg hc] at h ⊢;exact h
 | ret=>exact h
theorem c2r {env:Env} {t:Nat}:env.ev (.tmp t)=env.get t:=Eq.trans rfl rfl
theorem b95 {env:Env} {d:D}:env.ev (.cst d)=d:=Eq.trans rfl rfl
theorem c18 {pairs i t o rest env s K}:XQ fs pairs (xq i t o::rest) env s K=BP (evP env o) fs pairs t rest env s K:=Eq.trans rfl rfl
theorem b77 {pairs i t o g b rest env s K}:XQ fs pairs (xg i t o g b::rest) env s K=GW (env.get g) b fs pairs (xq i t o) (some t) rest env s K:=Eq.trans rfl rfl
theorem c2B {pairs i t x rest env s K}:XQ fs pairs (xm i t x::rest) env s K=BP (some (env.get x)) fs pairs t rest env s K:=Eq.trans rfl rfl
theorem b5V {pairs i t x g b rest env s K}:XQ fs pairs (xmg i t x g b::rest) env s K=GW (env.get g) b fs pairs (xm i t x) (some t) rest env s K:=Eq.trans rfl rfl
theorem b6h {pairs i t d rest env s K}:XQ fs pairs (xc i t d::rest) env s K=XQ fs pairs rest ((t,d)::env) s K:=Eq.trans rfl rfl
theorem b7p {pairs i t n x rest env s K}:XQ fs pairs (xl i t n x::rest) env s K=BP (ldV s.get n (env.get x)) fs pairs t rest env s K:=by
 rw [<- show env.ev (.tmp x)=env.get x from rfl,<- a4p];rfl
theorem b7B {pairs i t n x g b rest env s K}:XQ fs pairs (xlg i t n x g b::rest) env s K=GW (env.get g) b fs pairs (xl i t n x) (some t) rest env s K:=Eq.trans rfl rfl
theorem c2Z {pairs i t off x rest env s K}:XQ fs pairs (xf i t off x::rest) env s K=BP (evP env (.fieldA off (.tmp x))) fs pairs t rest env s K:=Eq.trans rfl rfl
theorem b7H {pairs i t off x g b rest env s K}:XQ fs pairs (xfg i t off x g b::rest) env s K=GW (env.get g) b fs pairs (xf i t off x) (some t) rest env s K:=Eq.trans rfl rfl
theorem b6A {i t o rest env s K}:XQ fs [] (xa i t o::rest) env s K=BA (evA env o) fs t rest env s K:=Eq.trans rfl rfl
theorem c2L {i n a v rest env s K}:XQ fs [] (xw i n a v::rest) env s K=BW (evW env s.get n (.tmp a) v) fs rest env s K:=Eq.trans rfl rfl
theorem b6W {pairs i t f args rest env s K}:XQ fs pairs (xi i t f args::rest) env s K=BL (M3 (ice s.get 20) (env.evL args)) (pureL (env.evL args)) fs f pairs t rest env s K:=b3o
theorem b8T {pairs i t f args g b rest env s K}:XQ fs pairs (xig i t f args g b::rest) env s K=GW (env.get g) b fs pairs (xi i t f args) (some t) rest env s K:=Eq.trans rfl rfl
theorem b9x {pairs i t f args rest env s K}:XQ fs pairs (xk i t f args::rest) env s K=WQ fs pairs (xk i t f args::rest) env s K:=a9D
theorem c2f {pairs i t o g rest env s K}:XQ fs pairs (xo i t o g::rest) env s K=XQ fs pairs ((i,⟨t,o,g⟩)::rest) env s K:=Eq.trans rfl rfl
theorem b5R {vars l Q env s}:YW fs vars (xr l) Q env s=XQ fs [] l env s (RgK vars Q):=Eq.trans rfl rfl
theorem b5g {vars l b Q env s}:YW fs vars (xrp l [] b) Q env s=XQ fs [] l env s (RgK vars Q):=Eq.trans rfl rfl
theorem c1X {vars l p ps b Q env s}:YW fs vars (xrp l (p::ps) b) Q env s=XX fs (p::ps) [] l env s (RgK vars Q):=Eq.trans rfl rfl
theorem M4:i8.empty.next=0:=Eq.trans rfl rfl
def BX (r:Option D) (fs:FuncId->Option o8) (pairs:Prs) (T:List Ent) (t:Nat) (rest:Ops) (env:Env) (s:i8) (K:Kt):Prop:=match r with
 | some d=>XX fs pairs T rest ((t,d)::env) s K
 | none=>False
def BD (d:D) (n:Option Nat) (i:Nat) (fs:FuncId->Option o8) (pairs:Prs) (T:List Ent) (t:Nat) (rest:Ops) (env:Env) (s:i8) (K:Kt):Prop:=match d with
 | .fp cs off=>match ldV s.get n (.fp cs off) with
   | some d=>XX fs pairs T rest ((t,d)::env) s K
   | none=>False
 | .ptr id off=>match ldV s.get n (.ptr id off) with
   | some d=>a2h pairs i id T/\XX fs pairs (⟨i,some id,[]⟩::T) rest ((t,d)::env) s K
   | none=>False
 | _=>False
def BE (C:Prop) (r:Option D) (fs:FuncId->Option o8) (pairs:Prs) (T:List Ent) (t:Nat) (rest:Ops) (env:Env) (s:i8) (K:Kt):Prop:=C/\BX r fs pairs T t rest env s K
def AX (r:Option (M6×P5)) (i:Nat) (fs:FuncId->Option o8) (pairs:Prs) (T:List Ent) (t:Nat) (rest:Ops) (env:Env) (s:i8) (K:Kt):Prop:=match r with
 | some (ob,m)=>XX fs pairs (⟨i,none,[s.next]⟩::T) rest ((t,m.at s.next)::env) (s.push ob) K
 | none=>False
def UX (d:D) (r:Option (Nat×M6)) (i:Nat) (fs:FuncId->Option o8) (pairs:Prs) (T:List Ent) (rest:Ops) (env:Env) (s:i8) (K:Kt):Prop:=match d with
 | .ptr id _=>match r with
   | some (id',ob)=>id'=id/\a1u pairs i id T/\XX fs pairs (⟨i,some id,[id]⟩::T) rest env (s.set id (some ob)) K
   | none=>False
 | _=>False
def VX (C:Prop) (fs:FuncId->Option o8) (pairs:Prs) (T:List Ent) (rest:Ops) (env:Env) (s:i8) (K:Kt):Prop:=C/\XX fs pairs T rest env s K
def MX (d x:D) (sz bytes i:Nat) (fs:FuncId->Option o8) (pairs:Prs) (T:List Ent) (t:Nat) (rest:Ops) (env:Env) (s:i8) (K:Kt):Prop:=∃d' s' E,S9 sz bytes d x s=some (d',s')/\s.next<=s'.next/\(∀id,id∉E->s.get id=s'.get id)/\a3j pairs i E T/\XX fs pairs (⟨i,none,E⟩::T) rest ((t,d')::env) s' K
def CX (fs:FuncId->Option o8) (f:FuncId) (l:List D) (p:Bool) (pairs:Prs) (T:List Ent) (t:Nat) (rest:Ops) (env:Env) (s:i8) (K:Kt):Prop:=∃d,a1a fs f l d/\(Y1 d||p)=true/\XX fs pairs T rest ((t,d)::env) s K
def LX (r:Option (List D)) (p:Bool) (fs:FuncId->Option o8) (f:FuncId) (pairs:Prs) (T:List Ent) (t:Nat) (rest:Ops) (env:Env) (s:i8) (K:Kt):Prop:=match r with
 | some l=>CX fs f l p pairs T t rest env s K
 | none=>False
def GX (d:D) (b:Bool) (fs:FuncId->Option o8) (pairs:Prs) (T:List Ent) (x:Nat×N6) (t:Option Nat) (rest:Ops) (env:Env) (s:i8) (K:Kt):Prop:=Way d b (XX fs pairs T (x::rest) env s K) (XX fs pairs T rest (env.put t (.tup [])) s K)
def FX (b:Bool) (d:D) (fs:FuncId->Option o8) (pairs:Prs) (T:List Ent) (t:Nat) (rest:Ops) (env:Env) (s:i8) (K:Kt):Prop:=match b with
 | true=>XX fs pairs T rest ((t,d)::env) s K
 | false=>False
abbrev Eqc (fs:FuncId->Option o8) (f:FuncId) (l:List D) (d:D):Prop:=(∀p pairs t rest env s K,BC fs f l p pairs t rest env s K=BF (Y1 d||p) d fs pairs t rest env s K)/\∀p pairs T t rest env s K,CX fs f l p pairs T t rest env s K=FX (Y1 d||p) d fs pairs T t rest env s K
theorem a0s {f:FuncId} {args:List D} {d:D} (h:a1a fs f args d):Eqc fs f args d:=by
 refine ⟨fun p pairs t rest env s K=>propext ⟨?_,fun hk=>?_⟩,fun p pairs T t rest env s K=>propext ⟨?_,fun hk=>?_⟩⟩
 ·rintro ⟨d',h1,h2,h3⟩
  obtain rfl:=h.det h1
  unfold BF;rw [h2];exact h3
 ·unfold BF at hk
  split at hk
  ·rename_i hs;exact ⟨d,h,hs,hk⟩
  ·exact hk.elim
 ·rintro ⟨d',h1,h2,h3⟩
  obtain rfl:=h.det h1
  unfold FX;rw [h2];exact h3
 ·unfold FX at hk
  split at hk
  ·rename_i hs;exact ⟨d,h,hs,hk⟩
  ·exact hk.elim
theorem b3J {d pairs T t rest env s K}:FX true d fs pairs T t rest env s K=XX fs pairs T rest ((t,d)::env) s K:=Eq.trans rfl rfl
theorem b4U {pairs T vars Q env s}:XX fs pairs T [] env s (RgK vars Q)=End Q .normal (env.keep vars) s:=Eq.trans rfl rfl
theorem b0s {pairs T i t f args rest env s K}:XX fs pairs T ((i,⟨some t,.m (.call .iso (.cst (.fn f [])) args),none⟩)::rest) env s K=LX (M3 (ice s.get 20) (env.evL args)) (pureL (env.evL args)) fs f pairs T t rest env s K:=by
 unfold XX LX CX;rfl
theorem b69 {pairs T i t sz bytes a x rest env s K}:XX fs pairs T ((i,⟨some t,.m (.append sz bytes a x),none⟩)::rest) env s K=MX (env.ev a) (env.ev x) sz bytes i fs pairs T t rest env s K:=Eq.trans rfl rfl
theorem a9L {pairs T i t f args rest env s K}:XX fs pairs T ((i,⟨some t,.m (.call .raw f args),none⟩)::rest) env s K=WX fs pairs T ((i,⟨some t,.m (.call .raw f args),none⟩)::rest) env s K:=Eq.trans rfl rfl
theorem c2x {d pairs T t rest env s K}:BX (some d) fs pairs T t rest env s K=XX fs pairs T rest ((t,d)::env) s K:=Eq.trans rfl rfl
theorem b3K {cs off n i pairs T t rest env s K}:BD (.fp cs off) n i fs pairs T t rest env s K=BX (ldV s.get n (.fp cs off)) fs pairs T t rest env s K:=by
 unfold BD BX;rfl
theorem b9E {id off n i pairs T t rest env s K}:BD (.ptr id off) n i fs pairs T t rest env s K=BE (a2h pairs i id T) (ldV s.get n (.ptr id off)) fs pairs (⟨i,some id,[]⟩::T) t rest env s K:=by
 unfold BD BE BX
 simp only
 cases ldV s.get n (.ptr id off) with
 | some d=>rfl
 | none=>simp
theorem b71 {r pairs T t rest env s K}:BE True r fs pairs T t rest env s K=BX r fs pairs T t rest env s K:=by simp [BE]
theorem c0y {ob l sz i pairs T t rest env s K}:AX (some (ob,.arr l sz)) i fs pairs T t rest env s K=XX fs pairs (⟨i,none,[s.next]⟩::T) rest ((t,.arr s.next 0 l sz)::env) (s.push ob) K:=Eq.trans rfl rfl
theorem c0b {id off ob i pairs T rest env s K}:UX (.ptr id off) (some (id,ob)) i fs pairs T rest env s K=VX (a1u pairs i id T) fs pairs (⟨i,some id,[id]⟩::T) rest env (s.set id (some ob)) K:=by
 unfold UX VX;simp
theorem b4h {pairs T rest env s K}:VX True fs pairs T rest env s K=XX fs pairs T rest env s K:=by simp [VX]
theorem b4B {l p f pairs T t rest env s K}:LX (some l) p fs f pairs T t rest env s K=CX fs f l p pairs T t rest env s K:=Eq.trans rfl rfl
theorem b4i {pairs T x t rest env s K}:GX (.bool false) false fs pairs T x t rest env s K=XX fs pairs T (x::rest) env s K:=by simp [GX,Way]
theorem c19 {pairs T i t o rest env s K}:XX fs pairs T (xq i t o::rest) env s K=BX (evP env o) fs pairs T t rest env s K:=Eq.trans rfl rfl
theorem b4y {pairs T i t o g b rest env s K}:XX fs pairs T (xg i t o g b::rest) env s K=GX (env.get g) b fs pairs T (xq i t o) (some t) rest env s K:=Eq.trans rfl rfl
theorem c0G {pairs T i t x rest env s K}:XX fs pairs T (xm i t x::rest) env s K=BX (some (env.get x)) fs pairs T t rest env s K:=Eq.trans rfl rfl
theorem b5Z {pairs T i t x g b rest env s K}:XX fs pairs T (xmg i t x g b::rest) env s K=GX (env.get g) b fs pairs T (xm i t x) (some t) rest env s K:=Eq.trans rfl rfl
theorem c2O {pairs T i t n x rest env s K}:XX fs pairs T (xl i t n x::rest) env s K=BD (env.get x) n i fs pairs T t rest env s K:=Eq.trans rfl rfl
theorem b6u {pairs T i t n x g b rest env s K}:XX fs pairs T (xlg i t n x g b::rest) env s K=GX (env.get g) b fs pairs T (xl i t n x) (some t) rest env s K:=Eq.trans rfl rfl
theorem c07 {pairs T i t off x rest env s K}:XX fs pairs T (xf i t off x::rest) env s K=BX (evP env (.fieldA off (.tmp x))) fs pairs T t rest env s K:=Eq.trans rfl rfl
theorem c1S {pairs T i t off x g b rest env s K}:XX fs pairs T (xfg i t off x g b::rest) env s K=GX (env.get g) b fs pairs T (xf i t off x) (some t) rest env s K:=Eq.trans rfl rfl
theorem b8Z {pairs T i t o rest env s K}:XX fs pairs T (xa i t o::rest) env s K=AX (evA env o) i fs pairs T t rest env s K:=Eq.trans rfl rfl
theorem b5i {pairs T i n a v rest env s K}:XX fs pairs T (xw i n a v::rest) env s K=UX (env.get a) (evW env s.get n (.tmp a) v) i fs pairs T rest env s K:=Eq.trans rfl rfl
theorem b7O {pairs T i t f args rest env s K}:XX fs pairs T (xi i t f args::rest) env s K=LX (M3 (ice s.get 20) (env.evL args)) (pureL (env.evL args)) fs f pairs T t rest env s K:=b0s
theorem b48 {pairs T i t f args g b rest env s K}:XX fs pairs T (xig i t f args g b::rest) env s K=GX (env.get g) b fs pairs T (xi i t f args) (some t) rest env s K:=Eq.trans rfl rfl
theorem c27 {pairs T i t f args rest env s K}:XX fs pairs T (xk i t f args::rest) env s K=WX fs pairs T (xk i t f args::rest) env s K:=a9L
theorem c1B {pairs T i t o g rest env s K}:XX fs pairs T (xo i t o g::rest) env s K=XX fs pairs T ((i,⟨t,o,g⟩)::rest) env s K:=Eq.trans rfl rfl
theorem b7X {id}:a2u id []=True:=Eq.trans rfl rfl
theorem b96 {id x r}:a2u id (x::r)=(a4C id x/\a2u id r):=Eq.trans rfl rfl
theorem b5K {a b:Nat} (h:a≠b):a4C a b=True:=eq_true h
theorem c0I {x id}:NeO (some x) id=a4C x id:=Eq.trans rfl rfl
theorem c1h {pairs i id}:a2h pairs i id []=True:=Eq.trans rfl rfl
theorem b8d {pairs i id a r E T} (h:Rf (a1R pairs a i) false):a2h pairs i id (⟨a,r,E⟩::T)=a2h pairs i id T:=by simp [a2h,h.1]
theorem b93 {pairs i id}:a1u pairs i id []=True:=Eq.trans rfl rfl
theorem b6Q {pairs i id a r E T} (h:Rf (a1R pairs a i) false):a1u pairs i id (⟨a,r,E⟩::T)=a1u pairs i id T:=by simp [a1u,h.1]
theorem b76 {pairs i id a r E T} (h:Rf (a1R pairs a i) true):a1u pairs i id (⟨a,r,E⟩::T)=(NeO r id/\a2u id E/\a1u pairs i id T):=by simp [a1u,h.1,and_assoc]
attribute [go_sem] b3J c1X b4U b0s b69 a9L c2x b3K b9E b71 c0y c0b b4h b4B b4i c19 b4y c0G b5Z c2O b6u c07 c1S b8Z b5i b7O b48 c27 c1B b7X b96 b5K c0I c1h b8d b93 b6Q b76
attribute [go_sem] Nat.reduceLT M4 c18 b77 c2B b5V b6h b7p b7B c2Z b7H b6A c2L b6W b8T b9x c2f b5R b5g
attribute [go_sem] c1I b4j b5q c0Y b6V c0P c1p c1w c2G c2d b3o a9D b4K b8O b6C b8U b79 b3P c1Y b7Q c1E c0r c08 c0d c2w c1j b3N b9c b7h b8q b8Y b52 b4a b9I b4w c1A c2r b95 c0T
attribute [go_sem] b5Q b9Y c1C c2c c0m b4R b6t b66 b9D b7m b4k c1P c0A b7v b9s c0s b51 b6m b6K c0c c1l b53 b88 b7K b4b c0F b7M b3R c1s b8B b3Z b4A Option.some.injEq D.tup.injEq D.int.injEq D.bool.injEq D.agg.injEq D.str.injEq List.cons.injEq b38 c1v b99 c1K Option.bind Bool.or_true Bool.true_or
theorem b7J {vars c Q env env' s s'} (h:env=env') (h':s=s'):YW fs vars c Q env s=YW fs vars c Q env' s':=by rw [h,h']
theorem b5P {pairs ops K env env' s s'} (h:env=env') (h':s=s'):XQ fs pairs ops env s K=XQ fs pairs ops env' s' K:=by rw [h,h']
theorem b4I {Q e env env' s s'} (h:env=env') (h':s=s'):End Q e env s=End Q e env' s':=by rw [h,h']
theorem b8s {r r' pairs t rest env s K} (h:r=r'):BP r fs pairs t rest env s K=BP r' fs pairs t rest env s K:=by rw [h]
theorem c2F {r r' p p' f pairs t rest env s K} (h:r=r') (h':p=p'):BL r p fs f pairs t rest env s K=BL r' p' fs f pairs t rest env s K:=by rw [h,h']
theorem b6d {r r' t rest env K} (h:r=r'):BM r fs t rest env K=BM r' fs t rest env K:=by rw [h]
theorem c2E {r r' d pairs t rest env s K} (h:r=r'):BF r d fs pairs t rest env s K=BF r' d fs pairs t rest env s K:=by rw [h]
theorem b4m {d d' vars x y Q env s} (h:d=d'):CW d fs vars x y Q env s=CW d' fs vars x y Q env s:=by rw [h]
theorem b9o {d d' b pairs x t rest env s K} (h:d=d'):GW d b fs pairs x t rest env s K=GW d' b fs pairs x t rest env s K:=by rw [h]
theorem b8o {b b' d pairs T t rest env s K} (h:b=b'):FX b d fs pairs T t rest env s K=FX b' d fs pairs T t rest env s K:=by rw [h]
theorem b47 {r r' pairs T t rest env s K} (h:r=r'):BX r fs pairs T t rest env s K=BX r' fs pairs T t rest env s K:=by rw [h]
theorem b7f {r r' n i pairs T t rest env s K} (h:r=r'):BD r n i fs pairs T t rest env s K=BD r' n i fs pairs T t rest env s K:=by rw [h]
theorem c2z {C C' pairs T rest env s K} (hc:C=C'):VX C fs pairs T rest env s K=VX C' fs pairs T rest env s K:=by rw [hc]
theorem c0L {d d' x x' sz bytes i pairs T t rest env s s' K} (h:d=d') (h2:x=x') (h3:s=s'):MX d x sz bytes i fs pairs T t rest env s K=MX d' x' sz bytes i fs pairs T t rest env s' K:=by rw [h,h2,h3]
theorem b4X {f l l' p p' pairs T t rest env s K} (h:l=l') (h2:p=p'):LX l p fs f pairs T t rest env s K=LX l' p' fs f pairs T t rest env s K:=by rw [h,h2]
theorem b7i {d d' b pairs T x t rest env s K} (h:d=d'):GX d b fs pairs T x t rest env s K=GX d' b fs pairs T x t rest env s K:=by rw [h]
attribute [congr] b8o b47 b7f c2z c0L b4X b7i
attribute [congr] b7J b5P b4I b8s c2F b6d c2E b4m b9o
theorem zF {P Q:Prop} (k:Q) (h:P=Q:=by
 simp only [xn,T9,Q9,Q8,Q7,Q6,P9,O9,Q5,N9,X9,Z9,Y9,V9,U9,R9,Q4,Q3,Q2,Q1,List.map,List.getD,List.getElem?_cons_zero,List.getElem?_cons_succ,List.getElem?_nil,Option.getD]
 exact rfl):P:=h.mpr k
theorem zY0 {P Q:Prop} (k:Q) (h:P=Q:=by
 simp (maxSteps:=1000000) (disch:=(first|exact Rf.mk rfl|with_reducible assumption|omega|((repeat (first|rw [nP]|rw [nS]|rw [M4]))<;>omega)|decide)) only [go_sem,↓reduceIte]
 exact rfl):P:=h.mpr k
theorem zY {F P Q:Prop} (f:F) (k:Q) (h:F->P=Q:=by
 intro f
 simp (maxSteps:=1000000) (disch:=(first|exact Rf.mk rfl|with_reducible assumption|omega|((repeat (first|rw [nP]|rw [nS]|rw [M4]))<;>omega)|decide)) only [go_sem,↓reduceIte,f]
 exact rfl):P:=(h f).mpr k
theorem zZ0 {P:Prop} (h:P:=by simp (maxSteps:=1000000) (disch:=(first|exact Rf.mk rfl|with_reducible assumption|omega|((repeat (first|rw [nP]|rw [nS]|rw [M4]))<;>omega)|decide)) only [go_sem,↓reduceIte]):P:=h
theorem zZ {F P:Prop} (f:F) (h:F->P:=by
 intro f
 simp (maxSteps:=1000000) (disch:=(first|exact Rf.mk rfl|with_reducible assumption|omega|((repeat (first|rw [nP]|rw [nS]|rw [M4]))<;>omega)|decide)) only [go_sem,↓reduceIte,f]):P:=h f
end Go.V
namespace Go.V
def vAt (l:List Vr) (i:Nat):Vr:=l.getD i default
def bAt (l:List Bool) (i:Nat):Bool:=l.getD i false
def pAt (l:List Pr) (i:Nat):Pr:=l.getD i default
def prX (l:List (Pr×PrD)) (i:Nat):PrD:=(l.getD i ⟨default,⟨.nils,.nils,.nils,.nils,.nils⟩⟩).2
theorem a9b {l:List Vr} {i:Nat} (h:i<l.length):vAt l i=l[i]:=by simp [vAt,List.getD,h]
theorem c2u {l:List Bool} {i:Nat} (h:i<l.length):bAt l i=l[i]:=by simp [bAt,List.getD,h]
theorem a8b {l:List Pr} {i:Nat} (h:i<l.length):pAt l i=l[i]:=by simp [pAt,List.getD,h]
theorem b0e {l:List Ch} {i:Nat} (h:i<l.length):X5 l i∈l:=by rw [a6T h];exact List.getElem_mem h
theorem b1E {l:List Vr} {i:Nat} (h:i<l.length):vAt l i∈l:=by rw [a9b h];exact List.getElem_mem h
variable {k:IntKind} {i j:Nat} {d:D}
theorem b17 {l:List Bool} (h:FL 1 d (P0 l)) (hi:i<l.length):M1 1 d (.int k (i:Int))=some (.fp [.bool (bAt l i)] 0):=by rw [FLB.idx h hi,c2u hi]
theorem b8t {l:List Ch} (h:FL 5 d (a0d l)) (hi:i<l.length):M1 5 d (.int k (i:Int))=some (.fp [.str (X5 l i).name,.int .i64 (X5 l i).room,.int .i64 (X5 l i).width,.bool (X5 l i).lossy,.bool (X5 l i).copying] 0):=by rw [FLC.idx h hi,a6T hi];rfl
theorem c0K {l:List Vr} (h:FL 3 d (X2 l)) (hi:i<l.length):M1 3 d (.int k (i:Int))=some (.fp [.str (vAt l i).name,.int .i64 (vAt l i).width,.int .i64 (vAt l i).value] 0):=by rw [FLV.idx h hi,a9b hi];rfl
theorem b0b {l:List Int} (h:FI d l):X4 false d=some (.int .i64 (l.length:Int)):=FI.len h
theorem b1v {l:List Bool} (h:FL 1 d (P0 l)):X4 false d=some (.int .i64 (l.length:Int)):=by rw [h.len,a3A]
theorem b3Y {l:List Ch} (h:FL 5 d (a0d l)):X4 false d=some (.int .i64 (l.length:Int)):=by rw [h.len,a5p]
theorem b5a {l:List Vr} (h:FL 3 d (X2 l)):X4 false d=some (.int .i64 (l.length:Int)):=by rw [h.len,a8M]
variable {m:MdX} {mo:Mo} {ps:List (Pr×PrD)}
theorem a4j (h:MoF m mo ps) (hi:i<mo.procs.length):PrF (pAt mo.procs i) (prX ps i):=by
 have hi':i<ps.length:=by rw [h.plen];exact hi
 have e:pAt mo.procs i=ps[i].1:=by rw [a8b hi];simp [<- h.eq]
 have e2:prX ps i=ps[i].2:=by simp [prX,List.getD,hi']
 rw [e,e2]
 exact h.at' _ (List.getElem_mem hi')
theorem b8X (h:MoF m mo ps) (hi:i<mo.procs.length):M1 8 m.dp (.int k (i:Int))=some (.fp [.str (pAt mo.procs i).name,.int .i64 ((pAt mo.procs i).copy:Int),(prX ps i).dl,.int .i64 ((pAt mo.procs i).places:Int),(prX ps i).dr,(prX ps i).de,(prX ps i).dn,(prX ps i).dv] 0):=by
 have hi':i<ps.length:=by rw [h.plen];exact hi
 have e:pAt mo.procs i=ps[i].1:=by rw [a8b hi];simp [<- h.eq]
 have e2:prX ps i=ps[i].2:=by simp [prX,List.getD,hi']
 rw [h.p.idx (by simpa using hi'),e,e2]
 simp [a0M,j0]
theorem b8W (h:MoF m mo ps):X4 false m.dp=some (.int .i64 (mo.procs.length:Int)):=h.lenP
theorem c1r (h:MoF m mo ps) (hi:i<mo.procs.length):q8 (prX ps i).dl=true:=(a4j h hi).l.one
theorem b5p (h:MoF m mo ps) (hi:i<mo.procs.length):q8 (prX ps i).dr=true:=(a4j h hi).r.one
theorem b7g (h:MoF m mo ps) (hi:i<mo.procs.length):q8 (prX ps i).de=true:=(a4j h hi).e.one
theorem b6a (h:MoF m mo ps) (hi:i<mo.procs.length):q8 (prX ps i).dn=true:=(a4j h hi).n.one
theorem b7N (h:MoF m mo ps) (hi:i<mo.procs.length):q8 (prX ps i).dv=true:=(a4j h hi).v.one
theorem c2Y (h:MoF m mo ps):PZ (.agg [m.dt,.int .i64 m.g,m.dc,m.dv,m.dp,m.ds,.bool m.b]):=b5X fun d hd=>by
 simp only [List.mem_cons,List.not_mem_nil,or_false] at hd
 rcases hd with rfl | rfl | rfl | rfl | rfl | rfl | rfl
 ·exact ⟨FL.pure h.tr.fl,FL.ic h.tr.fl⟩
 ·exact ⟨rfl,fun _ _=>rfl⟩
 ·exact ⟨h.c.pure,FL.ic h.c⟩
 ·exact ⟨h.v.pure,FL.ic h.v⟩
 ·exact ⟨h.p.pure,FL.ic h.p⟩
 ·exact ⟨h.sf.pure,FL.ic h.sf⟩
 ·exact ⟨rfl,fun _ _=>rfl⟩
theorem b5F {n:Nat}:(n:Int)+1=((n+1:Nat):Int):=by omega
theorem c0t {a b:Nat}:((a:Int)<(b:Int))=(a<b):=by apply propext;omega
theorem b8g:((0:Nat):Int)=0:=rfl
theorem b87:((1:Nat):Int)=1:=rfl
theorem b9k:((2:Nat):Int)=2:=rfl
theorem b3Q:((3:Nat):Int)=3:=rfl
theorem c0S:((4:Nat):Int)=4:=rfl
theorem b6g:((5:Nat):Int)=5:=rfl
theorem b6l:((6:Nat):Int)=6:=rfl
theorem b9u:((7:Nat):Int)=7:=rfl
theorem b89:((8:Nat):Int)=8:=rfl
theorem b72:((9:Nat):Int)=9:=rfl
theorem c0a:((10:Nat):Int)=10:=rfl
theorem c2e:((11:Nat):Int)=11:=rfl
theorem b8b:((12:Nat):Int)=12:=rfl
theorem b4D:((13:Nat):Int)=13:=rfl
theorem b67:((14:Nat):Int)=14:=rfl
theorem b5N:((15:Nat):Int)=15:=rfl
theorem b9Z:((16:Nat):Int)=16:=rfl
theorem b1P {a b:Int}:(a==b)=decide (a=b):=by rw [Bool.eq_iff_iff];simp
theorem c1G {a b:Int}:(a != b)=!decide (a=b):=by rw [bne,b1P]
theorem c1d {a b:Nat}:((a:Int)=(b:Int))=(a=b):=by apply propext;omega
theorem b7d {a:Nat}:((0:Int)<=(a:Int))=True:=eq_true (by omega)
attribute [go_sem] b8g b87 b9k b3Q c0S b6g b6l b9u b89 b72 c0a c2e b8b b4D b67 b5N b9Z b1P c1G c1d b7d b17 b8t c0K b0b b1v b3Y b5a b8X b8W c1r b5p b7g b6a b7N b5F c0t
end Go.V
namespace Go.V
variable {fs:FuncId->Option o8}
theorem a2n {t rest env K s d sz bytes rows row A B E R} (h:Rp d sz rows E) (hp:Hp s (A++E++B) R) (hr:row.length=sz) (hrs:∀r∈rows,r.length=sz) (hb:bytes<=1000) (hl:rows.length<=1000000000)
 (k:∀d' s' E',Rp d' sz (rows++[row]) E'->Hp s' (A++E'++B) R->s.next<=s'.next->XQ fs [] rest ((t,d')::env) s' K):BM (S9 sz bytes d (.arr s.next 0 1 sz) (s.push (.cells row))) fs t rest env K:=by
 obtain ⟨d',s',h1,E',h2,h3,h4⟩:=h.app (hp.push (.cells row)) (O4 rfl) hr hrs hb hl
 rw [h1]
 exact k d' s' E' h2 h3 (by rw [i8.next_push] at h4;omega)
theorem b5h {s:i8} {d:D} {sz:Nat} {rows:List (List D)} {E W R:Hs} (h:Rp d sz rows E) (hp:Hp s W R) (he:∀e∈E,e∈W) (hr:∀r∈rows,r.length=sz) (hs:∀r∈rows,r.all W5=true):∃d',ice s.get 20 d=some d'/\FL sz d' rows :=
 (h.sn fun e hm=>hp.w e (he e hm)).frz1 (n:=18) hr hs
theorem b6F {d:D} {sz:Nat} {rows:List (List D)} {E:Hs} (h:Rp d sz rows E):q8 d=true:=h.one
attribute [go_sem] b6F
theorem Hp.hd {s:i8} {id:Nat} {cs:List D} {W R:Hs} (h:Hp s ((id,cs)::W) R):s.get id=some (.cells cs):=h.w (id,cs) (by simp)
def a0N (l:List Int):List D:=l.map fun n=>.int .i64 n
def a0H (l:List Int):List (List D):=l.map fun n=>[.int .i64 n]
@[simp] theorem a7x (l:List Int):(a0N l).length=l.length:=by simp [a0N]
@[simp] theorem b32 (l:List Int):(a0H l).length=l.length:=by simp [a0H]
theorem a8Z (l:List Int):(a0H l).flatten=a0N l:=by induction l with
 | nil=>rfl
 | cons a l ih=>simp only [a0H,a0N,List.map_cons,List.flatten_cons,List.singleton_append] at *;rw [ih]
theorem a9E (l:List Nat):(Q0 l).flatten=a1z l:=by induction l with
 | nil=>rfl
 | cons a l ih=>simp only [Q0,a1z,List.map_cons,List.flatten_cons,List.singleton_append] at *;rw [ih]
theorem b7A (l:List Int):∀r∈a0H l,r.length=1:=by intro r h;obtain ⟨b,_,rfl⟩:=List.mem_map.1 h;rfl
theorem b6G (l:List Int):∀r∈a0H l,r.all W5=true:=by intro r h;obtain ⟨b,_,rfl⟩:=List.mem_map.1 h;rfl
theorem Hp.ltW {s:i8} {W R:Hs} (h:Hp s W R) {w:Nat×List D} (hw:w∈W):w.1<s.next:=k4 (h.w w hw)
theorem Hp.ltR {s:i8} {W R:Hs} (h:Hp s W R) {w:Nat×List D} (hw:w∈R):w.1<s.next:=k4 (h.r w hw)
theorem Rp.exp {s:i8} {d:D} {sz bytes idt:Nat} {rows:List (List D)} {row:List D} {E:Hs} (h:Rp d sz rows E) (he:Has s E) (ht:s.get idt=some (.cells row)) (hr:row.length=sz) (hrs:∀r∈rows,r.length=sz) (hb:bytes<=1000) (hl:rows.length<=1000000000) :
 ∃s',S9 sz bytes d (.arr idt 0 1 sz) s=some (.arr s.next 0 (rows.length+1) sz,s')/\s'.next=s.next+1/\s'.get s.next=some (.cells (rows.flatten++row))/\∀id,id≠s.next->(∀e∈E,e.1≠id)->s'.get id=s.get id:=by
 have b3:bytes<=2 ^ 20:=Nat.le_trans hb (by decide)
 have r1:U4 s.get (.arr idt 0 1 sz)=some row:=by
  simp only [U4,ht,Nat.zero_add,Nat.one_mul,List.drop_zero]
  rw [if_pos (by omega),List.take_of_length_le (by omega)]
 have r2:a1m (.arr idt 0 1 sz)=some 1:=rfl
 have r3:Z7 sz (.arr idt 0 1 sz)=true:=by simp [Z7]
 rcases h with ⟨rfl,rfl,rfl⟩ | ⟨id,rfl,rfl,hne⟩
 ·refine ⟨s.push (.cells row),?_,by simp,by rw [O4 rfl];simp,fun j hj _=>by rw [i8.get_push,if_neg hj]⟩
  unfold S9
  simp only [r1,r2,r3,b3,decide_true,Bool.and_self,if_true]
  rw [if_neg (by omega),if_pos ⟨by omega,by omega⟩]
  rfl
 ·have hf:=a4G hrs
  have hg:s.get id=some (.cells rows.flatten):=he (id,rows.flatten) (by simp)
  have b1:(rows.length+1)*bytes<=2 ^ 45:=Nat.le_trans (Nat.mul_le_mul (show rows.length+1<=1000000001 by omega) hb) (by decide)
  have b2:rows.length+1<=2 ^ 45:=by omega
  refine ⟨(s.set id none).push (.cells (rows.flatten++row)),?_,by simp,O4 (by simp),fun j hj hn=>?_⟩
  ·unfold S9
   simp only [r1,r2,r3,b3,decide_true,Bool.and_self,if_true,hg,Nat.zero_add,hf,and_self,List.drop_zero]
   rw [if_neg (by omega),if_pos ⟨b1,b2⟩]
  ·have:id≠j:=hn (id,rows.flatten) (by simp)
   rw [i8.get_push,if_neg (by simpa using hj),O6 this.symm]
theorem Rp.app2 {s:i8} {d:D} {sz bytes:Nat} {rows:List (List D)} {row:List D} {A B E R:Hs} (h:Rp d sz rows E) (hp:Hp s (A++E++B) R) (hr:row.length=sz) (hrs:∀r∈rows,r.length=sz) (hb:bytes<=1000) (hl:rows.length<=1000000000) :
 ∃s',S9 sz bytes d (.arr s.next 0 1 sz) (s.push (.cells row))=some (.arr (s.next+1) 0 (rows.length+1) sz,s')/\Rp (.arr (s.next+1) 0 (rows.length+1) sz) sz (rows++[row]) [(s.next+1,(rows++[row]).flatten)]/\Hp s' (A++(s.next+1,(rows++[row]).flatten)::B) R/\s'.next=s.next+2/\(∀j,j<s.next->(∀e∈E,e.1≠j)->s'.get j=s.get j)/\∀j,j∉(s.next+1)::E.map Prod.fst->(s.push (.cells row)).get j=s'.get j:=by
 have hp1:=hp.push (.cells row)
 have heE:Has (s.push (.cells row)) E:=fun x hx=>hp1.w x (by simp [hx])
 obtain ⟨s',h1,h2,h3,h4⟩:=h.exp heE (O4 rfl) hr hrs hb hl
 rw [i8.next_push] at h1 h2 h3 h4
 refine ⟨s',h1,.inr ⟨s.next+1,by simp,by simp,by simp⟩,?_,h2,fun j hj hn=>?_,fun j hj=>?_⟩
 ·have hn:=hp1.nd
  have hE:∀w∈A++B,∀e∈E,e.1≠w.1:=by
   intro w hw e hee hc
   rw [List.append_assoc,List.map_append,List.map_append,List.nodup_append,List.nodup_append] at hn
   obtain ⟨_,⟨_,_,n2⟩,n3⟩:=hn
   rcases List.mem_append.1 hw with hw | hw
   ·exact n3 w.1 (List.mem_map_of_mem hw) e.1 (List.mem_append_left _ (List.mem_map_of_mem hee)) hc.symm
   ·exact n2 e.1 (List.mem_map_of_mem hee) w.1 (List.mem_map_of_mem hw) hc
  have hsub:Hp (s.push (.cells row)) (A++B) R:=hp1.sub (by
   rw [List.append_assoc]
   exact List.Sublist.append (List.Sublist.refl _) (List.sublist_append_right _ _)) fun x h=>h
  have key:∀w∈A++B,s'.get w.1=some (.cells w.2):=fun w hw=>by
   have hl:=hp.ltW (w:=w) (by rcases List.mem_append.1 hw with h | h<;>simp [h])
   rw [h4 w.1 (by omega) (hE w hw)]
   exact hsub.w w hw
  refine Hp.perm (W:=(s.next+1,(rows++[row]).flatten)::(A++B)) ⟨?_,?_,?_,?_⟩ List.perm_middle
  ·rw [List.map_cons,List.nodup_cons]
   refine ⟨fun hm=>?_,hsub.nd⟩
   obtain ⟨w,hw,e⟩:=List.mem_map.1 hm
   have:=hp.ltW (w:=w) (by rcases List.mem_append.1 hw with h | h<;>simp [h])
   simp only at e;omega
  ·intro w hw r hrr
   rcases List.mem_cons.1 hw with rfl | hw
   ·have:=hp.ltR hrr
    simp only;omega
   ·exact hsub.ap w hw r hrr
  ·intro w hw
   rcases List.mem_cons.1 hw with rfl | hw
   ·rw [h3];simp
   ·exact key w hw
  ·intro r hrr
   have hl:=hp.ltR hrr
   rw [h4 r.1 (by omega) fun e hee=>hp.ap e (by simp [hee]) r hrr]
   exact hsub.r r hrr
 ·rw [h4 j (by omega) hn,S6 hj]
 ·simp only [List.mem_cons,not_or,List.mem_map,not_exists,not_and] at hj
  exact (h4 j hj.1 fun e he hc=>hj.2 e he hc).symm
theorem c1k {pairs T i t rest env K s d sz bytes rows row A B E R} (h:Rp d sz rows E) (hp:Hp s (A++E++B) R) (hr:row.length=sz) (hrs:∀r∈rows,r.length=sz) (hb:bytes<=1000) (hl:rows.length<=1000000000) (he:a3j pairs i ((s.next+1)::E.map Prod.fst) T)
 (k:∀s',Rp (.arr (s.next+1) 0 (rows.length+1) sz) sz (rows++[row]) [(s.next+1,(rows++[row]).flatten)]->Hp s' (A++(s.next+1,(rows++[row]).flatten)::B) R->s'.next=s.next+2->(∀j,j<s.next->(∀e∈E,e.1≠j)->s'.get j=s.get j)->XX fs pairs (⟨i,none,(s.next+1)::E.map Prod.fst⟩::T) rest ((t,.arr (s.next+1) 0 (rows.length+1) sz)::env) s' K):MX d (.arr s.next 0 1 sz) sz bytes i fs pairs T t rest env (s.push (.cells row)) K:=by
 obtain ⟨s',h1,h2,h3,h4,h5,h6⟩:=h.app2 hp hr hrs hb hl
 exact ⟨_,s',(s.next+1)::E.map Prod.fst,h1,by rw [h4,i8.next_push];omega,h6,he,k s' h2 h3 h4 h5⟩
theorem c1x {t rest env K s d sz bytes rows row A B E R} (h:Rp d sz rows E) (hp:Hp s (A++E++B) R) (hr:row.length=sz) (hrs:∀r∈rows,r.length=sz) (hb:bytes<=1000) (hl:rows.length<=1000000000)
 (k:∀s',Rp (.arr (s.next+1) 0 (rows.length+1) sz) sz (rows++[row]) [(s.next+1,(rows++[row]).flatten)]->Hp s' (A++(s.next+1,(rows++[row]).flatten)::B) R->s'.next=s.next+2->(∀j,j<s.next->(∀e∈E,e.1≠j)->s'.get j=s.get j)->XQ fs [] rest ((t,.arr (s.next+1) 0 (rows.length+1) sz)::env) s' K):BM (S9 sz bytes d (.arr s.next 0 1 sz) (s.push (.cells row))) fs t rest env K:=by
 obtain ⟨s',h1,h2,h3,h4,h5,_⟩:=h.app2 hp hr hrs hb hl
 rw [h1]
 exact k s' h2 h3 h4 h5
end Go.V
namespace Go.V
def Mo.actS (mo:Mo) (st:Stt) (e:Ed) (n:Int):Stt :=
 if e.act=1 then { st with vars:=st.vars.set e.var.toNat (S4 n (vAt mo.vars e.var.toNat).width.toNat) }
 else if e.act=2 then { st with chans:=st.chans.set e.chan.toNat (cAt st.chans e.chan.toNat++[S4 n (X5 mo.chans e.chan.toNat).width.toNat]) }
 else if e.act=3 then { st with vars:=st.vars.set e.var.toNat (S4 (zAt (cAt st.chans e.chan.toNat) 0) (vAt mo.vars e.var.toNat).width.toNat),chans:=st.chans.set e.chan.toNat ((cAt st.chans e.chan.toNat).drop 1) }
 else st
def Stt.go (st:Stt) (i to:Nat):Stt:={ st with at':=st.at'.set i to }
def ChR (s:i8) (q:D) (l:List Int):Prop:=(q=.nils/\l=[])∨q=.lst 1 (a0H l)∨∃id off cs,q=.arr id off l.length 1/\s.get id=some (.cells cs)/\off+l.length<=cs.length/\(cs.drop off).take l.length=a0N l
theorem b7E (l:List Int):(a0N l).all W5=true:=by simp [a0N,W5]
theorem ChR.one {s:i8} {q:D} {l:List Int} (h:ChR s q l):q8 q=true:=by
 rcases h with ⟨rfl,_⟩ | rfl | ⟨id,off,cs,rfl,_⟩<;>rfl
theorem ChR.frz {s:i8} {q:D} {l:List Int} (h:ChR s q l) (n:Nat):∃q',ice s.get (n+2) q=some q'/\FI q' l:=by
 rcases h with ⟨rfl,rfl⟩ | rfl | ⟨id,off,cs,rfl,h1,h2,h3⟩
 ·exact ⟨_,rfl,.inl ⟨rfl,rfl⟩⟩
 ·exact ⟨_,rfl,.inr rfl⟩
 ·refine ⟨.lst 1 (a0H l),?_,.inr rfl⟩
  have e1:U4 s.get (.arr id off l.length 1)=some (a0N l):=by
   simp only [U4,h1,Nat.mul_one,h3]
   rw [if_pos h2]
  have e2:M3 (ice s.get (n+1)) (a0N l)=some (a0N l):=a5m (b7E l)
  simp only [ice,e1,e2,Option.map_some]
  have e3:=a6L (a0N l)
  rw [a7x] at e3
  rw [e3]
  simp [a0N,a0H]
def dAt (l:List D) (i:Nat):D:=l.getD i .undef
theorem a8d {l:List D} {i:Nat} (h:i<l.length):dAt l i=l[i]:=by simp [dAt,List.getD,h]
def a1i (s:i8) (cs:List D) (st:Stt):Prop:=∃dA dV dC qs,cs=[dA,dV,dC,.int .i64 st.hold]/\SN s 1 dA (Q0 st.at')/\SN s 1 dV (a0H st.vars)/\SN s 1 dC (qs.map fun q=>[q])/\(qs=[]∨∃id,dC=.arr id 0 qs.length 1)/\qs.length=st.chans.length/\∀j (h:j<qs.length) (h':j<st.chans.length),ChR s qs[j] st.chans[j]
theorem a1i.mk {s:i8} {dA dV dC:D} {st:Stt} (qs:List D) (hA:SN s 1 dA (Q0 st.at')) (hV:SN s 1 dV (a0H st.vars)) (hC:SN s 1 dC (qs.map fun q=>[q])) (hn:qs=[]∨∃id,dC=.arr id 0 qs.length 1) (hl:qs.length=st.chans.length) (hq:∀j,j<qs.length->ChR s (dAt qs j) (cAt st.chans j)):a1i s [dA,dV,dC,.int .i64 st.hold] st :=
 ⟨dA,dV,dC,qs,rfl,hA,hV,hC,hn,hl,fun j h h'=>by
  have:=hq j h
  rwa [a8d h,a9o h'] at this⟩
theorem a9x {s:i8} (n:Nat):∀ {qs:List D} {l:List (List Int)},qs.length=l.length->(∀j (h:j<qs.length) (h':j<l.length),ChR s qs[j] l[j])->∃ds:List D,V5 (ice s.get (n+2)) (qs.map fun q=>[q])=some (ds.map fun d=>[d])/\ds.length=l.length/\∀i (h:i<ds.length) (h':i<l.length),FI ds[i] l[i]
 | [],[],_,_=>⟨[],rfl,rfl,fun i h=>by simp at h⟩
 | [],_::_,h,_=>by simp at h
 | _::_,[],h,_=>by simp at h
 | q::qs,a::l,h,hr=>by
   obtain ⟨ds,h1,h2,h3⟩:=a9x n (qs:=qs) (l:=l) (by simpa using h) fun j hj hj'=>hr (j+1) (by simp;omega) (by simp;omega)
   obtain ⟨d,h4,h5⟩:=(hr 0 (by simp) (by simp)).frz n
   refine ⟨d::ds,?_,by simp [h2],fun i hi hi'=>?_⟩
   ·have h4:ice s.get (n+2) q=some d:=h4
    simp only [List.map_cons,V5,M3,h4,h1]
   ·cases i with
    | zero=>exact h5
    | succ i=>exact h3 i (by simpa using hi) (by simpa using hi')
theorem a1i.frz {s:i8} {cs:List D} {st:Stt} (h:a1i s cs st):∃x,ice s.get 20 (.agg cs)=some (.agg [x.da,x.dv,x.dc,.int .i64 st.hold])/\StF x st:=by
 obtain ⟨dA,dV,dC,qs,rfl,hA,hV,hC,hn,hl,hq⟩:=h
 obtain ⟨da,a1,b1⟩:=hA.frz1 (n:=17) (a2q _) (a5G _)
 obtain ⟨dv,a2,b2⟩:=hV.frz1 (n:=17) (b7A _) (b6G _)
 obtain ⟨ds,h1,h2,h3⟩:=a9x 16 hl hq
 obtain ⟨dc,a3,b3⟩:=hC.frz (n:=18) (fun r hr=>by obtain ⟨x,_,rfl⟩:=List.mem_map.1 hr;rfl) h1 (fun e=>by
  rcases hn with rfl | ⟨id,hid⟩
  ·have:ds=[]:=List.length_eq_zero_iff.1 (by rw [h2,<- hl];rfl)
   rw [this]
  ·rw [hid] at e;cases e)
 refine ⟨⟨da,dv,dc⟩,?_,⟨b1,b2,ds,b3,h2,h3⟩⟩
 have e1:ice s.get 19 (.int .i64 st.hold)=some (.int .i64 st.hold):=rfl
 simp only [ice,M3,a1,a2,a3,e1,Option.map_some]
def qcs (ids:List Nat) (l:List (List Int)):List D:=List.zipWith (fun id q=>.arr id 0 q.length 1) ids l
theorem b0K {l:List D}:(l.map fun q=>[q]).flatten=l:=by induction l with
 | nil=>rfl
 | cons a l ih=>simp [ih]
theorem a2b {ids:List Nat} {l:List (List Int)} (h:ids.length=l.length):(qcs ids l).length=l.length:=by simp [qcs,h]
theorem a8R:∀ {ids:List Nat} {l:List (List Int)} {j:Nat},ids.length=l.length->j<l.length->(qcs ids l)[j]?=some (.arr (nAt ids j) 0 (cAt l j).length 1)
 | [],[],j,_,h=>by simp at h
 | [],_::_,j,h,_=>by simp at h
 | _::_,[],j,h,_=>by simp at h
 | i::ids,a::l,0,h,_=>by simp [qcs,nAt,cAt]
 | i::ids,a::l,j+1,h,hj=>by
   have:=a8R (ids:=ids) (l:=l) (j:=j) (by simpa using h) (by simpa using hj)
   simpa [qcs,nAt,cAt] using this
theorem b1m {ids:List Nat} {l:List (List Int)} {j:Nat} (h:ids.length=l.length) (hj:j<l.length):dAt (qcs ids l) j=.arr (nAt ids j) 0 (cAt l j).length 1:=by
 have:=a8R h hj
 simp [dAt,List.getD,this]
structure a6A (s:i8) (n:Nat) (a v:Nat) (dC:D) (ids:List Nat) (st:Stt):Prop where
 len:ids.length=st.chans.length
 ga:s.get a=some (.cells (a1z st.at'))
 gv:s.get v=some (.cells (a0N st.vars))
 gc:(st.chans=[]/\dC=.nils)∨∃c,dC=.arr c 0 st.chans.length 1/\s.get c=some (.cells (qcs ids st.chans))/\n<=c/\c≠a/\c≠v/\∀j,j<st.chans.length->nAt ids j≠c
 gq:∀j,j<st.chans.length->s.get (nAt ids j)=some (.cells (a0N (cAt st.chans j)))/\n<=nAt ids j/\nAt ids j≠a/\nAt ids j≠v
 inj:∀i j,i<st.chans.length->j<st.chans.length->nAt ids i=nAt ids j->i=j
 av:a≠v
 na:n<=a
 nv:n<=v
theorem le_succ {a b:Nat}:(a+1<=b)=(a<b):=by apply propext;omega
attribute [go_sem] a2b a8R a9B a7x le_succ
structure a3w (mo:Mo):Prop where
 ch:∀c∈mo.chans,1<=c.room/\c.room<=3/\1<=c.width/\c.width<=8
 vr:∀v∈mo.vars,1<=v.width/\v.width<=8/\S4 v.value v.width.toNat=v.value
theorem b3I {l:List D} {k j:Nat} {d:D} (hk:k<l.length):dAt (l.set k d) j=if j=k then d else dAt l j:=by
 unfold dAt
 simp only [List.getD,List.getElem?_set]
 split
 ·rename_i h;subst h;simp [hk]
 ·rename_i h;rw [if_neg (Ne.symm h)]
theorem a8q {l:List (List Int)} {k j:Nat} {d:List Int} (hk:k<l.length):cAt (l.set k d) j=if j=k then d else cAt l j:=by
 unfold cAt
 simp only [List.getD,List.getElem?_set]
 split
 ·rename_i h;subst h;simp [hk]
 ·rename_i h;rw [if_neg (Ne.symm h)]
theorem a8m {s:i8} {id:Nat} {l:List Int} (h:s.get id=some (.cells (a0N l))):ChR s (.arr id 0 l.length 1) l :=
 .inr (.inr ⟨id,0,_,rfl,h,by simp,by rw [List.drop_zero,<- a7x l,List.take_length]⟩)
theorem a6A.chan {s S:i8} {n a v c:Nat} {ids:List Nat} {st:Stt} (h:a6A s n a v (.arr c 0 st.chans.length 1) ids st) {k:Nat} (hk:k<st.chans.length) {A:List Nat} {V:List Int} {l:List Int} {d:D} {hd:Int} (hA:A.length=st.at'.length) (hV:V.length=st.vars.length)
 (ga:S.get a=some (.cells (a1z A))) (gv:S.get v=some (.cells (a0N V))) (gc:S.get c=some (.cells ((qcs ids st.chans).set k d))) (hr:ChR S d l) (hq:∀j,j<st.chans.length->j≠k->S.get (nAt ids j)=s.get (nAt ids j)) :
 a1i S [.arr a 0 st.at'.length 1,.arr v 0 st.vars.length 1,.arr c 0 st.chans.length 1,.int .i64 hd] ⟨A,V,st.chans.set k l,hd⟩:=by
 refine a1i.mk (st:=⟨A,V,st.chans.set k l,hd⟩) ((qcs ids st.chans).set k d) (.inr (.inl ⟨a,by simp [hA],by rw [a9E];exact ga⟩)) (.inr (.inl ⟨v,by simp [hV],by rw [a8Z];exact gv⟩)) (.inr (.inl ⟨c,by simp [a2b h.len],by rw [b0K];exact gc⟩)) (.inr ⟨c,by simp [a2b h.len]⟩) (by simp [a2b h.len]) fun j hj=>?_
 rw [List.length_set,a2b h.len] at hj
 rw [b3I (by rw [a2b h.len];exact hk),a8q hk]
 split
 ·exact hr
 ·rename_i hjk
  rw [b1m h.len hj]
  exact a8m (by rw [hq j hj hjk];exact (h.gq j hj).1)
theorem a6A.same {s S:i8} {n a v:Nat} {dC:D} {ids:List Nat} {st:Stt} (h:a6A s n a v dC ids st) {A:List Nat} {V:List Int} {hd:Int} (hA:A.length=st.at'.length) (hV:V.length=st.vars.length)
 (ga:S.get a=some (.cells (a1z A))) (gv:S.get v=some (.cells (a0N V))) (hq:∀j,n<=j->j<s.next->j≠a->j≠v->S.get j=s.get j) :
 a1i S [.arr a 0 st.at'.length 1,.arr v 0 st.vars.length 1,dC,.int .i64 hd] ⟨A,V,st.chans,hd⟩:=by
 refine a1i.mk (st:=⟨A,V,st.chans,hd⟩) (qcs ids st.chans) (.inr (.inl ⟨a,by simp [hA],by rw [a9E];exact ga⟩)) (.inr (.inl ⟨v,by simp [hV],by rw [a8Z];exact gv⟩)) ?_ ?_ (a2b h.len) fun j hj=>?_
 ·rcases h.gc with ⟨e,rfl⟩ | ⟨c,rfl,g,nc,ca,cv,_⟩
  ·refine .inl ⟨rfl,?_⟩
   rw [e];simp [qcs]
  ·refine .inr (.inl ⟨c,by simp [a2b h.len],?_⟩)
   rw [b0K,hq c nc (k4 g) ca cv];exact g
 ·rcases h.gc with ⟨e,rfl⟩ | ⟨c,rfl,g,nc,ca,cv,_⟩
  ·left;rw [e];simp [qcs]
  ·exact .inr ⟨c,by simp [a2b h.len]⟩
 ·rw [a2b h.len] at hj
  obtain ⟨g,n1,n2,n3⟩:=h.gq j hj
  rw [b1m h.len hj]
  exact a8m (by rw [hq _ n1 (k4 g) n2 n3];exact g)
variable {fs:FuncId->Option o8}
end Go.V
namespace Go.V
theorem b08 {n:Int} {w:Nat} (h1:1<=w):S4 (S4 n w) w=S4 n w:=by
 have:=b65 (n:=n) (w:=w) (by omega)
 exact a6B (by omega) this.1 this.2
theorem b4g {l:List Nat} {k j:Nat} {d:Nat} (hk:k<l.length):nAt (l.set k d) j=if j=k then d else nAt l j:=by
 unfold nAt
 simp only [List.getD,List.getElem?_set]
 split
 ·rename_i h;subst h;simp [hk]
 ·rename_i h;rw [if_neg (Ne.symm h)]
theorem b4f {l:List Int} {k j:Nat} {d:Int} (hk:k<l.length):zAt (l.set k d) j=if j=k then d else zAt l j:=by
 unfold zAt
 simp only [List.getD,List.getElem?_set]
 split
 ·rename_i h;subst h;simp [hk]
 ·rename_i h;rw [if_neg (Ne.symm h)]
structure a03 (mo:Mo) (st:Stt):Prop where
 at':st.at'.length=mo.procs.length
 vars:st.vars.length=mo.vars.length
 chans:st.chans.length=mo.chans.length
 pl:∀i,i<mo.procs.length->nAt st.at' i<(pAt mo.procs i).places
 vr:∀i,i<mo.vars.length->S4 (zAt st.vars i) (vAt mo.vars i).width.toNat=zAt st.vars i
 cl:∀i,i<mo.chans.length->((cAt st.chans i).length:Int)<=(X5 mo.chans i).room
 cv:∀i,i<mo.chans.length->∀n∈cAt st.chans i,S4 n (X5 mo.chans i).width.toNat=n
 hold:-1<=st.hold/\st.hold<(mo.procs.length:Int)
theorem a03.var {mo:Mo} (hf:a3w mo) {st:Stt} (h:a03 mo st) {k:Nat} (hk:k<mo.vars.length) (n:Int):a03 mo { st with vars:=st.vars.set k (S4 n (vAt mo.vars k).width.toNat) }:=by
 refine ⟨h.at',by simp [h.vars],h.chans,h.pl,fun i hi=>?_,h.cl,h.cv,h.hold⟩
 rw [b4f (by rw [h.vars];exact hk)]
 split
 ·rename_i e;subst e
  have:=hf.vr _ (b1E hk)
  exact b08 (by omega)
 ·exact h.vr i hi
theorem a03.chan {mo:Mo} {st:Stt} (h:a03 mo st) {k:Nat} (hk:k<mo.chans.length) {l:List Int} (hl:(l.length:Int)<=(X5 mo.chans k).room) (hv:∀n∈l,S4 n (X5 mo.chans k).width.toNat=n):a03 mo { st with chans:=st.chans.set k l }:=by
 refine ⟨h.at',h.vars,by simp [h.chans],h.pl,h.vr,fun i hi=>?_,fun i hi=>?_,h.hold⟩
 ·simp only [a8q (by rw [h.chans];exact hk)]
  split
  ·rename_i e;subst e;exact hl
  ·exact h.cl i hi
 ·simp only [a8q (by rw [h.chans];exact hk)]
  split
  ·rename_i e;subst e;exact hv
  ·exact h.cv i hi
theorem a03.go {mo:Mo} {st:Stt} (h:a03 mo st) {p to:Nat} (hp:p<mo.procs.length) (ht:to<(pAt mo.procs p).places):a03 mo (st.go p to):=by
 refine ⟨by simp [Stt.go,h.at'],h.vars,h.chans,fun i hi=>?_,h.vr,h.cl,h.cv,h.hold⟩
 simp only [Stt.go,b4g (by rw [h.at'];exact hp)]
 split
 ·rename_i e;subst e;exact ht
 ·exact h.pl i hi
theorem a03.hd {mo:Mo} {st:Stt} (h:a03 mo st) {z:Int} (hz:-1<=z/\z<(mo.procs.length:Int)):a03 mo { st with hold:=z }:=⟨h.at',h.vars,h.chans,h.pl,h.vr,h.cl,h.cv,hz⟩
theorem a03.act {mo:Mo} (hf:a3w mo) {st:Stt} (h:a03 mo st) {pl:Nat} {vs:List Nat} {e:Ed} (he:a2Q mo.tree mo.chans.length pl vs e) (hv:∀v∈vs,v<mo.vars.length) (h2:e.act=2->((cAt st.chans e.chan.toNat).length:Int)<(X5 mo.chans e.chan.toNat).room) (n:Int):a03 mo (mo.actS st e n):=by
 unfold Mo.actS
 split
 ·rename_i h1
  obtain ⟨k,hk,e1⟩:=he.v1 (.inl h1)
  rw [e1,Int.toNat_natCast]
  exact h.var hf (hv k hk) n
 split
 ·rename_i _ h1
  obtain ⟨k,e1,hk⟩:=he.c1 (.inl h1)
  have h2:=h2 h1
  rw [e1,Int.toNat_natCast] at *
  refine h.chan hk (by simp;omega) fun z hz=>?_
  rcases List.mem_append.1 hz with hz | hz
  ·exact h.cv k hk z hz
  ·simp only [List.mem_singleton] at hz
   subst hz
   have:=hf.ch _ (b0e hk)
   exact b08 (by omega)
 split
 ·rename_i _ _ h1
  obtain ⟨k,hk,e1⟩:=he.v1 (.inr h1)
  obtain ⟨q,e2,hq⟩:=he.c1 (.inr h1)
  rw [e1,e2,Int.toNat_natCast,Int.toNat_natCast]
  have h3:=h.var hf (hv k hk) (zAt (cAt st.chans q) 0)
  refine h3.chan hq ?_ fun z hz=>?_
  ·have:=h.cl q hq
   rw [List.length_drop];omega
  ·exact h.cv q hq z (List.mem_of_mem_drop hz)
 ·exact h
def Mo.vals (mo:Mo):List Int:=mo.vars.map Vr.value
theorem Hp.addR1 {s:i8} {W R:Hs} (h:Hp s W R) {id:Nat} {cs:List D} (hg:s.get id=some (.cells cs)) (h1:∀w∈W,w.1≠id):Hp s W ((id,cs)::R):=by
 refine ⟨h.nd,?_,h.w,?_⟩
 ·intro w hw r hr
  rcases List.mem_cons.1 hr with rfl | hr
  ·exact h1 w hw
  ·exact h.ap w hw r hr
 ·intro r hr
  rcases List.mem_cons.1 hr with rfl | hr
  ·exact hg
  ·exact h.r r hr
theorem Hp.ne {s:i8} {A B C R:Hs} {a b:Nat×List D} (h:Hp s (A++a::(B++b::C)) R):a.1≠b.1:=by
 have:=h.nd
 rw [List.map_append,List.map_cons,List.map_append,List.map_cons,List.nodup_append,List.nodup_cons] at this
 exact fun e=>this.2.1.1 (by simp [e])
theorem Rp.chr {s:i8} {q:D} {l:List Int} {E:Hs} (h:Rp q 1 (a0H l) E) (he:Has s E):ChR s q l:=by
 rcases h with ⟨rfl,h2,_⟩ | ⟨id,h1,rfl,_⟩
 ·refine .inl ⟨rfl,?_⟩
  cases l with
  | nil=>rfl
  | cons a l=>simp [a0H] at h2
 ·rw [b32] at h1
  subst h1
  have:=he (id,(a0H l).flatten) (by simp)
  rw [a8Z] at this
  exact a8m this
end Go.V
