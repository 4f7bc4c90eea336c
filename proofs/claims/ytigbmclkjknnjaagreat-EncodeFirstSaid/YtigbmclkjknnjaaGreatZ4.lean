/- Texts one behind the other. -/
import Derived.Test.YtigbmclkjknnjaaGreatZ3
import Derived.Test.YtigbmclkjknnjaaGreatVt
set_option linter.unusedSimpArgs false
set_option linter.unusedVariables false
set_option maxRecDepth 100000
set_option maxHeartbeats 8000000
namespace Go.Proofs.YtigbmclkjknnjaaGreat
open Go.V
theorem b6C {x:Nd}:((x.kids.length:Int)==0)=decide (x.kids=[]):=by
 rw [Bool.eq_iff_iff,beq_iff_eq,decide_eq_true_eq,<- List.length_eq_zero_iff];omega
theorem node_1 {d:D} {t:List Nd} {x:Nd} (hT:X8 d t) (hx:x.Ok) (hk:a1P t x) (hK:x.kind=1):a0s 68 [d,.agg x.row] fun b=>b=true->(x.words.length:Int)=1/\((x.aH.length:Int)=4/\∀n∈x.aH,0<=n/\n<=999999)/\x.num 2<=1/\x.num 3<=1/\x.kids=[]:=by
 refine a0B ?_;have o1:=FL.one hx.w;have o2:=FL.one hx.n;have o3:=FL.one hx.k;have hlen:=FI.len hx.k;have hz:=hx.fz;have gV:x.row=[.int .i64 1,x.dw,x.dn,x.dk,.int .i64 x.pos]:=by unfold Nd.row;rw [hK]
 have kg:=b6C (x:=x);obtain ⟨b1,h1,p1⟩:=a19 hx (c:=1);obtain ⟨b2,h2,p2⟩:=a2l hx (c:=4) (m:=999999);rw [gV] at h1 h2 hz ⊢;cases b1
 ·refine V9 (vf:=Z4) rfl ?_
  unfold Z4;refine zE ?_;repeat first
  |(apply U9 h1 rfl rfl (X3 hz U2))
  |(apply U9 h2 rfl rfl (X1 hz U2 U2))
  |refine zW (V3 o1 o2 o3 hlen) ?_
  exact ⟨.inr trivial,_,rR,_,rfl,by simp⟩
 cases b2
 ·refine V9 (vf:=Z4) rfl ?_
  unfold Z4;refine zE ?_;repeat first
  |(apply U9 h1 rfl rfl (X3 hz U2))
  |(apply U9 h2 rfl rfl (X1 hz U2 U2))
  |refine zW (V3 o1 o2 o3 hlen) ?_
  exact ⟨.inr trivial,_,rR,_,rfl,by simp⟩
 have q2:=p2 rfl;have l4:x.aH.length=4:=by omega
 have i2:W1 1 x.dn (.int .i64 2)=some (.fp [.int .i64 (x.num 2)] 0):=by rw [a7p (by omega)];exact FI.idx hx.n (i:=2) (by omega)
 have i3:W1 1 x.dn (.int .i64 3)=some (.fp [.int .i64 (x.num 3)] 0):=by rw [a7p (by omega)];exact FI.idx hx.n (i:=3) (by omega)
 by_cases c2:x.num 2<=1
 ·by_cases c3:x.num 3<=1
  ·refine V9 (vf:=Z4) rfl ?_
   unfold Z4;refine zE ?_;repeat first
   |(apply U9 h1 rfl rfl (X3 hz U2))
   |(apply U9 h2 rfl rfl (X1 hz U2 U2))
   |refine zW (U5 o1 o2 o3 hlen i2 i3 c2 (aN c3 kg)) ?_
   exact ⟨.inr trivial,_,rR,_,rfl,fun h=>⟨p1 rfl,q2,c2,c3,by simpa using h⟩⟩
  ·refine V9 (vf:=Z4) rfl ?_
   unfold Z4;refine zE ?_;repeat first
   |(apply U9 h1 rfl rfl (X3 hz U2))
   |(apply U9 h2 rfl rfl (X1 hz U2 U2))
   |refine zW (U5 o1 o2 o3 hlen i2 i3 c2 (aN c3 kg)) ?_
   exact ⟨.inr trivial,_,rR,_,rfl,by simp⟩
 ·refine V9 (vf:=Z4) rfl ?_
  unfold Z4;refine zE ?_;repeat first
  |(apply U9 h1 rfl rfl (X3 hz U2))
  |(apply U9 h2 rfl rfl (X1 hz U2 U2))
  |refine zW (U5 o1 o2 o3 hlen i2 i3 c2 kg) ?_
  exact ⟨.inr trivial,_,rR,_,rfl,by simp⟩
theorem node_2 {d:D} {t:List Nd} {x:Nd} (hT:X8 d t) (hx:x.Ok) (hk:a1P t x) (hK:x.kind=2):a0s 68 [d,.agg x.row] fun b=>b=true->(x.words.length:Int)=1/\x.aH.length=2/\-999999<=x.num 1/\x.num 1<=999999/\x.kids=[]:=by
 refine a0B ?_;have o1:=FL.one hx.w;have o2:=FL.one hx.n;have o3:=FL.one hx.k;have hlen:=FI.len hx.k;have nT:=FI.len hx.n;have hz:=hx.fz;have gV:x.row=[.int .i64 2,x.dw,x.dn,x.dk,.int .i64 x.pos]:=by unfold Nd.row;rw [hK]
 have kg:=b6C (x:=x);obtain ⟨b1,h1,p1⟩:=a19 hx (c:=1);rw [gV] at h1 hz ⊢;cases b1
 ·refine V9 (vf:=Z4) rfl ?_
  unfold Z4;refine zE ?_;repeat first
  |(apply U9 h1 rfl rfl (X3 hz U2))
  |refine zW (V3 o1 o2 o3 hlen) ?_
  exact ⟨.inr trivial,_,rR,_,rfl,by simp⟩
 by_cases l2:x.aH.length=2
 ·have vY:((x.aH.length:Int)==2)=true:=by rw [l2];rfl
  have i0:W1 1 x.dn (.int .i64 0)=some (.fp [.int .i64 (x.num 0)] 0):=by rw [a7p (by omega)];exact FI.idx hx.n (i:=0) (by omega)
  have i1:W1 1 x.dn (.int .i64 1)=some (.fp [.int .i64 (x.num 1)] 0):=by rw [a7p (by omega)];exact FI.idx hx.n (i:=1) (by omega)
  have g0:=b0I (k:=x.num 0) (a:=0) (b:=999999);have g1:=b0I (k:=x.num 1) (a:=-999999) (b:=999999);cases r0:inR (x.num 0) 0 999999
  ·rw [r0] at g0
   refine V9 (vf:=Z4) rfl ?_;unfold Z4;refine zE ?_;repeat first
   |(apply U9 h1 rfl rfl (X3 hz U2))
   |(apply U9 g0 rfl rfl rfl)
   |(apply U9 g1 rfl rfl rfl)
   |refine zW (U5 o1 o2 o3 hlen nT vY i0 (aN i1 kg)) ?_
   exact ⟨.inr trivial,_,rR,_,rfl,by simp⟩
  ·rw [r0] at g0
   cases r1:inR (x.num 1) (-999999) 999999
   ·rw [r1] at g1
    refine V9 (vf:=Z4) rfl ?_;unfold Z4;refine zE ?_;repeat first
    |(apply U9 h1 rfl rfl (X3 hz U2))
    |(apply U9 g0 rfl rfl rfl)
    |(apply U9 g1 rfl rfl rfl)
    |refine zW (U5 o1 o2 o3 hlen nT vY i0 (aN i1 kg)) ?_
    exact ⟨.inr trivial,_,rR,_,rfl,by simp⟩
   ·rw [r1] at g1
    have r1:=b27.1 r1;refine V9 (vf:=Z4) rfl ?_;unfold Z4;refine zE ?_;repeat first
    |(apply U9 h1 rfl rfl (X3 hz U2))
    |(apply U9 g0 rfl rfl rfl)
    |(apply U9 g1 rfl rfl rfl)
    |refine zW (U5 o1 o2 o3 hlen nT vY i0 (aN i1 kg)) ?_
    exact ⟨.inr trivial,_,rR,_,rfl,fun h=>⟨p1 rfl,l2,r1.1,r1.2,by simpa using h⟩⟩
 ·have vY:((x.aH.length:Int)==2)=false:=by rw [beq_eq_false_iff_ne];omega
  refine V9 (vf:=Z4) rfl ?_;unfold Z4;refine zE ?_;repeat first
  |(apply U9 h1 rfl rfl (X3 hz U2))
  |refine zW (Y3 o1 o2 o3 hlen nT vY kg) ?_
  exact ⟨.inr trivial,_,rR,_,rfl,by simp⟩
theorem node_3 {d:D} {t:List Nd} {x:Nd} (hT:X8 d t) (hx:x.Ok) (hk:a1P t x) (hK:x.kind=3):a0s 68 [d,.agg x.row] fun b=>b=true->(x.words.length:Int)=1/\((x.aH.length:Int)=1/\∀n∈x.aH,0<=n/\n<=999999)/\∃v,v<=x.kids.length/\(∀i,i<v->(nd t (x.aC i)).kind=2)/\∀i,v<=i->i<x.kids.length->6<=(nd t (x.aC i)).kind/\(nd t (x.aC i)).kind<=15:=by
 refine a0B ?_;have o1:=FL.one hx.w;have o2:=FL.one hx.n;have o3:=FL.one hx.k;have hlen:=FI.len hx.k;have hz:=hx.fz;have gV:x.row=[.int .i64 3,x.dw,x.dn,x.dk,.int .i64 x.pos]:=by unfold Nd.row;rw [hK]
 obtain ⟨b1,h1,p1⟩:=a19 hx (c:=1);obtain ⟨b2,h2,p2⟩:=a2l hx (c:=1) (m:=999999);rw [gV] at h1 h2 hz ⊢;refine V9 (vf:=Z4) rfl ?_;unfold Z4;refine zE ?_;try refine zW (V3 o1 o2 o3 hlen) ?_
 refine a1c (Q:=a0j 1 _) (fun n env s=>∃i:Nat,i<=x.kids.length/\n=x.kids.length-i/\(∀j,j<i->(nd t (x.aC j)).kind=2)/\s.get 0=some (.cells [.int .i64 3,x.dw,x.dn,x.dk,.int .i64 x.pos])/\(env.get 0=d/\env.get 3=.ptr 0 0/\env.get 5=.int .i64 (x.kids.length:Int)/\env.get 6=.int .i64 (i:Int))) ?_ x.kids.length _ _ ⟨0,by omega,rfl,fun j h=>by omega,W2 rfl,by simp [q8.get,a0f.at];rfl⟩;rintro n env s ⟨i,hi,rfl,gU,hg,hE⟩;have fin:∀ (env:q8) (s:k4),s.get 0=some (.cells [.int .i64 3,x.dw,x.dn,x.dk,.int .i64 x.pos])->(env.get 0=d/\env.get 3=.ptr 0 0/\env.get 6=.int .i64 (i:Int))->True:=fun _ _ _ _=>trivial
 obtain ⟨b3,h3,p3⟩:=b30 hT hx hk (f:=i) (a:=6) (b:=15);rw [gV] at h3;by_cases c3:i<x.kids.length
 ·have iB:((i:Int)<(x.kids.length:Int))=True:=eq_true (by omega)
  have hs:=a4T c3 hx.kl;have jJ:=hk _ (List.getElem_mem c3);have h4:=b2T hT hx c3 jJ.1 jJ.2;rw [gV] at h4;by_cases c4:(nd t (x.aC i)).kind=2
  ·have jf:((nd t (x.aC i)).kind==2)=true:=by rw [c4];rfl
   repeat first
   |(apply U9 h4 rfl;(focus (simp only [q8.aP,q8.ev,q8.get,Nat.reduceEqDiff,↓reduceIte,hE]));(focus exact X1 hT.fz hz U2))
   |refine zW (U5 hE hg o1 o2 o3 hlen iB (aN jf hs)) ?_
   refine ⟨x.kids.length-(i+1),by omega,i+1,by omega,rfl,fun j h=>?_,hg,(rG hE)⟩;by_cases e:j=i
   ·subst e;exact c4
   ·exact gU j (by omega)
  ·have jf:((nd t (x.aC i)).kind==2)=false:=by rw [beq_eq_false_iff_ne];exact c4
   cases b1
   ·repeat first
    |(apply U9 h4 rfl;(focus (simp only [q8.aP,q8.ev,q8.get,Nat.reduceEqDiff,↓reduceIte,hE]));(focus exact X1 hT.fz hz U2))
    |(apply U9 h1 rfl rfl (X3 hz U2))
    |refine zW (U5 hE hg o1 o2 o3 hlen iB jf) ?_
    exact ⟨.inr trivial,_,rR,_,rfl,by simp⟩
   cases b2
   ·repeat first
    |(apply U9 h4 rfl;(focus (simp only [q8.aP,q8.ev,q8.get,Nat.reduceEqDiff,↓reduceIte,hE]));(focus exact X1 hT.fz hz U2))
    |(apply U9 h1 rfl rfl (X3 hz U2))
    |(apply U9 h2 rfl rfl (X1 hz U2 U2))
    |refine zW (U5 hE hg o1 o2 o3 hlen iB jf) ?_
    exact ⟨.inr trivial,_,rR,_,rfl,by simp⟩
   repeat first
   |(apply U9 h4 rfl;(focus (simp only [q8.aP,q8.ev,q8.get,Nat.reduceEqDiff,↓reduceIte,hE]));(focus exact X1 hT.fz hz U2))
   |(apply U9 h1 rfl rfl (X3 hz U2))
   |(apply U9 h2 rfl rfl (X1 hz U2 U2))
   |(apply U9 h3 rfl;(focus (simp only [q8.aP,q8.ev,q8.get,Nat.reduceEqDiff,↓reduceIte,hE]));(focus exact fK hT.fz hz U2 U2 U2))
   |refine zW (U5 hE hg o1 o2 o3 hlen iB jf) ?_
   exact ⟨.inr trivial,_,rR,_,rfl,fun h=>⟨p1 rfl,p2 rfl,i,hi,gU,p3 h⟩⟩
 ·have iB:((i:Int)<(x.kids.length:Int))=False:=eq_false (by omega)
  cases b1
  ·repeat first
   |(apply U9 h1 rfl rfl (X3 hz U2))
   |refine zW (Y3 hE hg o1 o2 o3 hlen iB) ?_
   exact ⟨.inr trivial,_,rR,_,rfl,by simp⟩
  cases b2
  ·repeat first
   |(apply U9 h1 rfl rfl (X3 hz U2))
   |(apply U9 h2 rfl rfl (X1 hz U2 U2))
   |refine zW (Y3 hE hg o1 o2 o3 hlen iB) ?_
   exact ⟨.inr trivial,_,rR,_,rfl,by simp⟩
  repeat first
  |(apply U9 h1 rfl rfl (X3 hz U2))
  |(apply U9 h2 rfl rfl (X1 hz U2 U2))
  |(apply U9 h3 rfl;(focus (simp only [q8.aP,q8.ev,q8.get,Nat.reduceEqDiff,↓reduceIte,hE]));(focus exact fK hT.fz hz U2 U2 U2))
  |refine zW (Y3 hE hg o1 o2 o3 hlen iB) ?_
  exact ⟨.inr trivial,_,rR,_,rfl,fun h=>⟨p1 rfl,p2 rfl,i,hi,gU,p3 h⟩⟩
theorem node_x {d:D} {t:List Nd} {x:Nd} (hT:X8 d t) (hx:x.Ok) (hK:x.kind<0∨22<x.kind):a0s 68 [d,.agg x.row] fun b=>b=false:=by
 refine a0B ?_;have o1:=FL.one hx.w;have o2:=FL.one hx.n;have o3:=FL.one hx.k;have hlen:=FI.len hx.k;have ne:∀c:Int,0<=c->c<=22->(x.kind==c)=false:=fun c h1 h2=>by rw [beq_eq_false_iff_ne];omega
 have n0:=ne 0 (by omega) (by omega);have n1:=ne 1 (by omega) (by omega);have n2:=ne 2 (by omega) (by omega);have n3:=ne 3 (by omega) (by omega);have n4:=ne 4 (by omega) (by omega);have n5:=ne 5 (by omega) (by omega);have n6:=ne 6 (by omega) (by omega);have n7:=ne 7 (by omega) (by omega);have n8:=ne 8 (by omega) (by omega);have n9:=ne 9 (by omega) (by omega);have n10:=ne 10 (by omega) (by omega);have n11:=ne 11 (by omega) (by omega);have n12:=ne 12 (by omega) (by omega);have zG:=ne 13 (by omega) (by omega);have n14:=ne 14 (by omega) (by omega);have n15:=ne 15 (by omega) (by omega);have n16:=ne 16 (by omega) (by omega);have n17:=ne 17 (by omega) (by omega);have n18:=ne 18 (by omega) (by omega);have n19:=ne 19 (by omega) (by omega);have n20:=ne 20 (by omega) (by omega);have n21:=ne 21 (by omega) (by omega);have n22:=ne 22 (by omega) (by omega);unfold Nd.row;refine V9 (vf:=Z4) rfl ?_;unfold Z4;refine zE ?_;try refine zW (U5 o1 o2 o3 hlen n0 n1 n2 (U5 n3 n4 n5 n6 n7 n8 n9 (U5 n10 n11 n12 zG n14 n15 n16 (Y6 n17 n18 n19 n20 n21 n22)))) ?_
 exact ⟨.inr trivial,_,rR,_,rfl,rfl⟩
theorem a5d {x:Nd} {i:Nat} {m:Int} (h:i<x.aH.length) (ha:∀n∈x.aH,0<=n/\n<=m):0<=x.num i/\x.num i<=m:=by
 rw [a7p h];exact ha _ (List.getElem_mem h)
theorem b5h {t:List Nd} {x:Nd} {a b:Int} (h:∀i,0<=i->i<x.kids.length->a<=(nd t (x.aC i)).kind/\(nd t (x.aC i)).kind<=b):∀k∈x.ks,a<=(nd t k).kind/\(nd t k).kind<=b:=by
 intro k hk;obtain ⟨i,hi,rfl⟩:=List.getElem_of_mem hk;rw [a20] at hi;have:=h i (Nat.zero_le _) hi;rw [a61 hi] at this;simpa [Nd.ks] using this
theorem ks_16 {t:List Nd} {x:Nd} (h:∀i,i<x.kids.length->(nd t (x.aC i)).kind=16):∀k∈x.ks,(nd t k).kind=16:=by
 intro k hk;obtain ⟨i,hi,rfl⟩:=List.getElem_of_mem hk;rw [a20] at hi;have:=h i hi;rw [a61 hi] at this;simpa [Nd.ks] using this
theorem c0H {t:List Nd} {x:Nd} {v:Nat} (h:∀i,i<v->(nd t (x.aC i)).kind=2):∀k∈x.ks.take v,(nd t k).kind=2:=by
 intro k hk;obtain ⟨i,hi,rfl⟩:=List.getElem_of_mem hk;have h1:i<v/\i<x.kids.length:=by
  rw [List.length_take,a20] at hi;omega
 have:=h i h1.1;rw [a61 h1.2] at this;simpa [Nd.ks] using this
theorem c3m {t:List Nd} {x:Nd} {v:Nat} (h:∀i,v<=i->i<x.kids.length->6<=(nd t (x.aC i)).kind/\(nd t (x.aC i)).kind<=15):∀k∈x.ks.drop v,a5l (nd t k).kind:=by
 intro k hk;obtain ⟨i,hi,rfl⟩:=List.getElem_of_mem hk;rw [List.length_drop,a20] at hi;have:=h (v+i) (by omega) (by omega);rw [a61 (by omega)] at this;simpa [Nd.ks,a5l] using this
theorem c3Y {d:D} {t:List Nd} {x:Nd} (hT:X8 d t) (hx:x.Ok) (hk:a1P t x):a0s 68 [d,.agg x.row] fun b=>b=true->b0a t x:=by
 by_cases hr:x.kind<0∨22<x.kind
 ·obtain ⟨b,h,rfl⟩:=node_x hT hx hr
  exact ⟨false,h,by simp⟩
 have cs:x.kind=0∨x.kind=1∨x.kind=2∨x.kind=3∨x.kind=4∨x.kind=5∨x.kind=6∨x.kind=7∨x.kind=8∨x.kind=9∨x.kind=10∨x.kind=11∨x.kind=12∨x.kind=13∨x.kind=14∨x.kind=15∨x.kind=16∨x.kind=17∨x.kind=18∨x.kind=19∨x.kind=20∨x.kind=21∨x.kind=22:=by omega
 rcases cs with hK | hK | hK | hK | hK | hK | hK | hK | hK | hK | hK | hK | hK | hK | hK | hK | hK | hK | hK | hK | hK | hK | hK
 ·obtain ⟨b,h,p⟩:=node_0 hT hx hk hK
  refine ⟨b,h,fun hb=>?_⟩;obtain ⟨w,n,r⟩:=p hb;exact ⟨by omega,by rw [hK,show a10 0=0 from rfl];omega,by rw [hK,show a14 0=0 from rfl];omega,fun _=>b5h r,fun e=>by omega,fun e=>by omega,fun e=>by omega,fun e=>by omega,fun e=>by omega,fun e=>by omega,fun e=>by omega,fun e=>by omega,fun e=>by omega,fun e=>by omega,fun e=>by omega,fun e=>by omega,fun e=>by omega,fun e=>by omega⟩
 ·obtain ⟨b,h,p⟩:=node_1 hT hx hk hK
  refine ⟨b,h,fun hb=>?_⟩;obtain ⟨w,n,r⟩:=p hb;exact ⟨by omega,by rw [hK,show a10 1=1 from rfl];omega,by rw [hK,show a14 1=4 from rfl];omega,fun e=>by omega,fun _=>⟨(a5d (by omega) n.2).1,(a5d (by omega) n.2).1,(a5d (by omega) n.2).1,r.1,(a5d (by omega) n.2).1,r.2.1⟩,fun e=>by omega,fun e=>by omega,fun e=>by omega,fun e=>by omega,fun _=>r.2.2,fun e=>by omega,fun e=>by omega,fun e=>by omega,fun e=>by omega,fun e=>by omega,fun e=>by omega,fun e=>by omega,fun e=>by omega⟩
 ·obtain ⟨b,h,p⟩:=node_2 hT hx hk hK
  refine ⟨b,h,fun hb=>?_⟩;obtain ⟨w,n,r⟩:=p hb;exact ⟨by omega,by rw [hK,show a10 2=1 from rfl];omega,by rw [hK,show a14 2=2 from rfl];omega,fun e=>by omega,fun e=>by omega,fun _=>⟨r.1,r.2.1⟩,fun e=>by omega,fun e=>by omega,fun e=>by omega,fun _=>r.2.2,fun e=>by omega,fun e=>by omega,fun e=>by omega,fun e=>by omega,fun e=>by omega,fun e=>by omega,fun e=>by omega,fun e=>by omega⟩
 ·obtain ⟨b,h,p⟩:=node_3 hT hx hk hK
  refine ⟨b,h,fun hb=>?_⟩;obtain ⟨w,n,r⟩:=p hb;exact ⟨by omega,by rw [hK,show a10 3=1 from rfl];omega,by rw [hK,show a14 3=1 from rfl];omega,fun e=>by omega,fun e=>by omega,fun e=>by omega,fun _=>by obtain ⟨v,v1,v2,v3⟩:=r;exact ⟨v,by rw [a20];exact v1,c0H v2,c3m v3⟩,fun _=>a5d (by omega) n.2,fun e=>by omega,fun e=>by omega,fun e=>by omega,fun e=>by omega,fun e=>by omega,fun e=>by omega,fun e=>by omega,fun e=>by omega,fun e=>by omega,fun e=>by omega⟩
 ·obtain ⟨b,h,p⟩:=node_4 hT hx hk hK
  refine ⟨b,h,fun hb=>?_⟩;obtain ⟨w,n,r⟩:=p hb;exact ⟨by omega,by rw [hK,show a10 4=0 from rfl];omega,by rw [hK,show a14 4=0 from rfl];omega,fun e=>by omega,fun e=>by omega,fun e=>by omega,fun e=>by omega,fun e=>by omega,fun _=>⟨by omega,(r.2.2 0 (by omega)).1 (by omega)⟩,fun e=>by omega,fun e=>by omega,fun e=>by omega,fun e=>by omega,fun e=>by omega,fun e=>by omega,fun e=>by omega,fun e=>by omega,fun e=>by omega⟩
 ·obtain ⟨b,h,p⟩:=node_5 hT hx hk hK
  refine ⟨b,h,fun hb=>?_⟩;obtain ⟨w,n,r⟩:=p hb;exact ⟨by omega,by rw [hK,show a10 5=0 from rfl];omega,by rw [hK,show a14 5=0 from rfl];omega,fun e=>by omega,fun e=>by omega,fun e=>by omega,fun e=>by omega,fun e=>by omega,fun e=>by omega,fun _=>r,fun e=>by omega,fun e=>by omega,fun e=>by omega,fun e=>by omega,fun e=>by omega,fun e=>by omega,fun e=>by omega,fun e=>by omega⟩
 ·obtain ⟨b,h,p⟩:=node_6 hT hx hk hK
  refine ⟨b,h,fun hb=>?_⟩;obtain ⟨w,n,r⟩:=p hb;exact ⟨by omega,by rw [hK,show a10 6=1 from rfl];omega,by rw [hK,show a14 6=0 from rfl];omega,fun e=>by omega,fun e=>by omega,fun e=>by omega,fun e=>by omega,fun e=>by omega,fun _=>⟨by omega,(r.2.2 0 (by omega)).1 (by omega)⟩,fun e=>by omega,fun e=>by omega,fun e=>by omega,fun e=>by omega,fun e=>by omega,fun e=>by omega,fun e=>by omega,fun e=>by omega,fun e=>by omega⟩
 ·obtain ⟨b,h,p⟩:=node_7 hT hx hk hK
  refine ⟨b,h,fun hb=>?_⟩;obtain ⟨w,n,r⟩:=p hb;exact ⟨by omega,by rw [hK,show a10 7=1 from rfl];omega,by rw [hK,show a14 7=0 from rfl];omega,fun e=>by omega,fun e=>by omega,fun e=>by omega,fun e=>by omega,fun e=>by omega,fun _=>⟨by omega,(r.2.2 0 (by omega)).1 (by omega)⟩,fun e=>by omega,fun e=>by omega,fun e=>by omega,fun e=>by omega,fun e=>by omega,fun e=>by omega,fun e=>by omega,fun e=>by omega,fun e=>by omega⟩
 ·obtain ⟨b,h,p⟩:=node_8 hT hx hk hK
  refine ⟨b,h,fun hb=>?_⟩;obtain ⟨w,n,r⟩:=p hb;exact ⟨by omega,by rw [hK,show a10 8=2 from rfl];omega,by rw [hK,show a14 8=1 from rfl];omega,fun e=>by omega,fun e=>by omega,fun e=>by omega,fun e=>by omega,fun e=>by omega,fun e=>by omega,fun _=>r,fun e=>by omega,fun e=>by omega,fun e=>by omega,fun e=>by omega,fun e=>by omega,fun e=>by omega,fun _=>a5d (by omega) n.2,fun e=>by omega⟩
 ·obtain ⟨b,h,p⟩:=node_9 hT hx hk hK
  refine ⟨b,h,fun hb=>?_⟩;obtain ⟨w,n,r⟩:=p hb;exact ⟨by omega,by rw [hK,show a10 9=0 from rfl];omega,by rw [hK,show a14 9=1 from rfl];omega,fun e=>by omega,fun e=>by omega,fun e=>by omega,fun e=>by omega,fun e=>by omega,fun _=>⟨by omega,(r.2.2 0 (by omega)).1 (by omega)⟩,fun e=>by omega,fun e=>by omega,fun e=>by omega,fun e=>by omega,fun e=>by omega,fun e=>by omega,fun e=>by omega,fun _=>a5d (by omega) n.2,fun e=>by omega⟩
 ·obtain ⟨b,h,p⟩:=c2e hT hx hk hK
  refine ⟨b,h,fun hb=>?_⟩;obtain ⟨w,n,r⟩:=p hb;exact ⟨by omega,by rw [hK,show a10 10=0 from rfl];omega,by rw [hK,show a14 10=1 from rfl];omega,fun e=>by omega,fun e=>by omega,fun e=>by omega,fun e=>by omega,fun e=>by omega,fun e=>by omega,fun e=>by omega,fun _=>⟨by omega,ks_16 fun i hi=>(r.2.2 i hi).2 (by omega)⟩,fun e=>by omega,fun e=>by omega,fun e=>by omega,fun e=>by omega,fun e=>by omega,fun _=>a5d (by omega) n.2,fun e=>by omega⟩
 ·obtain ⟨b,h,p⟩:=c1R hT hx hk hK
  refine ⟨b,h,fun hb=>?_⟩;obtain ⟨w,n,r⟩:=p hb;exact ⟨by omega,by rw [hK,show a10 11=0 from rfl];omega,by rw [hK,show a14 11=0 from rfl];omega,fun e=>by omega,fun e=>by omega,fun e=>by omega,fun e=>by omega,fun e=>by omega,fun e=>by omega,fun e=>by omega,fun e=>by omega,fun _=>⟨by omega,(r.2.2 0 (by omega)).1 (by omega),(r.2.2 1 (by omega)).2 (by omega),fun h3=>(r.2.2 2 (by omega)).2 (by omega)⟩,fun e=>by omega,fun e=>by omega,fun e=>by omega,fun e=>by omega,fun e=>by omega,fun e=>by omega⟩
 ·obtain ⟨b,h,p⟩:=c1y hT hx hk hK
  refine ⟨b,h,fun hb=>?_⟩;obtain ⟨w,n,r⟩:=p hb;exact ⟨by omega,by rw [hK,show a10 12=0 from rfl];omega,by rw [hK,show a14 12=0 from rfl];omega,fun e=>by omega,fun e=>by omega,fun e=>by omega,fun e=>by omega,fun e=>by omega,fun e=>by omega,fun e=>by omega,fun e=>by omega,fun e=>by omega,fun _=>⟨by omega,(r.2.2 0 (by omega)).1 (by omega),(r.2.2 1 (by omega)).2 (by omega)⟩,fun e=>by omega,fun e=>by omega,fun e=>by omega,fun e=>by omega,fun e=>by omega⟩
 ·obtain ⟨b,h,p⟩:=c5t hT hx hk hK
  refine ⟨b,h,fun hb=>?_⟩;obtain ⟨w,n,r⟩:=p hb;exact ⟨by omega,by rw [hK,show a10 13=0 from rfl];omega,by rw [hK,show a14 13=0 from rfl];omega,fun e=>by omega,fun e=>by omega,fun e=>by omega,fun e=>by omega,fun e=>by omega,fun e=>by omega,fun e=>by omega,fun e=>by omega,fun e=>by omega,fun e=>by omega,fun _=>⟨by omega,(r.2.2 0 (by omega)).2 (by omega)⟩,fun e=>by omega,fun e=>by omega,fun e=>by omega,fun e=>by omega⟩
 ·obtain ⟨b,h,p⟩:=c5p hT hx hk hK
  refine ⟨b,h,fun hb=>?_⟩;obtain ⟨w,n,r⟩:=p hb;exact ⟨by omega,by rw [hK,show a10 14=0 from rfl];omega,by rw [hK,show a14 14=0 from rfl];omega,fun e=>by omega,fun e=>by omega,fun e=>by omega,fun e=>by omega,fun e=>by omega,fun e=>by omega,fun _=>r,fun e=>by omega,fun e=>by omega,fun e=>by omega,fun e=>by omega,fun e=>by omega,fun e=>by omega,fun e=>by omega,fun e=>by omega⟩
 ·obtain ⟨b,h,p⟩:=c2X hT hx hk hK
  refine ⟨b,h,fun hb=>?_⟩;obtain ⟨w,n,r⟩:=p hb;exact ⟨by omega,by rw [hK,show a10 15=0 from rfl];omega,by rw [hK,show a14 15=0 from rfl];omega,fun e=>by omega,fun e=>by omega,fun e=>by omega,fun e=>by omega,fun e=>by omega,fun e=>by omega,fun _=>r,fun e=>by omega,fun e=>by omega,fun e=>by omega,fun e=>by omega,fun e=>by omega,fun e=>by omega,fun e=>by omega,fun e=>by omega⟩
 ·obtain ⟨b,h,p⟩:=c0K hT hx hk hK
  refine ⟨b,h,fun hb=>?_⟩;obtain ⟨w,n,r⟩:=p hb;exact ⟨by omega,by rw [hK,show a10 16=0 from rfl];omega,by rw [hK,show a14 16=0 from rfl];omega,fun e=>by omega,fun e=>by omega,fun e=>by omega,fun e=>by omega,fun e=>by omega,fun e=>by omega,fun e=>by omega,fun e=>by omega,fun e=>by omega,fun e=>by omega,fun e=>by omega,fun _=>b5h r,fun e=>by omega,fun e=>by omega,fun e=>by omega⟩
 ·obtain ⟨b,h,p⟩:=c0O hT hx hk hK
  refine ⟨b,h,fun hb=>?_⟩;obtain ⟨w,n,r⟩:=p hb;exact ⟨by omega,by rw [hK,show a10 17=0 from rfl];omega,by rw [hK,show a14 17=1 from rfl];omega,fun e=>by omega,fun e=>by omega,fun e=>by omega,fun e=>by omega,fun e=>by omega,fun e=>by omega,fun _=>r,fun e=>by omega,fun e=>by omega,fun e=>by omega,fun e=>by omega,fun e=>by omega,fun e=>by omega,fun e=>by omega,fun _=>a5d (by omega) n.2⟩
 ·obtain ⟨b,h,p⟩:=c07 hT hx hk hK
  refine ⟨b,h,fun hb=>?_⟩;obtain ⟨w,n,r⟩:=p hb;exact ⟨by omega,by rw [hK,show a10 18=1 from rfl];omega,by rw [hK,show a14 18=0 from rfl];omega,fun e=>by omega,fun e=>by omega,fun e=>by omega,fun e=>by omega,fun e=>by omega,fun e=>by omega,fun _=>r,fun e=>by omega,fun e=>by omega,fun e=>by omega,fun e=>by omega,fun e=>by omega,fun e=>by omega,fun e=>by omega,fun e=>by omega⟩
 ·obtain ⟨b,h,p⟩:=c4G hT hx hk hK
  refine ⟨b,h,fun hb=>?_⟩;obtain ⟨w,n,r⟩:=p hb;exact ⟨by omega,by rw [hK,show a10 19=1 from rfl];omega,by rw [hK,show a14 19=0 from rfl];omega,fun e=>by omega,fun e=>by omega,fun e=>by omega,fun e=>by omega,fun e=>by omega,fun e=>by omega,fun _=>r,fun e=>by omega,fun e=>by omega,fun e=>by omega,fun e=>by omega,fun e=>by omega,fun e=>by omega,fun e=>by omega,fun e=>by omega⟩
 ·obtain ⟨b,h,p⟩:=c3h hT hx hk hK
  refine ⟨b,h,fun hb=>?_⟩;obtain ⟨w,n,r⟩:=p hb;exact ⟨by omega,by rw [hK,show a10 20=0 from rfl];omega,by rw [hK,show a14 20=0 from rfl];omega,fun e=>by omega,fun e=>by omega,fun e=>by omega,fun e=>by omega,fun e=>by omega,fun _=>⟨by omega,(r.2.2 0 (by omega)).1 (by omega)⟩,fun e=>by omega,fun e=>by omega,fun e=>by omega,fun e=>by omega,fun e=>by omega,fun e=>by omega,fun e=>by omega,fun e=>by omega,fun e=>by omega⟩
 ·obtain ⟨b,h,p⟩:=c0M hT hx hk hK
  refine ⟨b,h,fun hb=>?_⟩;obtain ⟨w,n,r⟩:=p hb;exact ⟨by omega,by rw [hK,show a10 21=0 from rfl];omega,by rw [hK,show a14 21=0 from rfl];omega,fun e=>by omega,fun e=>by omega,fun e=>by omega,fun e=>by omega,fun e=>by omega,fun _=>⟨by omega,(r.2.2 0 (by omega)).1 (by omega)⟩,fun e=>by omega,fun e=>by omega,fun e=>by omega,fun e=>by omega,fun e=>by omega,fun e=>by omega,fun e=>by omega,fun e=>by omega,fun e=>by omega⟩
 ·obtain ⟨b,h,p⟩:=c3s hT hx hk hK
  refine ⟨b,h,fun hb=>?_⟩;obtain ⟨w,n,r⟩:=p hb;exact ⟨by omega,by rw [hK,show a10 22=0 from rfl];omega,by rw [hK,show a14 22=1 from rfl];omega,fun e=>by omega,fun e=>by omega,fun e=>by omega,fun e=>by omega,fun e=>by omega,fun e=>by omega,fun e=>by omega,fun e=>by omega,fun e=>by omega,fun e=>by omega,fun e=>by omega,fun e=>by omega,fun _=>⟨by omega,(r.2.2 0 (by omega)).1 (by omega),(r.2.2 1 (by omega)).1 (by omega),(a5d (by omega) n.2).1,(a5d (by omega) n.2).2⟩,fun e=>by omega,fun e=>by omega⟩
theorem b6g {d:D} {t:List Nd} (hT:X8 d t) (hl:t.length<=800):∀ (f i:Nat),f<=20->i<t.length->eu 67 [d,.int .i64 (i:Int),.int .i64 ((21-f:Nat):Int)] (.aR [.int .i64 ((a0K t f i).1:Int),.bool (a0K t f i).2])
 | 0,i,_,hi=>by
   refine a5A ?_;have e:(((21-0:Nat)):Int)=21:=rfl;rw [e];refine V9 (vf:=a8X) rfl ?_;unfold a8X;refine zE ?_;try refine ct ?_
   exact ⟨.inr trivial,_,rR,rfl⟩
 | f+1,i,hf,hi=>by
   refine a5A ?_;have gP:=hT.at (z:=(i:Int)) (by omega) (by omega) (k:=.i64);rw [Int.toNat_natCast] at gP;have hx:=hT.nd hi;have o1:=FL.one hx.w;have o2:=FL.one hx.n;have o3:=FL.one hx.k;have jA:=FI.len hx.k;have hlen:=hT.len;have e1:((20:Int)<((21-(f+1):Nat):Int))=False:=eq_false (by omega);have e2:IntKind.i64.wrap ((i:Int)+1)=((i+1:Nat):Int):=by rw [Z5 (by omega) (by omega)];omega
   have e3:IntKind.i64.wrap (((21-(f+1):Nat):Int)+1)=((21-f:Nat):Int):=by rw [Z5 (by omega) (by omega)];omega
   have key:∀ (n:Nat) (P:Nat×Bool),a0K t (f+1) i=P->True:=fun _ _ _=>trivial
   refine V9 (vf:=a8X) rfl ?_;unfold a8X;refine zE ?_;try refine zW (aN e1 e2) ?_
   refine a1c (Q:=a0j 0 _) (fun n env s=>∃j next:Nat,j<=(nd t i).kids.length/\n=(nd t i).kids.length-j/\next<=t.length/\a0K t (f+1) i=a4P (a0K t f) t.length ((nd t i).kids.drop j) next/\(env.get 0=d/\env.get 1=.int .i64 (i:Int)/\env.get 2=.int .i64 ((21-(f+1):Nat):Int)/\env.get 8=.int .i64 (next:Int)/\env.get 9=.int .i64 (j:Int))) ?_ (nd t i).kids.length _ _ ⟨0,i+1,by omega,rfl,by omega,rfl,by simp [q8.get]⟩;rintro n env s ⟨j,next,hj,rfl,hn,hw,hE⟩;by_cases c1:j<(nd t i).kids.length
   ·have gZ:((j:Int)<((nd t i).kids.length:Int))=True:=eq_true (by omega)
    have jJ:=FI.idx hx.k c1 (k:=.i64);have hs:=a4T c1 hx.kl;rw [List.drop_eq_getElem_cons c1] at hw;unfold a4P at hw;by_cases c2:(nd t i).kids[j]=(next:Int)
    ·have jn:((nd t i).kids[j] != (next:Int))=false:=by rw [c2];simp
     by_cases c3:next<t.length
     ·have iB:((t.length:Int)<=(next:Int))=False:=eq_false (by omega)
      rw [if_neg (by omega)] at hw;have mM:=b6g hT hl f next (by omega) c3;obtain ⟨s1,mM⟩:=mM;have kY:=b9g f c3;cases hb:(a0K t f next).2
      ·rw [hb] at mM hw
       rw [if_neg (by simp)] at hw;repeat first
       |(refine a5z (l:=[d,.int .i64 (next:Int),.int .i64 ((21-f:Nat):Int)]) ?_ (X1 hT.fz U2 U2) mM rfl rfl ?_;(focus (simp only [q8.aP,q8.ev,q8.get,Nat.reduceEqDiff,↓reduceIte,hE])))
       |refine zW (U5 hE e1 gP o1 o2 o3 jA (Y6 hlen gZ jJ jn iB e3)) ?_
       exact ⟨.inr trivial,_,rR,by rw [hw]⟩
      ·rw [hb] at mM hw
       rw [if_pos rfl] at hw;repeat first
       |(refine a5z (l:=[d,.int .i64 (next:Int),.int .i64 ((21-f:Nat):Int)]) ?_ (X1 hT.fz U2 U2) mM rfl rfl ?_;(focus (simp only [q8.aP,q8.ev,q8.get,Nat.reduceEqDiff,↓reduceIte,hE])))
       |refine zW (U5 hE e1 gP o1 o2 o3 jA (Y3 hlen gZ jJ jn iB e3 hs)) ?_
       exact ⟨(nd t i).kids.length-(j+1),by omega,j+1,(a0K t f next).1,by omega,rfl,kY,hw,(rG hE)⟩
     ·have iB:((t.length:Int)<=(next:Int))=True:=eq_true (by omega)
      rw [if_pos (by omega)] at hw;try refine zW (U5 hE e1 gP o1 o2 o3 jA (W6 hlen gZ jJ jn iB)) ?_
      exact ⟨.inr trivial,_,rR,by rw [hw]⟩
    ·have jn:((nd t i).kids[j] != (next:Int))=true:=by rw [bne_iff_ne];exact c2
     rw [if_pos (by omega)] at hw;try refine zW (U5 hE e1 gP o1 o2 o3 jA (V3 hlen gZ jJ jn)) ?_
     exact ⟨.inr trivial,_,rR,by rw [hw]⟩
   ·have gZ:((j:Int)<((nd t i).kids.length:Int))=False:=eq_false (by omega)
    rw [List.drop_eq_nil_of_le (by omega)] at hw;try refine zW (U5 hE e1 gP o1 o2 o3 jA (aN hlen gZ)) ?_
    exact ⟨.inr trivial,_,rR,by rw [hw];rfl⟩
theorem c2R {d:D} {t:List Nd} (hT:X8 d t):a0s 30 [d] fun _=>True:=by
 refine a0B ?_;have hlen:=hT.len;refine V9 (vf:=vf30) rfl ?_;unfold vf30;refine zE ?_;try refine zW hlen ?_
 refine a1c (Q:=a0j 0 _) (fun n env s=>∃ (i:Nat) (m:Int),i<=t.length/\n=t.length-i/\(env.get 0=d/\env.get 3=.int .i64 m/\env.get 4=.int .i64 (i:Int))) ?_ t.length _ _ ⟨0,_,by omega,rfl,by simp [q8.get];rfl⟩;rintro n env s ⟨i,m,hi,rfl,hE⟩;by_cases c1:i<t.length
 ·have gZ:((i:Int)<(t.length:Int))=True:=eq_true (by omega)
  have hs:=a4T c1 hT.le;have gP:=hT.at (z:=(i:Int)) (by omega) (by omega) (k:=.i64);rw [Int.toNat_natCast] at gP;have hx:=hT.nd c1;have o1:=FL.one hx.w;have o2:=FL.one hx.n;have o3:=FL.one hx.k;have l1:=FS.len hx.w;have l2:=FI.len hx.n;have l3:=FI.len hx.k;by_cases c2:m<=1500
  ·try refine zW (U5 hE hlen gZ c2 gP o1 o2 (W6 o3 l1 l2 l3 hs)) ?_
   exact ⟨t.length-(i+1),by omega,i+1,_,by omega,rfl,by simp only [q8.get,Nat.reduceEqDiff,↓reduceIte,hE,and_self,true_and,and_true];rfl⟩
  ·try refine zW (V3 hE hlen gZ c2) ?_
   exact ⟨.inr trivial,_,rR,_,rfl,trivial⟩
 ·have gZ:((i:Int)<(t.length:Int))=False:=eq_false (by omega)
  try refine zW (V5 hE hlen gZ) ?_
  exact ⟨.inr trivial,_,rR,_,rfl,trivial⟩
theorem c4h {d:D} {t:List Nd} (hT:X8 d t):a0s 31 [d] fun b=>b=true->Y9 t:=by
 refine a0B ?_;have hlen:=hT.len;by_cases c1:t.length=0
 ·have gZ:((t.length:Int)==0)=true:=by rw [c1];rfl
  refine V9 (vf:=a4G) rfl ?_;unfold a4G;refine zE ?_;try refine zW (aN hlen gZ) ?_
  exact ⟨.inr trivial,_,rR,_,rfl,by simp⟩
 have gZ:((t.length:Int)==0)=false:=by rw [beq_eq_false_iff_ne];omega
 by_cases c2:800<t.length
 ·have jn:((800:Int)<(t.length:Int))=True:=eq_true (by omega)
  refine V9 (vf:=a4G) rfl ?_;unfold a4G;refine zE ?_;try refine zW (V5 hlen gZ jn) ?_
  exact ⟨.inr trivial,_,rR,_,rfl,by simp⟩
 have jn:((800:Int)<(t.length:Int))=False:=eq_false (by omega);have h0:=hT.at (z:=0) (by omega) (by omega) (k:=.i64);have x0:=hT.nd (i:=0) (by omega);have z0:(0:Int).toNat=0:=rfl;rw [z0] at h0;have o1:=FL.one x0.w;have o2:=FL.one x0.n;have o3:=FL.one x0.k;by_cases c3:(nd t 0).kind=0
 ·have iB:((nd t 0).kind != 0)=false:=by rw [c3];rfl
  obtain ⟨s1,hw⟩:=b6g hT (by omega) 20 0 (by omega) (by omega);have e21:((21-20:Nat):Int)=1:=rfl;have e00:((0:Nat):Int)=0:=rfl;rw [e21,e00] at hw;cases hb:(a0K t 20 0).2
  ·rw [hb] at hw
   refine V9 (vf:=a4G) rfl ?_;unfold a4G;refine zE ?_;repeat first
   |(refine a5z (l:=[d,.int .i64 0,.int .i64 1]) rfl (X1 hT.fz U2 U2) hw rfl rfl ?_)
   |refine zW (U5 hlen gZ jn h0 o1 o2 o3 iB) ?_
   exact ⟨.inr trivial,_,rR,_,rfl,by simp⟩
  ·rw [hb] at hw
   by_cases c4:(a0K t 20 0).1=t.length
   ·have jf:(((a0K t 20 0).1:Int) != (t.length:Int))=false:=by rw [c4];simp
    have sW:a0K t 20 0=(t.length,true):=by rw [<- c4,<- hb]
    obtain ⟨iM,hsubs⟩:=a5I 20 (by omega) sW;have pd:∀i,i<t.length->∀k∈(nd t i).kids,(i:Int)<k/\k<(t.length:Int):=fun i hi k hk=>iM.down i (by omega) hi k hk
    refine V9 (vf:=a4G) rfl ?_;unfold a4G;refine zE ?_;repeat first
    |(refine a5z (l:=[d,.int .i64 0,.int .i64 1]) rfl (X1 hT.fz U2 U2) hw rfl rfl ?_)
    |refine zW (U5 hlen gZ jn h0 o1 o2 o3 (aN iB jf)) ?_
    refine a1c (Q:=a0j 0 _) (fun n env s=>∃i:Nat,i<=t.length/\n=t.length-i/\(∀j,j<i->b0a t (nd t j))/\(env.get 0=d/\env.get 5=.int .i64 (i:Int))) ?_ t.length _ _ ⟨0,by omega,rfl,fun j h=>by omega,by simp [q8.get]⟩;rintro n env s ⟨i,hi,rfl,gU,hE⟩;by_cases c5:i<t.length
    ·have oi:((i:Int)<(t.length:Int))=True:=eq_true (by omega)
     have hs:=a4T c5 hT.le;have gP:=hT.at (z:=(i:Int)) (by omega) (by omega) (k:=.i64);rw [Int.toNat_natCast] at gP;have hx:=hT.nd c5;have p1:=FL.one hx.w;have p2:=FL.one hx.n;have p3:=FL.one hx.k;obtain ⟨b,hn,hp⟩:=c3Y hT hx (fun k hk=>by have:=pd i c5 k hk;omega);have hz:=hx.fz;unfold Nd.row at hn hz;cases b
     ·repeat first
      |(apply U9 hn rfl;(focus (simp only [q8.aP,q8.ev,q8.get,Nat.reduceEqDiff,↓reduceIte,hE]));(focus exact X3 hT.fz hz))
      |refine zW (Y3 hE hlen oi gP p1 p2 p3) ?_
      exact ⟨.inr trivial,_,rR,_,rfl,by simp⟩
     ·repeat first
      |(apply U9 hn rfl;(focus (simp only [q8.aP,q8.ev,q8.get,Nat.reduceEqDiff,↓reduceIte,hE]));(focus exact X3 hT.fz hz))
      |refine zW (U5 hE hlen oi gP p1 p2 p3 hs) ?_
      refine ⟨t.length-(i+1),by omega,i+1,by omega,rfl,fun j h=>?_,(rG hE)⟩;by_cases e:j=i
      ·subst e;exact hp rfl
      ·exact gU j (by omega)
    ·have oi:((i:Int)<(t.length:Int))=False:=eq_false (by omega)
     try refine zW (V5 hE hlen oi) ?_
     exact ⟨.inr trivial,_,rR,_,rfl,fun _=>⟨⟨by omega,by omega,c3,pd,fun j h=>gU j (by omega)⟩,hsubs,sW⟩⟩
   ·have jf:(((a0K t 20 0).1:Int) != (t.length:Int))=true:=by rw [bne_iff_ne];omega
    refine V9 (vf:=a4G) rfl ?_;unfold a4G;refine zE ?_;repeat first
    |(refine a5z (l:=[d,.int .i64 0,.int .i64 1]) rfl (X1 hT.fz U2 U2) hw rfl rfl ?_)
    |refine zW (U5 hlen gZ jn h0 o1 o2 o3 (aN iB jf)) ?_
    exact ⟨.inr trivial,_,rR,_,rfl,by simp⟩
 ·have iB:((nd t 0).kind != 0)=true:=by rw [bne_iff_ne];exact c3
  refine V9 (vf:=a4G) rfl ?_;unfold a4G;refine zE ?_;try refine zW (U5 hlen gZ jn h0 o1 o2 o3 iB) ?_
  exact ⟨.inr trivial,_,rR,_,rfl,by simp⟩
theorem rd_fs {d:D} {l:List ByteArray} (h:Rd k4.empty d (l.map .str)):FS d l:=by
 rcases h with ⟨rfl,h⟩ | rfl | ⟨id,off,cs,rfl,h,_⟩
 ·left;exact ⟨rfl,by simpa using h⟩
 ·right;simp
 ·simp at h
theorem b5H {s:k4} {d:D} {l:List ByteArray} {ids:List Nat} (h:Sl s d (l.map .str) ids):∃d',V.aL s.get 20 d=some d'/\FS d' l:=by
 obtain ⟨d',h1,h2⟩:=h.rd.aL (by simp [a1Y]);exact ⟨d',h1,rd_fs h2⟩
theorem c4g {l:List ByteArray} {x:ByteArray} {i:Nat} (h:i<l.length):dY (l.take (i+1)) x=(dY (l.take i) x||decide (l[i]=x)):=by
 unfold dY;rw [List.take_succ_eq_append_getElem h,List.any_append];simp
theorem a3C {d:D} {l:List ByteArray} {x:ByteArray} (hd:FS d l) (hl:l.length<=maxLen):eu 171 [d,.str x] (.bool (dY l x)):=by
 refine a5A ?_;have hlen:=FS.len hd;refine V9 (vf:=b4x) rfl ?_;unfold b4x;refine zE ?_;try refine ct ?_
 refine a1c (Q:=a0j 0 _) (fun n env s=>∃i:Nat,i<=l.length/\n=l.length-i/\dY (l.take i) x=false/\(env.get 0=d/\env.get 1=.str x/\env.get 5=.int .i64 (i:Int))) ?_ l.length _ _ ⟨0,by omega,rfl,by simp [dY],by simp [q8.get]⟩;rintro n env s ⟨i,hi,rfl,hn,hE⟩;by_cases c1:i<l.length
 ·have gZ:((i:Int)<(l.length:Int))=True:=eq_true (by omega)
  have hs:=a4T c1 hl;have gP:=FS.idx hd c1 (k:=.i64);have ht:=c4g (x:=x) c1;rw [hn] at ht;by_cases c2:l[i]=x
  ·try refine zW (W6 hE hlen gZ gP c2) ?_
   refine ⟨.inr trivial,_,rR,?_⟩;have:dY l x=true:=by rw [b4q];exact c2▸List.getElem_mem c1
   rw [this]
  ·rw [decide_eq_false c2] at ht
   try refine zW (Y6 hE hlen gZ gP c2 hs) ?_
   exact ⟨l.length-(i+1),by omega,i+1,by omega,rfl,by rw [ht];rfl,(rG hE)⟩
 ·have gZ:((i:Int)<(l.length:Int))=False:=eq_false (by omega)
  rw [List.take_of_length_le (by omega)] at hn;try refine zW (V5 hE hlen gZ) ?_
  exact ⟨.inr trivial,_,rR,by rw [hn]⟩
theorem b4a {d:D} {t:List Nd} (hT:X8 d t) (hR:Y9 t) {i:Nat} (hi:i<t.length):eu 181 [d,.int .i64 (i:Int)] (.int .i64 (item t i:Int)):=by
 refine a5A ?_;have hp:=hR.ok.pos;have h0:=hT.at (z:=0) (by omega) (by omega) (k:=.i64);have x0:=hT.nd (i:=0) (by omega);have z0:(0:Int).toNat=0:=rfl;rw [z0] at h0;have o1:=FL.one x0.w;have o2:=FL.one x0.n;have o3:=FL.one x0.k;have jA:=FI.len x0.k;refine V9 (vf:=b4A) rfl ?_;unfold b4A;refine zE ?_;try refine ct ?_
 refine a1c (Q:=a0j 0 _) (fun n env s=>∃j out:Nat,j<=(nd t 0).kids.length/\n=(nd t 0).kids.length-j/\item t i=a4f ((nd t 0).kids.drop j) i out/\(env.get 0=d/\env.get 1=.int .i64 (i:Int)/\env.get 5=.int .i64 (out:Int)/\env.get 6=.int .i64 (j:Int))) ?_ (nd t 0).kids.length _ _ ⟨0,0,by omega,rfl,rfl,by simp [q8.get]⟩;rintro n env s ⟨j,out,hj,rfl,hw,hE⟩;by_cases c1:j<(nd t 0).kids.length
 ·have gZ:((j:Int)<((nd t 0).kids.length:Int))=True:=eq_true (by omega)
  have jJ:=FI.idx x0.k c1 (k:=.i64);have hs:=a4T c1 x0.kl;have AG:=hR.ok.kids 0 hp _ (List.getElem_mem c1);rw [List.drop_eq_getElem_cons c1] at hw;unfold a4f at hw;by_cases c2:(nd t 0).kids[j]<=(i:Int)
  ·rw [if_pos c2] at hw
   have hk:(((nd t 0).kids[j].toNat:Nat):Int)=(nd t 0).kids[j]:=Int.toNat_of_nonneg (by omega);try refine zW (U5 hE h0 o1 o2 o3 jA gZ (V5 jJ c2 hs)) ?_
   exact ⟨(nd t 0).kids.length-(j+1),by omega,j+1,_,by omega,rfl,hw,by simp only [q8.get,Nat.reduceEqDiff,↓reduceIte,hE,hk,and_self]⟩
  ·rw [if_neg c2] at hw
   try refine zW (U5 hE h0 o1 o2 o3 jA gZ (V5 jJ c2 hs)) ?_
   exact ⟨(nd t 0).kids.length-(j+1),by omega,j+1,_,by omega,rfl,hw,(rG hE)⟩
 ·have gZ:((j:Int)<((nd t 0).kids.length:Int))=False:=eq_false (by omega)
  rw [List.drop_eq_nil_of_le (by omega)] at hw;try refine zW (Y3 hE h0 o1 o2 o3 jA gZ) ?_
  exact ⟨.inr trivial,_,rR,by rw [hw];rfl⟩
theorem b2K (t:List Nd) (aI:Nat) (kind:Int):∀n,(a1m t aI kind n).length<=n
 | 0=>Nat.le_refl _
 | n+1=>by
   have:=b2K t aI kind n;rw [a1m];split
   ·simp;exact this
   ·omega
def IsoS (f:Nat) (l:List D) (x:List ByteArray):Prop:=∃s1 r d',Ev U8 f l k4.empty r s1/\V.aL s1.get 20 r=some d'/\FS d' x
theorem a1z {ae i t f args rest s Q} {env:q8} {l:List D} {x:List ByteArray} (hr:IsoS f l x) (hl:env.aP args=l) (ha:X2 (V.aL s.get 20) l=some l) (hp:aJ l=true)
 (h:∀d,FS d x->WQ U8 ae rest ((t,d)::env) s Q):WQ U8 ae ((i,⟨some t,.m (.call .fF (.aG (.fn f [])) args),none⟩)::rest) env s Q:=by
 obtain ⟨s1,r,d',h1,h2,h3⟩:=hr;exact a5z hl ha h1 h2 (by rw [hp,Bool.or_true]) (h d' h3)
theorem a1y {d:D} {t:List Nd} (hT:X8 d t) (hR:Y9 t) {i:Nat} (hi:i<t.length) {kind:Int} (hk:kind=1∨kind=2∨kind=3):IsoS 170 [d,.int .i64 (i:Int),.int .i64 kind] (a1m t i kind i):=by
 have main:X9 U8 170 [d,.int .i64 (i:Int),.int .i64 kind] k4.empty fun r s'=>∃ids,Sl s' r ((a1m t i kind i).map .str) ids:=by
  have pk:=b4a hT hR hi;have hle:=hR.ok.le;refine V9 (vf:=b15) rfl ?_;unfold b15;refine zE ?_;repeat first
  |(apply U9 pk rfl rfl (X3 hT.fz U2))
  |refine ct ?_
  refine a1c (Q:=a0j 0 _) (fun n env s=>∃ (j:Nat) (dn:D) (ids:List Nat),j<=i/\n=i-j/\Sl s dn ((a1m t i kind j).map .str) ids/\(env.get 0=d/\env.get 1=.int .i64 (i:Int)/\env.get 2=.int .i64 kind/\env.get 7=dn/\env.get 8=.int .i64 (item t i:Int)/\env.get 9=.int .i64 (j:Int))) ?_ i _ _ ⟨0,.ag,[],by omega,rfl,.inl ⟨rfl,rfl,rfl⟩,by simp [q8.get]⟩;rintro n env s ⟨j,dn,ids,hj,rfl,hS,hE⟩;have nt:=b2K t i kind j;by_cases c1:j<i
  ·have gZ:((j:Int)<(i:Int))=True:=eq_true (by omega)
   have hs:IntKind.i64.wrap ((j:Int)+1)=((j+1:Nat):Int):=by rw [Z5 (by omega) (by omega)];omega
   have gP:=hT.at (z:=(j:Int)) (by omega) (by omega) (k:=.i64);rw [Int.toNat_natCast] at gP;have hx:=hT.nd (i:=j) (by omega);have o1:=FL.one hx.w;have o2:=FL.one hx.n;have o3:=FL.one hx.k;have ie:=hR.ok.node j (by omega);have pH:=b4a hT hR (i:=j) (by omega);by_cases c2:(nd t j).kind=kind
   ·have jn:((nd t j).kind != kind)=false:=by rw [c2];simp
    have kY:(nd t j).words.length=1:=by
     rw [ie.wl,c2];rcases hk with rfl | rfl | rfl<;>rfl
    have nZ:W1 1 (nd t j).dw (.int .i64 0)=some (.fp [.str ((nd t j).word 0)] 0):=by
     rw [a5o (by omega)];exact FS.idx hx.w (i:=0) (by omega)
    obtain ⟨dn',tj,oK⟩:=b5H hS;obtain ⟨s1,mX⟩:=a3C (x:=(nd t j).word 0) oK (by have:maxLen=9223372036854775807:=rfl;omega);obtain ⟨s',d',e1,e2,e3,e4⟩:=hS.push1 (.str ((nd t j).word 0)) (bytes:=16) (by decide) (by rw [List.length_map];omega);have iS:=hS.one;by_cases b1:item t j=j
    ·have c3:item t j=j∨item t j=item t i:=.inl b1
     have sP:(item t j=j)=True:=eq_true b1;cases hr:dY (a1m t i kind j) ((nd t j).word 0)
     ·rw [hr] at mX
      repeat first
      |(apply U9 pH rfl;(focus (simp only [q8.aP,q8.ev,q8.get,Nat.reduceEqDiff,↓reduceIte,hE]));(focus exact X3 hT.fz U2))
      |(refine a4Q (l:=[dn,.str ((nd t j).word 0)]) mX rfl ?_ ?_ ?_;(focus (simp only [q8.aP,q8.ev,q8.get,Nat.reduceEqDiff,↓reduceIte,hE]));(focus (simp only [X2,tj];rfl)))
      |(apply b2v;(focus (simp only [q8.ev,q8.get,Nat.reduceEqDiff,↓reduceIte,hE];rfl));(focus rfl);(focus exact e1))
      |refine zW (U5 hE gZ gP o1 o2 o3 jn (V3 sP nZ hs iS)) ?_
      refine ⟨i-(j+1),by omega,j+1,d',[s.next+1],by omega,rfl,?_,(rG hE)⟩;rw [a1m,if_pos ⟨c2,c3,hr⟩,List.map_append];exact e2
     ·rw [hr] at mX
      repeat first
      |(apply U9 pH rfl;(focus (simp only [q8.aP,q8.ev,q8.get,Nat.reduceEqDiff,↓reduceIte,hE]));(focus exact X3 hT.fz U2))
      |(refine a4Q (l:=[dn,.str ((nd t j).word 0)]) mX rfl ?_ ?_ ?_;(focus (simp only [q8.aP,q8.ev,q8.get,Nat.reduceEqDiff,↓reduceIte,hE]));(focus (simp only [X2,tj];rfl)))
      |refine zW (U5 hE gZ gP o1 o2 o3 jn (V3 sP nZ hs iS)) ?_
      refine ⟨i-(j+1),by omega,j+1,dn,ids,by omega,rfl,?_,(rG hE)⟩;rw [a1m,if_neg (by rw [hr];simp)];exact hS
    ·have sP:(item t j=j)=False:=eq_false b1
     by_cases b2:item t j=item t i
     ·have ye:(item t j=item t i)=True:=eq_true b2
      have c3:item t j=j∨item t j=item t i:=.inr b2;cases hr:dY (a1m t i kind j) ((nd t j).word 0)
      ·rw [hr] at mX
       repeat first
       |(apply U9 pH rfl;(focus (simp only [q8.aP,q8.ev,q8.get,Nat.reduceEqDiff,↓reduceIte,hE]));(focus exact X3 hT.fz U2))
       |(refine a4Q (l:=[dn,.str ((nd t j).word 0)]) mX rfl ?_ ?_ ?_;(focus (simp only [q8.aP,q8.ev,q8.get,Nat.reduceEqDiff,↓reduceIte,hE]));(focus (simp only [X2,tj];rfl)))
       |(apply b2v;(focus (simp only [q8.ev,q8.get,Nat.reduceEqDiff,↓reduceIte,hE];rfl));(focus rfl);(focus exact e1))
       |refine zW (U5 hE gZ gP o1 o2 o3 jn (W6 sP ye nZ hs iS)) ?_
       refine ⟨i-(j+1),by omega,j+1,d',[s.next+1],by omega,rfl,?_,(rG hE)⟩;rw [a1m,if_pos ⟨c2,c3,hr⟩,List.map_append];exact e2
      ·rw [hr] at mX
       repeat first
       |(apply U9 pH rfl;(focus (simp only [q8.aP,q8.ev,q8.get,Nat.reduceEqDiff,↓reduceIte,hE]));(focus exact X3 hT.fz U2))
       |(refine a4Q (l:=[dn,.str ((nd t j).word 0)]) mX rfl ?_ ?_ ?_;(focus (simp only [q8.aP,q8.ev,q8.get,Nat.reduceEqDiff,↓reduceIte,hE]));(focus (simp only [X2,tj];rfl)))
       |refine zW (U5 hE gZ gP o1 o2 o3 jn (W6 sP ye nZ hs iS)) ?_
       refine ⟨i-(j+1),by omega,j+1,dn,ids,by omega,rfl,?_,(rG hE)⟩;rw [a1m,if_neg (by rw [hr];simp)];exact hS
     ·have ye:(item t j=item t i)=False:=eq_false b2
      repeat first
      |(apply U9 pH rfl;(focus (simp only [q8.aP,q8.ev,q8.get,Nat.reduceEqDiff,↓reduceIte,hE]));(focus exact X3 hT.fz U2))
      |refine zW (U5 hE gZ gP o1 o2 o3 jn (V5 sP ye hs)) ?_
      refine ⟨i-(j+1),by omega,j+1,dn,ids,by omega,rfl,?_,(rG hE)⟩;rw [a1m,if_neg fun h=>by rcases h.2.1 with h | h;exact b1 h;exact b2 h];exact hS
   ·have jn:((nd t j).kind != kind)=true:=by rw [bne_iff_ne];exact c2
    try refine zW (U5 hE gZ gP o1 o2 o3 jn hs) ?_
    refine ⟨i-(j+1),by omega,j+1,dn,ids,by omega,rfl,?_,(rG hE)⟩;rw [a1m,if_neg fun h=>c2 h.1];exact hS
  ·have gZ:((j:Int)<(i:Int))=False:=eq_false (by omega)
   obtain rfl:j=i:=by omega
   try refine zW (aN hE gZ) ?_
   exact ⟨.inr trivial,_,rR,ids,hS⟩
 obtain ⟨r,s',h,ids,hS⟩:=main;obtain ⟨d',h1,h2⟩:=b5H hS;exact ⟨s',r,d',h,h1,h2⟩
structure a45 (t:List Nd) (i:Nat):Prop where
 use:(nd t i).kind=6∨(nd t i).kind=18->a3t t 2 i ((nd t i).word 0)
 chan:(nd t i).kind=7∨(nd t i).kind=19∨(nd t i).kind=8->a3t t 1 i ((nd t i).word 0)
 recv:(nd t i).kind=8->a3t t 2 i ((nd t i).word 1)
 once:(nd t i).kind=1∨(nd t i).kind=2∨(nd t i).kind=3->¬ a3t t 1 i ((nd t i).word 0)/\¬ a3t t 2 i ((nd t i).word 0)/\¬ a3t t 3 i ((nd t i).word 0)
theorem a7w {t:List Nd} {i:Nat} {k:Int} {s:ByteArray}:dY (a1m t i k i) s=true↔a3t t k i s:=by rw [b4q,b5p];rfl
theorem a5Z {t:List Nd} {i:Nat} {k:Int} {s:ByteArray}:dY (a1m t i k i) s=false↔¬ a3t t k i s:=by rw [<- a7w];simp
theorem a3Q {t:List Nd} (hR:Y9 t) {i:Nat} {k:Int} (hi:i<t.length):(a1m t i k i).length<=maxLen:=by
 have h1:=b2K t i k i;have h2:=hR.ok.le;have:maxLen=9223372036854775807:=rfl;omega
theorem bad_1 {d:D} {t:List Nd} (hT:X8 d t) (hR:Y9 t) {i:Nat} (hi:i<t.length) (hK:(nd t i).kind=1):a0s 140 [d,.int .i64 (i:Int)] fun b=>b=false->a45 t i:=by
 refine a0B ?_;have gP:=hT.at (z:=(i:Int)) (by omega) (by omega) (k:=.i64);rw [Int.toNat_natCast] at gP;have hx:=hT.nd hi;have ie:=hR.ok.node i hi;have o1:=FL.one hx.w;have o2:=FL.one hx.n;have o3:=FL.one hx.k;have jy:∀n m:Int,aJ [d,.int .i64 n,.int .i64 m]=true:=fun n m=>by simp [aJ,a0Y,hT.fl.pure]
 have kY:(nd t i).words.length=1:=by rw [ie.wl,hK];rfl
 have w0:W1 1 (nd t i).dw (.int .i64 0)=some (.fp [.str ((nd t i).word 0)] 0):=by
  rw [a5o (by omega)];exact FS.idx hx.w (i:=0) (by omega)
 rw [hK] at gP;refine V9 (vf:=a24) rfl ?_;unfold a24;refine zE ?_;try refine zW (V3 gP o1 o2 o3) ?_
 refine a1z (a1y hT hR hi (.inl rfl)) rfl (X1 hT.fz U2 U2) (jy _ _) ?_;intro dc jx;try refine ct ?_
 refine a1z (a1y hT hR hi (.inr (.inl rfl))) rfl (X1 hT.fz U2 U2) (jy _ _) ?_;intro dv hdv;try refine ct ?_
 refine a1z (a1y hT hR hi (.inr (.inr rfl))) rfl (X1 hT.fz U2 U2) (jy _ _) ?_;intro dp hdp;have fc:=FL.fz jx;have fv:=FL.fz hdv;have fp:=FL.fz hdp;have hc:=a3C (x:=(nd t i).word 0) jx (a3Q hR hi);have hv:=a3C (x:=(nd t i).word 0) hdv (a3Q hR hi);have hp:=a3C (x:=(nd t i).word 0) hdp (a3Q hR hi);cases r1:dY (a1m t i 1 i) ((nd t i).word 0)
 ·rw [r1] at hc
  cases r2:dY (a1m t i 2 i) ((nd t i).word 0)
  ·rw [r2] at hv
   repeat first
   |(apply U9 hc rfl rfl (X3 fc a0U))
   |(apply U9 hv rfl rfl (X3 fv a0U))
   |(apply U9 hp rfl rfl (X3 fp a0U))
   |refine zW (V3 o1 o2 o3 w0) ?_
   exact ⟨.inr trivial,_,rR,_,rfl,fun h=>⟨fun e=>by omega,fun e=>by omega,fun e=>by omega,fun _=>⟨a5Z.1 r1,a5Z.1 r2,a5Z.1 h⟩⟩⟩
  ·rw [r2] at hv
   repeat first
   |(apply U9 hc rfl rfl (X3 fc a0U))
   |(apply U9 hv rfl rfl (X3 fv a0U))
   |(apply U9 hp rfl rfl (X3 fp a0U))
   |refine zW (V3 o1 o2 o3 w0) ?_
   exact ⟨.inr trivial,_,rR,_,rfl,by simp⟩
 ·rw [r1] at hc
  repeat first
  |(apply U9 hc rfl rfl (X3 fc a0U))
  |(apply U9 hv rfl rfl (X3 fv a0U))
  |(apply U9 hp rfl rfl (X3 fp a0U))
  |refine zW (V3 o1 o2 o3 w0) ?_
  exact ⟨.inr trivial,_,rR,_,rfl,by simp⟩
theorem bad_2 {d:D} {t:List Nd} (hT:X8 d t) (hR:Y9 t) {i:Nat} (hi:i<t.length) (hK:(nd t i).kind=2):a0s 140 [d,.int .i64 (i:Int)] fun b=>b=false->a45 t i:=by
 refine a0B ?_;have gP:=hT.at (z:=(i:Int)) (by omega) (by omega) (k:=.i64);rw [Int.toNat_natCast] at gP;have hx:=hT.nd hi;have ie:=hR.ok.node i hi;have o1:=FL.one hx.w;have o2:=FL.one hx.n;have o3:=FL.one hx.k;have jy:∀n m:Int,aJ [d,.int .i64 n,.int .i64 m]=true:=fun n m=>by simp [aJ,a0Y,hT.fl.pure]
 have kY:(nd t i).words.length=1:=by rw [ie.wl,hK];rfl
 have w0:W1 1 (nd t i).dw (.int .i64 0)=some (.fp [.str ((nd t i).word 0)] 0):=by
  rw [a5o (by omega)];exact FS.idx hx.w (i:=0) (by omega)
 rw [hK] at gP;refine V9 (vf:=a24) rfl ?_;unfold a24;refine zE ?_;try refine zW (V3 gP o1 o2 o3) ?_
 refine a1z (a1y hT hR hi (.inl rfl)) rfl (X1 hT.fz U2 U2) (jy _ _) ?_;intro dc jx;try refine ct ?_
 refine a1z (a1y hT hR hi (.inr (.inl rfl))) rfl (X1 hT.fz U2 U2) (jy _ _) ?_;intro dv hdv;try refine ct ?_
 refine a1z (a1y hT hR hi (.inr (.inr rfl))) rfl (X1 hT.fz U2 U2) (jy _ _) ?_;intro dp hdp;have fc:=FL.fz jx;have fv:=FL.fz hdv;have fp:=FL.fz hdp;have hc:=a3C (x:=(nd t i).word 0) jx (a3Q hR hi);have hv:=a3C (x:=(nd t i).word 0) hdv (a3Q hR hi);have hp:=a3C (x:=(nd t i).word 0) hdp (a3Q hR hi);cases r1:dY (a1m t i 1 i) ((nd t i).word 0)
 ·rw [r1] at hc
  cases r2:dY (a1m t i 2 i) ((nd t i).word 0)
  ·rw [r2] at hv
   repeat first
   |(apply U9 hc rfl rfl (X3 fc a0U))
   |(apply U9 hv rfl rfl (X3 fv a0U))
   |(apply U9 hp rfl rfl (X3 fp a0U))
   |refine zW (V3 o1 o2 o3 w0) ?_
   exact ⟨.inr trivial,_,rR,_,rfl,fun h=>⟨fun e=>by omega,fun e=>by omega,fun e=>by omega,fun _=>⟨a5Z.1 r1,a5Z.1 r2,a5Z.1 h⟩⟩⟩
  ·rw [r2] at hv
   repeat first
   |(apply U9 hc rfl rfl (X3 fc a0U))
   |(apply U9 hv rfl rfl (X3 fv a0U))
   |(apply U9 hp rfl rfl (X3 fp a0U))
   |refine zW (V3 o1 o2 o3 w0) ?_
   exact ⟨.inr trivial,_,rR,_,rfl,by simp⟩
 ·rw [r1] at hc
  repeat first
  |(apply U9 hc rfl rfl (X3 fc a0U))
  |(apply U9 hv rfl rfl (X3 fv a0U))
  |(apply U9 hp rfl rfl (X3 fp a0U))
  |refine zW (V3 o1 o2 o3 w0) ?_
  exact ⟨.inr trivial,_,rR,_,rfl,by simp⟩
theorem bad_3 {d:D} {t:List Nd} (hT:X8 d t) (hR:Y9 t) {i:Nat} (hi:i<t.length) (hK:(nd t i).kind=3):a0s 140 [d,.int .i64 (i:Int)] fun b=>b=false->a45 t i:=by
 refine a0B ?_;have gP:=hT.at (z:=(i:Int)) (by omega) (by omega) (k:=.i64);rw [Int.toNat_natCast] at gP;have hx:=hT.nd hi;have ie:=hR.ok.node i hi;have o1:=FL.one hx.w;have o2:=FL.one hx.n;have o3:=FL.one hx.k;have jy:∀n m:Int,aJ [d,.int .i64 n,.int .i64 m]=true:=fun n m=>by simp [aJ,a0Y,hT.fl.pure]
 have kY:(nd t i).words.length=1:=by rw [ie.wl,hK];rfl
 have w0:W1 1 (nd t i).dw (.int .i64 0)=some (.fp [.str ((nd t i).word 0)] 0):=by
  rw [a5o (by omega)];exact FS.idx hx.w (i:=0) (by omega)
 rw [hK] at gP;refine V9 (vf:=a24) rfl ?_;unfold a24;refine zE ?_;try refine zW (V3 gP o1 o2 o3) ?_
 refine a1z (a1y hT hR hi (.inl rfl)) rfl (X1 hT.fz U2 U2) (jy _ _) ?_;intro dc jx;try refine ct ?_
 refine a1z (a1y hT hR hi (.inr (.inl rfl))) rfl (X1 hT.fz U2 U2) (jy _ _) ?_;intro dv hdv;try refine ct ?_
 refine a1z (a1y hT hR hi (.inr (.inr rfl))) rfl (X1 hT.fz U2 U2) (jy _ _) ?_;intro dp hdp;have fc:=FL.fz jx;have fv:=FL.fz hdv;have fp:=FL.fz hdp;have hc:=a3C (x:=(nd t i).word 0) jx (a3Q hR hi);have hv:=a3C (x:=(nd t i).word 0) hdv (a3Q hR hi);have hp:=a3C (x:=(nd t i).word 0) hdp (a3Q hR hi);cases r1:dY (a1m t i 1 i) ((nd t i).word 0)
 ·rw [r1] at hc
  cases r2:dY (a1m t i 2 i) ((nd t i).word 0)
  ·rw [r2] at hv
   repeat first
   |(apply U9 hc rfl rfl (X3 fc a0U))
   |(apply U9 hv rfl rfl (X3 fv a0U))
   |(apply U9 hp rfl rfl (X3 fp a0U))
   |refine zW (V3 o1 o2 o3 w0) ?_
   exact ⟨.inr trivial,_,rR,_,rfl,fun h=>⟨fun e=>by omega,fun e=>by omega,fun e=>by omega,fun _=>⟨a5Z.1 r1,a5Z.1 r2,a5Z.1 h⟩⟩⟩
  ·rw [r2] at hv
   repeat first
   |(apply U9 hc rfl rfl (X3 fc a0U))
   |(apply U9 hv rfl rfl (X3 fv a0U))
   |(apply U9 hp rfl rfl (X3 fp a0U))
   |refine zW (V3 o1 o2 o3 w0) ?_
   exact ⟨.inr trivial,_,rR,_,rfl,by simp⟩
 ·rw [r1] at hc
  repeat first
  |(apply U9 hc rfl rfl (X3 fc a0U))
  |(apply U9 hv rfl rfl (X3 fv a0U))
  |(apply U9 hp rfl rfl (X3 fp a0U))
  |refine zW (V3 o1 o2 o3 w0) ?_
  exact ⟨.inr trivial,_,rR,_,rfl,by simp⟩
theorem bad_6 {d:D} {t:List Nd} (hT:X8 d t) (hR:Y9 t) {i:Nat} (hi:i<t.length) (hK:(nd t i).kind=6):a0s 140 [d,.int .i64 (i:Int)] fun b=>b=false->a45 t i:=by
 refine a0B ?_;have gP:=hT.at (z:=(i:Int)) (by omega) (by omega) (k:=.i64);rw [Int.toNat_natCast] at gP;have hx:=hT.nd hi;have ie:=hR.ok.node i hi;have o1:=FL.one hx.w;have o2:=FL.one hx.n;have o3:=FL.one hx.k;have jy:∀n m:Int,aJ [d,.int .i64 n,.int .i64 m]=true:=fun n m=>by simp [aJ,a0Y,hT.fl.pure]
 have kY:(nd t i).words.length=1:=by rw [ie.wl,hK];rfl
 have w0:W1 1 (nd t i).dw (.int .i64 0)=some (.fp [.str ((nd t i).word 0)] 0):=by
  rw [a5o (by omega)];exact FS.idx hx.w (i:=0) (by omega)
 rw [hK] at gP;refine V9 (vf:=a24) rfl ?_;unfold a24;refine zE ?_;try refine zW (V3 gP o1 o2 o3) ?_
 refine a1z (a1y hT hR hi (.inl rfl)) rfl (X1 hT.fz U2 U2) (jy _ _) ?_;intro dc jx;try refine ct ?_
 refine a1z (a1y hT hR hi (.inr (.inl rfl))) rfl (X1 hT.fz U2 U2) (jy _ _) ?_;intro dv hdv;try refine ct ?_
 refine a1z (a1y hT hR hi (.inr (.inr rfl))) rfl (X1 hT.fz U2 U2) (jy _ _) ?_;intro dp hdp;have fc:=FL.fz jx;have fv:=FL.fz hdv;have fp:=FL.fz hdp;have hc:=a3C (x:=(nd t i).word 0) hdv (a3Q hR hi);repeat first
 |(apply U9 hc rfl rfl (X3 fv a0U))
 |refine zW (V3 o1 o2 o3 w0) ?_
 exact ⟨.inr trivial,_,rR,_,rfl,fun h=>⟨fun _=>a7w.1 (by simpa using h),fun e=>by omega,fun e=>by omega,fun e=>by omega⟩⟩
theorem bad_18 {d:D} {t:List Nd} (hT:X8 d t) (hR:Y9 t) {i:Nat} (hi:i<t.length) (hK:(nd t i).kind=18):a0s 140 [d,.int .i64 (i:Int)] fun b=>b=false->a45 t i:=by
 refine a0B ?_;have gP:=hT.at (z:=(i:Int)) (by omega) (by omega) (k:=.i64);rw [Int.toNat_natCast] at gP;have hx:=hT.nd hi;have ie:=hR.ok.node i hi;have o1:=FL.one hx.w;have o2:=FL.one hx.n;have o3:=FL.one hx.k;have jy:∀n m:Int,aJ [d,.int .i64 n,.int .i64 m]=true:=fun n m=>by simp [aJ,a0Y,hT.fl.pure]
 have kY:(nd t i).words.length=1:=by rw [ie.wl,hK];rfl
 have w0:W1 1 (nd t i).dw (.int .i64 0)=some (.fp [.str ((nd t i).word 0)] 0):=by
  rw [a5o (by omega)];exact FS.idx hx.w (i:=0) (by omega)
 rw [hK] at gP;refine V9 (vf:=a24) rfl ?_;unfold a24;refine zE ?_;try refine zW (V3 gP o1 o2 o3) ?_
 refine a1z (a1y hT hR hi (.inl rfl)) rfl (X1 hT.fz U2 U2) (jy _ _) ?_;intro dc jx;try refine ct ?_
 refine a1z (a1y hT hR hi (.inr (.inl rfl))) rfl (X1 hT.fz U2 U2) (jy _ _) ?_;intro dv hdv;try refine ct ?_
 refine a1z (a1y hT hR hi (.inr (.inr rfl))) rfl (X1 hT.fz U2 U2) (jy _ _) ?_;intro dp hdp;have fc:=FL.fz jx;have fv:=FL.fz hdv;have fp:=FL.fz hdp;have hc:=a3C (x:=(nd t i).word 0) hdv (a3Q hR hi);repeat first
 |(apply U9 hc rfl rfl (X3 fv a0U))
 |refine zW (V3 o1 o2 o3 w0) ?_
 exact ⟨.inr trivial,_,rR,_,rfl,fun h=>⟨fun _=>a7w.1 (by simpa using h),fun e=>by omega,fun e=>by omega,fun e=>by omega⟩⟩
theorem bad_7 {d:D} {t:List Nd} (hT:X8 d t) (hR:Y9 t) {i:Nat} (hi:i<t.length) (hK:(nd t i).kind=7):a0s 140 [d,.int .i64 (i:Int)] fun b=>b=false->a45 t i:=by
 refine a0B ?_;have gP:=hT.at (z:=(i:Int)) (by omega) (by omega) (k:=.i64);rw [Int.toNat_natCast] at gP;have hx:=hT.nd hi;have ie:=hR.ok.node i hi;have o1:=FL.one hx.w;have o2:=FL.one hx.n;have o3:=FL.one hx.k;have jy:∀n m:Int,aJ [d,.int .i64 n,.int .i64 m]=true:=fun n m=>by simp [aJ,a0Y,hT.fl.pure]
 have kY:(nd t i).words.length=1:=by rw [ie.wl,hK];rfl
 have w0:W1 1 (nd t i).dw (.int .i64 0)=some (.fp [.str ((nd t i).word 0)] 0):=by
  rw [a5o (by omega)];exact FS.idx hx.w (i:=0) (by omega)
 rw [hK] at gP;refine V9 (vf:=a24) rfl ?_;unfold a24;refine zE ?_;try refine zW (V3 gP o1 o2 o3) ?_
 refine a1z (a1y hT hR hi (.inl rfl)) rfl (X1 hT.fz U2 U2) (jy _ _) ?_;intro dc jx;try refine ct ?_
 refine a1z (a1y hT hR hi (.inr (.inl rfl))) rfl (X1 hT.fz U2 U2) (jy _ _) ?_;intro dv hdv;try refine ct ?_
 refine a1z (a1y hT hR hi (.inr (.inr rfl))) rfl (X1 hT.fz U2 U2) (jy _ _) ?_;intro dp hdp;have fc:=FL.fz jx;have fv:=FL.fz hdv;have fp:=FL.fz hdp;have hc:=a3C (x:=(nd t i).word 0) jx (a3Q hR hi);repeat first
 |(apply U9 hc rfl rfl (X3 fc a0U))
 |refine zW (V3 o1 o2 o3 w0) ?_
 exact ⟨.inr trivial,_,rR,_,rfl,fun h=>⟨fun e=>by omega,fun _=>a7w.1 (by simpa using h),fun e=>by omega,fun e=>by omega⟩⟩
theorem bad_19 {d:D} {t:List Nd} (hT:X8 d t) (hR:Y9 t) {i:Nat} (hi:i<t.length) (hK:(nd t i).kind=19):a0s 140 [d,.int .i64 (i:Int)] fun b=>b=false->a45 t i:=by
 refine a0B ?_;have gP:=hT.at (z:=(i:Int)) (by omega) (by omega) (k:=.i64);rw [Int.toNat_natCast] at gP;have hx:=hT.nd hi;have ie:=hR.ok.node i hi;have o1:=FL.one hx.w;have o2:=FL.one hx.n;have o3:=FL.one hx.k;have jy:∀n m:Int,aJ [d,.int .i64 n,.int .i64 m]=true:=fun n m=>by simp [aJ,a0Y,hT.fl.pure]
 have kY:(nd t i).words.length=1:=by rw [ie.wl,hK];rfl
 have w0:W1 1 (nd t i).dw (.int .i64 0)=some (.fp [.str ((nd t i).word 0)] 0):=by
  rw [a5o (by omega)];exact FS.idx hx.w (i:=0) (by omega)
 rw [hK] at gP;refine V9 (vf:=a24) rfl ?_;unfold a24;refine zE ?_;try refine zW (V3 gP o1 o2 o3) ?_
 refine a1z (a1y hT hR hi (.inl rfl)) rfl (X1 hT.fz U2 U2) (jy _ _) ?_;intro dc jx;try refine ct ?_
 refine a1z (a1y hT hR hi (.inr (.inl rfl))) rfl (X1 hT.fz U2 U2) (jy _ _) ?_;intro dv hdv;try refine ct ?_
 refine a1z (a1y hT hR hi (.inr (.inr rfl))) rfl (X1 hT.fz U2 U2) (jy _ _) ?_;intro dp hdp;have fc:=FL.fz jx;have fv:=FL.fz hdv;have fp:=FL.fz hdp;have hc:=a3C (x:=(nd t i).word 0) jx (a3Q hR hi);repeat first
 |(apply U9 hc rfl rfl (X3 fc a0U))
 |refine zW (V3 o1 o2 o3 w0) ?_
 exact ⟨.inr trivial,_,rR,_,rfl,fun h=>⟨fun e=>by omega,fun _=>a7w.1 (by simpa using h),fun e=>by omega,fun e=>by omega⟩⟩
theorem bad_8 {d:D} {t:List Nd} (hT:X8 d t) (hR:Y9 t) {i:Nat} (hi:i<t.length) (hK:(nd t i).kind=8):a0s 140 [d,.int .i64 (i:Int)] fun b=>b=false->a45 t i:=by
 refine a0B ?_;have gP:=hT.at (z:=(i:Int)) (by omega) (by omega) (k:=.i64);rw [Int.toNat_natCast] at gP;have hx:=hT.nd hi;have ie:=hR.ok.node i hi;have o1:=FL.one hx.w;have o2:=FL.one hx.n;have o3:=FL.one hx.k;have jy:∀n m:Int,aJ [d,.int .i64 n,.int .i64 m]=true:=fun n m=>by simp [aJ,a0Y,hT.fl.pure]
 have kY:(nd t i).words.length=2:=by rw [ie.wl,hK];rfl
 have w0:W1 1 (nd t i).dw (.int .i64 0)=some (.fp [.str ((nd t i).word 0)] 0):=by
  rw [a5o (by omega)];exact FS.idx hx.w (i:=0) (by omega)
 have w1:W1 1 (nd t i).dw (.int .i64 1)=some (.fp [.str ((nd t i).word 1)] 0):=by
  rw [a5o (by omega)];exact FS.idx hx.w (i:=1) (by omega)
 rw [hK] at gP;refine V9 (vf:=a24) rfl ?_;unfold a24;refine zE ?_;try refine zW (V3 gP o1 o2 o3) ?_
 refine a1z (a1y hT hR hi (.inl rfl)) rfl (X1 hT.fz U2 U2) (jy _ _) ?_;intro dc jx;try refine ct ?_
 refine a1z (a1y hT hR hi (.inr (.inl rfl))) rfl (X1 hT.fz U2 U2) (jy _ _) ?_;intro dv hdv;try refine ct ?_
 refine a1z (a1y hT hR hi (.inr (.inr rfl))) rfl (X1 hT.fz U2 U2) (jy _ _) ?_;intro dp hdp;have fc:=FL.fz jx;have fv:=FL.fz hdv;have fp:=FL.fz hdp;have hc:=a3C (x:=(nd t i).word 0) jx (a3Q hR hi);have hv:=a3C (x:=(nd t i).word 1) hdv (a3Q hR hi);cases r1:dY (a1m t i 1 i) ((nd t i).word 0)
 ·rw [r1] at hc
  repeat first
  |(apply U9 hc rfl rfl (X3 fc a0U))
  |(apply U9 hv rfl rfl (X3 fv a0U))
  |refine zW (W6 o1 o2 o3 w0 w1) ?_
  exact ⟨.inr trivial,_,rR,_,rfl,by simp⟩
 ·rw [r1] at hc
  repeat first
  |(apply U9 hc rfl rfl (X3 fc a0U))
  |(apply U9 hv rfl rfl (X3 fv a0U))
  |refine zW (W6 o1 o2 o3 w0 w1) ?_
  exact ⟨.inr trivial,_,rR,_,rfl,fun h=>⟨fun e=>by omega,fun _=>a7w.1 r1,fun _=>a7w.1 (by simpa using h),fun e=>by omega⟩⟩
theorem bad_x {d:D} {t:List Nd} (hT:X8 d t) (hR:Y9 t) {i:Nat} (hi:i<t.length) (hK:(nd t i).kind≠1/\(nd t i).kind≠2/\(nd t i).kind≠3/\(nd t i).kind≠6/\(nd t i).kind≠18/\(nd t i).kind≠7/\(nd t i).kind≠19/\(nd t i).kind≠8):a0s 140 [d,.int .i64 (i:Int)] fun b=>b=false->a45 t i:=by
 refine a0B ?_;have gP:=hT.at (z:=(i:Int)) (by omega) (by omega) (k:=.i64);rw [Int.toNat_natCast] at gP;have hx:=hT.nd hi;have ie:=hR.ok.node i hi;have o1:=FL.one hx.w;have o2:=FL.one hx.n;have o3:=FL.one hx.k;have jy:∀n m:Int,aJ [d,.int .i64 n,.int .i64 m]=true:=fun n m=>by simp [aJ,a0Y,hT.fl.pure]
 have n1:((nd t i).kind==1)=false:=by rw [beq_eq_false_iff_ne];omega
 have n2:((nd t i).kind==2)=false:=by rw [beq_eq_false_iff_ne];omega
 have n3:((nd t i).kind==3)=false:=by rw [beq_eq_false_iff_ne];omega
 have n6:((nd t i).kind==6)=false:=by rw [beq_eq_false_iff_ne];omega
 have n18:((nd t i).kind==18)=false:=by rw [beq_eq_false_iff_ne];omega
 have n7:((nd t i).kind==7)=false:=by rw [beq_eq_false_iff_ne];omega
 have n19:((nd t i).kind==19)=false:=by rw [beq_eq_false_iff_ne];omega
 have n8:((nd t i).kind==8)=false:=by rw [beq_eq_false_iff_ne];omega
 refine V9 (vf:=a24) rfl ?_;unfold a24;refine zE ?_;try refine zW (V3 gP o1 o2 o3) ?_
 refine a1z (a1y hT hR hi (.inl rfl)) rfl (X1 hT.fz U2 U2) (jy _ _) ?_;intro dc jx;try refine ct ?_
 refine a1z (a1y hT hR hi (.inr (.inl rfl))) rfl (X1 hT.fz U2 U2) (jy _ _) ?_;intro dv hdv;try refine ct ?_
 refine a1z (a1y hT hR hi (.inr (.inr rfl))) rfl (X1 hT.fz U2 U2) (jy _ _) ?_;intro dp hdp;have fc:=FL.fz jx;have fv:=FL.fz hdv;have fp:=FL.fz hdp;try refine zW (U5 o1 o2 o3 n1 n2 n3 n6 (V3 n18 n7 n19 n8)) ?_
 exact ⟨.inr trivial,_,rR,_,rfl,fun _=>⟨fun e=>by omega,fun e=>by omega,fun e=>by omega,fun e=>by omega⟩⟩
theorem bad_ok {d:D} {t:List Nd} (hT:X8 d t) (hR:Y9 t) {i:Nat} (hi:i<t.length):a0s 140 [d,.int .i64 (i:Int)] fun b=>b=false->a45 t i:=by
 by_cases k1:(nd t i).kind=1
 ·exact bad_1 hT hR hi k1
 by_cases k2:(nd t i).kind=2
 ·exact bad_2 hT hR hi k2
 by_cases k3:(nd t i).kind=3
 ·exact bad_3 hT hR hi k3
 by_cases k6:(nd t i).kind=6
 ·exact bad_6 hT hR hi k6
 by_cases Br:(nd t i).kind=18
 ·exact bad_18 hT hR hi Br
 by_cases k7:(nd t i).kind=7
 ·exact bad_7 hT hR hi k7
 by_cases Bl:(nd t i).kind=19
 ·exact bad_19 hT hR hi Bl
 by_cases k8:(nd t i).kind=8
 ·exact bad_8 hT hR hi k8
 exact bad_x hT hR hi ⟨k1,k2,k3,k6,Br,k7,Bl,k8⟩
def IsoF (f:Nat) (l:List D) (P:Prop):Prop:=∃ (e a:Int),eu f l (.agg [.int .i64 e,.int .i64 a])/\(e=0->P)
theorem b9b {f:Nat} {l:List D} {P:Prop} (h:X9 U8 f l k4.empty fun d _=>∃ (e a:Int),d=.agg [.int .i64 e,.int .i64 a]/\(e=0->P)):IsoF f l P:=by
 obtain ⟨d,s',h,e,a,rfl,hp⟩:=h;exact ⟨e,a,⟨s',h⟩,hp⟩
theorem c4j {d:D} {t:List Nd} (hT:X8 d t) (hR:Y9 t):IsoF 104 [d] (a5h t):=by
 refine b9b ?_;have hlen:=hT.len;have hle:=hR.ok.le;refine V9 (vf:=b3J) rfl ?_;unfold b3J;refine zE ?_;try refine ct ?_
 refine a1c (Q:=a0j 0 _) (fun n env s=>∃i:Nat,i<=t.length/\n=t.length-i/\(∀j,j<i->a45 t j)/\s.get 0=some (.cells [.int .i64 0,.int .i64 0])/\(env.get 0=d/\env.get 2=.ptr 0 0/\env.get 3=.int .i64 (i:Int))) ?_ t.length _ _ ⟨0,by omega,rfl,fun j h=>by omega,W2 rfl,by simp [q8.get,a0f.at];rfl⟩;rintro n env s ⟨i,hi,rfl,gU,hg,hE⟩;have lj:=u7 hg;by_cases c1:i<t.length
 ·have gZ:((i:Int)<(t.length:Int))=True:=eq_true (by omega)
  have hs:IntKind.i64.wrap ((i:Int)+1)=((i+1:Nat):Int):=by rw [Z5 (by omega) (by omega)];omega
  have gP:=hT.at (z:=(i:Int)) (by omega) (by omega) (k:=.i64);rw [Int.toNat_natCast] at gP;have hx:=hT.nd c1;have o1:=FL.one hx.w;have o2:=FL.one hx.n;have o3:=FL.one hx.k;obtain ⟨b,hb,hp⟩:=bad_ok hT hR c1;cases b
  ·repeat first
   |(apply U9 hb rfl;(focus (simp only [q8.aP,q8.ev,q8.get,Nat.reduceEqDiff,↓reduceIte,hE]));(focus exact X3 hT.fz U2))
   |refine zW (V3 hE hlen gZ hs) ?_
   refine ⟨t.length-(i+1),by omega,i+1,by omega,rfl,fun j h=>?_,hg,(rG hE)⟩;by_cases e:j=i
   ·subst e;exact hp rfl
   ·exact gU j (by omega)
  ·repeat first
   |(apply U9 hb rfl;(focus (simp only [q8.aP,q8.ev,q8.get,Nat.reduceEqDiff,↓reduceIte,hE]));(focus exact X3 hT.fz U2))
   |refine zW (U5 hE hlen gZ gP o1 o2 o3 hg) ?_
   refine ⟨.inr trivial,_,?_,20,(nd t i).pos,rfl,by simp⟩;simp only [a04,a1g,a1t,q8.get,Nat.reduceEqDiff,↓reduceIte,hE,a0d lj];rfl
 ·have gZ:((i:Int)<(t.length:Int))=False:=eq_false (by omega)
  try refine zW (V3 hE hlen gZ hg) ?_
  refine ⟨.inr trivial,_,?_,0,0,rfl,fun _=>?_⟩
  ·simp only [a04,a1g,a1t,q8.get,Nat.reduceEqDiff,↓reduceIte,hE,a0d lj]
   rfl
  ·exact ⟨fun j h=>(gU j (by omega)).use,fun j h=>(gU j (by omega)).chan,fun j h=>(gU j (by omega)).recv,fun j h=>(gU j (by omega)).once⟩
theorem b3y {v w:Nat} (h:w<=v):(2:Int) ^ w<=2 ^ v:=by
 have:(2:Nat) ^ w<=2 ^ v:=Nat.pow_le_pow_right (by omega) h;exact_mod_cast this
theorem b0k {v w:Nat} (h:w<=v):(2:Int) ^ w ∣ 2 ^ v:=by
 obtain ⟨k,rfl⟩:∃k,v=w+k:=⟨v-w,by omega⟩
 rw [Int.pow_add];exact Int.dvd_mul_right _ _
theorem b18 {n:Int} {w:Nat} (h:0<w):W9 n w=if 2 ^ (w-1)<=n % 2 ^ w then n % 2 ^ w-2 ^ w else n % 2 ^ w:=by
 have hp:=a7G h;have p:=a5u w;have h1:=Int.emod_nonneg n (b:=2 ^ w) (by omega);have h2:=Int.emod_lt_of_pos n p;have e:W9 n w=W9 (n % 2 ^ w) w:=(a9E (by rw [Int.emod_emod_of_dvd _ (Int.dvd_refl _)])).symm;rw [e];generalize n % 2 ^ w=r at *;split
 ·rw [<- a9E (a:=r-2 ^ w) (b:=r) (by rw [Int.sub_emod,Int.emod_self];simp),a6i h (by omega) (by omega)]
 ·rw [a6i h (by omega) (by omega)]
theorem c2w {n m:Int} (h:0<m):(if n.tmod m<0 then n.tmod m+m else n.tmod m)=n % m:=by
 have h1:=Int.mul_tdiv_add_tmod n m;have h2:=Int.tmod_lt_of_pos n h;have h3:-m<n.tmod m:=by
  have:=Int.tmod_lt_of_pos (-n) h;rw [Int.neg_tmod] at this;omega
 have e:n % m=n.tmod m % m:=by
  conv=>lhs;rw [<- h1]
  rw [Int.add_comm,Int.add_mul_emod_self_left]
 rw [e];generalize n.tmod m=r at *;split
 ·rw [<- Int.add_emod_right,Int.emod_eq_of_lt (by omega) (by omega)]
 ·rw [Int.emod_eq_of_lt (by omega) (by omega)]
theorem b6A {w:Nat} (h:w<=16):(2:Int) ^ w<=65536:=by
 have:=b3y (w:=w) (v:=16) h;omega
theorem b7x {s:k4} {x n:Int} {w:Nat} (hn:(w:Int)=min (max n 1) 16) (hx:a3F x) :
 Ev U8 34 [.int .i64 x,.int .i64 n] s (.int .i64 (W9 x w)) s:=by
 obtain ⟨zO,tF⟩:=hx;have lF:1<=w:=by omega
 have kY:w<=16:=by omega
 have hp:=b6A kY;have me:=a5u w;rw [b18 lF];refine b0B (vf:=vf34) rfl ?_;unfold vf34;refine zE ?_;try refine ct ?_
 refine WP.mono (Q:=fun e env s'=>e=.normal/\s'=s/\(env.get 0=.int .i64 x/\env.get 1=.int .i64 (max n 1))) ?_ ?_
 ·by_cases h:n<1
  ·have b1:(n<1)=True:=eq_true h
   try refine zW b1 ?_
   exact ⟨trivial,trivial,by simp [q8.get];omega⟩
  ·have b1:(n<1)=False:=eq_false h
   try refine zW b1 ?_
   exact ⟨trivial,trivial,by simp [q8.get];omega⟩
 rintro e env s' ⟨rfl,rfl,hE⟩;simp only [a2x];try refine zW hE ?_
 refine WP.mono (Q:=fun e env s1=>e=.normal/\s1=s'/\(env.get 0=.int .i64 x/\env.get 1=.int .i64 (w:Int))) ?_ ?_
 ·by_cases h:16<max n 1
  ·have b1:(16<max n 1)=True:=eq_true h
   try refine zW (aN hE b1) ?_
   exact ⟨trivial,trivial,by simp [q8.get,hE];omega⟩
  ·have b1:(16<max n 1)=False:=eq_false h
   try refine zW (aN hE b1) ?_
   exact ⟨trivial,trivial,by simp [q8.get,hE];omega⟩
 clear hE;rintro e env s1 ⟨rfl,rfl,hE⟩;simp only [a2x];try refine zW hE ?_
 refine a1c (fun k env s2=>∃ (i:Nat),i<=w/\k=w-i/\s2=s1/\(env.get 0=.int .i64 x/\env.get 1=.int .i64 (w:Int)/\env.get 5=.int .i64 (2 ^ i)/\env.get 6=.int .i64 (i:Int))) ?_ w _ _
  ⟨0,Nat.zero_le _,by omega,rfl,by simp [q8.get,hE]⟩
 clear hE;rintro k env s2 ⟨i,hi,rfl,rfl,hE⟩;by_cases lD:i<w
 ·have oJ:(i:Int)<(w:Int):=by omega
  have hs:=(by rw [Z5 (by omega) (by omega)];omega:IntKind.i64.wrap ((i:Int)+1)=((i+1:Nat):Int))
  have Bw:=b6A (w:=i) (by omega);have hpi0:=a5u i;have hmul:IntKind.i64.wrap ((2:Int) ^ i*2)=2 ^ (i+1):=by rw [Z5 (by omega) (by omega),Int.pow_succ]
  try refine zW (V3 hE oJ hs hmul) ?_
  exact ⟨w-(i+1),by omega,i+1,by omega,rfl,trivial,(rG hE)⟩
 ·have oJ:¬ (i:Int)<(w:Int):=by omega
  obtain rfl:i=w:=by omega
  have iw:((2:Int) ^ i=0)=False:=eq_false (by omega);have hm:=c2w (n:=x) me;have h1:=Int.emod_nonneg x (b:=2 ^ i) (by omega);have h2:=Int.emod_lt_of_pos x me;have hh:=a7G (w:=i) (by omega);have hdiv:((2:Int) ^ i).tdiv 2=2 ^ (i-1):=by
   rw [Int.tdiv_eq_ediv_of_nonneg (by omega)];omega
  have pn:IntKind.i64.wrap ((2:Int) ^ (i-1))=2 ^ (i-1):=Z5 (by omega) (by omega);have ph:IntKind.i64.wrap (x % 2 ^ i-2 ^ i)=x % 2 ^ i-2 ^ i:=Z5 (by omega) (by omega);by_cases nG:x.tmod (2 ^ i)<0
  ·rw [if_pos nG] at hm
   have xQ:IntKind.i64.wrap (x.tmod (2 ^ i)+2 ^ i)=x % 2 ^ i:=by rw [hm];exact Z5 (by omega) (by omega)
   by_cases hc:2 ^ (i-1)<=x % 2 ^ i
   ·try refine zW (U5 hE oJ iw nG xQ hdiv pn (aN hc ph)) ?_
    exact ⟨.inr trivial,trivial,(by simp only [a04,a1g,a1t,q8.get,Nat.reduceEqDiff,↓reduceIte,hc]<;>rfl)⟩
   ·try refine zW (U5 hE oJ iw nG xQ hdiv pn (aN hc ph)) ?_
    exact ⟨.inr trivial,trivial,(by simp only [a04,a1g,a1t,q8.get,Nat.reduceEqDiff,↓reduceIte,hc]<;>rfl)⟩
  ·rw [if_neg nG] at hm
   have nG:(x % 2 ^ i<0)=False:=eq_false (by omega);by_cases hc:2 ^ (i-1)<=x % 2 ^ i
   ·try refine zW (U5 hE oJ iw nG hm hdiv pn (aN hc ph)) ?_
    exact ⟨.inr trivial,trivial,(by simp only [a04,a1g,a1t,q8.get,Nat.reduceEqDiff,↓reduceIte,hc]<;>rfl)⟩
   ·try refine zW (U5 hE oJ iw nG hm hdiv pn (aN hc ph)) ?_
    exact ⟨.inr trivial,trivial,(by simp only [a04,a1g,a1t,q8.get,Nat.reduceEqDiff,↓reduceIte,hc]<;>rfl)⟩
theorem b9c {x n:Int} {w:Nat} (hn:(w:Int)=min (max n 1) 16) (hx:a3F x):eu 34 [.int .i64 x,.int .i64 n] (.int .i64 (W9 x w)):=⟨_,b7x hn hx⟩
theorem a5R {x:Nd} (hx:x.Ok) {i:Nat} (h:i<x.aH.length):W1 1 x.dn (.int .i64 (i:Int))=some (.fp [.int .i64 (x.num i)] 0):=by rw [a7p h];exact FI.idx hx.n h
theorem c2A {d:D} {t:List Nd} (hT:X8 d t) (hR:Y9 t) {i:Nat} (hi:i<t.length):eu 172 [d,.int .i64 (i:Int)] (.int .i64 (a5i t i)):=by
 refine a5A ?_;have pk:=b4a hT hR hi;have hle:=b8N hR hi;have gP:=hT.at (z:=(item t i:Int)) (by omega) (by omega) (k:=.i64);rw [Int.toNat_natCast] at gP;have hx:=hT.nd (i:=item t i) (by omega);have o1:=FL.one hx.w;have o2:=FL.one hx.n;have o3:=FL.one hx.k;unfold a5i;by_cases c:(nd t (item t i)).kind=3
 ·have c':((nd t (item t i)).kind==3)=true:=by rw [c];rfl
  have nt:(nd t (item t i)).aH.length=1:=by rw [(hR.ok.node _ (by omega)).nl,c];rfl
  have n0:=a5R hx (i:=0) (by omega);have z0:((0:Nat):Int)=0:=rfl;rw [z0] at n0;rw [if_pos c];refine V9 (vf:=a8w) rfl ?_;unfold a8w;refine zE ?_;repeat first
  |(apply U9 pk rfl rfl (X3 hT.fz U2))
  |refine zW (Y6 gP o1 o2 o3 c' n0) ?_
  exact ⟨.inr trivial,_,rR,rfl⟩
 ·have c':((nd t (item t i)).kind==3)=false:=by rw [beq_eq_false_iff_ne];exact c
  rw [if_neg c];refine V9 (vf:=a8w) rfl ?_;unfold a8w;refine zE ?_;repeat first
  |(apply U9 pk rfl rfl (X3 hT.fz U2))
  |refine zW (W6 gP o1 o2 o3 c') ?_
  exact ⟨.inr trivial,_,rR,rfl⟩
theorem b2g {d:D} {t:List Nd} (hT:X8 d t) (hR:Y9 t) {i:Nat} (hi:i<t.length) {kind:Int}:eu 141 [d,.int .i64 (i:Int),.int .i64 kind] (.int .i64 (a0u t kind (i+1))):=by
 refine a5A ?_;have hle:=hR.ok.le;refine V9 (vf:=b3P) rfl ?_;unfold b3P;refine zE ?_;try refine ct ?_
 refine a1c (Q:=a0j 0 _) (fun n env s=>∃j:Nat,j<=i+1/\n=i+1-j/\(env.get 0=d/\env.get 1=.int .i64 (i:Int)/\env.get 2=.int .i64 kind/\env.get 7=.int .i64 (a0u t kind j)/\env.get 8=.int .i64 (j:Int))) ?_ (i+1) _ _ ⟨0,by omega,rfl,by simp [q8.get,a0u]⟩;rintro n env s ⟨j,hj,rfl,hE⟩;have zm:=b4m hR (kind:=kind) (i:=j) (by omega);by_cases c1:j<=i
 ·have gZ:((j:Int)<=(i:Int))=True:=eq_true (by omega)
  have hs:IntKind.i64.wrap ((j:Int)+1)=((j+1:Nat):Int):=by rw [Z5 (by omega) (by omega)];omega
  by_cases c2:a0u t kind j<100
  ·have gP:=hT.at (z:=(j:Int)) (by omega) (by omega) (k:=.i64)
   rw [Int.toNat_natCast] at gP;have hx:=hT.nd (i:=j) (by omega);have o1:=FL.one hx.w;have o2:=FL.one hx.n;have o3:=FL.one hx.k;by_cases c3:(nd t j).kind=kind
   ·have iB:((nd t j).kind != kind)=false:=by rw [c3];simp
    have jm:a0u t kind (j+1)=a0u t kind j+a3Z t kind j:=by rw [a0u,if_pos ⟨c2,c3⟩]
    have hsr:=b8v hR (kind:=kind) (i:=j) (by omega);by_cases c4:kind=1
    ·have jf:(kind==1)=true:=by rw [c4];rfl
     have hw:IntKind.i64.wrap (a0u t kind j+1)=a0u t kind (j+1):=by rw [Z5 (by omega) (by omega),jm,a3Z,if_pos c4]
     try refine zW (U5 hE gZ c2 gP o1 o2 o3 (V3 iB jf hw hs)) ?_
     exact ⟨i+1-(j+1),by omega,j+1,by omega,rfl,(rG hE)⟩
    ·have jf:(kind==1)=false:=by rw [beq_eq_false_iff_ne];exact c4
     have hc:=c2A hT hR (i:=j) (by omega);have hcr:=b5q hR (i:=j) (by omega);have hw:IntKind.i64.wrap (a0u t kind j+min (a5i t j) 100)=a0u t kind (j+1):=by rw [Z5 (by omega) (by omega),jm,a3Z,if_neg c4]
     repeat first
     |(apply U9 hc rfl;(focus (simp only [q8.aP,q8.ev,q8.get,Nat.reduceEqDiff,↓reduceIte,hE]));(focus exact X3 hT.fz U2))
     |refine zW (U5 hE gZ c2 gP o1 o2 o3 (V3 iB jf hw hs)) ?_
     exact ⟨i+1-(j+1),by omega,j+1,by omega,rfl,(rG hE)⟩
   ·have iB:((nd t j).kind != kind)=true:=by rw [bne_iff_ne];exact c3
    have jm:a0u t kind (j+1)=a0u t kind j:=by rw [a0u,if_neg fun h=>c3 h.2]
    try refine zW (U5 hE gZ c2 gP o1 o2 o3 (aN iB hs)) ?_
    exact ⟨i+1-(j+1),by omega,j+1,by omega,rfl,by simp only [q8.get,Nat.reduceEqDiff,↓reduceIte,hE,jm,and_self]⟩
  ·have hb:=b5d (t:=t) (kind:=kind) (i:=j) (by omega) (j:=i+1) (by omega)
   try refine zW (V5 hE gZ c2) ?_
   exact ⟨.inr trivial,_,rR,by rw [hb]⟩
 ·have gZ:((j:Int)<=(i:Int))=False:=eq_false (by omega)
  obtain rfl:j=i+1:=by omega
  try refine zW (aN hE gZ) ?_
  exact ⟨.inr trivial,_,rR,rfl⟩
theorem b8J {d:D} {t:List Nd} (hT:X8 d t) (hR:Y9 t) {z:Int}:∀ (f a:Nat),a<t.length->t.length-a<f->a0s 142 [d,.int .i64 z,.int .i64 (a:Int)] fun _=>True
 | 0,a,_,h=>by omega
 | f+1,a,ha,hf=>by
   refine a0B ?_;have gP:=hT.at (z:=(a:Int)) (by omega) (by omega) (k:=.i64);rw [Int.toNat_natCast] at gP;have hx:=hT.nd ha;have o1:=FL.one hx.w;have o2:=FL.one hx.n;have o3:=FL.one hx.k;have jA:=FI.len hx.k;refine V9 (vf:=b3a) rfl ?_;unfold b3a;refine zE ?_;try refine ct ?_
   refine a1c (Q:=a0j 0 _) (fun n env s=>∃j:Nat,j<=(nd t a).kids.length/\n=(nd t a).kids.length-j/\(env.get 0=d/\env.get 1=.int .i64 z/\env.get 2=.int .i64 (a:Int)/\env.get 7=.int .i64 (j:Int))) ?_ (nd t a).kids.length _ _ ⟨0,by omega,rfl,by simp [q8.get]⟩;rintro n env s ⟨j,hj,rfl,hE⟩;by_cases c1:j<(nd t a).kids.length
   ·have gZ:((j:Int)<((nd t a).kids.length:Int))=True:=eq_true (by omega)
    have jJ:=FI.idx hx.k c1 (k:=.i64);have hs:=a4T c1 hx.kl;have AG:=hR.ok.kids a ha _ (List.getElem_mem c1);obtain ⟨k,hk⟩:∃k:Nat,(nd t a).kids[j]=(k:Int):=⟨(nd t a).kids[j].toNat,by omega⟩
    rw [hk] at jJ AG;obtain ⟨b,hb,_⟩:=b8J hT hR (z:=z) f k (by omega) (by omega);cases c2:((k:Int)==z)
    ·cases b
     ·repeat first
      |(apply U9 hb rfl;(focus (simp only [q8.aP,q8.ev,q8.get,Nat.reduceEqDiff,↓reduceIte,hE]));(focus exact X1 hT.fz U2 U2))
      |refine zW (U5 hE gP o1 o2 o3 jA gZ (V5 jJ c2 hs)) ?_
      exact ⟨(nd t a).kids.length-(j+1),by omega,j+1,by omega,rfl,(rG hE)⟩
     ·repeat first
      |(apply U9 hb rfl;(focus (simp only [q8.aP,q8.ev,q8.get,Nat.reduceEqDiff,↓reduceIte,hE]));(focus exact X1 hT.fz U2 U2))
      |refine zW (U5 hE gP o1 o2 o3 jA gZ (aN jJ c2)) ?_
      exact ⟨.inr trivial,_,rR,_,rfl,trivial⟩
    ·try refine zW (U5 hE gP o1 o2 o3 jA gZ (aN jJ c2)) ?_
     exact ⟨.inr trivial,_,rR,_,rfl,trivial⟩
   ·have gZ:((j:Int)<((nd t a).kids.length:Int))=False:=eq_false (by omega)
    try refine zW (Y3 hE gP o1 o2 o3 jA gZ) ?_
    exact ⟨.inr trivial,_,rR,_,rfl,trivial⟩
def a6q (f:Nat) (l:List D) (P:Prop):Prop:=∃e:Int,eu f l (.int .i64 e)/\(e=0->P)
theorem a77 {f:Nat} {l:List D} {P:Prop} (h:X9 U8 f l k4.empty fun d _=>∃e:Int,d=.int .i64 e/\(e=0->P)):a6q f l P:=by
 obtain ⟨d,s',h,e,rfl,hp⟩:=h;exact ⟨e,⟨s',h⟩,hp⟩
theorem c3S {d:D} {t:List Nd} (hT:X8 d t) (hR:Y9 t) {i:Nat} (hi:i<t.length) (hK:(nd t i).kind=1):a6q 105 [d,.int .i64 (i:Int)] (a57 t i):=by
 refine a77 ?_;have gP:=hT.at (z:=(i:Int)) (by omega) (by omega) (k:=.i64);rw [Int.toNat_natCast] at gP;have hx:=hT.nd hi;have ie:=hR.ok.node i hi;have hle:=hR.ok.le;have o1:=FL.one hx.w;have o2:=FL.one hx.n;have o3:=FL.one hx.k;have nt:(nd t i).aH.length=4:=by rw [ie.nl,hK];rfl
 have n0:W1 1 (nd t i).dn (.int .i64 0)=some (.fp [.int .i64 ((nd t i).num 0)] 0):=a5R hx (i:=0) (by omega);have n1:W1 1 (nd t i).dn (.int .i64 1)=some (.fp [.int .i64 ((nd t i).num 1)] 0):=a5R hx (i:=1) (by omega);rw [hK] at gP;have hs:=b2g hT hR hi (kind:=1);by_cases e0:(nd t i).num 0<1
 ·have d0:((nd t i).num 0<1)=True:=eq_true e0
  refine V9 (vf:=a0P) rfl ?_;unfold a0P;refine zE ?_;repeat first
  |(apply U9 hs rfl rfl (X1 hT.fz U2 U2))
  |refine zW (Y3 gP o1 o2 o3 n0 n1 d0) ?_
  exact ⟨.inr trivial,_,rR,_,rfl,by simp⟩
 have d0:((nd t i).num 0<1)=False:=eq_false e0;by_cases e1:3<(nd t i).num 0
 ·have d1:(3<(nd t i).num 0)=True:=eq_true e1
  refine V9 (vf:=a0P) rfl ?_;unfold a0P;refine zE ?_;repeat first
  |(apply U9 hs rfl rfl (X1 hT.fz U2 U2))
  |refine zW (U5 gP o1 o2 o3 n0 n1 d0 d1) ?_
  exact ⟨.inr trivial,_,rR,_,rfl,by simp⟩
 have d1:(3<(nd t i).num 0)=False:=eq_false e1;by_cases e2:(nd t i).num 1<1
 ·have d2:((nd t i).num 1<1)=True:=eq_true e2
  refine V9 (vf:=a0P) rfl ?_;unfold a0P;refine zE ?_;repeat first
  |(apply U9 hs rfl rfl (X1 hT.fz U2 U2))
  |refine zW (U5 gP o1 o2 o3 n0 n1 d0 (aN d1 d2)) ?_
  exact ⟨.inr trivial,_,rR,_,rfl,by simp⟩
 have d2:((nd t i).num 1<1)=False:=eq_false e2;by_cases e3:8<(nd t i).num 1
 ·have d3:(8<(nd t i).num 1)=True:=eq_true e3
  refine V9 (vf:=a0P) rfl ?_;unfold a0P;refine zE ?_;repeat first
  |(apply U9 hs rfl rfl (X1 hT.fz U2 U2))
  |refine zW (U5 gP o1 o2 o3 n0 n1 d0 (V5 d1 d2 d3)) ?_
  exact ⟨.inr trivial,_,rR,_,rfl,by simp⟩
 have d3:(8<(nd t i).num 1)=False:=eq_false e3;by_cases e4:3<a0u t 1 (i+1)
 ·have d4:(3<a0u t 1 (i+1))=True:=eq_true e4
  refine V9 (vf:=a0P) rfl ?_;unfold a0P;refine zE ?_;repeat first
  |(apply U9 hs rfl rfl (X1 hT.fz U2 U2))
  |refine zW (U5 gP o1 o2 o3 n0 n1 d0 (V3 d1 d2 d3 d4)) ?_
  exact ⟨.inr trivial,_,rR,_,rfl,by simp⟩
 have d4:(3<a0u t 1 (i+1))=False:=eq_false e4;refine V9 (vf:=a0P) rfl ?_;unfold a0P;refine zE ?_;repeat first
 |(apply U9 hs rfl rfl (X1 hT.fz U2 U2))
 |refine zW (U5 gP o1 o2 o3 n0 n1 d0 (V3 d1 d2 d3 d4)) ?_
 exact ⟨.inr trivial,_,rR,_,rfl,fun _=>⟨fun _=>by omega,fun h=>by omega,fun h=>by omega,fun h=>by omega⟩⟩
theorem c0F {d:D} {t:List Nd} (hT:X8 d t) (hR:Y9 t) {i:Nat} (hi:i<t.length) (hK:(nd t i).kind=2):a6q 105 [d,.int .i64 (i:Int)] (a57 t i):=by
 refine a77 ?_;have gP:=hT.at (z:=(i:Int)) (by omega) (by omega) (k:=.i64);rw [Int.toNat_natCast] at gP;have hx:=hT.nd hi;have ie:=hR.ok.node i hi;have hle:=hR.ok.le;have o1:=FL.one hx.w;have o2:=FL.one hx.n;have o3:=FL.one hx.k;have nt:(nd t i).aH.length=2:=by rw [ie.nl,hK];rfl
 have n0:W1 1 (nd t i).dn (.int .i64 0)=some (.fp [.int .i64 ((nd t i).num 0)] 0):=a5R hx (i:=0) (by omega);have n1:W1 1 (nd t i).dn (.int .i64 1)=some (.fp [.int .i64 ((nd t i).num 1)] 0):=a5R hx (i:=1) (by omega);rw [hK] at gP;have hs:=b2g hT hR hi (kind:=2);have hv:=ie.var hK;by_cases e0:(nd t i).num 0<1
 ·have d0:((nd t i).num 0<1)=True:=eq_true e0
  refine V9 (vf:=a0P) rfl ?_;unfold a0P;refine zE ?_;repeat first
  |(apply U9 hs rfl rfl (X1 hT.fz U2 U2))
  |refine zW (Y3 gP o1 o2 o3 n0 n1 d0) ?_
  exact ⟨.inr trivial,_,rR,_,rfl,by simp⟩
 have d0:((nd t i).num 0<1)=False:=eq_false e0;by_cases e1:8<(nd t i).num 0
 ·have d1:(8<(nd t i).num 0)=True:=eq_true e1
  refine V9 (vf:=a0P) rfl ?_;unfold a0P;refine zE ?_;repeat first
  |(apply U9 hs rfl rfl (X1 hT.fz U2 U2))
  |refine zW (U5 gP o1 o2 o3 n0 n1 d0 d1) ?_
  exact ⟨.inr trivial,_,rR,_,rfl,by simp⟩
 have d1:(8<(nd t i).num 0)=False:=eq_false e1;have ht:=b9c (x:=(nd t i).num 1) (n:=(nd t i).num 0) (w:=((nd t i).num 0).toNat) (by omega) ⟨by omega,by omega⟩;by_cases e2:W9 ((nd t i).num 1) ((nd t i).num 0).toNat=(nd t i).num 1
 ·have d2:(W9 ((nd t i).num 1) ((nd t i).num 0).toNat != (nd t i).num 1)=false:=by rw [e2];simp
  by_cases e3:8<a0u t 2 (i+1)
  ·have d3:(8<a0u t 2 (i+1))=True:=eq_true e3
   refine V9 (vf:=a0P) rfl ?_;unfold a0P;refine zE ?_;repeat first
   |(apply U9 hs rfl rfl (X1 hT.fz U2 U2))
   |(apply U9 ht rfl rfl (X3 U2 U2))
   |refine zW (U5 gP o1 o2 o3 n0 n1 d0 (V5 d1 d2 d3)) ?_
   exact ⟨.inr trivial,_,rR,_,rfl,by simp⟩
  ·have d3:(8<a0u t 2 (i+1))=False:=eq_false e3
   refine V9 (vf:=a0P) rfl ?_;unfold a0P;refine zE ?_;repeat first
   |(apply U9 hs rfl rfl (X1 hT.fz U2 U2))
   |(apply U9 ht rfl rfl (X3 U2 U2))
   |refine zW (U5 gP o1 o2 o3 n0 n1 d0 (V5 d1 d2 d3)) ?_
   exact ⟨.inr trivial,_,rR,_,rfl,fun _=>⟨fun h=>by omega,fun _=>⟨by omega,by omega,e2,by omega⟩,fun h=>by omega,fun h=>by omega⟩⟩
 ·have d2:(W9 ((nd t i).num 1) ((nd t i).num 0).toNat != (nd t i).num 1)=true:=by rw [bne_iff_ne];exact e2
  refine V9 (vf:=a0P) rfl ?_;unfold a0P;refine zE ?_;repeat first
  |(apply U9 hs rfl rfl (X1 hT.fz U2 U2))
  |(apply U9 ht rfl rfl (X3 U2 U2))
  |refine zW (U5 gP o1 o2 o3 n0 n1 d0 (aN d1 d2)) ?_
  exact ⟨.inr trivial,_,rR,_,rfl,by simp⟩
theorem c0Q {d:D} {t:List Nd} (hT:X8 d t) (hR:Y9 t) {i:Nat} (hi:i<t.length) (hK:(nd t i).kind=3):a6q 105 [d,.int .i64 (i:Int)] (a57 t i):=by
 refine a77 ?_;have gP:=hT.at (z:=(i:Int)) (by omega) (by omega) (k:=.i64);rw [Int.toNat_natCast] at gP;have hx:=hT.nd hi;have ie:=hR.ok.node i hi;have hle:=hR.ok.le;have o1:=FL.one hx.w;have o2:=FL.one hx.n;have o3:=FL.one hx.k;have nt:(nd t i).aH.length=1:=by rw [ie.nl,hK];rfl
 have n0:W1 1 (nd t i).dn (.int .i64 0)=some (.fp [.int .i64 ((nd t i).num 0)] 0):=a5R hx (i:=0) (by omega);rw [hK] at gP;have hs:=b2g hT hR hi (kind:=3);by_cases e0:(nd t i).num 0<1
 ·have d0:((nd t i).num 0<1)=True:=eq_true e0
  refine V9 (vf:=a0P) rfl ?_;unfold a0P;refine zE ?_;repeat first
  |(apply U9 hs rfl rfl (X1 hT.fz U2 U2))
  |refine zW (Y6 gP o1 o2 o3 n0 d0) ?_
  exact ⟨.inr trivial,_,rR,_,rfl,by simp⟩
 have d0:((nd t i).num 0<1)=False:=eq_false e0;by_cases e1:4<a0u t 3 (i+1)
 ·have d1:(4<a0u t 3 (i+1))=True:=eq_true e1
  refine V9 (vf:=a0P) rfl ?_;unfold a0P;refine zE ?_;repeat first
  |(apply U9 hs rfl rfl (X1 hT.fz U2 U2))
  |refine zW (Y3 gP o1 o2 o3 n0 d0 d1) ?_
  exact ⟨.inr trivial,_,rR,_,rfl,by simp⟩
 have d1:(4<a0u t 3 (i+1))=False:=eq_false e1;refine V9 (vf:=a0P) rfl ?_;unfold a0P;refine zE ?_;repeat first
 |(apply U9 hs rfl rfl (X1 hT.fz U2 U2))
 |refine zW (Y3 gP o1 o2 o3 n0 d0 d1) ?_
 exact ⟨.inr trivial,_,rR,_,rfl,fun _=>⟨fun h=>by omega,fun h=>by omega,fun _=>by omega,fun h=>by omega⟩⟩
theorem b98 {d:D} {t:List Nd} (hT:X8 d t) (hR:Y9 t) {i:Nat} (hi:i<t.length) (hK:(nd t i).kind=17):a6q 105 [d,.int .i64 (i:Int)] (a57 t i):=by
 refine a77 ?_;have gP:=hT.at (z:=(i:Int)) (by omega) (by omega) (k:=.i64);rw [Int.toNat_natCast] at gP;have hx:=hT.nd hi;have ie:=hR.ok.node i hi;have hle:=hR.ok.le;have o1:=FL.one hx.w;have o2:=FL.one hx.n;have o3:=FL.one hx.k;have nt:(nd t i).aH.length=1:=by rw [ie.nl,hK];rfl
 have n0:W1 1 (nd t i).dn (.int .i64 0)=some (.fp [.int .i64 ((nd t i).num 0)] 0):=a5R hx (i:=0) (by omega);rw [hK] at gP;by_cases e0:127<(nd t i).num 0
 ·have d0:(127<(nd t i).num 0)=True:=eq_true e0
  refine V9 (vf:=a0P) rfl ?_;unfold a0P;refine zE ?_;try refine zW (Y6 gP o1 o2 o3 n0 d0) ?_
  exact ⟨.inr trivial,_,rR,_,rfl,by simp⟩
 have d0:(127<(nd t i).num 0)=False:=eq_false e0;refine V9 (vf:=a0P) rfl ?_;unfold a0P;refine zE ?_;try refine zW (Y6 gP o1 o2 o3 n0 d0) ?_
 exact ⟨.inr trivial,_,rR,_,rfl,fun _=>⟨fun h=>by omega,fun h=>by omega,fun h=>by omega,fun _=>by omega⟩⟩
theorem c1e {d:D} {t:List Nd} (hT:X8 d t) (hR:Y9 t) {i:Nat} (hi:i<t.length) (hK:(nd t i).kind=13):a6q 105 [d,.int .i64 (i:Int)] (a57 t i):=by
 refine a77 ?_;have gP:=hT.at (z:=(i:Int)) (by omega) (by omega) (k:=.i64);rw [Int.toNat_natCast] at gP;have hx:=hT.nd hi;have ie:=hR.ok.node i hi;have hle:=hR.ok.le;have o1:=FL.one hx.w;have o2:=FL.one hx.n;have o3:=FL.one hx.k;rw [hK] at gP;refine V9 (vf:=a0P) rfl ?_;unfold a0P;refine zE ?_;try refine zW (V3 gP o1 o2 o3) ?_
 refine a1c (Q:=a0j 1 _) (fun n env s=>∃j:Nat,j<=i/\n=i-j/\(env.get 0=d/\env.get 1=.int .i64 (i:Int)/\env.get 6=.bool false/\env.get 7=.int .i64 (j:Int))) ?_ i _ _ ⟨0,by omega,rfl,by simp [q8.get]⟩;rintro n env s ⟨j,hj,rfl,hE⟩;by_cases c1:j<i
 ·have gZ:((j:Int)<(i:Int))=True:=eq_true (by omega)
  have hs:IntKind.i64.wrap ((j:Int)+1)=((j+1:Nat):Int):=by rw [Z5 (by omega) (by omega)];omega
  have rC:=hT.at (z:=(j:Int)) (by omega) (by omega) (k:=.i64);rw [Int.toNat_natCast] at rC;have hy:=hT.nd (i:=j) (by omega);have q1:=FL.one hy.w;have q2:=FL.one hy.n;have q3:=FL.one hy.k;obtain ⟨b,hb,_⟩:=b8J hT hR (z:=(i:Int)) (t.length+1) j (by omega) (by omega);by_cases c2:(nd t j).kind=13
  ·have jn:((nd t j).kind==13)=true:=by rw [c2];rfl
   cases b
   ·repeat first
    |(apply U9 hb rfl;(focus (simp only [q8.aP,q8.ev,q8.get,Nat.reduceEqDiff,↓reduceIte,hE]));(focus exact X1 hT.fz U2 U2))
    |refine zW (U5 hE rC q1 q2 q3 gZ jn hs) ?_
    exact ⟨i-(j+1),by omega,j+1,by omega,rfl,(rG hE)⟩
   ·repeat first
    |(apply U9 hb rfl;(focus (simp only [q8.aP,q8.ev,q8.get,Nat.reduceEqDiff,↓reduceIte,hE]));(focus exact X1 hT.fz U2 U2))
    |refine zW (Y3 hE rC q1 q2 q3 gZ jn) ?_
    exact ⟨.inr trivial,_,rR,_,rfl,by simp⟩
  ·have jn:((nd t j).kind==13)=false:=by rw [beq_eq_false_iff_ne];exact c2
   try refine zW (U5 hE rC q1 q2 q3 gZ jn hs) ?_
   exact ⟨i-(j+1),by omega,j+1,by omega,rfl,(rG hE)⟩
 ·have gZ:((j:Int)<(i:Int))=False:=eq_false (by omega)
  try refine zW (aN hE gZ) ?_
  exact ⟨.inr trivial,_,rR,_,rfl,fun _=>⟨fun h=>by omega,fun h=>by omega,fun h=>by omega,fun h=>by omega⟩⟩
theorem c2P {d:D} {t:List Nd} (hT:X8 d t) (hR:Y9 t) {i:Nat} (hi:i<t.length) (hK:(nd t i).kind≠1/\(nd t i).kind≠2/\(nd t i).kind≠3/\(nd t i).kind≠13/\(nd t i).kind≠17):a6q 105 [d,.int .i64 (i:Int)] (a57 t i):=by
 refine a77 ?_;have gP:=hT.at (z:=(i:Int)) (by omega) (by omega) (k:=.i64);rw [Int.toNat_natCast] at gP;have hx:=hT.nd hi;have ie:=hR.ok.node i hi;have hle:=hR.ok.le;have o1:=FL.one hx.w;have o2:=FL.one hx.n;have o3:=FL.one hx.k;have n1:((nd t i).kind==1)=false:=by rw [beq_eq_false_iff_ne];omega
 have n2:((nd t i).kind==2)=false:=by rw [beq_eq_false_iff_ne];omega
 have n3:((nd t i).kind==3)=false:=by rw [beq_eq_false_iff_ne];omega
 have zG:((nd t i).kind==13)=false:=by rw [beq_eq_false_iff_ne];omega
 have n17:((nd t i).kind==17)=false:=by rw [beq_eq_false_iff_ne];omega
 refine V9 (vf:=a0P) rfl ?_;unfold a0P;refine zE ?_;try refine zW (U5 gP o1 o2 o3 n1 n2 n3 (aN zG n17)) ?_
 exact ⟨.inr trivial,_,rR,_,rfl,fun _=>⟨fun h=>by omega,fun h=>by omega,fun h=>by omega,fun h=>by omega⟩⟩
theorem c5k {d:D} {t:List Nd} (hT:X8 d t) (hR:Y9 t) {i:Nat} (hi:i<t.length):a6q 105 [d,.int .i64 (i:Int)] (a57 t i):=by
 by_cases k1:(nd t i).kind=1
 ·exact c3S hT hR hi k1
 by_cases k2:(nd t i).kind=2
 ·exact c0F hT hR hi k2
 by_cases k3:(nd t i).kind=3
 ·exact c0Q hT hR hi k3
 by_cases AV:(nd t i).kind=13
 ·exact c1e hT hR hi AV
 by_cases AO:(nd t i).kind=17
 ·exact b98 hT hR hi AO
 exact c2P hT hR hi ⟨k1,k2,k3,AV,AO⟩
theorem b9T {d:D} {t:List Nd} (hT:X8 d t) (hR:Y9 t):IsoF 65 [d] (a5h t/\a3m t):=by
 refine b9b ?_;have hlen:=hT.len;have hle:=hR.ok.le;obtain ⟨e,a,hc,hp⟩:=c4j hT hR;obtain ⟨sc,hc⟩:=hc;by_cases c0:e=0
 ·subst c0
  refine V9 (vf:=a9e) rfl ?_;unfold a9e;refine zE ?_;repeat first
  |(refine a5z rfl (fz1 hT.fz) hc rfl rfl ?_)
  |refine ct ?_
  refine a1c (Q:=a0j 0 _) (fun n env s=>∃i:Nat,i<=t.length/\n=t.length-i/\(∀j,j<i->a57 t j)/\s.get 0=some (.cells [.int .i64 0,.int .i64 0])/\(env.get 0=d/\env.get 2=.ptr 0 0/\env.get 4=.int .i64 (i:Int))) ?_ t.length _ _ ⟨0,by omega,rfl,fun j h=>by omega,rfl,by simp [q8.get,a0f.at];rfl⟩;rintro n env s ⟨i,hi,rfl,gU,hg,hE⟩;have lj:=u7 hg;by_cases c1:i<t.length
  ·have gZ:((i:Int)<(t.length:Int))=True:=eq_true (by omega)
   have hs:IntKind.i64.wrap ((i:Int)+1)=((i+1:Nat):Int):=by rw [Z5 (by omega) (by omega)];omega
   have gP:=hT.at (z:=(i:Int)) (by omega) (by omega) (k:=.i64);rw [Int.toNat_natCast] at gP;have hx:=hT.nd c1;have o1:=FL.one hx.w;have o2:=FL.one hx.n;have o3:=FL.one hx.k;obtain ⟨e,hb,hq⟩:=c5k hT hR c1;by_cases c2:e=0
   ·subst c2
    repeat first
    |(apply U9 hb rfl;(focus (simp only [q8.aP,q8.ev,q8.get,Nat.reduceEqDiff,↓reduceIte,hE]));(focus exact X3 hT.fz U2))
    |refine zW (V3 hE hlen gZ hs) ?_
    refine ⟨t.length-(i+1),by omega,i+1,by omega,rfl,fun j h=>?_,hg,(rG hE)⟩;by_cases e:j=i
    ·subst e;exact hq rfl
    ·exact gU j (by omega)
   ·have jn:(e != 0)=true:=by rw [bne_iff_ne];exact c2
    repeat first
    |(apply U9 hb rfl;(focus (simp only [q8.aP,q8.ev,q8.get,Nat.reduceEqDiff,↓reduceIte,hE]));(focus exact X3 hT.fz U2))
    |refine zW (U5 hE hlen gZ jn gP o1 o2 (aN o3 hg)) ?_
    refine ⟨.inr trivial,_,?_,e,(nd t i).pos,rfl,fun h=>(c2 h).elim⟩;simp only [a04,a1g,a1t,q8.get,Nat.reduceEqDiff,↓reduceIte,hE,a0d lj];rfl
  ·have gZ:((i:Int)<(t.length:Int))=False:=eq_false (by omega)
   try refine zW (V3 hE hlen gZ hg) ?_
   refine ⟨.inr trivial,_,?_,0,0,rfl,fun _=>⟨hp rfl,⟨fun j h=>gU j (by omega)⟩⟩⟩;simp only [a04,a1g,a1t,q8.get,Nat.reduceEqDiff,↓reduceIte,hE,a0d lj];rfl
 ·have yb:(e != 0)=true:=by rw [bne_iff_ne];exact c0
  refine V9 (vf:=a9e) rfl ?_;unfold a9e;refine zE ?_;repeat first
  |(refine a5z rfl (fz1 hT.fz) hc rfl rfl ?_)
  |refine zW yb ?_
  exact ⟨.inr trivial,_,rR,e,a,rfl,fun h=>(c0 h).elim⟩
theorem a8N {s:k4} {p:Pr} {x:X0} (hp:Y0 s p x) (hl:a0z p 1000000) :
 X9 U8 108 [.agg (U6 p x)] s fun r s'=>∃x',r=.aR [.agg (U6 p.place x'),.int .i64 (p.ah:Int)]/\Fr [] s s'/\Y0 s' p.place x':=by
 have o1:=hp.l.one;have o2:=hp.r.one;have o3:=hp.e.one;have o4:=hp.n.one;have o5:=hp.v.one;have jE:=hl.pl;have nX:=hl.rl;have e1:IntKind.i64.wrap ((p.ah:Int)+1)=((p.ah+1:Nat):Int):=by rw [Z5 (by omega) (by omega)];omega
 have e2:IntKind.i64.wrap (((p.ah+1:Nat):Int)-1)=(p.ah:Int):=by rw [Z5 (by omega) (by omega)];omega
 unfold U6;refine V9 (vf:=b3h) rfl ?_;unfold b3h;refine zE ?_;try refine zW (Y6 o1 o2 o3 o4 o5 e1) ?_
 refine a3S (a9h (bC:=[]) (rows:=a0h p.rest) (sz:=1) (bytes:=1) (d:=x.dr) ?_ (by simp) ?_ (a49 _) (by decide) (by simp;omega)) rfl rfl ?_
 ·exact W2 rfl
 ·exact hp.r.stay ((((Fr.push _).aj _).aD _ (.inr (Nat.le_refl _))).aj _)
 rintro d1 s1 ⟨mq,rfl,k1,f1,g1⟩;have jl:Fr [] s s1:=Fr.trans ((((Fr.push _).aj _).aD _ (.inr (Nat.le_refl _))).aj _) f1 (by simp;omega);have n1:=f1.1;have kb:=f1.2 s.next (by simp only [k4.ai,k4.aq];omega) (by simp only [k4.ai,k4.aq,List.mem_singleton];omega);have kz:=f1.2 (s.next+1) (by simp only [k4.ai,k4.aq];omega) (by simp only [k4.ai,k4.aq,List.mem_singleton];omega);simp only [k4.ai,k4.aq] at n1 g1;rw [a0l (by simp only [k4.ai,k4.aq];omega),a0d (by simp only [k4.ai];omega)] at kb;rw [a0l (by simp only [k4.ai,k4.aq];omega),Z7 (by omega),W2 (by simp only [k4.ai])] at kz;have xP:s.next+2<=mq:=by omega
 clear f1 g1;rw [List.nil_append] at k1;simp only [List.nil_append,a8q];have wO:=u7 k1;try refine ct ?_
 refine a3S (a9h (bC:=a0h p.rest) (rows:=a0h [false]) (sz:=1) (bytes:=1) (d:=.arr s1.next 0 1 1) ?_ (a49 _) (SN.of (W2 rfl) rfl) (a49 _) (by decide) (by simp;omega)) (by rw [a8q];rfl) rfl ?_
 ·rw [a0l wO,k1]
 rintro d2 s2 ⟨lX,rfl,k2,f2,g2⟩;have ik:Fr [] s s2:=(jl.aj _).trans f2 (by simp;omega);have n2:=f2.1;have vV:=f2.2 s.next (by simp only [k4.ai];omega) (by simp only [List.mem_singleton];omega);have uK:=f2.2 (s.next+1) (by simp only [k4.ai];omega) (by simp only [List.mem_singleton];omega);simp only [k4.ai] at n2 g2;rw [a0l (by omega),kb] at vV;rw [a0l (by omega),kz] at uK;have kR:s.next+2<=lX:=by omega
 clear f2 g2 kb kz;rw [<- b66] at k2;rw [<- b66,a8q];have lid2:=u7 k2;try refine zT (Y3 vV uK o1 o3 o4 o5 e2) ?_
 refine wt_w (id:=s.next+1) (ob:=.cells [.str p.name,.int .i64 (p.copy:Int),x.dl,.int .i64 ((p.ah+1:Nat):Int),.arr lX 0 (p.rest++[false]).length 1,x.de,x.dn,x.dv]) ?_ (by simp) rfl ?_
 ·simp (disch:=(first|with_reducible assumption|omega|((repeat (first|rw [nP]|rw [nS]))<;>omega)|fail)) only [go_sem,q8.ev,q8.get,↓reduceIte,uK,o1,o3,o4,o5]
 try refine ct ?_
 have hO:Fr [] s ((s2.set s.next (some (.cells [.str p.name,.int .i64 (p.copy:Int),x.dl,.int .i64 ((p.ah+1:Nat):Int),.arr lX 0 (p.rest++[false]).length 1,x.de,x.dn,x.dv]))).set (s.next+1) (some (.cells [.str p.name,.int .i64 (p.copy:Int),x.dl,.int .i64 ((p.ah+1:Nat):Int),.arr lX 0 (p.rest++[false]).length 1,x.de,x.dn,x.dv]))):=(ik.aD _ (.inr (Nat.le_refl _))).aD _ (.inr (Nat.le_succ _));refine ⟨.inr trivial,_,?_,⟨x.dl,.arr lX 0 (p.rest++[false]).length 1,x.de,x.dn,x.dv⟩,rfl,hO,?_⟩
 ·simp only [a04,a1g,a1t,q8.get,Nat.reduceEqDiff,↓reduceIte,a0f.at,k4.ai,a0d (s:=s2.set s.next _) (i:=s.next+1) (by simp only [k4.aq];omega)]
  rfl
 refine ⟨hp.l.stay hO,SN.of ?_ (by simp [Pr.place]),hp.e.stay hO,hp.n.stay hO,hp.v.stay hO⟩;rw [Z7 (by omega),Z7 (by omega),k2];rfl
theorem a4B {s:k4} {p:Pr} {x:X0} (hp:Y0 s p x) (hl:a0z p 1000000) {au to act node:Nat} {expr v c:Int} :
 X9 U8 106 [.agg (U6 p x),.int .i64 (au:Int),.int .i64 (to:Int),.int .i64 (act:Int),.int .i64 (node:Int),.int .i64 expr,.int .i64 v,.int .i64 c] s fun r s'=>∃x',r=.agg (U6 (p.put au to act node expr v c) x')/\Fr [] s s'/\Y0 s' (p.put au to act node expr v c) x'/\∃id,x'.de=.arr id 0 (p.put au to act node expr v c).ak.length 8/\s.next<=id:=by
 have o1:=hp.l.one;have o2:=hp.r.one;have o3:=hp.e.one;have o4:=hp.n.one;have o5:=hp.v.one;have jR:=hl.el;unfold U6;refine V9 (vf:=b4K) rfl ?_;unfold b4K;refine zE ?_;try refine zW (W6 o1 o2 o3 o4 o5) ?_
 refine a3S (a9h (bC:=[]) (rows:=a0T p.ak) (sz:=8) (bytes:=64) (d:=x.de) ?_ (by simp) ?_ (a7M _) (by decide) (by simp;omega)) rfl rfl ?_
 ·exact W2 rfl
 ·exact hp.e.stay (((Fr.push _).aj _).aj _)
 rintro d1 s1 ⟨mq,rfl,k1,f1,g1⟩;have jl:Fr [] s s1:=Fr.trans (((Fr.push _).aj _).aj _) f1 (by simp;omega);have n1:=f1.1;have kb:=f1.2 s.next (by simp only [k4.ai];omega) (by simp only [k4.ai,List.mem_singleton];omega);have kz:=f1.2 (s.next+1) (by simp only [k4.ai];omega) (by simp only [k4.ai,List.mem_singleton];omega);simp only [k4.ai] at n1 g1;rw [a0l (by simp only [k4.ai];omega),a0l (by simp only [k4.ai];omega),W2 rfl] at kb;rw [a0l (by simp only [k4.ai];omega),W2 (by simp only [k4.ai])] at kz;have xP:s.next+2<=mq:=by omega
 clear f1 g1;rw [List.nil_append] at k1;simp only [List.nil_append,a6s];have wO:=u7 k1;try refine ct ?_
 refine a3S (a9h (bC:=a0T p.ak) (rows:=a0T [⟨au,to,act,expr,v,c,false,node⟩]) (sz:=8) (bytes:=64) (d:=.arr s1.next 0 1 8) ?_ (a7M _) (SN.of (W2 rfl) rfl) (a7M _) (by decide) (by simp;omega)) (by rw [a6s];rfl) rfl ?_
 ·rw [a0l wO,k1]
 rintro d2 s2 ⟨lX,rfl,k2,f2,g2⟩;have ik:Fr [] s s2:=(jl.aj _).trans f2 (by simp;omega);have n2:=f2.1;have vV:=f2.2 s.next (by simp only [k4.ai];omega) (by simp only [List.mem_singleton];omega);have uK:=f2.2 (s.next+1) (by simp only [k4.ai];omega) (by simp only [List.mem_singleton];omega);simp only [k4.ai] at n2 g2;rw [a0l (by omega),kb] at vV;rw [a0l (by omega),kz] at uK;have kR:s.next+2<=lX:=by omega
 clear f2 g2 kb kz;rw [<- b76] at k2;rw [<- b76,a6s];have lid2:=u7 k2;try refine zW (Y6 vV uK o1 o2 o4 o5) ?_
 generalize gV:[D.str p.name,.int .i64 (p.copy:Int),x.dl,.int .i64 (p.ah:Int),x.dr,.arr lX 0 (p.ak++[(⟨au,to,act,expr,v,c,false,node⟩:Ed)]).length 8,x.dn,x.dv]=row;have hO:Fr [] s ((s2.set s.next (some (.cells row))).set (s.next+1) (some (.cells row))):=(ik.aD _ (.inr (Nat.le_refl _))).aD _ (.inr (Nat.le_succ _));refine ⟨.inr trivial,_,?_,⟨x.dl,x.dr,.arr lX 0 (p.ak++[(⟨au,to,act,expr,v,c,false,node⟩:Ed)]).length 8,x.dn,x.dv⟩,rfl,hO,?_,lX,rfl,by omega⟩
 ·simp only [a04,a1g,a1t,q8.get,Nat.reduceEqDiff,↓reduceIte,a0f.at,k4.ai,a0d (s:=s2.set s.next _) (i:=s.next+1) (by simp only [k4.aq];omega)]
  rw [<- gV];rfl
 refine ⟨hp.l.stay hO,hp.r.stay hO,SN.of ?_ (by simp [Pr.put]),hp.n.stay hO,hp.v.stay hO⟩;rw [Z7 (by omega),Z7 (by omega),k2];rfl
theorem c0e (l:List Bool) (i:Nat) (b:Bool):(a0h l).flatten.set i (.bool b)=(a0h (l.set i b)).flatten:=by
 have key:∀l:List Bool,(a0h l).flatten=l.map .bool:=by
  intro l;induction l with
  | nil=>rfl
  | cons a r ih=>simp only [a0h,List.map_cons,List.flatten_cons] at ih ⊢;rw [ih];rfl
 rw [key,key,List.map_set]
theorem cL (l:List Bool):(a0h l).flatten.length=l.length:=by rw [a75 (a49 l),a8q,Nat.mul_one]
theorem b3z {s:k4} {p:Pr} {x:X0} (hp:Y0 s p x) (hl:a0z p 1000000) {n:Nat} (hn:n<p.rest.length) {is:Int} :
 X9 U8 145 [.agg (U6 p x),.int .i64 (n:Int),.int .i64 is] s fun r s'=>∃x',r=.agg (U6 (p.idle n is) x')/\Fr [] s s'/\Y0 s' (p.idle n is) x':=by
 have o1:=hp.l.one;have o2:=hp.r.one;have o3:=hp.e.one;have o4:=hp.n.one;have o5:=hp.v.one;have nX:=hl.rl;unfold U6;refine V9 (vf:=b2y) rfl ?_;unfold b2y;refine zE ?_;try refine zW (W6 o1 o2 o3 o4 o5) ?_
 refine a3S (a9h (bC:=[]) (rows:=a0h p.rest) (sz:=1) (bytes:=1) (d:=x.dr) ?_ (by simp) ?_ (a49 _) (by decide) (by simp;omega)) rfl rfl ?_
 ·exact W2 rfl
 ·exact hp.r.stay (((Fr.push _).aj _).aj _)
 rintro d1 s1 ⟨mq,rfl,k1,f1,g1⟩;have jl:Fr [] s s1:=Fr.trans (((Fr.push _).aj _).aj _) f1 (by simp;omega);have n1:=f1.1;have kb:=f1.2 s.next (by simp only [k4.ai];omega) (by simp only [k4.ai,List.mem_singleton];omega);have kz:=f1.2 (s.next+1) (by simp only [k4.ai];omega) (by simp only [k4.ai,List.mem_singleton];omega);simp only [k4.ai] at n1 g1;rw [a0l (by simp only [k4.ai];omega),a0l (by simp only [k4.ai];omega),W2 rfl] at kb;rw [a0l (by simp only [k4.ai];omega),W2 (by simp only [k4.ai])] at kz;have xP:s.next+2<=mq:=by omega
 clear f1 g1;rw [List.nil_append] at k1;simp only [List.nil_append,a8q];have wO:=u7 k1;by_cases c:is=1
 ·have c':(is==1)=true:=by rw [c];rfl
  have nt:((n:Int)<(p.rest.length:Int)):=by omega
  have hi:W1 1 (.arr mq 0 p.rest.length 1) (.int .i64 (n:Int))=some (.ptr mq n):=by
   simp only [W1];rw [if_pos ⟨trivial,by omega,by omega⟩];simp
  repeat first
  |(refine b0F (x:=.bool true) k1 (n:=n) (by rw [cL];omega) rfl ?_ rfl ?_;(focus (simp only [q8.ev,q8.get,Nat.reduceEqDiff,↓reduceIte])))
  |refine zW (aN c' hi) ?_
  have kb1:(s1.set mq (some (.cells ((a0h p.rest).flatten.set n (.bool true))))).get s.next=some (.cells [.str p.name,.int .i64 (p.copy:Int),x.dl,.int .i64 (p.ah:Int),x.dr,x.de,x.dn,x.dv]):=by rw [Z7 (by omega),kb]
  have Bd:=Z7 (s:=s1) (o:=some (.cells ((a0h p.rest).flatten.set n (.bool true)))) (i:=s.next+1) (id:=mq) (by omega);rw [kz] at Bd;try refine zW (Y6 kb1 Bd o1 o3 o4 o5) ?_
  generalize gV:[D.str p.name,.int .i64 (p.copy:Int),x.dl,.int .i64 (p.ah:Int),.arr mq 0 p.rest.length 1,x.de,x.dn,x.dv]=row;have hO:Fr [] s (((s1.set mq (some (.cells ((a0h p.rest).flatten.set n (.bool true))))).set s.next (some (.cells row))).set (s.next+1) (some (.cells row))):=((jl.aD _ (.inr (by omega))).aD _ (.inr (Nat.le_refl _))).aD _ (.inr (Nat.le_succ _));have gX:p.idle n is={ p with rest:=p.rest.set n true }:=by unfold Pr.idle;rw [if_pos c]
  rw [gX];refine ⟨.inr trivial,_,?_,⟨x.dl,.arr mq 0 p.rest.length 1,x.de,x.dn,x.dv⟩,rfl,hO,?_⟩
  ·simp only [a04,a1g,a1t,q8.get,Nat.reduceEqDiff,↓reduceIte,a0f.at,k4.ai,a0d (i:=s.next+1) (s:=(s1.set mq _).set s.next _) (by simp only [k4.aq];omega)]
   rw [<- gV];rfl
  refine ⟨hp.l.stay hO,SN.of ?_ (by simp),hp.e.stay hO,hp.n.stay hO,hp.v.stay hO⟩;rw [Z7 (by omega),Z7 (by omega),a0d wO,c0e]
 ·have c':(is==1)=false:=by rw [beq_eq_false_iff_ne];exact c
  try refine zW (Y3 c' kb kz o1 o3 o4 o5) ?_
  generalize gV:[D.str p.name,.int .i64 (p.copy:Int),x.dl,.int .i64 (p.ah:Int),.arr mq 0 p.rest.length 1,x.de,x.dn,x.dv]=row;have hO:Fr [] s ((s1.set s.next (some (.cells row))).set (s.next+1) (some (.cells row))):=(jl.aD _ (.inr (Nat.le_refl _))).aD _ (.inr (Nat.le_succ _));have gX:p.idle n is=p:=by unfold Pr.idle;rw [if_neg c]
  rw [gX];refine ⟨.inr trivial,_,?_,⟨x.dl,.arr mq 0 p.rest.length 1,x.de,x.dn,x.dv⟩,rfl,hO,?_⟩
  ·simp only [a04,a1g,a1t,q8.get,Nat.reduceEqDiff,↓reduceIte,a0f.at,k4.ai,a0d (i:=s.next+1) (s:=s1.set s.next _) (by simp only [k4.aq];omega)]
   rw [<- gV];rfl
  refine ⟨hp.l.stay hO,SN.of ?_ (by simp),hp.e.stay hO,hp.n.stay hO,hp.v.stay hO⟩;rw [Z7 (by omega),Z7 (by omega),k1]
theorem b3r {l:List ByteArray} {x:ByteArray} {i:Nat} (h:i<l.length) (hx:l[i]=x) (hb:∀j (hj:j<l.length),j<i->l[j]≠x):a2B l x=i:=by
 have:l.findIdx (fun y=>decide (y=x))=i:=by
  rw [List.findIdx_eq h];exact ⟨by simpa using hx,fun j hj=>by simpa using hb j (by omega) hj⟩
 unfold a2B;rw [this,if_pos h]
theorem b5F {l:List ByteArray} {x:ByteArray} (hb:∀j (hj:j<l.length),l[j]≠x):a2B l x=0:=by
 unfold a2B;rw [if_neg];rw [List.findIdx_lt_length];rintro ⟨y,hy,e⟩;obtain ⟨j,hj,rfl⟩:=List.getElem_of_mem hy;exact hb j hj (by simpa using e)
theorem b7B {s:k4} {d:D} {l:List ByteArray} {x:ByteArray} (hd:SN s 1 d (a1G l)) (hl:l.length<=1000000):Ev U8 143 [d,.str x] s (.int .i64 (a2B l x:Int)) s:=by
 have hlen:=hd.len;rw [b6a] at hlen;refine b0B (vf:=b1W) rfl ?_;unfold b1W;refine zE ?_;try refine ct ?_
 refine a1c (Q:=a0j 0 _) (fun n env s1=>∃i:Nat,i<=l.length/\n=l.length-i/\(∀j (hj:j<l.length),j<i->l[j]≠x)/\s1=s/\(env.get 0=d/\env.get 1=.str x/\env.get 5=.int .i64 (i:Int))) ?_ l.length _ _ ⟨0,by omega,rfl,fun j _ h=>by omega,rfl,by simp [q8.get]⟩;rintro n env s1 ⟨i,hi,rfl,hD,rfl,hE⟩;by_cases c1:i<l.length
 ·have gZ:((i:Int)<(l.length:Int))=True:=eq_true (by omega)
  have hs:IntKind.i64.wrap ((i:Int)+1)=((i+1:Nat):Int):=by rw [Z5 (by omega) (by omega)];omega
  obtain ⟨pp,p1,p2,-⟩:=hd.get1 (a95 l) (i:=i) (c:=.str l[i]) (by simpa using c1) (by simp [a1G]) rfl (by decide);by_cases c2:l[i]=x
  ·have hf:=b3r c1 c2 hD
   try refine zW (Y6 hE hlen gZ p1 p2 c2) ?_
   exact ⟨.inr trivial,trivial,by rw [hf];simp only [a04,a1g,a1t,q8.get,Nat.reduceEqDiff,↓reduceIte,hE]⟩
  ·try refine zW (Y3 hE hlen gZ p1 p2 c2 hs) ?_
   refine ⟨l.length-(i+1),by omega,i+1,by omega,rfl,fun j hj hji=>?_,trivial,(rG hE)⟩;by_cases e:j=i
   ·subst e;exact c2
   ·exact hD j hj (by omega)
 ·have gZ:((i:Int)<(l.length:Int))=False:=eq_false (by omega)
  have hf:=b5F (l:=l) (x:=x) fun j hj=>hD j hj (by omega)
  try refine zW (V5 hE hlen gZ) ?_
  exact ⟨.inr trivial,trivial,by rw [hf];rfl⟩
theorem b8n {s:k4} {m:X6} {t:List Nd} {ch:List Ch} {x:ByteArray} (hm:a2M s m t ch) (hl:ch.length<=1000000) :
 X9 U8 144 [.agg (Y5 m),.str x] s fun r s'=>r=.int .i64 (a2B (ch.map Ch.name) x:Int)/\Fr [] s s':=by
 have hlen:=hm.c.len;rw [a9L] at hlen;have o0:=FL.one hm.tr.fl;have o1:=hm.c.one;have o2:=hm.ov;have o3:=hm.op;have o4:=hm.os;unfold Y5;refine V9 (vf:=b2b) rfl ?_;unfold b2b;refine zE ?_;try refine zW (W6 o0 o1 o2 o3 o4) ?_
 have nL:(s.push (.cells [m.dt,.int .i64 m.g,m.dc,m.dv,m.dp,m.ds,.bool m.b])).get s.next=some (.cells [m.dt,.int .i64 m.g,m.dc,m.dv,m.dp,m.ds,.bool m.b]):=W2 rfl;have hc:=hm.c.stay (Fr.push (ids:=[]) (s:=s) (.cells [m.dt,.int .i64 m.g,m.dc,m.dv,m.dp,m.ds,.bool m.b]));have fr:=Fr.push (ids:=[]) (s:=s) (.cells [m.dt,.int .i64 m.g,m.dc,m.dv,m.dp,m.ds,.bool m.b]);generalize s.push (.cells [m.dt,.int .i64 m.g,m.dc,m.dv,m.dp,m.ds,.bool m.b])=s1 at *;refine a1c (Q:=a0j 0 _) (fun n env s2=>∃i:Nat,i<=ch.length/\n=ch.length-i/\(∀j (hj:j<(ch.map Ch.name).length),j<i->(ch.map Ch.name)[j]≠x)/\s2=s1/\(env.get 1=.str x/\env.get 2=.ptr s.next 0/\env.get 5=.int .i64 (i:Int))) ?_ ch.length _ _ ⟨0,by omega,rfl,fun j _ h=>by omega,rfl,by simp [q8.get,a0f.at]⟩;rintro n env s2 ⟨i,hi,rfl,hD,rfl,hE⟩;by_cases c1:i<ch.length
 ·have gZ:((i:Int)<(ch.length:Int))=True:=eq_true (by omega)
  have hs:IntKind.i64.wrap ((i:Int)+1)=((i+1:Nat):Int):=by rw [Z5 (by omega) (by omega)];omega
  rcases hc with ⟨_,h0⟩ | ⟨id,jx,hg⟩ | jx
  ·have:=congrArg List.length h0
   rw [a9L,List.length_nil] at this;omega
  ·have hq:(a2y ch).flatten[i*5]?=some (.str ch[i].name):=by
    have:=a9x (b4o ch) (i:=i) (f:=0) (by simpa using c1) (by decide);rw [Nat.add_zero] at this;rw [this];simp [a2y,Ch.row]
   rw [a9L] at jx;have qZ:(ch.map Ch.name)[i]'(by simpa using c1)=ch[i].name:=by simp
   rw [jx] at nL hlen o1;by_cases c2:ch[i].name=x
   ·have hf:=b3r (l:=ch.map Ch.name) (i:=i) (by simpa using c1) (by rw [qZ];exact c2) hD
    try refine zW (U5 hE nL o0 o1 o2 o3 o4 (W6 hlen gZ hg hq c2)) ?_
    exact ⟨.inr trivial,_,rR,by rw [hf],fr⟩
   ·try refine zW (U5 hE nL o0 o1 o2 o3 o4 (Y6 hlen gZ hg hq c2 hs)) ?_
    refine ⟨ch.length-(i+1),by omega,i+1,by omega,rfl,fun j hj hji=>?_,trivial,(rG hE)⟩;by_cases e:j=i
    ·subst e;rw [qZ];exact c2
    ·exact hD j hj (by omega)
  ·have qZ:(ch.map Ch.name)[i]'(by simpa using c1)=ch[i].name:=by simp
   have kP:W1 5 m.dc (.int .i64 (i:Int))=some (.fp [.str ch[i].name,.int .i64 ch[i].room,.int .i64 ch[i].width,.bool ch[i].bm,.bool ch[i].aT] 0):=by
    rw [jx];simp [W1,a2y,c1,Ch.row]
   by_cases c2:ch[i].name=x
   ·have hf:=b3r (l:=ch.map Ch.name) (i:=i) (by simpa using c1) (by rw [qZ];exact c2) hD
    try refine zW (U5 hE nL o0 o1 o2 o3 o4 (V3 hlen gZ kP c2)) ?_
    exact ⟨.inr trivial,_,rR,by rw [hf],fr⟩
   ·try refine zW (U5 hE nL o0 o1 o2 o3 o4 (W6 hlen gZ kP c2 hs)) ?_
    refine ⟨ch.length-(i+1),by omega,i+1,by omega,rfl,fun j hj hji=>?_,trivial,(rG hE)⟩;by_cases e:j=i
    ·subst e;rw [qZ];exact c2
    ·exact hD j hj (by omega)
 ·have gZ:((i:Int)<(ch.length:Int))=False:=eq_false (by omega)
  have hf:=b5F (l:=ch.map Ch.name) (x:=x) fun j hj=>hD j hj (by simp at hj;omega)
  try refine zW (U5 hE nL o0 o1 o2 o3 o4 (aN hlen gZ)) ?_
  exact ⟨.inr trivial,_,rR,by rw [hf];rfl,fr⟩
theorem a00:∀ (p:Pr) (x:X0),U6 p x=[.str p.name,.int .i64 (p.copy:Int),x.dl,.int .i64 (p.ah:Int),x.dr,x.de,x.dn,x.dv]:=fun _ _=>rfl
theorem b70 {s:k4} {d:D} {l:List Nat} {i:Nat} (h:SN s 1 d (a0x l)) (hi:i<l.length):∃p,W1 1 d (.int .i64 (i:Int))=some p/\bk s.get none p=some (.int .i64 ((l.getD i 0:Nat):Int))/\∀id off,p=.ptr id off->id<s.next :=
 h.get1 (a5L l) (by simpa using hi) (by simp [a0x,List.getD,hi]) rfl (by decide)
theorem a2Z {p:Pr} {a b:Nat} (h:a0z p a) (k:a<=b):a0z p b:=⟨by have:=h.pl;omega,by have:=h.rl;omega,by have:=h.el;omega⟩
theorem b3Z {p:Pr} {a n:Nat} {is:Int} (h:a0z p a):a0z (p.idle n is) a:=by
 have g:=b0u p n is;exact ⟨by have:=h.pl;have:=g.pl;omega,by have:=h.rl;have:=g.rl;omega,by have:=h.el;have:=g.el;omega⟩
theorem a3H {p q:Pr} {a b n:Nat} (h:a0z p a) (g:Gw p q n) (k:a+n<=b):a0z q b:=⟨by have:=h.pl;have:=g.pl;omega,by have:=h.rl;have:=g.rl;omega,by have:=h.el;have:=g.el;omega⟩
theorem c02 {s:k4} {m:X6} {t:List Nd} {ch:List Ch} (hm:a2M s m t ch) (ht:a11 t) {p:Pr} {x:X0} (hp:Y0 s p x) (hl:a0z p 900000) {k au to:Nat} (hk:k<t.length) (hK:(nd t k).kind=14) {f:Nat} :
 X9 U8 107 [.agg (Y5 m),.agg (U6 p x),.int .i64 (k:Int),.int .i64 (au:Int),.int .i64 (to:Int)] s (eE s p (W7 t (ch.map Ch.name) (f+1) p k au to)):=by
 have hF:W7 t (ch.map Ch.name) (f+1) p k au to=p.put au to 0 k (-1) (-1) (-1):=by simp [W7,hK]
 rw [hF];have gP:=hm.tr.at (z:=(k:Int)) (by omega) (by omega) (k:=.i64);rw [Int.toNat_natCast,hK] at gP;have on:=a2N hm.tr hk;have op:=hp.az;have om:=hm.az;have jd:a0z p 1000000:=⟨by have:=hl.pl;omega,by have:=hl.rl;omega,by have:=hl.el;omega⟩
 have hD:=ht.node k hk;unfold Y5 U6;refine V9 (vf:=a2r) rfl ?_;unfold a2r;refine zE ?_;try refine zW (V3 gP on op om) ?_
 refine a1k (Φ:=SF s m [.int .i64 14,(nd t k).dw,(nd t k).dn,(nd t k).dk,.int .i64 (nd t k).pos] (U6 p x)) ?_ ?_
 ·refine ⟨(((((Fr.push _).aj _).aj _).aj _).aD _ (.inr (by first | omega | (simp only [k4.ai];omega)))),by simp only [k4.ai,k4.aq];omega,?_,?_,?_,?_⟩<;>(simp (disch:=(first|with_reducible assumption|omega|((repeat (first|rw [nP]|rw [nS]))<;>omega)|fail)) only [a0l,W2,Z7,a0d,k4.ai,k4.aq])<;>rfl
 intro s4 h4;simp only [a0f.at,k4.ai,k4.aq];apply a03 (a4B (to:=to) (act:=0) (hp.stay h4.fr) jd)
 ·rfl
 rintro r s9 ⟨x9,rfl,f9,iP,id9,e9,z9⟩;have h9:=h4.call f9;have ke:a2i s x9.de:=a6T e9 z9 h4.fr.1;have jQ:=iP.az;have r9:=h9.r;try refine zW (V5 r9 jQ a00) ?_
 exact ⟨.inr trivial,_,h9.res rfl,h9.fin iP ke⟩
theorem c4b {s:k4} {m:X6} {t:List Nd} {ch:List Ch} (hm:a2M s m t ch) (ht:a11 t) {p:Pr} {x:X0} (hp:Y0 s p x) (hl:a0z p 900000) {k au to:Nat} (hk:k<t.length) (hK:(nd t k).kind=15) {f:Nat} :
 X9 U8 107 [.agg (Y5 m),.agg (U6 p x),.int .i64 (k:Int),.int .i64 (au:Int),.int .i64 (to:Int)] s (eE s p (W7 t (ch.map Ch.name) (f+1) p k au to)):=by
 have hF:W7 t (ch.map Ch.name) (f+1) p k au to=p.put au 1 0 k (-1) (-1) (-1):=by simp [W7,hK]
 rw [hF];have gP:=hm.tr.at (z:=(k:Int)) (by omega) (by omega) (k:=.i64);rw [Int.toNat_natCast,hK] at gP;have on:=a2N hm.tr hk;have op:=hp.az;have om:=hm.az;have jd:a0z p 1000000:=⟨by have:=hl.pl;omega,by have:=hl.rl;omega,by have:=hl.el;omega⟩
 have hD:=ht.node k hk;unfold Y5 U6;refine V9 (vf:=a2r) rfl ?_;unfold a2r;refine zE ?_;try refine zW (V3 gP on op om) ?_
 refine a1k (Φ:=SF s m [.int .i64 15,(nd t k).dw,(nd t k).dn,(nd t k).dk,.int .i64 (nd t k).pos] (U6 p x)) ?_ ?_
 ·refine ⟨(((((Fr.push _).aj _).aj _).aj _).aD _ (.inr (by first | omega | (simp only [k4.ai];omega)))),by simp only [k4.ai,k4.aq];omega,?_,?_,?_,?_⟩<;>(simp (disch:=(first|with_reducible assumption|omega|((repeat (first|rw [nP]|rw [nS]))<;>omega)|fail)) only [a0l,W2,Z7,a0d,k4.ai,k4.aq])<;>rfl
 intro s4 h4;simp only [a0f.at,k4.ai,k4.aq];apply a03 (a4B (to:=1) (act:=0) (hp.stay h4.fr) jd)
 ·rfl
 rintro r s9 ⟨x9,rfl,f9,iP,id9,e9,z9⟩;have h9:=h4.call f9;have ke:a2i s x9.de:=a6T e9 z9 h4.fr.1;have jQ:=iP.az;have r9:=h9.r;try refine zW (V5 r9 jQ a00) ?_
 exact ⟨.inr trivial,_,h9.res rfl,h9.fin iP ke⟩
theorem stat_6 {s:k4} {m:X6} {t:List Nd} {ch:List Ch} (hm:a2M s m t ch) (ht:a11 t) {p:Pr} {x:X0} (hp:Y0 s p x) (hl:a0z p 900000) (lH:p.names.length=p.vars.length) (mQ:0<p.names.length) (lN:p.names.length<=1000000) {k au to:Nat} (hk:k<t.length) (hK:(nd t k).kind=6) {f:Nat} :
 X9 U8 107 [.agg (Y5 m),.agg (U6 p x),.int .i64 (k:Int),.int .i64 (au:Int),.int .i64 (to:Int)] s (eE s p (W7 t (ch.map Ch.name) (f+1) p k au to)):=by
 have hF:W7 t (ch.map Ch.name) (f+1) p k au to=p.put au to 1 k ((nd t k).aC 0) (p.vars.getD (a2B p.names ((nd t k).word 0)) 0:Nat) (-1):=by simp [W7,hK]
 rw [hF];have gP:=hm.tr.at (z:=(k:Int)) (by omega) (by omega) (k:=.i64);rw [Int.toNat_natCast,hK] at gP;have on:=a2N hm.tr hk;have op:=hp.az;have om:=hm.az;have jd:a0z p 1000000:=⟨by have:=hl.pl;omega,by have:=hl.rl;omega,by have:=hl.el;omega⟩
 have hD:=ht.node k hk;have kv:=hD.one (by omega);have k0:W1 1 (nd t k).dk (.int .i64 0)=some (.fp [.int .i64 ((nd t k).aC 0:Int)] 0):=a2H hm.tr ht hk (i:=0) (by omega);have kY:(nd t k).words.length=1:=by rw [hD.wl,hK];rfl
 have w0:W1 1 (nd t k).dw (.int .i64 0)=some (.fp [.str ((nd t k).word 0)] 0):=a6g hm.tr hk (i:=0) (by omega);have pD:=b0X (s:=(nd t k).word 0) mQ;unfold Y5 U6;refine V9 (vf:=a2r) rfl ?_;unfold a2r;refine zE ?_;try refine zW (Y6 gP on op om k0 w0) ?_
 refine a1k (Φ:=SF s m [.int .i64 6,(nd t k).dw,(nd t k).dn,(nd t k).dk,.int .i64 (nd t k).pos] (U6 p x)) ?_ ?_
 ·refine ⟨(((((Fr.push _).aj _).aj _).aj _).aD _ (.inr (by first | omega | (simp only [k4.ai];omega)))),by simp only [k4.ai,k4.aq];omega,?_,?_,?_,?_⟩<;>(simp (disch:=(first|with_reducible assumption|omega|((repeat (first|rw [nP]|rw [nS]))<;>omega)|fail)) only [a0l,W2,Z7,a0d,k4.ai,k4.aq])<;>rfl
 intro s4 h4;simp only [a0f.at,k4.ai,k4.aq];refine c2l (l:=[x.dn,.str ((nd t k).word 0)]) rfl (b7B (hp.stay h4.fr).n lN) ?_;obtain ⟨id,v1,v2,v3⟩:=b70 (hp.stay h4.fr).v (i:=a2B p.names ((nd t k).word 0)) (by omega);try refine zW (aN v1 v2) ?_
 apply a03 (a4B (act:=1) (hp.stay h4.fr) jd)
 ·rfl
 rintro r s9 ⟨x9,rfl,f9,iP,id9,e9,z9⟩;have h9:=h4.call f9;have ke:a2i s x9.de:=a6T e9 z9 h4.fr.1;have jQ:=iP.az;have r9:=h9.r;try refine zW (V5 r9 jQ a00) ?_
 exact ⟨.inr trivial,_,h9.res rfl,h9.fin iP ke⟩
theorem stat_7 {s:k4} {m:X6} {t:List Nd} {ch:List Ch} (hm:a2M s m t ch) (ht:a11 t) {p:Pr} {x:X0} (hp:Y0 s p x) (hl:a0z p 900000) (tf:ch.length<=1000000) {k au to:Nat} (hk:k<t.length) (hK:(nd t k).kind=7) {f:Nat} :
 X9 U8 107 [.agg (Y5 m),.agg (U6 p x),.int .i64 (k:Int),.int .i64 (au:Int),.int .i64 (to:Int)] s (eE s p (W7 t (ch.map Ch.name) (f+1) p k au to)):=by
 have hF:W7 t (ch.map Ch.name) (f+1) p k au to=p.put au to 2 k ((nd t k).aC 0) (-1) (a2B (ch.map Ch.name) ((nd t k).word 0):Nat):=by simp [W7,hK]
 rw [hF];have gP:=hm.tr.at (z:=(k:Int)) (by omega) (by omega) (k:=.i64);rw [Int.toNat_natCast,hK] at gP;have on:=a2N hm.tr hk;have op:=hp.az;have om:=hm.az;have jd:a0z p 1000000:=⟨by have:=hl.pl;omega,by have:=hl.rl;omega,by have:=hl.el;omega⟩
 have hD:=ht.node k hk;have kv:=hD.one (by omega);have k0:W1 1 (nd t k).dk (.int .i64 0)=some (.fp [.int .i64 ((nd t k).aC 0:Int)] 0):=a2H hm.tr ht hk (i:=0) (by omega);have kY:(nd t k).words.length=1:=by rw [hD.wl,hK];rfl
 have w0:W1 1 (nd t k).dw (.int .i64 0)=some (.fp [.str ((nd t k).word 0)] 0):=a6g hm.tr hk (i:=0) (by omega);unfold Y5 U6;refine V9 (vf:=a2r) rfl ?_;unfold a2r;refine zE ?_;try refine zT (Y6 gP on op om k0 w0) ?_
 refine b8Q (Φ:=SF s m [.int .i64 7,(nd t k).dw,(nd t k).dn,(nd t k).dk,.int .i64 (nd t k).pos] (U6 p x)) ?_ ?_
 ·refine ⟨(((((Fr.push _).aj _).aj _).aj _).aD _ (.inr (by first | omega | (simp only [k4.ai];omega)))),by simp only [k4.ai,k4.aq];omega,?_,?_,?_,?_⟩<;>(simp (disch:=(first|with_reducible assumption|omega|((repeat (first|rw [nP]|rw [nS]))<;>omega)|fail)) only [a0l,W2,Z7,a0d,k4.ai,k4.aq])<;>rfl
 intro s4 h4;simp only [a0f.at,k4.ai,k4.aq];refine b45 (b8n (hm.stay h4.fr) tf) (fun d s' h=>h.2) (by
  intro id gX;have:=h4.nx;simp only [List.mem_cons,List.not_mem_nil,or_false] at gX;omega) rfl rfl ?_
 rintro r s5 ⟨rfl,f5⟩;have h5:=h4.call f5;apply a03 (a4B (act:=2) (hp.stay h5.fr) jd)
 ·rfl
 rintro r s9 ⟨x9,rfl,f9,iP,id9,e9,z9⟩;have h9:=h5.call f9;have ke:a2i s x9.de:=a6T e9 z9 h5.fr.1;have jQ:=iP.az;have r9:=h9.r;try refine zW (V5 r9 jQ a00) ?_
 exact ⟨.inr trivial,_,h9.res rfl,h9.fin iP ke⟩
theorem stat_9 {s:k4} {m:X6} {t:List Nd} {ch:List Ch} (hm:a2M s m t ch) (ht:a11 t) {p:Pr} {x:X0} (hp:Y0 s p x) (hl:a0z p 900000) {k au to:Nat} (gY:au<p.rest.length) (hk:k<t.length) (hK:(nd t k).kind=9) {f:Nat} :
 X9 U8 107 [.agg (Y5 m),.agg (U6 p x),.int .i64 (k:Int),.int .i64 (au:Int),.int .i64 (to:Int)] s (eE s p (W7 t (ch.map Ch.name) (f+1) p k au to)):=by
 have hF:W7 t (ch.map Ch.name) (f+1) p k au to=(p.idle au ((nd t k).num 0)).put au to 4 k ((nd t k).aC 0) (-1) (-1):=by simp [W7,hK]
 rw [hF];have gP:=hm.tr.at (z:=(k:Int)) (by omega) (by omega) (k:=.i64);rw [Int.toNat_natCast,hK] at gP;have on:=a2N hm.tr hk;have op:=hp.az;have om:=hm.az;have jd:a0z p 1000000:=⟨by have:=hl.pl;omega,by have:=hl.rl;omega,by have:=hl.el;omega⟩
 have hD:=ht.node k hk;have kv:=hD.one (by omega);have k0:W1 1 (nd t k).dk (.int .i64 0)=some (.fp [.int .i64 ((nd t k).aC 0:Int)] 0):=a2H hm.tr ht hk (i:=0) (by omega);have nt:(nd t k).aH.length=1:=by rw [hD.nl,hK];rfl
 have n0:W1 1 (nd t k).dn (.int .i64 0)=some (.fp [.int .i64 ((nd t k).num 0)] 0):=a5R (hm.tr.nd hk) (i:=0) (by omega);unfold Y5 U6;refine V9 (vf:=a2r) rfl ?_;unfold a2r;refine zE ?_;try refine zW (W6 gP on op om n0) ?_
 refine a1k (Φ:=SF s m [.int .i64 9,(nd t k).dw,(nd t k).dn,(nd t k).dk,.int .i64 (nd t k).pos] (U6 p x)) ?_ ?_
 ·refine ⟨(((((Fr.push _).aj _).aj _).aj _).aD _ (.inr (by first | omega | (simp only [k4.ai];omega)))),by simp only [k4.ai,k4.aq];omega,?_,?_,?_,?_⟩<;>(simp (disch:=(first|with_reducible assumption|omega|((repeat (first|rw [nP]|rw [nS]))<;>omega)|fail)) only [a0l,W2,Z7,a0d,k4.ai,k4.aq])<;>rfl
 intro s4 h4;simp only [a0f.at,k4.ai,k4.aq];apply a03 (b3z (hp.stay h4.fr) jd gY)
 ·rfl
 rintro r s5 ⟨x5,rfl,f5,kh⟩;have h5:=h4.call f5;have kj:=kh.az;have p5:=h5.p;unfold U6 at p5;have jz:Y0 (s5.set (s.next+1) (some (.cells (U6 (p.idle au ((nd t k).num 0)) x5)))) (p.idle au ((nd t k).num 0)) x5:=kh.set p5;have h6:SF s m _ (U6 (p.idle au ((nd t k).num 0)) x5) (s5.set (s.next+1) (some (.cells (U6 (p.idle au ((nd t k).num 0)) x5)))):=h5.dj;have ip:=b0M p au ((nd t k).num 0);have uR:a0z (p.idle au ((nd t k).num 0)) 1000000:=b3Z jd;generalize p.idle au ((nd t k).num 0)=q at *;try refine zW (V5 p5 kj a00) ?_
 refine a1k (Φ:=fun s'=>SF s m _ (U6 q x5) s'/\Y0 s' q x5) ⟨h6,jz⟩ ?_;rintro s6 ⟨h6,jz⟩;have p6:=h6.p;have n6:=h6.n;unfold U6 at p6;try refine zW (W6 p6 n6 kj on k0) ?_
 apply a03 (a4B (act:=4) jz uR)
 ·rfl
 rintro r s9 ⟨x9,rfl,f9,iP,id9,e9,z9⟩;have h9:=h6.call f9;have ke:a2i s x9.de:=a6T e9 z9 h6.fr.1;have jQ:=iP.az;have r9:=h9.r;try refine zW (V5 r9 jQ a00) ?_
 exact ⟨.inr trivial,_,h9.res rfl,h9.fin iP ke⟩
theorem stat_8 {s:k4} {m:X6} {t:List Nd} {ch:List Ch} (hm:a2M s m t ch) (ht:a11 t) {p:Pr} {x:X0} (hp:Y0 s p x) (hl:a0z p 900000) (lH:p.names.length=p.vars.length) (mQ:0<p.names.length) (lN:p.names.length<=1000000) (tf:ch.length<=1000000) {k au to:Nat} (gY:au<p.rest.length) (hk:k<t.length) (hK:(nd t k).kind=8) {f:Nat} :
 X9 U8 107 [.agg (Y5 m),.agg (U6 p x),.int .i64 (k:Int),.int .i64 (au:Int),.int .i64 (to:Int)] s (eE s p (W7 t (ch.map Ch.name) (f+1) p k au to)):=by
 have hF:W7 t (ch.map Ch.name) (f+1) p k au to=(p.idle au ((nd t k).num 0)).put au to 3 k (-1) (p.vars.getD (a2B p.names ((nd t k).word 1)) 0:Nat) (a2B (ch.map Ch.name) ((nd t k).word 0):Nat):=by simp [W7,hK]
 rw [hF];have gP:=hm.tr.at (z:=(k:Int)) (by omega) (by omega) (k:=.i64);rw [Int.toNat_natCast,hK] at gP;have on:=a2N hm.tr hk;have op:=hp.az;have om:=hm.az;have jd:a0z p 1000000:=⟨by have:=hl.pl;omega,by have:=hl.rl;omega,by have:=hl.el;omega⟩
 have hD:=ht.node k hk;have kY:(nd t k).words.length=2:=by rw [hD.wl,hK];rfl
 have w0:W1 1 (nd t k).dw (.int .i64 0)=some (.fp [.str ((nd t k).word 0)] 0):=a6g hm.tr hk (i:=0) (by omega);have w1:W1 1 (nd t k).dw (.int .i64 1)=some (.fp [.str ((nd t k).word 1)] 0):=a6g hm.tr hk (i:=1) (by omega);have nt:(nd t k).aH.length=1:=by rw [hD.nl,hK];rfl
 have n0:W1 1 (nd t k).dn (.int .i64 0)=some (.fp [.int .i64 ((nd t k).num 0)] 0):=a5R (hm.tr.nd hk) (i:=0) (by omega);have pD:=b0X (s:=(nd t k).word 1) mQ;unfold Y5 U6;refine V9 (vf:=a2r) rfl ?_;unfold a2r;refine zE ?_;try refine zW (W6 gP on op om n0) ?_
 refine a1k (Φ:=SF s m [.int .i64 8,(nd t k).dw,(nd t k).dn,(nd t k).dk,.int .i64 (nd t k).pos] (U6 p x)) ?_ ?_
 ·refine ⟨(((((Fr.push _).aj _).aj _).aj _).aD _ (.inr (by first | omega | (simp only [k4.ai];omega)))),by simp only [k4.ai,k4.aq];omega,?_,?_,?_,?_⟩<;>(simp (disch:=(first|with_reducible assumption|omega|((repeat (first|rw [nP]|rw [nS]))<;>omega)|fail)) only [a0l,W2,Z7,a0d,k4.ai,k4.aq])<;>rfl
 intro s4 h4;simp only [a0f.at,k4.ai,k4.aq];apply a03 (b3z (hp.stay h4.fr) jd gY)
 ·rfl
 rintro r s5 ⟨x5,rfl,f5,kh⟩;have h5:=h4.call f5;have kj:=kh.az;have p5:=h5.p;unfold U6 at p5;have jz:Y0 (s5.set (s.next+1) (some (.cells (U6 (p.idle au ((nd t k).num 0)) x5)))) (p.idle au ((nd t k).num 0)) x5:=kh.set p5;have h6:SF s m _ (U6 (p.idle au ((nd t k).num 0)) x5) (s5.set (s.next+1) (some (.cells (U6 (p.idle au ((nd t k).num 0)) x5)))):=h5.dj;have ip:=b0M p au ((nd t k).num 0);have uR:a0z (p.idle au ((nd t k).num 0)) 1000000:=b3Z jd;generalize p.idle au ((nd t k).num 0)=q at *;have rq:q.names.length<=1000000:=by rw [ip.2.2.2];exact lN
 have hfl':a2B q.names ((nd t k).word 1)<q.vars.length:=by rw [ip.2.2.2,ip.2.2.1];omega
 rw [<- ip.2.2.1,<- ip.2.2.2];repeat first
  |(with_reducible refine b2G ?_)
  |((with_reducible apply wt_p);(focus (simp (disch:=(first|with_reducible assumption|omega|((repeat (first|rw [nP]|rw [nS]))<;>omega)|fail)) only [go_sem,q8.ev,q8.get,↓reduceIte,p5,kj,U6]<;>rfl)))
  |((with_reducible apply b3n);(focus (simp only [q8.ev,q8.get,Nat.reduceEqDiff,↓reduceIte,a0f.at,Nat.add_zero,Nat.zero_add,p5,kj,U6]<;>rfl));(focus (simp (disch:=(first|with_reducible assumption|omega|((repeat (first|rw [nP]|rw [nS]))<;>omega)|fail)) only [go_sem,q8.ev,q8.get,↓reduceIte,p5,kj,U6]<;>rfl)))
  |((with_reducible apply b3j);(focus (simp only [q8.ev,q8.get,Nat.reduceEqDiff,↓reduceIte,a0f.at,Nat.add_zero,Nat.zero_add,p5,kj,U6]<;>rfl));(focus (simp (disch:=(first|with_reducible assumption|omega|((repeat (first|rw [nP]|rw [nS]))<;>omega)|fail)) only [go_sem,q8.ev,q8.get,↓reduceIte,p5,kj,U6]<;>rfl)))
  |with_reducible first|apply vA|apply vB|apply vC
  |((with_reducible apply vD);(focus rfl))
  |((with_reducible first|apply vE|apply vF|apply vG|apply vH);simp only [q8.aF,q8.get,q8.ev,List.map,Nat.reduceEqDiff,↓reduceIte,a2x,a0j])
  |((with_reducible first|apply vI|apply vJ|apply vK|apply vL|apply vM|apply vN);(focus (simp (disch:=(first|with_reducible assumption|omega|((repeat (first|rw [nP]|rw [nS]))<;>omega)|fail)) only [go_sem,q8.ev,q8.get,↓reduceIte,p5,kj,U6]<;>rfl));(first|(with_reducible (first|apply vO|apply vP|apply vQ|apply vR|apply vS|apply vT|apply vU);try simp only [q8.put])|with_reducible refine (?_:WQ _ _ _ _ _ _)))
  |fail
 refine b8Q (Φ:=fun s'=>SF s m _ (U6 q x5) s'/\Y0 s' q x5) ⟨h6,jz⟩ ?_;rintro s6 ⟨h6,jz⟩;have p6:=h6.p;have n6:=h6.n;have m6:=h6.m;unfold U6 at p6;unfold Y5 at m6;try refine zT (U5 p6 n6 m6 kj on om w0 w1) ?_
 refine c2Z (b7B jz.n rq) rfl ?_;obtain ⟨id,v1,v2,v3⟩:=b70 jz.v (i:=a2B q.names ((nd t k).word 1)) (by omega);repeat first
 |(apply wt_ldv v2;(focus (simp only [q8.ev,q8.get,Nat.reduceEqDiff,↓reduceIte])))
 |refine zT (U5 v1 p6 n6 m6 kj on om (aN w0 w1)) ?_
 refine b45 (b8n (hm.stay h6.fr) tf) (fun d s' h=>h.2) (by
  intro i gX;have:=h6.nx;simp only [List.mem_cons,List.mem_append,List.not_mem_nil,or_false] at gX;by_cases hv:i∈a9o id
  ·obtain ⟨off,e⟩:=c0P hv
   exact v3 _ _ e
  ·simp only [hv,false_or,or_false] at gX
   omega) rfl rfl ?_
 rintro r s7 ⟨rfl,f7⟩;have h7:=h6.call f7;try refine ct ?_
 apply a03 (a4B (act:=3) (jz.stay f7) uR)
 ·rfl
 rintro r s9 ⟨x9,rfl,f9,iP,id9,e9,z9⟩;have h9:=h7.call f9;have ke:a2i s x9.de:=a6T e9 z9 h7.fr.1;have jQ:=iP.az;have r9:=h9.r;try refine zW (V5 r9 jQ a00) ?_
 exact ⟨.inr trivial,_,h9.res rfl,h9.fin iP ke⟩
theorem c1d {s:k4} {m:X6} {t:List Nd} {ch:List Ch} {names:List ByteArray} {vars:List Nat} (hm:a2M s m t ch) (ht:a11 t) {p:Pr} {x:X0} (hp:Y0 s p x) (hi:a1C t ch.length p) (jG:p.names=names) (jI:p.vars=vars) {k au to:Nat} (gY:au<p.ah) (km:to<p.ah) (hk:k<t.length) (hK:(nd t k).kind=11) {f:Nat}
 {g n:Nat} (hw:a0K t g k=(n,true)) {N:Nat} (hl:a0z p N) (hN:N+4*(n-k)<=900000) (hS:∀b∈(nd t k).ks,(nd t b).kind=16->∀c∈(nd t b).ks,a4o t ch.length names vars (W7 t (ch.map Ch.name) f) c/\fL t (W7 t (ch.map Ch.name) f) c) (hB:∀b∈(nd t k).ks,(nd t b).kind=16->a8d U8 146 t ch names vars f b) :
 X9 U8 107 [.agg (Y5 m),.agg (U6 p x),.int .i64 (k:Int),.int .i64 (au:Int),.int .i64 (to:Int)] s (eE s p (W7 t (ch.map Ch.name) (f+1) p k au to)):=by
 have gP:=hm.tr.at (z:=(k:Int)) (by omega) (by omega) (k:=.i64);rw [Int.toNat_natCast,hK] at gP;have on:=a2N hm.tr hk;have op:=hp.az;have om:=hm.az;have jd:a0z p 1000000:=a2Z hl (by omega);have hD:=ht.node k hk;obtain ⟨g',rfl,iv⟩:=a5G hw;have je:=ht.ks hk;obtain ⟨c1,c2,c3,c4⟩:=hD.cond hK;have k0:W1 1 (nd t k).dk (.int .i64 0)=some (.fp [.int .i64 ((nd t k).aC 0:Int)] 0):=a2H hm.tr ht hk (i:=0) (by omega);have k1:W1 1 (nd t k).dk (.int .i64 1)=some (.fp [.int .i64 ((nd t k).aC 1:Int)] 0):=a2H hm.tr ht hk (i:=1) (by omega);have m1:=a1U (x:=nd t k) (i:=1) (by omega);have q0:=(je _ (a1U (x:=nd t k) (i:=0) (by omega))).2;have jA:=FI.len (hm.tr.nd hk).k;have hF:W7 t (ch.map Ch.name) (f+1) p k au to=(let p1:=a1v t (W7 t (ch.map Ch.name) f) (p.place.put au p.ah 4 k ((nd t k).aC 0) (-1) (-1)) ((nd t k).aC 1) p.ah to
  if (nd t k).kids.length=2 then p1.put au to 5 k ((nd t k).aC 0) (-1) (-1) else a1v t (W7 t (ch.map Ch.name) f) (p1.place.put au p1.ah 5 k ((nd t k).aC 0) (-1) (-1)) ((nd t k).aC 2) p1.ah to):=by simp [W7,hK]
 rw [hF];simp only;obtain ⟨b1,u1,v1⟩:∃b1,a0K t g' ((nd t k).aC 1)=(b1,true)/\k+2<=(nd t k).aC 1/\(nd t k).aC 1<b1/\((nd t k).kids.length=2->b1<=n)/\((nd t k).kids.length=3->∃b2,a0K t g' ((nd t k).aC 2)=(b2,true)/\b1=(nd t k).aC 2/\(nd t k).aC 2<b2/\b2<=n):=by
  match ju:(nd t k).kids,c1,iv with
  | [z0,z1],_,iv =>
    obtain ⟨e0,_,b0,_,s0,_,iv⟩:=iv.cons;obtain ⟨e1,_,b1,w1,s1,_,iv⟩:=iv.cons;have:=iv.nil;have kk:(nd t k).aC 1=b0:=by simp [Nd.aC,ju,e1]
    rw [kk];exact ⟨b1,w1,by omega,s1,fun _=>by omega,fun h=>by simp at h⟩
  | [z0,z1,z2],_,iv =>
    obtain ⟨e0,_,b0,_,s0,_,iv⟩:=iv.cons;obtain ⟨e1,_,b1,w1,s1,_,iv⟩:=iv.cons;obtain ⟨e2,_,b2,w2,s2,_,iv⟩:=iv.cons;have:=iv.nil;have kk:(nd t k).aC 1=b0:=by simp [Nd.aC,ju,e1]
    have k2:(nd t k).aC 2=b1:=by simp [Nd.aC,ju,e2]
    rw [kk,k2];exact ⟨b1,w1,by omega,s1,fun h=>by simp at h,fun _=>⟨b2,w2,rfl,s2,by omega⟩⟩
 obtain ⟨v1,v2,v3,v4⟩:=v1;unfold Y5 U6;refine V9 (vf:=a2r) rfl ?_;unfold a2r;refine zE ?_;try refine zW (V3 gP on op om) ?_
 refine a1k (Φ:=SF s m [.int .i64 11,(nd t k).dw,(nd t k).dn,(nd t k).dk,.int .i64 (nd t k).pos] (U6 p x)) ?_ ?_
 ·refine ⟨(((((Fr.push _).aj _).aj _).aj _).aD _ (.inr (by first | omega | (simp only [k4.ai];omega)))),by simp only [k4.ai,k4.aq];omega,?_,?_,?_,?_⟩<;>(simp (disch:=(first|with_reducible assumption|omega|((repeat (first|rw [nP]|rw [nS]))<;>omega)|fail)) only [a0l,W2,Z7,a0d,k4.ai,k4.aq])<;>rfl
 intro s4 h4;simp only [a0f.at,k4.ai,k4.aq];apply a03 (a8N (hp.stay h4.fr) jd)
 ·rfl
 rintro r s5 ⟨x5,rfl,f5,kh⟩;have h5:=h4.call f5;have kj:=kh.az;have Bx:=h5.nx;have n5:=h5.n;have m5:=h5.m;have i5:=a5e hi;have g5:=a5M p;have w5:a0z p.place (N+1):=a3H hl (a5n p) (by omega);have e5:p.place.ah=p.ah+1:=rfl;try refine zW (Y6 n5 on kj a00 k0 k1) ?_
 refine a1k (Φ:=fun s'=>SL s m _ _ s5.next (U6 p.place x5) s'/\Y0 s' p.place x5) ⟨SL.new h5,kh.new⟩ ?_;rintro s6 ⟨h6,jz⟩;have l6:=h6.l;have n6:=h6.sf.n;have m6:=h6.sf.m;unfold U6 at l6;unfold Y5 at m6;apply a03 (a4B (to:=p.ah) (act:=4) (expr:=((nd t k).aC 0:Nat)) jz (a2Z w5 (by omega)))
 ·rfl
 rintro r s7 ⟨x7,rfl,f7,qn,-⟩;have h7:=h6.call f7;have qW:=qn.az;have l7:=h7.l;have n7:=h7.sf.n;have m7:=h7.sf.m;have lt7:=u7 l7;have lo7:=h7.lo;have yW:=h7.sf.nx;unfold U6 at l7;unfold Y5 at m7;have i7:=a3c (node:=k) i5 (a5P (.inl rfl) (au:=au) (to:=p.ah) (Nat.lt_succ_of_lt gY) (Nat.lt_succ_self _) q0 c2);have g7:=g5.trans (a3k p.place au p.ah 4 k ((nd t k).aC 0:Nat) (-1) (-1));have w7:a0z (p.place.put au p.ah 4 k ((nd t k).aC 0:Nat) (-1) (-1)) (N+2):=a3H w5 (a22 _ _ _ _ _ _ _ _) (by omega);have e7:(p.place.put au p.ah 4 k ((nd t k).aC 0:Nat) (-1) (-1)).ah=p.ah+1:=rfl;generalize p.place.put au p.ah 4 k ((nd t k).aC 0:Nat) (-1) (-1)=q7 at *;have px:=qn.set (o:=some (.cells (U6 q7 x7))) l7;have h8:SL s m _ _ s5.next (U6 q7 x7) (s7.set s5.next (some (.cells (U6 q7 x7)))):=h7.fN;try refine zW (U5 l7 n7 m7 on om qW a00 (aN k0 k1)) ?_
 refine a1k (Φ:=fun s'=>SL s m _ _ s5.next (U6 q7 x7) s'/\Y0 s' q7 x7) ⟨h8,px⟩ ?_;rintro s9 ⟨h9,iP⟩;have l9:=h9.l;have n9:=h9.sf.n;have m9:=h9.sf.m;unfold U6 at l9;unfold Y5 at m9;apply a03 (hB _ m1 c3 _ _ u1 s9 m q7 x7 p.ah to (hm.stay h9.sf.fr) iP i7 (g7.names.trans jG) (g7.vars.trans jI) (by omega) (by omega) _ w7 (by omega))
 ·rfl
 rintro r sa ⟨xa,rfl,fa,sD,hza⟩;have ha:=h9.call fa;have tD:=sD.az;have la:=ha.l;have na:=ha.sf.n;have ma:=ha.sf.m;have lta:=u7 la;have loa:=ha.lo;have nxa:=ha.sf.nx;unfold U6 at la;unfold Y5 at ma;have zP:=a66 (b:=(nd t k).aC 1) (au:=p.ah) (to:=to) (fun c hc=>(hS _ m1 c3 c hc).1) i7 (g7.names.trans jG) (g7.vars.trans jI) (by omega) (by omega);have wa:a0z (a1v t (W7 t (ch.map Ch.name) f) q7 ((nd t k).aC 1) p.ah to) (N+2+(4*(b1-(nd t k).aC 1)-3)):=a3H w7 (a4X (je _ m1).2 u1 fun c hc=>(hS _ m1 c3 c hc).2) (by omega);have ga:=g7.trans zP.2;have pla:=zP.2.ah;have ia:=zP.1;generalize a1v t (W7 t (ch.map Ch.name) f) q7 ((nd t k).aC 1) p.ah to=qa at *;have mr:=sD.set (o:=some (.cells (U6 qa xa))) la;have hb:SL s m _ _ s5.next (U6 qa xa) (sa.set s5.next (some (.cells (U6 qa xa)))):=ha.fN;by_cases c5:(nd t k).kids.length=2
 ·have oi:((nd t k).kids.length==2)=true:=by rw [c5];rfl
  have ur:(((nd t k).kids.length:Int)==2)=true:=by rw [c5];rfl
  rw [if_pos c5];have v3:=v3 c5;clear v4;try refine zW (U5 la na ma on om tD a00 (V3 k0 k1 jA ur)) ?_
  refine a1k (Φ:=fun s'=>SL s m _ _ s5.next (U6 qa xa) s'/\Y0 s' qa xa) ⟨hb,mr⟩ ?_;rintro sc ⟨hc,oQ⟩;have lc:=hc.l;have nc:=hc.sf.n;unfold U6 at lc;try refine zW (W6 lc nc on tD k0) ?_
  apply a03 (a4B (to:=to) (act:=5) (expr:=((nd t k).aC 0:Nat)) oQ (a2Z wa (by omega)))
  ·rfl
  rintro r sd ⟨xd,rfl,fd,vh,id9,e9,z9⟩;have h9:=hc.sf.call fd;have ke:a2i s xd.de:=a6T e9 z9 hc.sf.fr.1;have iP:=vh;have jQ:=iP.az;have r9:=h9.r;try refine zW (V5 r9 jQ a00) ?_
  exact ⟨.inr trivial,_,h9.res rfl,h9.fin iP ke⟩
 ·have c6:(nd t k).kids.length=3:=c1.resolve_left c5
  have ur:(((nd t k).kids.length:Int)==2)=false:=by rw [c6];rfl
  rw [if_neg c5];obtain ⟨b2,u2,y1,y2,y3⟩:=v4 c6;clear v4 v3;have c4:=c4 c6;have m2:=a1U (x:=nd t k) (i:=2) (by omega);have k2:W1 1 (nd t k).dk (.int .i64 2)=some (.fp [.int .i64 ((nd t k).aC 2:Int)] 0):=a2H hm.tr ht hk (i:=2) (by omega);try refine zW (U5 la na ma on om tD a00 (V3 k0 k1 jA ur)) ?_
  refine a1k (Φ:=fun s'=>SL s m _ _ s5.next (U6 qa xa) s'/\Y0 s' qa xa) ⟨hb,mr⟩ ?_;rintro sc ⟨hc,oQ⟩;have lc:=hc.l;unfold U6 at lc;try refine zW (aN lc tD) ?_
  apply a03 (a8N oQ (a2Z wa (by omega)))
  ·rfl
  rintro r sd ⟨xd,rfl,fd,vh⟩;have hd:=hc.call fd;have AP:=vh.az;have ld:=hd.l;have nd':=hd.sf.n;have md:=hd.sf.m;have ltd:=u7 ld;have lod:=hd.lo;have nxd:=hd.sf.nx;unfold U6 at ld;unfold Y5 at md;have iA:=a5e ia;have gd:=ga.trans (a5M qa);have wd:=a3H wa (a5n qa) (Nat.le_refl _);have uS:=vh.set (o:=some (.cells (U6 qa.place xd))) ld;have he:SL s m _ _ s5.next (U6 qa.place xd) (sd.set s5.next (some (.cells (U6 qa.place xd)))):=hd.fN;try refine zW (U5 ld nd' md on om AP a00 k0) ?_
  refine a1k (Φ:=fun s'=>SL s m _ _ s5.next (U6 qa.place xd) s'/\Y0 s' qa.place xd) ⟨he,uS⟩ ?_;rintro sf ⟨hf,hpf⟩;have lf:=hf.l;have nf:=hf.sf.n;unfold U6 at lf;try refine zW (W6 lf nf on AP k0) ?_
  apply a03 (a4B (to:=qa.ah) (act:=5) (expr:=((nd t k).aC 0:Nat)) hpf (a2Z wd (by omega)))
  ·rfl
  rintro r sg ⟨xg,rfl,fg,AB,-⟩;have hg:=hf.call fg;have BR:=AB.az;have lg:=hg.l;have ng:=hg.sf.n;have mg:=hg.sf.m;have ltg:=u7 lg;have log:=hg.lo;have nxg:=hg.sf.nx;unfold U6 at lg;unfold Y5 at mg;have ep:qa.place.ah=qa.ah+1:=rfl;have ig:=a3c (node:=k) iA (a5P (.inr rfl) (au:=au) (to:=qa.ah) (by omega) (Nat.lt_succ_self _) q0 c2);have gg:=gd.trans (a3k qa.place au qa.ah 5 k ((nd t k).aC 0:Nat) (-1) (-1));have wg:=a3H wd (a22 qa.place au qa.ah 5 k ((nd t k).aC 0:Nat) (-1) (-1)) (Nat.le_refl _);have eg:(qa.place.put au qa.ah 5 k ((nd t k).aC 0:Nat) (-1) (-1)).ah=qa.ah+1:=rfl;generalize qa.place.put au qa.ah 5 k ((nd t k).aC 0:Nat) (-1) (-1)=qg at *;have hph:=AB.set (o:=some (.cells (U6 qg xg))) lg;have hh:SL s m _ _ s5.next (U6 qg xg) (sg.set s5.next (some (.cells (U6 qg xg)))):=hg.fN;repeat first
   |with_reducible first|apply vA|apply vB|apply vC
   |((with_reducible apply vD);(focus rfl))
   |((with_reducible first|apply vE|apply vF|apply vG|apply vH);simp only [q8.aF,q8.get,q8.ev,List.map,Nat.reduceEqDiff,↓reduceIte,a2x,a0j])
   |((with_reducible first|apply vI|apply vJ|apply vK|apply vL|apply vM|apply vN);(focus (simp (disch:=(first|with_reducible assumption|omega|((repeat (first|rw [nP]|rw [nS]))<;>omega)|fail)) only [go_sem,q8.ev,q8.get,↓reduceIte,lg,ng,mg,on,om,BR,a00,k2]<;>rfl));(first|(with_reducible (first|apply vO|apply vP|apply vQ|apply vR|apply vS|apply vT|apply vU);try simp only [q8.put])|with_reducible refine (?_:WQ _ _ _ _ _ _)))
   |fail
  refine a1k (Φ:=fun s'=>SL s m _ _ s5.next (U6 qg xg) s'/\Y0 s' qg xg) ⟨hh,hph⟩ ?_;rintro si ⟨iD,Bw⟩;have li:=iD.l;have ni:=iD.sf.n;have mi:=iD.sf.m;unfold U6 at li;unfold Y5 at mi;try refine zW (Y3 li ni mi on om BR k2) ?_
  apply a03 (hB _ m2 c4 _ _ u2 si m qg xg qa.ah to (hm.stay iD.sf.fr) Bw ig (gg.names.trans jG) (gg.vars.trans jI) (by omega) (by omega) _ wg (by omega))
  ·rfl
  rintro r sj ⟨xj,rfl,fj,hpj,hzj⟩;have h9:=iD.sf.call fj;have ke:a2i s xj.de:=hzj.mono iD.sf.fr.1;have iP:=hpj;have jQ:=iP.az;have r9:=h9.r;try refine zW (V5 r9 jQ a00) ?_
  exact ⟨.inr trivial,_,h9.res rfl,h9.fin iP ke⟩
theorem c4s {s:k4} {m:X6} {t:List Nd} {ch:List Ch} {names:List ByteArray} {vars:List Nat} (hm:a2M s m t ch) (ht:a11 t) {p:Pr} {x:X0} (hp:Y0 s p x) (hi:a1C t ch.length p) (jG:p.names=names) (jI:p.vars=vars) {k au to:Nat} (gY:au<p.ah) (km:to<p.ah) (hk:k<t.length) (hK:(nd t k).kind=12) {f:Nat}
 {g n:Nat} (hw:a0K t g k=(n,true)) {N:Nat} (hl:a0z p N) (hN:N+4*(n-k)<=900000) (hS:∀b∈(nd t k).ks,(nd t b).kind=16->∀c∈(nd t b).ks,a4o t ch.length names vars (W7 t (ch.map Ch.name) f) c/\fL t (W7 t (ch.map Ch.name) f) c) (hB:∀b∈(nd t k).ks,(nd t b).kind=16->a8d U8 146 t ch names vars f b) :
 X9 U8 107 [.agg (Y5 m),.agg (U6 p x),.int .i64 (k:Int),.int .i64 (au:Int),.int .i64 (to:Int)] s (eE s p (W7 t (ch.map Ch.name) (f+1) p k au to)):=by
 have gP:=hm.tr.at (z:=(k:Int)) (by omega) (by omega) (k:=.i64);rw [Int.toNat_natCast,hK] at gP;have on:=a2N hm.tr hk;have op:=hp.az;have om:=hm.az;have jd:a0z p 1000000:=a2Z hl (by omega);have hD:=ht.node k hk;obtain ⟨g',rfl,iv⟩:=a5G hw;have je:=ht.ks hk;obtain ⟨c1,c2,c3⟩:=hD.loop hK;have k0:W1 1 (nd t k).dk (.int .i64 0)=some (.fp [.int .i64 ((nd t k).aC 0:Int)] 0):=a2H hm.tr ht hk (i:=0) (by omega);have k1:W1 1 (nd t k).dk (.int .i64 1)=some (.fp [.int .i64 ((nd t k).aC 1:Int)] 0):=a2H hm.tr ht hk (i:=1) (by omega);have m1:=a1U (x:=nd t k) (i:=1) (by omega);have q0:=(je _ (a1U (x:=nd t k) (i:=0) (by omega))).2;have jA:=FI.len (hm.tr.nd hk).k;have hF:W7 t (ch.map Ch.name) (f+1) p k au to=a1v t (W7 t (ch.map Ch.name) f) ((p.place.put au p.ah 4 k ((nd t k).aC 0) (-1) (-1)).put au to 5 k ((nd t k).aC 0) (-1) (-1)) ((nd t k).aC 1) p.ah au:=by simp [W7,hK]
 rw [hF];obtain ⟨b1,u1,v1,v2,v3⟩:∃b1,a0K t g' ((nd t k).aC 1)=(b1,true)/\k+2<=(nd t k).aC 1/\(nd t k).aC 1<b1/\b1<=n:=by
  match ju:(nd t k).kids,c1,iv with
  | [z0,z1],_,iv =>
    obtain ⟨e0,_,b0,_,s0,_,iv⟩:=iv.cons;obtain ⟨e1,_,b1,w1,s1,_,iv⟩:=iv.cons;have:=iv.nil;have kk:(nd t k).aC 1=b0:=by simp [Nd.aC,ju,e1]
    rw [kk];exact ⟨b1,w1,by omega,s1,by omega⟩
 unfold Y5 U6;refine V9 (vf:=a2r) rfl ?_;unfold a2r;refine zE ?_;try refine zW (V3 gP on op om) ?_
 refine a1k (Φ:=SF s m [.int .i64 12,(nd t k).dw,(nd t k).dn,(nd t k).dk,.int .i64 (nd t k).pos] (U6 p x)) ?_ ?_
 ·refine ⟨(((((Fr.push _).aj _).aj _).aj _).aD _ (.inr (by first | omega | (simp only [k4.ai];omega)))),by simp only [k4.ai,k4.aq];omega,?_,?_,?_,?_⟩<;>(simp (disch:=(first|with_reducible assumption|omega|((repeat (first|rw [nP]|rw [nS]))<;>omega)|fail)) only [a0l,W2,Z7,a0d,k4.ai,k4.aq])<;>rfl
 intro s4 h4;simp only [a0f.at,k4.ai,k4.aq];apply a03 (a8N (hp.stay h4.fr) jd)
 ·rfl
 rintro r s5 ⟨x5,rfl,f5,kh⟩;have h5:=h4.call f5;have kj:=kh.az;have Bx:=h5.nx;have n5:=h5.n;have m5:=h5.m;have i5:=a5e hi;have g5:=a5M p;have w5:a0z p.place (N+1):=a3H hl (a5n p) (by omega);have e5:p.place.ah=p.ah+1:=rfl;try refine zW (Y6 n5 on kj a00 k0 k1) ?_
 refine a1k (Φ:=fun s'=>SL s m _ _ s5.next (U6 p.place x5) s'/\Y0 s' p.place x5) ⟨SL.new h5,kh.new⟩ ?_;rintro s6 ⟨h6,jz⟩;have l6:=h6.l;have n6:=h6.sf.n;have m6:=h6.sf.m;unfold U6 at l6;unfold Y5 at m6;apply a03 (a4B (to:=p.ah) (act:=4) (expr:=((nd t k).aC 0:Nat)) jz (a2Z w5 (by omega)))
 ·rfl
 rintro r s7 ⟨x7,rfl,f7,qn,-⟩;have h7:=h6.call f7;have qW:=qn.az;have l7:=h7.l;have n7:=h7.sf.n;have m7:=h7.sf.m;have lt7:=u7 l7;have lo7:=h7.lo;have yW:=h7.sf.nx;unfold U6 at l7;unfold Y5 at m7;have i7:=a3c (node:=k) i5 (a5P (.inl rfl) (au:=au) (to:=p.ah) (Nat.lt_succ_of_lt gY) (Nat.lt_succ_self _) q0 c2);have g7:=g5.trans (a3k p.place au p.ah 4 k ((nd t k).aC 0:Nat) (-1) (-1));have w7:a0z (p.place.put au p.ah 4 k ((nd t k).aC 0:Nat) (-1) (-1)) (N+2):=a3H w5 (a22 _ _ _ _ _ _ _ _) (by omega);have e7:(p.place.put au p.ah 4 k ((nd t k).aC 0:Nat) (-1) (-1)).ah=p.ah+1:=rfl;generalize p.place.put au p.ah 4 k ((nd t k).aC 0:Nat) (-1) (-1)=q7 at *;have px:=qn.set (o:=some (.cells (U6 q7 x7))) l7;have h8:SL s m _ _ s5.next (U6 q7 x7) (s7.set s5.next (some (.cells (U6 q7 x7)))):=h7.fN;try refine zW (U5 l7 n7 m7 on om qW a00 (aN k0 k1)) ?_
 refine a1k (Φ:=fun s'=>SL s m _ _ s5.next (U6 q7 x7) s'/\Y0 s' q7 x7) ⟨h8,px⟩ ?_;rintro s9 ⟨h9,iP⟩;have l9:=h9.l;have n9:=h9.sf.n;have m9:=h9.sf.m;unfold U6 at l9;unfold Y5 at m9;apply a03 (a4B (to:=to) (act:=5) (expr:=((nd t k).aC 0:Nat)) iP (a2Z w7 (by omega)))
 ·rfl
 rintro r sa ⟨xa,rfl,fa,sD,-⟩;have ha:=h9.call fa;have tD:=sD.az;have la:=ha.l;have na:=ha.sf.n;have ma:=ha.sf.m;have lta:=u7 la;have loa:=ha.lo;have nxa:=ha.sf.nx;unfold U6 at la;unfold Y5 at ma;have ia:=a3c (node:=k) i7 (a5P (.inr rfl) (au:=au) (to:=to) (by omega) (by omega) q0 c2);have ga:=g7.trans (a3k q7 au to 5 k ((nd t k).aC 0:Nat) (-1) (-1));have wa:a0z (q7.put au to 5 k ((nd t k).aC 0:Nat) (-1) (-1)) (N+3):=a3H w7 (a22 _ _ _ _ _ _ _ _) (by omega);have ea:(q7.put au to 5 k ((nd t k).aC 0:Nat) (-1) (-1)).ah=p.ah+1:=e7;generalize q7.put au to 5 k ((nd t k).aC 0:Nat) (-1) (-1)=qa at *;have mr:=sD.set (o:=some (.cells (U6 qa xa))) la;have hb:SL s m _ _ s5.next (U6 qa xa) (sa.set s5.next (some (.cells (U6 qa xa)))):=ha.fN;try refine zW (U5 la na ma on om tD a00 (aN k0 k1)) ?_
 refine a1k (Φ:=fun s'=>SL s m _ _ s5.next (U6 qa xa) s'/\Y0 s' qa xa) ⟨hb,mr⟩ ?_;rintro sc ⟨hc,oQ⟩;have lc:=hc.l;have nc:=hc.sf.n;have mc:=hc.sf.m;unfold U6 at lc;unfold Y5 at mc;try refine zW (Y3 lc nc mc on om tD k1) ?_
 apply a03 (hB _ m1 c3 _ _ u1 sc m qa xa p.ah au (hm.stay hc.sf.fr) oQ ia (ga.names.trans jG) (ga.vars.trans jI) (by omega) (by omega) _ wa (by omega))
 ·rfl
 rintro r sd ⟨xd,rfl,fd,vh,hzd⟩;have h9:=hc.sf.call fd;have ke:a2i s xd.de:=hzd.mono hc.sf.fr.1;have iP:=vh;have jQ:=iP.az;have r9:=h9.r;try refine zW (V5 r9 jQ a00) ?_
 exact ⟨.inr trivial,_,h9.res rfl,h9.fin iP ke⟩
theorem b91 {s:k4} {m:X6} {t:List Nd} {ch:List Ch} {names:List ByteArray} {vars:List Nat} (hm:a2M s m t ch) (ht:a11 t) {p:Pr} {x:X0} (hp:Y0 s p x) (hi:a1C t ch.length p) (jG:p.names=names) (jI:p.vars=vars) {k au to:Nat} (gY:au<p.ah) (km:to<p.ah) (hk:k<t.length) (hK:(nd t k).kind=13) {f:Nat}
 {g n:Nat} (hw:a0K t g k=(n,true)) {N:Nat} (hl:a0z p N) (hN:N+4*(n-k)<=900000) (hS:∀b∈(nd t k).ks,(nd t b).kind=16->∀c∈(nd t b).ks,a4o t ch.length names vars (W7 t (ch.map Ch.name) f) c/\fL t (W7 t (ch.map Ch.name) f) c) (hB:∀b∈(nd t k).ks,(nd t b).kind=16->a8d U8 146 t ch names vars f b) :
 X9 U8 107 [.agg (Y5 m),.agg (U6 p x),.int .i64 (k:Int),.int .i64 (au:Int),.int .i64 (to:Int)] s (eE s p (W7 t (ch.map Ch.name) (f+1) p k au to)):=by
 have gP:=hm.tr.at (z:=(k:Int)) (by omega) (by omega) (k:=.i64);rw [Int.toNat_natCast,hK] at gP;have on:=a2N hm.tr hk;have op:=hp.az;have om:=hm.az;have jd:a0z p 1000000:=a2Z hl (by omega);have hD:=ht.node k hk;obtain ⟨g',rfl,iv⟩:=a5G hw;have je:=ht.ks hk;obtain ⟨c1,c2⟩:=hD.atom hK;have k0:W1 1 (nd t k).dk (.int .i64 0)=some (.fp [.int .i64 ((nd t k).aC 0:Int)] 0):=a2H hm.tr ht hk (i:=0) (by omega);have m0:=a1U (x:=nd t k) (i:=0) (by omega);have hF:W7 t (ch.map Ch.name) (f+1) p k au to={ a1v t (W7 t (ch.map Ch.name) f) p ((nd t k).aC 0) au to with ak:=a3U p.ak.length to (a1v t (W7 t (ch.map Ch.name) f) p ((nd t k).aC 0) au to).ak }:=by simp [W7,hK]
 rw [hF];obtain ⟨b1,u1,v1,v2,v3⟩:∃b1,a0K t g' ((nd t k).aC 0)=(b1,true)/\k+1<=(nd t k).aC 0/\(nd t k).aC 0<b1/\b1<=n:=by
  match ju:(nd t k).kids,c1,iv with
  | [z0],_,iv =>
    obtain ⟨e0,_,b0,w0,s0,_,iv⟩:=iv.cons;have:=iv.nil;have kk:(nd t k).aC 0=k+1:=by simp [Nd.aC,ju,e0]
    rw [kk];exact ⟨b0,w0,by omega,s0,by omega⟩
 have jR:=hp.e.len;rw [a6s] at jR;unfold Y5 U6;refine V9 (vf:=a2r) rfl ?_;unfold a2r;refine zE ?_;try refine zW (Y6 gP on op om jR k0) ?_
 refine a1k (Φ:=SF s m [.int .i64 13,(nd t k).dw,(nd t k).dn,(nd t k).dk,.int .i64 (nd t k).pos] (U6 p x)) ?_ ?_
 ·refine ⟨(((((Fr.push _).aj _).aj _).aj _).aD _ (.inr (by first | omega | (simp only [k4.ai];omega)))),by simp only [k4.ai,k4.aq];omega,?_,?_,?_,?_⟩<;>(simp (disch:=(first|with_reducible assumption|omega|((repeat (first|rw [nP]|rw [nS]))<;>omega)|fail)) only [a0l,W2,Z7,a0d,k4.ai,k4.aq])<;>rfl
 intro s4 h4;simp only [a0f.at,k4.ai,k4.aq];apply a03 (hB _ m0 c2 _ _ u1 s4 m p x au to (hm.stay h4.fr) (hp.stay h4.fr) hi jG jI gY km _ hl (by omega))
 ·rfl
 rintro r s5 ⟨x5,rfl,f5,kh,hz5⟩;have h5:=h4.call f5;have kj:=kh.az;have p5:=h5.p;unfold U6 at p5;have sb:=a66 (b:=(nd t k).aC 0) (au:=au) (to:=to) (fun c hc=>(hS _ m0 c2 c hc).1) hi jG jI gY km;have wb:=a3H hl (a4X (p:=p) (au:=au) (to:=to) (je _ m0).2 u1 fun c hc=>(hS _ m0 c2 c hc).2) (Nat.le_refl _);have rj:p.ak.length<=(a1v t (W7 t (ch.map Ch.name) f) p ((nd t k).aC 0) au to).ak.length:=by
  obtain ⟨l,hl⟩:=sb.2.ak;rw [hl,List.length_append];omega
 generalize a1v t (W7 t (ch.map Ch.name) f) p ((nd t k).aC 0) au to=q at *;have hel5:=wb.el;have jz:Y0 (s5.set (s.next+1) (some (.cells (U6 q x5)))) q x5:=kh.set p5;have h6:SF s m _ (U6 q x5) (s5.set (s.next+1) (some (.cells (U6 q x5)))):=h5.dj;have nx4:=h4.nx;try refine zW (V5 p5 kj a00) ?_
 generalize hA:a3U p.ak.length to q.ak=A at *;have su:A.length=q.ak.length:=by rw [<- hA,b9s]
 refine a1c (Q:=a0j 3 _) (fun n' env s'=>∃i:Nat,p.ak.length<=i/\i<=q.ak.length/\n'=q.ak.length-i/\SF s m [.int .i64 13,(nd t k).dw,(nd t k).dn,(nd t k).dk,.int .i64 (nd t k).pos] (U6 q x5) s'/\Y0 s' { q with ak:=a2t A q.ak i } x5/\(env.get 4=.int .i64 (to:Int)/\env.get 6=.ptr (s.next+1) 0/\env.get 10=.ptr (s.next+2) 0/\env.get 21=.int .i64 (i:Int))) ?_ (q.ak.length-p.ak.length) _ _ ⟨p.ak.length,Nat.le_refl _,rj,rfl,h6,by rw [<- hA,c5r rj];exact jz,by simp [q8.get]⟩;clear h6 jz;rintro n' env s' ⟨i,tj,oK,rfl,h6,jz,hE⟩;have p6:=h6.p;have r6:=h6.r;unfold U6 at p6;have qp:=jz.e.len;rw [a6s,a8t su] at qp;by_cases cc:i<q.ak.length
 ·have qv:((i:Int)<(q.ak.length:Int))=True:=eq_true (by omega)
  have hs:IntKind.i64.wrap ((i:Int)+1)=((i+1:Nat):Int):=by rw [Z5 (by omega) (by omega)];omega
  have tT:i<(a2t A q.ak i).length:=by rw [a8t su];exact cc
  obtain ⟨a1,a2,a3,a4,a5⟩:=hz5;rcases jz.e with ⟨h0,_⟩ | ⟨id,vq,hg⟩ | h0
  ·rw [a4] at h0;cases h0
  rotate_left
  ·rw [a4] at h0;cases h0
  ·have hidn:s4.next<=id:=by
    rw [a4] at vq;cases vq;exact a5
   have gX:=h6.nx;rw [a6s,a8t su] at vq;have tC:(a0T (a2t A q.ak i)).flatten[i*8+1]?=some (.int .i64 (q.ak[i].to:Int)):=by
    rw [b7R tT (by decide),b5S su cc];rfl
   have kP:W1 8 x5.de (.int .i64 (i:Int))=some (.ptr id (i*8)):=by
    rw [vq];simp only [W1];rw [if_pos ⟨trivial,by omega,by omega⟩];simp
   have wE:A[i]'(by omega)={ q.ak[i] with aF:=q.ak[i].to != to&&q.ak[i].to != 1 }:=by
    subst hA;exact c0U cc tj
   have key:∀b,(q.ak[i].to != to&&q.ak[i].to != 1)=b->SF s m [.int .i64 13,(nd t k).dw,(nd t k).dn,(nd t k).dk,.int .i64 (nd t k).pos] (U6 q x5) (s'.set id (some (.cells ((a0T (a2t A q.ak i)).flatten.set (i*8+6) (.bool b)))))/\Y0 (s'.set id (some (.cells ((a0T (a2t A q.ak i)).flatten.set (i*8+6) (.bool b))))) { q with ak:=a2t A q.ak (i+1) } x5:=fun b hb=>by
    refine ⟨h6.bO (by omega),?_⟩;have:=jz.bn (b:=b) (i:=i) vq tT;have e2:(a2t A q.ak i).set i { (a2t A q.ak i)[i] with aF:=b }=a2t A q.ak (i+1):=by
     rw [<- c5a su cc,wE,hb,b5S su cc]
    simp only [e2] at this;exact this
   have pD:i*8+6<(a0T (a2t A q.ak i)).flatten.length:=by rw [a75 (a7M _),a6s,a8t su];omega
   by_cases d1:q.ak[i].to=to
   ·have yG:((q.ak[i].to:Int) != (to:Int))=false:=by rw [d1];simp
    have kk:=key false (by rw [d1];simp);repeat first
    |(refine b0F (x:=.bool false) hg pD rfl ?_ rfl ?_;(focus (simp only [q8.ev,q8.get,Nat.reduceEqDiff,↓reduceIte])))
    |refine zW (U5 hE p6 qp kj qv kP hg (V5 tC yG hs)) ?_
    exact ⟨q.ak.length-(i+1),by omega,i+1,by omega,by omega,rfl,kk.1,kk.2,(rG hE)⟩
   ·have yG:((q.ak[i].to:Int) != (to:Int))=true:=by rw [bne_iff_ne];omega
    by_cases d2:q.ak[i].to=1
    ·have yZ:((q.ak[i].to:Int) != 1)=false:=by rw [d2];rfl
     have kk:=key false (by rw [d2];simp);repeat first
     |(refine b0F (x:=.bool false) hg pD rfl ?_ rfl ?_;(focus (simp only [q8.ev,q8.get,Nat.reduceEqDiff,↓reduceIte])))
     |refine zW (U5 hE p6 qp kj qv kP hg (V3 tC yG yZ hs)) ?_
     exact ⟨q.ak.length-(i+1),by omega,i+1,by omega,by omega,rfl,kk.1,kk.2,(rG hE)⟩
    ·have yZ:((q.ak[i].to:Int) != 1)=true:=by rw [bne_iff_ne];omega
     have kk:=key true (by rw [Bool.and_eq_true,bne_iff_ne,bne_iff_ne];exact ⟨d1,d2⟩);repeat first
     |(refine b0F (x:=.bool true) hg pD rfl ?_ rfl ?_;(focus (simp only [q8.ev,q8.get,Nat.reduceEqDiff,↓reduceIte])))
     |refine zW (U5 hE p6 qp kj qv kP hg (V3 tC yG yZ hs)) ?_
     exact ⟨q.ak.length-(i+1),by omega,i+1,by omega,by omega,rfl,kk.1,kk.2,(rG hE)⟩
 ·have qv:((i:Int)<(q.ak.length:Int))=False:=eq_false (by omega)
  obtain rfl:i=q.ak.length:=by omega
  rw [c3w su] at jz;have hx:a04 env s' []=some (.aR []):=rfl;try refine zW (Y3 hE p6 r6 qp kj qv a00) ?_
  refine ⟨.inr trivial,.agg (U6 { q with ak:=A } x5),?_,?_⟩
  ·exact h6.res (q:={ q with ak:=A }) (x:=x5) (by simp only [q8.get,Nat.reduceEqDiff,↓reduceIte,hE])
  ·exact h6.fin (q:={ q with ak:=A }) jz (hz5.mono h4.fr.1)
theorem c4W {s:k4} {m:X6} {t:List Nd} {ch:List Ch} {names:List ByteArray} {vars:List Nat} (hm:a2M s m t ch) (ht:a11 t) {p:Pr} {x:X0} (hp:Y0 s p x) (hi:a1C t ch.length p) (jG:p.names=names) (jI:p.vars=vars) {k au to:Nat} (gY:au<p.ah) (km:to<p.ah) (hk:k<t.length) (hK:(nd t k).kind=10) {f:Nat}
 {g n:Nat} (hw:a0K t g k=(n,true)) {N:Nat} (hl:a0z p N) (hN:N+4*(n-k)<=900000) (hS:∀b∈(nd t k).ks,(nd t b).kind=16->∀c∈(nd t b).ks,a4o t ch.length names vars (W7 t (ch.map Ch.name) f) c/\fL t (W7 t (ch.map Ch.name) f) c) (hB:∀b∈(nd t k).ks,(nd t b).kind=16->a8d U8 146 t ch names vars f b) :
 X9 U8 107 [.agg (Y5 m),.agg (U6 p x),.int .i64 (k:Int),.int .i64 (au:Int),.int .i64 (to:Int)] s (eE s p (W7 t (ch.map Ch.name) (f+1) p k au to)):=by
 have gP:=hm.tr.at (z:=(k:Int)) (by omega) (by omega) (k:=.i64);rw [Int.toNat_natCast,hK] at gP;have on:=a2N hm.tr hk;have op:=hp.az;have om:=hm.az;have jd:a0z p 1000000:=a2Z hl (by omega);have hD:=ht.node k hk;obtain ⟨g',rfl,iv⟩:=a5G hw;have je:=ht.ks hk;obtain ⟨c1,c2⟩:=hD.choose hK;have nt:(nd t k).aH.length=1:=by rw [hD.nl,hK];rfl
 have n0:W1 1 (nd t k).dn (.int .i64 0)=some (.fp [.int .i64 ((nd t k).num 0)] 0):=a5R (hm.tr.nd hk) (i:=0) (by omega);have jA:=FI.len (hm.tr.nd hk).k;have iZ:=(hm.tr.nd hk).kl;have hF:W7 t (ch.map Ch.name) (f+1) p k au to=a2I t (W7 t (ch.map Ch.name) f) au to (p.idle au ((nd t k).num 0)) (nd t k).ks:=by simp [W7,hK]
 rw [hF];have nX:au<p.rest.length:=by rw [hi.rest];exact gY
 unfold Y5 U6;refine V9 (vf:=a2r) rfl ?_;unfold a2r;refine zE ?_;try refine zW (W6 gP on op om n0) ?_
 refine a1k (Φ:=SF s m [.int .i64 10,(nd t k).dw,(nd t k).dn,(nd t k).dk,.int .i64 (nd t k).pos] (U6 p x)) ?_ ?_
 ·refine ⟨(((((Fr.push _).aj _).aj _).aj _).aD _ (.inr (by first | omega | (simp only [k4.ai];omega)))),by simp only [k4.ai,k4.aq];omega,?_,?_,?_,?_⟩<;>(simp (disch:=(first|with_reducible assumption|omega|((repeat (first|rw [nP]|rw [nS]))<;>omega)|fail)) only [a0l,W2,Z7,a0d,k4.ai,k4.aq])<;>rfl
 intro s4 h4;simp only [a0f.at,k4.ai,k4.aq];apply a03 (b3z (hp.stay h4.fr) jd nX)
 ·rfl
 rintro r s5 ⟨x5,rfl,f5,kh⟩;have h5:=h4.call f5;have kj:=kh.az;have p5:=h5.p;unfold U6 at p5;have jz:Y0 (s5.set (s.next+1) (some (.cells (U6 (p.idle au ((nd t k).num 0)) x5)))) (p.idle au ((nd t k).num 0)) x5:=kh.set p5;have h6:SF s m _ (U6 (p.idle au ((nd t k).num 0)) x5) (s5.set (s.next+1) (some (.cells (U6 (p.idle au ((nd t k).num 0)) x5)))):=h5.dj;have ip:=b0M p au ((nd t k).num 0);have uR:a0z (p.idle au ((nd t k).num 0)) N:=b3Z hl;have i6:a1C t ch.length (p.idle au ((nd t k).num 0)):=b42 hi;have g6:=b8M p au ((nd t k).num 0);generalize p.idle au ((nd t k).num 0)=q0 at *;try refine zW (V5 p5 kj a00) ?_
 refine a1c (Q:=a0j 1 _) (fun n' env s'=>∃ (j:Nat) (q:Pr) (x:X0) (a:Nat),j<=(nd t k).kids.length/\n'=(nd t k).kids.length-j/\SF s m [.int .i64 10,(nd t k).dw,(nd t k).dn,(nd t k).dk,.int .i64 (nd t k).pos] (U6 q x) s'/\Y0 s' q x/\a1C t ch.length q/\a21 p q/\KF t g' ((nd t k).kids.drop j) a n/\a0z q (N+4*(a-(k+1)))/\(j=0∨a2i s x.de)/\a2I t (W7 t (ch.map Ch.name) f) au to q0 (nd t k).ks=a2I t (W7 t (ch.map Ch.name) f) au to q (((nd t k).kids.drop j).map Int.toNat) /\
  (env.get 2=.int .i64 (k:Int)/\env.get 3=.int .i64 (au:Int)/\env.get 4=.int .i64 (to:Int)/\env.get 5=.ptr s.next 0/\env.get 6=.ptr (s.next+1) 0/\env.get 10=.ptr (s.next+2) 0/\env.get 11=.ptr (s.next+3) 0/\env.get 12=.int .i64 (j:Int))) ?_ (nd t k).kids.length _ _ ⟨0,q0,x5,k+1,by omega,rfl,h6,jz,i6,g6,iv,a2Z uR (by omega),.inl rfl,rfl,by simp [q8.get]⟩
 clear h6 jz kj p5 kh h5;rintro n' env s' ⟨j,q,xq,a,hj,rfl,h6,jz,iq,gq,hkq,wq,hzq,lu,hE⟩;have p6:=h6.p;have r6:=h6.r;have n6:=h6.n;have m6:=h6.m;have nx6:=h6.nx;unfold U6 at p6;unfold Y5 at m6;have yk:=jz.az;by_cases cc:j<(nd t k).kids.length
 ·have qv:((j:Int)<((nd t k).kids.length:Int))=True:=eq_true (by omega)
  have hs:=a4T cc iZ;rw [List.drop_eq_getElem_cons cc] at hkq lu;obtain ⟨ea,qa,b,wb,lb,sG,mF⟩:=hkq.cons;have hle':=mF.le;have ka:W1 1 (nd t k).dk (.int .i64 (j:Int))=some (.fp [.int .i64 (a:Int)] 0):=by
   rw [FI.idx (hm.tr.nd hk).k cc (k:=.i64),ea]
  have nM:a∈(nd t k).ks:=by
   have:=List.mem_map_of_mem (f:=Int.toNat) (List.getElem_mem cc);rw [ea,Int.toNat_natCast] at this;exact this
  have mT:=je a nM;have jr:=c2 a nM;have rF:=hm.tr.at (z:=(a:Int)) (by omega) (by omega) (k:=.i64);rw [Int.toNat_natCast] at rF;have zS:=a2N hm.tr mT.2;have ub:=FI.len (hm.tr.nd mT.2).k;have gp:=gq.ah;rw [List.map_cons,a2I,ea,Int.toNat_natCast] at lu;by_cases cl:a9g t a=true
  ·rw [if_pos cl] at lu
   have qG:0<(nd t a).kids.length:=by
    unfold a9g at cl;rw [<- a20];cases pM:(nd t a).ks with
    | nil=>rw [pM] at cl;cases cl
    | cons y ys=>simp
   have k12:(nd t ((nd t a).aC 0)).kind=12:=by
    unfold a9g at cl;have:(nd t a).ks=(nd t a).aC 0::(nd t a).ks.tail:=by
     unfold Nd.ks Nd.aC;cases pM:(nd t a).kids with
     | nil=>rw [pM] at qG;simp at qG
     | cons y ys=>simp
    rw [this] at cl;simpa using cl
   have pC:((0:Int)<((nd t a).kids.length:Int))=True:=eq_true (by omega);have zf:W1 1 (nd t a).dk (.int .i64 0)=some (.fp [.int .i64 ((nd t a).aC 0:Int)] 0):=a2H hm.tr ht mT.2 (i:=0) qG;have uk:=ht.ks mT.2 _ (a1U (x:=nd t a) (i:=0) qG);have pS:=hm.tr.at (z:=((nd t a).aC 0:Int)) (by omega) (by omega) (k:=.i64);rw [Int.toNat_natCast,k12] at pS;have zq:=a2N hm.tr uk.2;try refine zW (U5 hE n6 m6 p6 on om jA (U5 qv ka rF zS ub pC zf (V5 pS zq yk))) ?_
   refine a1k (Φ:=fun s2=>SF s m [.int .i64 10,(nd t k).dw,(nd t k).dn,(nd t k).dk,.int .i64 (nd t k).pos] (U6 q xq) s2/\Y0 s2 q xq) ⟨(h6.call (Fr.push (ids:=[]) _)).bO (by omega),jz.stay ((Fr.push (ids:=[]) _).aD _ (.inr (Nat.le_refl _)))⟩ ?_;rintro s2 ⟨h2,js⟩;apply a03 (a8N js (a2Z wq (by omega)))
   ·simp only [q8.aP,q8.ev,q8.get,Nat.reduceEqDiff,↓reduceIte,hE];rfl
   rintro r s7 ⟨x7,rfl,f7,qn⟩;have h7:=h2.call f7;have qW:=qn.az;have p7:=h7.p;have n7:=h7.n;have yW:=h7.nx;unfold U6 at p7;have px:Y0 (s7.set (s.next+1) (some (.cells (U6 q.place x7)))) q.place x7:=qn.set p7;have h8:SF s m [.int .i64 10,(nd t k).dw,(nd t k).dn,(nd t k).dk,.int .i64 (nd t k).pos] (U6 q.place x7) (s7.set (s.next+1) (some (.cells (U6 q.place x7)))):=h7.dj;have w8:=a3H wq (a5n q) (Nat.le_refl _);try refine zW (Y3 hE p7 n7 qW a00 on ka) ?_
   refine a1k (Φ:=fun s2=>SF s m [.int .i64 10,(nd t k).dw,(nd t k).dn,(nd t k).dk,.int .i64 (nd t k).pos] (U6 q.place x7) s2/\Y0 s2 q.place x7) ⟨h8,px⟩ ?_;rintro s8 ⟨h8,px⟩;have p8:=h8.p;have n8:=h8.n;unfold U6 at p8;try refine zW (Y6 hE p8 n8 qW on ka) ?_
   apply a03 (a4B (to:=q.ah) (act:=0) (node:=a) px (a2Z w8 (by omega)))
   ·simp only [q8.aP,q8.ev,q8.get,Nat.reduceEqDiff,↓reduceIte,hE];rfl
   rintro r s9 ⟨x9,rfl,f9,iP,-⟩;have h9:=h8.call f9;have jQ:=iP.az;have p9:=h9.p;have n9:=h9.n;have m9:=h9.m;have nx9:=h9.nx;unfold U6 at p9;unfold Y5 at m9;have w9:=a3H w8 (a22 q.place au q.ah 0 a (-1) (-1) (-1)) (Nat.le_refl _);have i9:=a3c (node:=a) (a5e iq) (a8A (au:=au) (to:=q.ah) (Nat.lt_succ_of_lt (by omega)) (Nat.lt_succ_self _));have g9:=(gq.trans (a5M q)).trans (a3k q.place au q.ah 0 a (-1) (-1) (-1));have e9:(q.place.put au q.ah 0 a (-1) (-1) (-1)).ah=q.ah+1:=rfl;have ze:Y0 (s9.set (s.next+1) (some (.cells (U6 (q.place.put au q.ah 0 a (-1) (-1) (-1)) x9)))) (q.place.put au q.ah 0 a (-1) (-1) (-1)) x9:=iP.set p9;have hA:SF s m [.int .i64 10,(nd t k).dw,(nd t k).dn,(nd t k).dk,.int .i64 (nd t k).pos] (U6 (q.place.put au q.ah 0 a (-1) (-1) (-1)) x9) (s9.set (s.next+1) (some (.cells (U6 (q.place.put au q.ah 0 a (-1) (-1) (-1)) x9)))):=h9.dj;generalize q.place.put au q.ah 0 a (-1) (-1) (-1)=q9 at *;try refine zW (U5 hE p9 n9 m9 jQ a00 on (aN om ka)) ?_
   refine a1k (Φ:=fun s2=>SF s m [.int .i64 10,(nd t k).dw,(nd t k).dn,(nd t k).dk,.int .i64 (nd t k).pos] (U6 q9 x9) s2/\Y0 s2 q9 x9) ⟨hA,ze⟩ ?_;rintro sB ⟨uI,zx⟩;have pB:=uI.p;have nB:=uI.n;have mB:=uI.m;unfold U6 at pB;unfold Y5 at mB;try refine zW (U5 hE pB nB mB jQ on om ka) ?_
   apply a03 (hB _ nM jr _ _ wb sB m q9 x9 q.ah to (hm.stay uI.fr) zx i9 (g9.names.trans jG) (g9.vars.trans jI) (by omega) (by omega) _ w9 (by omega))
   ·simp only [q8.aP,q8.ev,q8.get,Nat.reduceEqDiff,↓reduceIte,hE];rfl
   rintro r sz ⟨xz,rfl,fz,qK,hzz⟩;have hz:=uI.call fz;have wN:=qK.az;have pz:=hz.p;unfold U6 at pz;have sZ:=a66 (b:=a) (au:=q.ah) (to:=to) (fun c hc=>(hS _ nM jr c hc).1) i9 (g9.names.trans jG) (g9.vars.trans jI) (by omega) (by omega);have wz:=a3H w9 (a4X (p:=q9) (au:=q.ah) (to:=to) (je _ nM).2 wb fun c hc=>(hS _ nM jr c hc).2) (Nat.le_refl _);have qc:a2I t (W7 t (ch.map Ch.name) f) au to q0 (nd t k).ks=a2I t (W7 t (ch.map Ch.name) f) au to (a1v t (W7 t (ch.map Ch.name) f) q9 a q.ah to) (((nd t k).kids.drop (j+1)).map Int.toNat):=lu;generalize a1v t (W7 t (ch.map Ch.name) f) q9 a q.ah to=qz at *;have qt:Y0 (sz.set (s.next+1) (some (.cells (U6 qz xz)))) qz xz:=qK.set pz;have vt:SF s m _ (U6 qz xz) (sz.set (s.next+1) (some (.cells (U6 qz xz)))):=hz.dj;try refine zW (W6 hE pz wN a00 hs) ?_
   exact ⟨(nd t k).kids.length-(j+1),by omega,j+1,qz,xz,b,by omega,rfl,vt,qt,sZ.1,g9.trans sZ.2,mF,a2Z wz (by omega),.inr (hzz.mono uI.fr.1),qc,(rG hE)⟩
  ·rw [if_neg cl] at lu
   by_cases ck:0<(nd t a).kids.length
   ·have pC:((0:Int)<((nd t a).kids.length:Int))=True:=eq_true (by omega)
    have zf:W1 1 (nd t a).dk (.int .i64 0)=some (.fp [.int .i64 ((nd t a).aC 0:Int)] 0):=a2H hm.tr ht mT.2 (i:=0) ck;have uk:=ht.ks mT.2 _ (a1U (x:=nd t a) (i:=0) ck);have pS:=hm.tr.at (z:=((nd t a).aC 0:Int)) (by omega) (by omega) (k:=.i64);rw [Int.toNat_natCast] at pS;have zq:=a2N hm.tr uk.2;have k12:((nd t ((nd t a).aC 0)).kind==12)=false:=by
     unfold a9g at cl;have:(nd t a).ks=(nd t a).aC 0::(nd t a).ks.tail:=by
      unfold Nd.ks Nd.aC;cases pM:(nd t a).kids with
      | nil=>rw [pM] at ck;simp at ck
      | cons y ys=>simp
     rw [this] at cl;simpa using cl
    try refine zW (U5 hE n6 m6 p6 on om jA (U5 qv ka rF zS ub pC zf (V3 pS zq k12 yk))) ?_
    refine a1k (Φ:=fun s2=>SF s m [.int .i64 10,(nd t k).dw,(nd t k).dn,(nd t k).dk,.int .i64 (nd t k).pos] (U6 q xq) s2/\Y0 s2 q xq) ⟨(h6.call (Fr.push (ids:=[]) _)).bO (by omega),jz.stay ((Fr.push (ids:=[]) _).aD _ (.inr (Nat.le_refl _)))⟩ ?_;rintro s2 ⟨h2,js⟩;apply a03 (hB _ nM jr _ _ wb s2 m q xq au to (hm.stay h2.fr) js iq (gq.names.trans jG) (gq.vars.trans jI) (by omega) (by omega) _ wq (by omega))
    ·simp only [q8.aP,q8.ev,q8.get,Nat.reduceEqDiff,↓reduceIte,hE];rfl
    rintro r sz ⟨xz,rfl,fz,qK,hzz⟩;have hz:=h2.call fz;have wN:=qK.az;have pz:=hz.p;unfold U6 at pz;have sZ:=a66 (b:=a) (au:=au) (to:=to) (fun c hc=>(hS _ nM jr c hc).1) iq (gq.names.trans jG) (gq.vars.trans jI) (by omega) (by omega);have wz:=a3H wq (a4X (p:=q) (au:=au) (to:=to) (je _ nM).2 wb fun c hc=>(hS _ nM jr c hc).2) (Nat.le_refl _);have qc:a2I t (W7 t (ch.map Ch.name) f) au to q0 (nd t k).ks=a2I t (W7 t (ch.map Ch.name) f) au to (a1v t (W7 t (ch.map Ch.name) f) q a au to) (((nd t k).kids.drop (j+1)).map Int.toNat):=lu;generalize a1v t (W7 t (ch.map Ch.name) f) q a au to=qz at *;have qt:Y0 (sz.set (s.next+1) (some (.cells (U6 qz xz)))) qz xz:=qK.set pz;have vt:SF s m _ (U6 qz xz) (sz.set (s.next+1) (some (.cells (U6 qz xz)))):=hz.dj;try refine zW (W6 hE pz wN a00 hs) ?_
    exact ⟨(nd t k).kids.length-(j+1),by omega,j+1,qz,xz,b,by omega,rfl,vt,qt,sZ.1,gq.trans sZ.2,mF,a2Z wz (by omega),.inr (hzz.mono h2.fr.1),qc,(rG hE)⟩
   ·have pC:((0:Int)<((nd t a).kids.length:Int))=False:=eq_false (by omega)
    try refine zW (U5 hE n6 m6 p6 on om jA (Y3 qv ka rF zS ub pC yk)) ?_
    refine a1k (Φ:=fun s2=>SF s m [.int .i64 10,(nd t k).dw,(nd t k).dn,(nd t k).dk,.int .i64 (nd t k).pos] (U6 q xq) s2/\Y0 s2 q xq) ⟨(h6.call (Fr.push (ids:=[]) _)).bO (by omega),jz.stay ((Fr.push (ids:=[]) _).aD _ (.inr (Nat.le_refl _)))⟩ ?_;rintro s2 ⟨h2,js⟩;apply a03 (hB _ nM jr _ _ wb s2 m q xq au to (hm.stay h2.fr) js iq (gq.names.trans jG) (gq.vars.trans jI) (by omega) (by omega) _ wq (by omega))
    ·simp only [q8.aP,q8.ev,q8.get,Nat.reduceEqDiff,↓reduceIte,hE];rfl
    rintro r sz ⟨xz,rfl,fz,qK,hzz⟩;have hz:=h2.call fz;have wN:=qK.az;have pz:=hz.p;unfold U6 at pz;have sZ:=a66 (b:=a) (au:=au) (to:=to) (fun c hc=>(hS _ nM jr c hc).1) iq (gq.names.trans jG) (gq.vars.trans jI) (by omega) (by omega);have wz:=a3H wq (a4X (p:=q) (au:=au) (to:=to) (je _ nM).2 wb fun c hc=>(hS _ nM jr c hc).2) (Nat.le_refl _);have qc:a2I t (W7 t (ch.map Ch.name) f) au to q0 (nd t k).ks=a2I t (W7 t (ch.map Ch.name) f) au to (a1v t (W7 t (ch.map Ch.name) f) q a au to) (((nd t k).kids.drop (j+1)).map Int.toNat):=lu;generalize a1v t (W7 t (ch.map Ch.name) f) q a au to=qz at *;have qt:Y0 (sz.set (s.next+1) (some (.cells (U6 qz xz)))) qz xz:=qK.set pz;have vt:SF s m _ (U6 qz xz) (sz.set (s.next+1) (some (.cells (U6 qz xz)))):=hz.dj;try refine zW (W6 hE pz wN a00 hs) ?_
    exact ⟨(nd t k).kids.length-(j+1),by omega,j+1,qz,xz,b,by omega,rfl,vt,qt,sZ.1,gq.trans sZ.2,mF,a2Z wz (by omega),.inr (hzz.mono h2.fr.1),qc,(rG hE)⟩
 ·have qv:((j:Int)<((nd t k).kids.length:Int))=False:=eq_false (by omega)
  rw [List.drop_eq_nil_of_le (by omega)] at lu;have ke:a2i s xq.de:=by
   rcases hzq with h | h
   ·omega
   ·exact h
  rw [lu];try refine zW (U5 hE n6 m6 p6 r6 on om (V3 jA qv yk a00)) ?_
  exact ⟨.inr trivial,.agg (U6 q xq),h6.res (by simp only [q8.get,Nat.reduceEqDiff,↓reduceIte,hE]),h6.fin jz ke⟩
theorem b4J {t:List Nd} {ch:List Ch} {names:List ByteArray} {vars:List Nat} {f g node:Nat}:∀ (ks:List Int) (dk:D) (a n:Nat),KF t g ks a n->FI dk ks->(∀c∈ks.map Int.toNat,b0r U8 107 t ch names vars f c/\a4o t ch.length names vars (W7 t (ch.map Ch.name) f) c/\fL t (W7 t (ch.map Ch.name) f) c) ->
 ∀ (s:k4) (m:X6) (p:Pr) (x:X0) (au to:Nat),a2M s m t ch->Y0 s p x->a1C t ch.length p->p.names=names->p.vars=vars->au<p.ah->to<p.ah->∀N,a0z p N->N+4*(n-a)+1<=900000 ->
 X9 U8 66 [.agg (Y5 m),.agg (U6 p x),dk,.int .i64 (node:Int),.int .i64 (au:Int),.int .i64 (to:Int)] s (eE s p (a5y (W7 t (ch.map Ch.name) f) node p (ks.map Int.toNat) au to))
 | [],dk,a,n,iv,oY,hS,s,m,p,x,au,to,hm,hp,hi,jG,jI,gY,km,N,hl,hN=>by
   have hlen:=FI.len oY;have l0:(((([]:List Int).length:Nat):Int)==0)=true:=rfl;have op:=hp.az;have om:=hm.az;have jd:a0z p 1000000:=a2Z hl (by omega);show X9 _ _ _ _ (eE s p (p.put au to 0 node (-1) (-1) (-1)))
   unfold Y5 U6;refine V9 (vf:=a7y) rfl ?_;unfold a7y;refine zE ?_;try refine zW (V3 op om hlen l0) ?_
   refine a1k (Φ:=S3 s m (U6 p x)) ?_ ?_
   ·refine ⟨((Fr.push _).aj _).aj _,by simp only [k4.ai];omega,?_,?_,?_⟩<;>(simp (disch:=(first|with_reducible assumption|omega|((repeat (first|rw [nP]|rw [nS]))<;>omega)|fail)) only [a0l,W2,Z7,a0d,k4.ai,k4.aq])<;>rfl
   intro s4 h4;simp only [a0f.at,k4.ai];apply a03 (a4B (act:=0) (hp.stay h4.fr) jd)
   ·rfl
   rintro r s9 ⟨x9,rfl,f9,iP,id9,e9,z9⟩;have h9:=h4.call f9;have ke:a2i s x9.de:=a6T e9 z9 h4.fr.1;have jQ:=iP.az;have r9:=h9.r;try refine zW (V5 r9 jQ a00) ?_
   exact ⟨.inr trivial,_,h9.res rfl,h9.fin iP ke⟩
 | [z],dk,a,n,iv,oY,hS,s,m,p,x,au,to,hm,hp,hi,jG,jI,gY,km,N,hl,hN=>by
   obtain ⟨rfl,q1,b,wb,lb,sG,iv⟩:=iv.cons;obtain rfl:=iv.nil;have hlen:=FI.len oY;have l0:((([(a:Int)].length:Nat):Int)==0)=false:=rfl;have l1:((([(a:Int)].length:Nat):Int)==1)=true:=rfl;have ki:W1 1 dk (.int .i64 0)=some (.fp [.int .i64 (a:Int)] 0):=FI.idx oY (i:=0) (by simp);have op:=hp.az;have om:=hm.az;obtain ⟨jm,-,-⟩:=hS a (by simp);show X9 _ _ _ _ (eE s p (W7 t (ch.map Ch.name) f p a au to))
   unfold Y5 U6;refine V9 (vf:=a7y) rfl ?_;unfold a7y;refine zE ?_;try refine zW (Y6 op om hlen l0 l1 ki) ?_
   refine a1k (Φ:=S3 s m (U6 p x)) ?_ ?_
   ·refine ⟨((Fr.push _).aj _).aj _,by simp only [k4.ai];omega,?_,?_,?_⟩<;>(simp (disch:=(first|with_reducible assumption|omega|((repeat (first|rw [nP]|rw [nS]))<;>omega)|fail)) only [a0l,W2,Z7,a0d,k4.ai,k4.aq])<;>rfl
   intro s4 h4;simp only [a0f.at,k4.ai];apply a03 (jm _ _ wb s4 m p x au to (hm.stay h4.fr) (hp.stay h4.fr) hi jG jI gY km N hl (by omega))
   ·rfl
   rintro r s9 ⟨x9,rfl,f9,iP,hzz⟩;have h9:=h4.call f9;have ke:a2i s x9.de:=hzz.mono h4.fr.1;have jQ:=iP.az;have r9:=h9.r;try refine zW (V5 r9 jQ a00) ?_
   exact ⟨.inr trivial,_,h9.res rfl,h9.fin iP ke⟩
 | z::z'::zs,dk,a,n,iv,oY,hS,s,m,p,x,au,to,hm,hp,hi,jG,jI,gY,km,N,hl,hN=>by
   obtain ⟨rfl,q1,b,wb,lb,sG,iv⟩:=iv.cons;have hle:=iv.le;have hlen:=FI.len oY;have l0:(((((a:Int)::z'::zs).length:Nat):Int)==0)=false:=by rw [beq_eq_false_iff_ne];simp only [List.length_cons];omega
   have l1:(((((a:Int)::z'::zs).length:Nat):Int)==1)=false:=by rw [beq_eq_false_iff_ne];simp only [List.length_cons];omega
   have ki:W1 1 dk (.int .i64 0)=some (.fp [.int .i64 (a:Int)] 0):=FI.idx oY (i:=0) (by simp);obtain ⟨uv,sl,mL⟩:=FL.drop oY (n:=1) (by simp) (k:=.i64);have one:((1:Nat):Int)=1:=rfl;rw [one] at sl;have mL:FI uv (z'::zs):=mL;have op:=hp.az;have om:=hm.az;have jd:a0z p 1000000:=a2Z hl (by omega);obtain ⟨jm,zA,uD⟩:=hS a (by simp);show X9 _ _ _ _ (eE s p (a5y (W7 t (ch.map Ch.name) f) node (W7 t (ch.map Ch.name) f p.place a au p.ah) ((z'::zs).map Int.toNat) p.ah to))
   unfold Y5 U6;refine V9 (vf:=a7y) rfl ?_;unfold a7y;refine zE ?_;try refine zW (Y6 op om hlen l0 l1 ki) ?_
   refine a1k (Φ:=S3 s m (U6 p x)) ?_ ?_
   ·refine ⟨((Fr.push _).aj _).aj _,by simp only [k4.ai];omega,?_,?_,?_⟩<;>(simp (disch:=(first|with_reducible assumption|omega|((repeat (first|rw [nP]|rw [nS]))<;>omega)|fail)) only [a0l,W2,Z7,a0d,k4.ai,k4.aq])<;>rfl
   intro s4 h4;simp only [a0f.at,k4.ai];apply a03 (a8N (hp.stay h4.fr) jd)
   ·rfl
   rintro r s5 ⟨x5,rfl,f5,kh⟩;have h5:=h4.call f5;have kj:=kh.az;have p5:=h5.p;have m5:=h5.m;have Bx:=h5.nx;unfold U6 at p5;unfold Y5 at m5;have jz:Y0 (s5.set (s.next+1) (some (.cells (U6 p.place x5)))) p.place x5:=kh.set p5;have h6:S3 s m (U6 p.place x5) (s5.set (s.next+1) (some (.cells (U6 p.place x5)))):=h5.dj;have w5:a0z p.place (N+1):=a3H hl (a5n p) (by omega);have e5:p.place.ah=p.ah+1:=rfl;try refine zW (Y6 p5 m5 kj om a00 ki) ?_
   refine a1k (Φ:=fun s'=>S3 s m (U6 p.place x5) s'/\Y0 s' p.place x5) ⟨h6,jz⟩ ?_;rintro s6 ⟨h6,jz⟩;have p6:=h6.p;have m6:=h6.m;unfold U6 at p6;unfold Y5 at m6;try refine zW (W6 p6 m6 kj om ki) ?_
   apply a03 (jm _ _ wb s6 m p.place x5 au p.ah (hm.stay h6.fr) jz (a5e hi) jG jI (by omega) (by omega) _ w5 (by omega))
   ·rfl
   rintro r s7 ⟨x7,rfl,f7,qn,hz7⟩;have h7:=h6.call f7;have qW:=qn.az;have p7:=h7.p;have m7:=h7.m;have yW:=h7.nx;unfold U6 at p7;unfold Y5 at m7;have zR:=zA p.place au p.ah (a5e hi) jG jI (by omega) (by omega);have w7:=a3H w5 (uD _ _ wb p.place au p.ah) (Nat.le_refl _);have g7:=(a5M p).trans zR.2;have pl7:=zR.2.ah;have px:Y0 (s7.set (s.next+1) (some (.cells (U6 (W7 t (ch.map Ch.name) f p.place a au p.ah) x7)))) (W7 t (ch.map Ch.name) f p.place a au p.ah) x7:=qn.set p7;have h8:S3 s m (U6 (W7 t (ch.map Ch.name) f p.place a au p.ah) x7) (s7.set (s.next+1) (some (.cells (U6 (W7 t (ch.map Ch.name) f p.place a au p.ah) x7)))):=h7.dj;have i7:=zR.1;generalize W7 t (ch.map Ch.name) f p.place a au p.ah=q7 at *;try refine zW (W6 p7 m7 qW om a00) ?_
   refine a1k (Φ:=fun s'=>S3 s m (U6 q7 x7) s'/\Y0 s' q7 x7) ⟨h8,px⟩ ?_;rintro s8 ⟨h8,px⟩;have p8:=h8.p;have m8:=h8.m;unfold U6 at p8;unfold Y5 at m8;repeat first
   |(refine b0h (o:=.slice _ _ _ _) (d:=uv) sl ?_)
   |refine zW (V3 p8 m8 qW om) ?_
   apply a03 (b4J (z'::zs) uv b n iv mL (fun c hc=>hS c (by simp only [List.map_cons,List.mem_cons] at hc ⊢;right;exact hc)) s8 m q7 x7 p.ah to (hm.stay h8.fr) px i7 (g7.names.trans jG) (g7.vars.trans jI) (by omega) (by omega) _ w7 (by omega))
   ·rfl
   rintro r s9 ⟨x9,rfl,f9,iP,hzz⟩;have h9:=h8.call f9;have ke:a2i s x9.de:=hzz.mono h8.fr.1;have jQ:=iP.az;have r9:=h9.r;try refine zW (V5 r9 jQ a00) ?_
   exact ⟨.inr trivial,_,h9.res rfl,h9.fin iP ke⟩
theorem blk_ev {t:List Nd} (ht:a11 t) {ch:List Ch} {names:List ByteArray} {vars:List Nat} {f b:Nat} (hb:b<t.length) (hS:∀c∈(nd t b).ks,b0r U8 107 t ch names vars f c/\a4o t ch.length names vars (W7 t (ch.map Ch.name) f) c/\fL t (W7 t (ch.map Ch.name) f) c):a8d U8 146 t ch names vars f b:=by
 intro g n hw s m p x au to hm hp hi jG jI gY km N hl hN;obtain ⟨g',rfl,iv⟩:=a5G hw;have hle:=iv.le;have gP:=hm.tr.at (z:=(b:Int)) (by omega) (by omega) (k:=.i64);rw [Int.toNat_natCast] at gP;have on:=a2N hm.tr hb;have op:=hp.az;have om:=hm.az;show X9 _ _ _ _ (eE s p (a5y (W7 t (ch.map Ch.name) f) b p ((nd t b).kids.map Int.toNat) au to))
 unfold Y5 U6;refine V9 (vf:=b3T) rfl ?_;unfold b3T;refine zE ?_;try refine zW (V3 op om gP on) ?_
 refine a1k (Φ:=S3 s m (U6 p x)) ?_ ?_
 ·refine ⟨((Fr.push _).aj _).aj _,by simp only [k4.ai];omega,?_,?_,?_⟩<;>(simp (disch:=(first|with_reducible assumption|omega|((repeat (first|rw [nP]|rw [nS]))<;>omega)|fail)) only [a0l,W2,Z7,a0d,k4.ai,k4.aq])<;>rfl
 intro s4 h4;simp only [a0f.at,k4.ai];apply a03 (b4J (node:=b) (nd t b).kids (nd t b).dk (b+1) n iv (hm.tr.nd hb).k hS s4 m p x au to (hm.stay h4.fr) (hp.stay h4.fr) hi jG jI gY km N hl (by omega))
 ·rfl
 rintro r s9 ⟨x9,rfl,f9,iP,hzz⟩;have h9:=h4.call f9;have ke:a2i s x9.de:=hzz.mono h4.fr.1;have jQ:=iP.az;have r9:=h9.r;try refine zW (V5 r9 jQ a00) ?_
 exact ⟨.inr trivial,_,h9.res rfl,h9.fin iP ke⟩
theorem b7a {t:List Nd} (ht:a11 t) {ch:List Ch} (tf:ch.length<=1000000) {names:List ByteArray} {vars:List Nat} (lN:names.length<=1000000) {P:Nat->Prop} (hc:∀j,j<t.length->P j->∀k∈(nd t j).ks,P k) (hs:∀k,P k->b1f t ch.length (ch.map Ch.name) names vars k):∀ (f k:Nat),k<t.length->P k->a5l (nd t k).kind->t.length-k<f->b0r U8 107 t ch names vars f k
 | 0,k,_,_,_,h=>by omega
 | f+1,k,hk,hP,jm,hf=>by
   intro g n hw s m p x au to hm hp hi jG jI gY km N hl hN;have hD:=ht.node k hk;have je:=ht.ks hk;have yU:=hs k hP;have sub:∀b∈(nd t k).ks,(nd t b).kind=16->∀c∈(nd t b).ks,b0r U8 107 t ch names vars f c/\a4o t ch.length names vars (W7 t (ch.map Ch.name) f) c/\fL t (W7 t (ch.map Ch.name) f) c:=fun b hb jr c pQ=>by
    have h1:=je b hb;have h2:=ht.ks h1.2 c pQ;have h3:=(ht.node b h1.2).block jr c pQ;have Av:=hc b h1.2 (hc k hk hP b hb) c pQ;exact ⟨b7a ht tf lN hc hs f c h2.2 Av h3 (by omega),a92 ht hc hs f c h2.2 Av h3 (by omega),b0Y ht _ f c h2.2 h3 (by omega)⟩
   have hS:∀b∈(nd t k).ks,(nd t b).kind=16->∀c∈(nd t b).ks,a4o t ch.length names vars (W7 t (ch.map Ch.name) f) c/\fL t (W7 t (ch.map Ch.name) f) c:=fun b hb jr c hc=>(sub b hb jr c hc).2
   have hB:∀b∈(nd t k).ks,(nd t b).kind=16->a8d U8 146 t ch names vars f b:=fun b hb jr=>blk_ev ht (je b hb).2 (sub b hb jr)
   have uY:a0z p 900000:=a2Z hl (by omega);have lH:p.names.length=p.vars.length:=by rw [jG,jI];exact yU.same
   have rq:p.names.length<=1000000:=by rw [jG];exact lN
   have nX:au<p.rest.length:=by rw [hi.rest];exact gY
   have ny:(nd t k).kind=6∨(nd t k).kind=7∨(nd t k).kind=8∨(nd t k).kind=9∨(nd t k).kind=10∨(nd t k).kind=11∨(nd t k).kind=12∨(nd t k).kind=13∨(nd t k).kind=14∨(nd t k).kind=15:=by
    unfold a5l at jm;omega
   rcases ny with h | h | h | h | h | h | h | h | h | h
   ·exact stat_6 hm ht hp uY lH (by rw [jG];exact yU.v (.inl h)) rq hk h
   ·exact stat_7 hm ht hp uY tf hk h
   ·exact stat_8 hm ht hp uY lH (by rw [jG];exact yU.v (.inr h)) rq tf nX hk h
   ·exact stat_9 hm ht hp uY nX hk h
   ·exact c4W hm ht hp hi jG jI gY km hk h hw hl hN hS hB
   ·exact c1d hm ht hp hi jG jI gY km hk h hw hl hN hS hB
   ·exact c4s hm ht hp hi jG jI gY km hk h hw hl hN hS hB
   ·exact b91 hm ht hp hi jG jI gY km hk h hw hl hN hS hB
   ·exact c02 hm ht hp uY hk h
   ·exact c4b hm ht hp uY hk h
theorem c0D {d:D} {t:List Nd} (hT:X8 d t) (hR:Y9 t) :
 X9 U8 29 [d] k4.empty fun r s'=>(r=.aR [.agg [.ag,.int .i64 0,.ag,.ag,.ag,.ag,.bool false],.bool false]/\∃e a:Int,eu 65 [d] (.agg [.int .i64 e,.int .i64 a])/\e≠0)∨(a5h t/\a3m t/\∃m ps,r=.aR [.agg (Y5 m),.bool true]/\b0f s' m (a7X t) ps/\m.dp≠.bg 8 (a27 ps)):=by
 have hlen:=hT.len;have hle:=hR.ok.le;have ru:=hR.ok.pos;have je:=hR.cK.length;obtain ⟨e,a,hc,hp⟩:=b9T hT hR;obtain ⟨sc,hc⟩:=hc;by_cases c0:e=0
 rotate_left
 ·have yb:(e != 0)=true:=by rw [bne_iff_ne];exact c0
  refine V9 (vf:=a89) rfl ?_;unfold a89;refine zE ?_;repeat first
  |(refine a5z rfl (fz1 hT.fz) hc rfl rfl ?_)
  |refine zW yb ?_
  exact ⟨.inr trivial,_,rR,.inl ⟨rfl,e,a,⟨sc,hc⟩,c0⟩⟩
 subst c0;have yb:((0:Int) != 0)=false:=rfl;have h0:=hT.at (z:=0) (by omega) (by omega) (k:=.i64);have x0:=hT.nd (i:=0) (by omega);have z0:(0:Int).toNat=0:=rfl;rw [z0] at h0;have o1:=FL.one x0.w;have o2:=FL.one x0.n;have o3:=FL.one x0.k;have iZ:=FI.len x0.k;have od:=FL.one hT.fl;refine V9 (vf:=a89) rfl ?_;unfold a89;refine zE ?_;repeat first
 |(refine a5z rfl (fz1 hT.fz) hc rfl rfl ?_)
 |refine zW (aN yb od) ?_
 refine a82 (P:=fun env s=>∃ (dc dv ds:D) (Ec Ev Es:Hs),
  Rp dc 5 (a2y (W4 t).ch) Ec/\Rp dv 3 (a1J (W4 t).vs) Ev/\Rp ds 1 (a0x (W4 t).sf) Es /\
  Hp s ((0,[.ag,.int .i64 0,.ag,.ag,.ag,.ag,.bool false])::(2,[d,.int .i64 0,dc,dv,.ag,ds,.bool (W4 t).dead])::(Ec++(Ev++Es))) []/\(env.get 0=d/\env.get 2=.ptr 0 0/\env.get 5=.ptr 2 0)) ?_ ?_
 ·refine a1c (Q:=a0j 0 _) (fun n env s=>∃ (i:Nat) (dc dv ds:D) (Ec Ev Es:Hs),i<=(nd t 0).kids.length/\n=(nd t 0).kids.length-i /\
   Rp dc 5 (a2y (a05 t ((nd t 0).ks.take i)).ch) Ec/\Rp dv 3 (a1J (a05 t ((nd t 0).ks.take i)).vs) Ev/\Rp ds 1 (a0x (a05 t ((nd t 0).ks.take i)).sf) Es /\
   Hp s ((0,[.ag,.int .i64 0,.ag,.ag,.ag,.ag,.bool false])::(2,[d,.int .i64 0,dc,dv,.ag,ds,.bool (a05 t ((nd t 0).ks.take i)).dead])::(Ec++(Ev++Es))) []/\(env.get 0=d/\env.get 2=.ptr 0 0/\env.get 5=.ptr 2 0/\env.get 6=.int .i64 (i:Int))) ?_ (nd t 0).kids.length _ _ ?_
  rotate_left
  ·refine ⟨0,.ag,.ag,.ag,[],[],[],by omega,rfl,.inl ⟨rfl,rfl,rfl⟩,.inl ⟨rfl,rfl,rfl⟩,.inl ⟨rfl,rfl,rfl⟩,?_,by simp [q8.get,a0f.at];rfl⟩
   refine ⟨by simp,by simp,?_,by simp [Y2]⟩;intro x hx;simp only [List.append_nil,List.mem_cons,List.not_mem_nil,or_false] at hx;rcases hx with rfl | rfl<;>rfl
  ·rintro n env s ⟨i,dc,dv,ds,Ec,Ev,Es,hi,rfl,rc,rv,rs,hh,hE⟩
   have hb:=b29 t ((nd t 0).ks.take i);have lU:((nd t 0).ks.take i).length<=i:=by simp;omega
   have hM:=Hp.get (A:=[(0,_)]) hh;have mA:=u7 hM;by_cases c1:i<(nd t 0).kids.length
   ·have gZ:((i:Int)<((nd t 0).kids.length:Int))=True:=eq_true (by omega)
    have hs:IntKind.i64.wrap ((i:Int)+1)=((i+1:Nat):Int):=by rw [Z5 (by omega) (by omega)];omega
    have jJ:=a2H hT hR.ok (k:=0) (by omega) c1;have nV:=a1U c1;have uP:=b6M c1;generalize (nd t 0).aC i=K at *;obtain ⟨K1,K2,-⟩:=hR.item nV;have gP:=hT.at (z:=(K:Int)) (by omega) (by omega) (k:=.i64);rw [Int.toNat_natCast] at gP;have on:=a2N hT K2;have hD:=hR.ok.node K K2;have hpr:=hR.ok.node 0 (by omega);have hw:=a6g hT K2 (i:=0);have n0:=a51 hT K2 (i:=0);have n1:=a51 hT K2 (i:=1);have n2:=a51 hT K2 (i:=2);have n3:=a51 hT K2 (i:=3);have k0:=a2H hT hR.ok K2 (i:=0);have e0:((0:Nat):Int)=0:=rfl;have e1:((1:Nat):Int)=1:=rfl;have e2:((2:Nat):Int)=2:=rfl;have e3:((3:Nat):Int)=3:=rfl;rw [hD.wl,e0] at hw;rw [hD.nl] at n0 n1 n2 n3;rw [e0] at n0 k0;rw [e1] at n1;rw [e2] at n2;rw [e3] at n3;have iL:a05 t ((nd t 0).ks.take (i+1))=bb t (a05 t ((nd t 0).ks.take i)) K:=by rw [uP,c5y]
    generalize hA:a05 t ((nd t 0).ks.take i)=a at *;have fr:∀z o,Fr [] s ((s.push z).set s.next (some o)):=fun z o=>(Fr.push _).aD _ (.inr (Nat.le_refl _))
    by_cases q1:(nd t K).kind=1
    ·rw [q1] at hw n0 n1 n2 n3
     have hw:=hw (by decide);have n0:=n0 (by decide);have n1:=n1 (by decide);have n2:=n2 (by decide);have n3:=n3 (by decide);have uQ:((nd t K).kind==1)=true:=by rw [q1];rfl
     have e:bb t a K={ a with ch:=a.ch++[a76 (nd t K)] }:=by unfold bb;rw [if_pos q1]
     rw [e] at iL;try refine zW (U5 hE hM o1 o2 o3 h0 iZ (U5 gZ jJ gP on uQ rc.one rv.one (Y3 rs.one od hw n0 n1 n2 n3))) ?_
     refine a3S (Rp.app (A:=[(0,_),(2,_)]) (B:=Ev++Es) rc (hh.fr ((fr _ _).aj _)) (W2 rfl) rfl (b4o _) (by decide) (by simp;omega)) rfl rfl ?_;rintro d' s' ⟨E',Ca,hh',jH⟩;have lP:=Ca.one;simp only [List.append_assoc,List.cons_append,List.nil_append] at hh';have sI:=Hp.get (A:=[(0,_)]) hh';have xS:=u7 sI;simp only [k4.ai,k4.aq] at jH;try refine zW (Y3 sI lP rv.one rs.one od hE hs) ?_
     refine ⟨(nd t 0).kids.length-(i+1),by omega,i+1,d',dv,ds,E',Ev,Es,by omega,rfl,?_,?_,?_,?_,(rG hE)⟩
     ·rw [iL];show Rp d' 5 (a2y (a.ch++[a76 (nd t K)])) E';rw [<- c3X];exact Ca
     ·rw [iL];exact rv
     ·rw [iL];exact rs
     ·rw [iL]
      exact Hp.set (A:=[(0,_)]) hh' [d,.int .i64 0,d',dv,.ag,ds,.bool a.dead]
    have uQ:((nd t K).kind==1)=false:=by rw [beq_eq_false_iff_ne];exact q1
    by_cases q2:(nd t K).kind=2
    ·rw [q2] at hw n0 n1
     have hw:=hw (by decide);have n0:=n0 (by decide);have n1:=n1 (by decide);have pF:((nd t K).kind==2)=true:=by rw [q2];rfl
     have e:bb t a K={ a with vs:=a.vs++[a4K (nd t K)] }:=by unfold bb;rw [if_neg q1,if_pos q2]
     rw [e] at iL;try refine zW (U5 hE hM o1 o2 o3 h0 iZ (U5 gZ jJ gP on uQ pF rc.one (Y6 rv.one rs.one od hw n0 n1))) ?_
     refine a3S (Rp.app (A:=[(0,_),(2,_)]++Ec) (B:=Es) rv (by simpa only [List.append_assoc,List.cons_append,List.nil_append] using (hh.fr ((fr _ _).aj _))) (W2 rfl) rfl (b1i _) (by decide) (by simp;omega)) rfl rfl ?_;rintro d' s' ⟨E',vX,hh',jH⟩;have lP:=vX.one;simp only [List.append_assoc,List.cons_append,List.nil_append] at hh';have sI:=Hp.get (A:=[(0,_)]) hh';have xS:=u7 sI;simp only [k4.ai,k4.aq] at jH;try refine zW (Y3 sI rc.one lP rs.one od hE hs) ?_
     refine ⟨(nd t 0).kids.length-(i+1),by omega,i+1,dc,d',ds,Ec,E',Es,by omega,rfl,?_,?_,?_,?_,(rG hE)⟩
     ·rw [iL];exact rc
     ·rw [iL];show Rp d' 3 (a1J (a.vs++[a4K (nd t K)])) E';rw [<- b6o];exact vX
     ·rw [iL];exact rs
     ·rw [iL]
      exact Hp.set (A:=[(0,_)]) hh' [d,.int .i64 0,dc,d',.ag,ds,.bool a.dead]
    have pF:((nd t K).kind==2)=false:=by rw [beq_eq_false_iff_ne];exact q2
    by_cases q4:(nd t K).kind=4
    ·have iS:=hD.one (.inl q4)
     have k0:=k0 (by omega);have yJ:((nd t K).kind==4)=true:=by rw [q4];rfl
     have e:bb t a K={ a with sf:=a.sf++[(nd t K).aC 0] }:=by unfold bb;rw [if_neg q1,if_neg q2,if_pos q4]
     rw [e] at iL;try refine zW (U5 hE hM o1 o2 o3 h0 iZ (U5 gZ jJ gP on uQ pF yJ (W6 rc.one rv.one rs.one od k0))) ?_
     refine a3S (Rp.app (A:=[(0,_),(2,_)]++Ec++Ev) (B:=[]) rs (by simpa only [List.append_assoc,List.cons_append,List.nil_append,List.append_nil] using (hh.fr ((fr _ _).aj _))) (W2 rfl) rfl (a5L _) (by decide) (by simp;omega)) rfl rfl ?_;rintro d' s' ⟨E',yc,hh',jH⟩;have lP:=yc.one;simp only [List.append_assoc,List.cons_append,List.nil_append,List.append_nil] at hh';have sI:=Hp.get (A:=[(0,_)]) hh';have xS:=u7 sI;simp only [k4.ai,k4.aq] at jH;try refine zW (Y3 sI rc.one rv.one lP od hE hs) ?_
     refine ⟨(nd t 0).kids.length-(i+1),by omega,i+1,dc,dv,d',Ec,Ev,E',by omega,rfl,?_,?_,?_,?_,(rG hE)⟩
     ·rw [iL];exact rc
     ·rw [iL];exact rv
     ·rw [iL];show Rp d' 1 (a0x (a.sf++[(nd t K).aC 0])) E';rw [<- b00];exact yc
     ·rw [iL]
      exact Hp.set (A:=[(0,_)]) hh' [d,.int .i64 0,dc,dv,.ag,d',.bool a.dead]
    have yJ:((nd t K).kind==4)=false:=by rw [beq_eq_false_iff_ne];exact q4
    by_cases q5:(nd t K).kind=5
    ·have yQ:((nd t K).kind==5)=true:=by rw [q5];rfl
     have e:bb t a K={ a with dead:=true }:=by unfold bb;rw [if_neg q1,if_neg q2,if_neg q4,if_pos q5]
     rw [e] at iL;try refine zW (U5 hE hM o1 o2 o3 h0 iZ (U5 gZ jJ gP on uQ pF yJ (Y6 yQ rc.one rv.one rs.one od hs))) ?_
     refine ⟨(nd t 0).kids.length-(i+1),by omega,i+1,dc,dv,ds,Ec,Ev,Es,by omega,rfl,?_,?_,?_,?_,(rG hE)⟩
     ·rw [iL];exact rc
     ·rw [iL];exact rv
     ·rw [iL];exact rs
     ·rw [iL]
      exact Hp.set (A:=[(0,_)]) (hh.fr (fr _ _)) [d,.int .i64 0,dc,dv,.ag,ds,.bool true]
    ·have yQ:((nd t K).kind==5)=false:=by rw [beq_eq_false_iff_ne];exact q5
     have e:bb t a K=a:=by unfold bb;rw [if_neg q1,if_neg q2,if_neg q4,if_neg q5]
     rw [e] at iL;try refine zW (U5 hE hM o1 o2 o3 h0 iZ (U5 gZ jJ gP on uQ pF yJ (Y6 yQ rc.one rv.one rs.one od hs))) ?_
     refine ⟨(nd t 0).kids.length-(i+1),by omega,i+1,dc,dv,ds,Ec,Ev,Es,by omega,rfl,?_,?_,?_,?_,(rG hE)⟩
     ·rw [iL];exact rc
     ·rw [iL];exact rv
     ·rw [iL];exact rs
     ·rw [iL]
      exact hh.fr (fr _ _)
   ·have gZ:((i:Int)<((nd t 0).kids.length:Int))=False:=eq_false (by omega)
    obtain rfl:i=(nd t 0).kids.length:=by omega
    have gU:(nd t 0).ks.take (nd t 0).kids.length=(nd t 0).ks:=by rw [<- a20,List.take_length]
    rw [gU] at rc rv rs hh hM;try refine zW (U5 hE hM o1 o2 o3 h0 iZ (aN gZ od)) ?_
    exact ⟨trivial,dc,dv,ds,Ec,Ev,Es,rc,rv,rs,hh,(rG hE)⟩
 rintro env s ⟨dc,dv,ds,Ec,Ev,Es,rc,rv,rs,hh,hE⟩;have jZ:=rv.len;rw [b2k] at jZ;have oc:=rc.one;have ov:=rv.one;have os:=rs.one;have hM:=Hp.get (A:=[(0,_)]) hh;have mA:=u7 hM;simp only [a2x];try refine zW (Y3 hE hM od oc ov os jZ) ?_
 have xO:=b29 t (nd t 0).ks;rw [a20] at xO;have ku:(W4 t).ch.length<=800:=by unfold W4;omega
 have lj:(W4 t).vs.length<=800:=by unfold W4;omega
 have pc:=Hp.freeze (W':=(0,[.ag,.int .i64 0,.ag,.ag,.ag,.ag,.bool false])::(2,[d,.int .i64 (((W4 t).vs.length:Nat):Int),dc,dv,.ag,ds,.bool (W4 t).dead])::(Ev++[])) (F:=Ec++Es) (Hp.set (A:=[(0,_)]) hh [d,.int .i64 (((W4 t).vs.length:Nat):Int),dc,dv,.ag,ds,.bool (W4 t).dead]) (by
  simp only [List.append_nil,List.cons_append,List.nil_append];refine .cons _ (.cons _ ?_);rw [<- List.append_assoc,<- List.append_assoc];exact List.perm_append_comm.append_right _)
 have fc:InR (fun s=>SN s 5 dc (a2y (W4 t).ch)) (Ec++Es):=fun s hs=>rc.sn hs.left
 have fs:InR (fun s=>SN s 1 ds (a0x (W4 t).sf)) (Ec++Es):=fun s hs=>rs.sn hs.right
 rw [List.append_nil,List.append_nil] at pc;generalize Ec++Es=R0 at *;refine a82 (P:=fun env s=>∃ (dv dp:D) (Ev Ep R:Hs) (ps:List (Pr×X0)),MkI s d dc ds (((W4 t).vs.length:Nat):Int) (W4 t).dead [.ag,.int .i64 0,.ag,.ag,.ag,.ag,.bool false] R0 (eL t).vs (eL t).ps dv dp Ev Ep R ps/\(env.get 0=d/\env.get 2=.ptr 0 0/\env.get 5=.ptr 2 0)) ?_ ?_;rotate_left
 ·clear hE
  rintro env s ⟨dv,dp,Ev,Ep,R,ps,hI,hE⟩;have ov:=hI.v.one;have op:=hI.p.one;have hM:=Hp.get (A:=[(0,_)]) hI.h;have hZ:=Hp.get (A:=[]) hI.h;have mA:=u7 hM;have hZl:=u7 hZ;simp only [a2x];try refine zW (U5 hE hM hZ od oc ov os op) ?_
  have hf:=Hp.set (A:=[]) hI.h [d,.int .i64 (((W4 t).vs.length:Nat):Int),dc,dv,dp,ds,.bool (W4 t).dead];have jC:∀x∈R0,x∈R:=hI.sub;refine ⟨.inr trivial,_,?_,.inr ⟨(hp rfl).1,(hp rfl).2,⟨d,dc,dv,dp,ds,(((W4 t).vs.length:Nat):Int),(W4 t).dead⟩,ps,rfl,?_,by rcases hI.p with ⟨e,_⟩ | ⟨id,e,_⟩<;>simp [e]⟩⟩
  ·simp only [a04,a1g,a1t,q8.get,Nat.reduceEqDiff,↓reduceIte,hE,a0d hZl]
   rfl
  ·refine ⟨hT,fc _ fun x hx=>hf.r x (jC x hx),hI.v.sn fun x hx=>hf.w x (by simp [hx]),hI.p.sn fun x hx=>hf.w x (by simp [hx]),hI.eq,fun q hq=>hI.aI q hq _ hf.r,fs _ fun x hx=>hf.r x (jC x hx),rfl,rfl⟩
 refine a1c (Q:=a0j 3 _) (fun n env s=>∃ (i:Nat) (dv dp:D) (Ev Ep R:Hs) (ps:List (Pr×X0)),i<=(nd t 0).kids.length/\n=(nd t 0).kids.length-i /\
  MkI s d dc ds (((W4 t).vs.length:Nat):Int) (W4 t).dead [.ag,.int .i64 0,.ag,.ag,.ag,.ag,.bool false] R0 (a2h t (bt t) (W4 t).vs ((nd t 0).ks.take i)).vs (a2h t (bt t) (W4 t).vs ((nd t 0).ks.take i)).ps dv dp Ev Ep R ps/\(a2h t (bt t) (W4 t).vs ((nd t 0).ks.take i)).vs.length<=800+3200*i/\ps.length<=4*i /\
  (env.get 0=d/\env.get 2=.ptr 0 0/\env.get 5=.ptr 2 0/\env.get 8=.int .i64 ((a2h t (bt t) (W4 t).vs ((nd t 0).ks.take i)).seen:Int)/\env.get 9=.int .i64 (i:Int))) ?_ (nd t 0).kids.length _ _ ?_
 rotate_left
 ·refine ⟨0,dv,.ag,Ev,[],R0,[],by omega,rfl,⟨rv,.inl ⟨rfl,rfl,rfl⟩,rfl,by simp,fun _ h=>h,by rw [List.append_nil];exact pc⟩,?_,by simp,by simp [q8.get,hE];rfl⟩
  show (W4 t).vs.length<=_
  omega
 clear pc hE hM mA rv ov jZ hh;rintro n env s ⟨i,dv,dp,Ev,Ep,R,ps,hi,rfl,hI,oW,mr,hE⟩;have ov:=hI.v.one;have op:=hI.p.one;have hM:=Hp.get (A:=[(0,_)]) hI.h;have mA:=u7 hM;by_cases c1:i<(nd t 0).kids.length
 rotate_left
 ·have gZ:((i:Int)<((nd t 0).kids.length:Int))=False:=eq_false (by omega)
  obtain rfl:i=(nd t 0).kids.length:=by omega
  have gU:(nd t 0).ks.take (nd t 0).kids.length=(nd t 0).ks:=by rw [<- a20,List.take_length]
  rw [gU] at hI;try refine zW (U5 hE hM o1 o2 o3 h0 iZ (aN gZ od)) ?_
  exact ⟨trivial,dv,dp,Ev,Ep,R,ps,hI,(rG hE)⟩
 have gZ:((i:Int)<((nd t 0).kids.length:Int))=True:=eq_true (by omega);have hs:IntKind.i64.wrap ((i:Int)+1)=((i+1:Nat):Int):=by rw [Z5 (by omega) (by omega)];omega
 have jJ:=a2H hT hR.ok (k:=0) (by omega) c1;have nV:=a1U c1;have uP:=b6M c1;have hkg:=a7c (x:=nd t 0) (i:=i) (by rw [a20];exact c1);generalize hK:(nd t 0).aC i=K at *;obtain ⟨K1,K2,bK,bw,bl,bl2,bkf⟩:=hR.item nV;have gP:=hT.at (z:=(K:Int)) (by omega) (by omega) (k:=.i64);rw [Int.toNat_natCast] at gP;have on:=a2N hT K2;have hD:=hR.ok.node K K2;have iL:a2h t (bt t) (W4 t).vs ((nd t 0).ks.take (i+1))=a3J t (bt t) (a2h t (bt t) (W4 t).vs ((nd t 0).ks.take i)) K:=by rw [uP,b6E]
 obtain ⟨tk1,tk2,tk3⟩:=b8z t (bt t) i;generalize a2h t (bt t) (W4 t).vs ((nd t 0).ks.take i)=b at *;have hN:=hI.h.newR (.cells [.int .i64 0,.ag,.ag,.ag,.int .i64 0]) [.int .i64 (nd t K).kind,(nd t K).dw,(nd t K).dn,(nd t K).dk,.int .i64 (nd t K).pos];have hIn:MkI ((s.push (.cells [.int .i64 0,.ag,.ag,.ag,.int .i64 0])).set s.next (some (.cells [.int .i64 (nd t K).kind,(nd t K).dw,(nd t K).dn,(nd t K).dk,.int .i64 (nd t K).pos]))) d dc ds (((W4 t).vs.length:Nat):Int) (W4 t).dead [.ag,.int .i64 0,.ag,.ag,.ag,.ag,.bool false] R0 b.vs b.ps dv dp Ev Ep ((s.next,[.int .i64 (nd t K).kind,(nd t K).dw,(nd t K).dn,(nd t K).dk,.int .i64 (nd t K).pos])::R) ps :=
  ⟨hI.v,hI.p,hI.eq,fun q hq=>(hI.aI q hq).mono fun x hx=>by simp [hx],fun x hx=>by simp [hI.sub x hx],hN⟩
 by_cases q3:(nd t K).kind=3
 rotate_left
 ·have wi:((nd t K).kind==3)=false:=by rw [beq_eq_false_iff_ne];exact q3
  by_cases q2:(nd t K).kind=2
  ·have pF:((nd t K).kind==2)=true:=by rw [q2];rfl
   have ph:IntKind.i64.wrap ((b.seen:Int)+1)=((b.seen+1:Nat):Int):=by rw [Z5 (by omega) (by omega)];omega
   have e:a3J t (bt t) b K=⟨b.seen+1,b.vs,b.ps⟩:=by unfold a3J;rw [if_neg q3,if_pos q2]
   rw [e] at iL;try refine zW (U5 hE hM o1 o2 o3 h0 iZ (Y3 gZ jJ gP on pF od ph)) ?_
   refine b23 ?_;try refine zW (V5 wi hE hs) ?_
   exact ⟨(nd t 0).kids.length-(i+1),by omega,i+1,dv,dp,Ev,Ep,_,ps,by omega,rfl,by rw [iL];exact hIn,by rw [iL];show b.vs.length<=_;omega,by omega,by simp only [q8.get,Nat.reduceEqDiff,↓reduceIte,hE,iL,and_self]⟩
  ·have pF:((nd t K).kind==2)=false:=by rw [beq_eq_false_iff_ne];exact q2
   have e:a3J t (bt t) b K=b:=by unfold a3J;rw [if_neg q3,if_neg q2]
   rw [e] at iL;try refine zW (U5 hE hM o1 o2 o3 h0 iZ (Y6 gZ jJ gP on pF od)) ?_
   refine b23 ?_;try refine zW (V5 wi hE hs) ?_
   exact ⟨(nd t 0).kids.length-(i+1),by omega,i+1,dv,dp,Ev,Ep,_,ps,by omega,rfl,by rw [iL];exact hIn,by rw [iL];omega,by omega,by simp only [q8.get,Nat.reduceEqDiff,↓reduceIte,hE,iL,and_self]⟩
 have wi:((nd t K).kind==3)=true:=by rw [q3];rfl
 have pF:((nd t K).kind==2)=false:=by rw [q3];rfl
 have e:a3J t (bt t) b K=⟨b.seen,(a06 t (bt t) K b.seen ((nd t K).num 0).toNat (b.vs,b.ps)).1,(a06 t (bt t) K b.seen ((nd t K).num 0).toNat (b.vs,b.ps)).2⟩:=by unfold a3J;rw [if_pos q3]
 rw [e] at iL;have hcop:=b35 hR (hp rfl).2 nV q3;try refine zW (U5 hE hM o1 o2 o3 h0 iZ (Y6 gZ jJ gP on pF od)) ?_
 generalize hB0:s.next=B0 at *;generalize (s.push (.cells [.int .i64 0,.ag,.ag,.ag,.int .i64 0])).set B0 (some (.cells [.int .i64 (nd t K).kind,(nd t K).dw,(nd t K).dn,(nd t K).dk,.int .i64 (nd t K).pos]))=s1 at *;have kS:(B0,[D.int .i64 (nd t K).kind,(nd t K).dw,(nd t K).dn,(nd t K).dk,.int .i64 (nd t K).pos])∈(B0,[D.int .i64 (nd t K).kind,(nd t K).dw,(nd t K).dn,(nd t K).dk,.int .i64 (nd t K).pos])::R:=by simp
 generalize (B0,[D.int .i64 (nd t K).kind,(nd t K).dw,(nd t K).dn,(nd t K).dk,.int .i64 (nd t K).pos])::R=R1 at *;have hw:=a6g hT K2 (i:=0);have n0:=a51 hT K2 (i:=0);have z0:((0:Nat):Int)=0:=rfl;rw [hD.wl,z0,q3] at hw;rw [hD.nl,z0,q3] at n0;have hw:=hw (by decide);have n0:=n0 (by decide);refine a82 (P:=fun env s=>∃ (dv dp:D) (Ev Ep R:Hs) (ps:List (Pr×X0)),MkI s d dc ds (((W4 t).vs.length:Nat):Int) (W4 t).dead [.ag,.int .i64 0,.ag,.ag,.ag,.ag,.bool false] R0 (a06 t (bt t) K b.seen ((nd t K).num 0).toNat (b.vs,b.ps)).1 (a06 t (bt t) K b.seen ((nd t K).num 0).toNat (b.vs,b.ps)).2 dv dp Ev Ep R ps/\(a06 t (bt t) K b.seen ((nd t K).num 0).toNat (b.vs,b.ps)).1.length<=800+3200*(i+1)/\ps.length<=4*(i+1)/\(env.get 0=d/\env.get 2=.ptr 0 0/\env.get 5=.ptr 2 0/\env.get 8=.int .i64 (b.seen:Int)/\env.get 9=.int .i64 (i:Int))) ?_ ?_;rotate_left
 ·clear hE
  rintro env s ⟨dv,dp,Ev,Ep,R,ps,hI,l1,l2,hE⟩;simp only [a2x,a0j];try refine zW (aN hE hs) ?_
  exact ⟨(nd t 0).kids.length-(i+1),by omega,i+1,dv,dp,Ev,Ep,R,ps,by omega,rfl,by rw [iL];exact hI,by rw [iL];exact l1,l2,by simp only [q8.get,Nat.reduceEqDiff,↓reduceIte,hE,iL,and_self]⟩
 refine a1c (Q:=a0j 5 _) (fun n env s=>∃ (c:Nat) (dv dp:D) (Ev Ep R:Hs) (ps:List (Pr×X0)),(c:Int)<=(nd t K).num 0/\n=((nd t K).num 0).toNat-c /\
  MkI s d dc ds (((W4 t).vs.length:Nat):Int) (W4 t).dead [.ag,.int .i64 0,.ag,.ag,.ag,.ag,.bool false] R0 (a06 t (bt t) K b.seen c (b.vs,b.ps)).1 (a06 t (bt t) K b.seen c (b.vs,b.ps)).2 dv dp Ev Ep R ps /\
  (B0,[D.int .i64 (nd t K).kind,(nd t K).dw,(nd t K).dn,(nd t K).dk,.int .i64 (nd t K).pos])∈R/\(a06 t (bt t) K b.seen c (b.vs,b.ps)).1.length<=800+3200*i+800*c/\ps.length<=4*i+c /\
  (env.get 0=d/\env.get 2=.ptr 0 0/\env.get 5=.ptr 2 0/\env.get 8=.int .i64 (b.seen:Int)/\env.get 9=.int .i64 (i:Int)/\env.get 10=.ptr B0 0/\env.get 11=.int .i64 (c:Int))) ?_ ((nd t K).num 0).toNat _ _ ?_
 rotate_left
 ·exact ⟨0,dv,dp,Ev,Ep,R1,ps,by omega,rfl,hIn,kS,by simpa [a06] using oW,by omega,by simp [q8.get,hE,a0f.at]⟩
 clear hE hM mA hIn hI kS hN ov op;rintro n env s ⟨c,dv,dp,Ev,Ep,R,ps,sR,rfl,hI,kS,oW,mr,hE⟩;have ov:=hI.v.one;have op:=hI.p.one;have hM:=Hp.get (A:=[(0,_)]) hI.h;have mA:=u7 hM;have hB:=hI.h.r _ kS;have uF:=u7 hB;simp only at hB uF;by_cases c2:(c:Int)<(nd t K).num 0
 rotate_left
 ·have jn:((c:Int)<(nd t K).num 0)=False:=eq_false c2
  have e:c=((nd t K).num 0).toNat:=by omega
  try refine zW (Y6 hE hB wi n0 jn on) ?_
  rw [e] at hI oW;exact ⟨trivial,dv,dp,Ev,Ep,R,ps,hI,by omega,by omega,(rG hE)⟩
 have jn:((c:Int)<(nd t K).num 0)=True:=eq_true c2;have mw:IntKind.i64.wrap ((c:Int)+1)=((c+1:Nat):Int):=by rw [Z5 (by omega) (by omega)];omega
 obtain ⟨Ay,ct2⟩:=b8o (t:=t) (ch:=bt t) (k:=K) (c:=c) (a:=(b.vs,b.ps)) tk2;simp only at Ay ct2;have wH:(a06 t (bt t) K b.seen (c+1) (b.vs,b.ps)).1=(a06 t (bt t) K b.seen c (b.vs,b.ps)).1++(a1i t (nd t K)).map a4K:=rfl;have hcn2:(a06 t (bt t) K b.seen (c+1) (b.vs,b.ps)).2=(a06 t (bt t) K b.seen c (b.vs,b.ps)).2++[a69 t (bt t) K b.seen c (a06 t (bt t) K b.seen c (b.vs,b.ps)).1]:=rfl;generalize a06 t (bt t) K b.seen c (b.vs,b.ps)=a at *;try refine zW (Y3 hE hB wi n0 jn on hw) ?_
 have hW:=(hI.h.pushR [.bool false,.bool true]).dK (.cells [.str (bs []),.int .i64 0,.ag,.int .i64 0,.ag,.ag,.ag,.ag]) [.str ((nd t K).word 0),.int .i64 (c:Int),.ag,.int .i64 2,.arr s.next 0 2 1,.ag,.ag,.ag];simp only [k4.ai] at hW;generalize ph:((s.push (.cells [.bool false,.bool true])).push (.cells [.str (bs []),.int .i64 0,.ag,.int .i64 0,.ag,.ag,.ag,.ag])).set (s.next+1) (some (.cells [.str ((nd t K).word 0),.int .i64 (c:Int),.ag,.int .i64 2,.arr s.next 0 2 1,.ag,.ag,.ag]))=s2 at *;have lI:∀x∈R,x∈(s.next,[D.bool false,.bool true])::R:=fun x hx=>by simp [hx]
 have jY:(s.next,[D.bool false,.bool true])∈(s.next,[D.bool false,.bool true])::R:=by simp
 generalize (s.next,[D.bool false,.bool true])::R=R2 at *;have sX:=hI.sub;have hatI:=hI.aI;have heqI:=hI.eq;have rv:=hI.v;have rp:=hI.p;clear hI hM mA hB uF ph;refine a82 (P:=fun env s'=>∃ (dn dx:D) (En Ex:Hs),Rp dn 1 (a1G ((a.1.take b.seen).map Vr.name)) En/\Rp dx 1 (a0x (List.range b.seen)) Ex /\
  Hp s' ((s.next+1,[.str ((nd t K).word 0),.int .i64 (c:Int),.ag,.int .i64 2,.arr s.next 0 2 1,.ag,dn,dx])::(0,[.ag,.int .i64 0,.ag,.ag,.ag,.ag,.bool false])::(2,[d,.int .i64 (((W4 t).vs.length:Nat):Int),dc,dv,dp,ds,.bool (W4 t).dead])::(Ev++(Ep++(En++Ex)))) R2 /\
  (env.get 0=d/\env.get 2=.ptr 0 0/\env.get 5=.ptr 2 0/\env.get 8=.int .i64 (b.seen:Int)/\env.get 9=.int .i64 (i:Int)/\env.get 10=.ptr B0 0/\env.get 11=.int .i64 (c:Int)/\env.get 12=.ptr (s.next+1) 0)) ?_ ?_
 ·refine a1c (Q:=a0j 7 _) (fun n env s'=>∃ (v:Nat) (dn dx:D) (En Ex:Hs),v<=b.seen/\n=b.seen-v/\Rp dn 1 (a1G ((a.1.take v).map Vr.name)) En/\Rp dx 1 (a0x (List.range v)) Ex /\
   Hp s' ((s.next+1,[.str ((nd t K).word 0),.int .i64 (c:Int),.ag,.int .i64 2,.arr s.next 0 2 1,.ag,dn,dx])::(0,[.ag,.int .i64 0,.ag,.ag,.ag,.ag,.bool false])::(2,[d,.int .i64 (((W4 t).vs.length:Nat):Int),dc,dv,dp,ds,.bool (W4 t).dead])::(Ev++(Ep++(En++Ex)))) R2 /\
   (env.get 0=d/\env.get 2=.ptr 0 0/\env.get 5=.ptr 2 0/\env.get 8=.int .i64 (b.seen:Int)/\env.get 9=.int .i64 (i:Int)/\env.get 10=.ptr B0 0/\env.get 11=.int .i64 (c:Int)/\env.get 12=.ptr (s.next+1) 0/\env.get 13=.int .i64 (v:Int))) ?_ b.seen _ _ ?_
  rotate_left
  ·exact ⟨0,.ag,.ag,[],[],by omega,rfl,.inl ⟨rfl,rfl,rfl⟩,.inl ⟨rfl,rfl,rfl⟩,by simpa only [List.append_nil] using hW,by simp [q8.get,hE,a0f.at]⟩
  clear hE hW;rintro n env s' ⟨v,dn,dx,En,Ex,hv,rfl,rn,rx,hh,hE⟩;by_cases c3:v<b.seen
  rotate_left
  ·have iB:((v:Int)<(b.seen:Int))=False:=eq_false (by omega)
   obtain rfl:v=b.seen:=by omega
   try refine zW (aN hE iB) ?_
   exact ⟨trivial,dn,dx,En,Ex,rn,rx,hh,(rG hE)⟩
  have iB:((v:Int)<(b.seen:Int))=True:=eq_true (by omega);have hsv:IntKind.i64.wrap ((v:Int)+1)=((v+1:Nat):Int):=by rw [Z5 (by omega) (by omega)];omega
  have hP:=Hp.get (A:=[]) hh;have hM:=Hp.get (A:=[(s.next+1,_),(0,_)]) hh;have qN:=u7 hP;have mA:=u7 hM;have o5:=rn.one;have o6:=rx.one;have zt:v<a.1.length:=by omega
  obtain ⟨yN,rfl,rfl⟩:=rv.arr (by simp;omega);have hV:=hh.w (yN,(a1J a.1).flatten) (by simp);simp only at hV;have hVl:=u7 hV;have pD:=c2z zt;have nX:v<(a1J a.1).length:=by simpa using zt
  have hmn:2≠s.next+1:=by
   have:=hh.nd;simp only [List.map_cons,List.nodup_cons,List.mem_cons] at this;omega
  try refine zW (U5 hE iB hP hM hV o5 o6 (W6 op oc os od pD)) ?_
  refine a3S (Rp.app (row:=[.str a.1[v].name]) (A:=[(s.next+1,_),(0,_),(2,_)]++[(yN,(a1J a.1).flatten)]++Ep) (B:=Ex) rn (by simpa only [List.append_assoc,List.cons_append,List.nil_append] using (hh.push _)) (W2 rfl) rfl (a95 _) (by decide) (by simp;omega)) rfl rfl ?_;rintro d' s'' ⟨E',wY,hh',jH⟩;have lP:=wY.one;simp only [List.append_assoc,List.cons_append,List.nil_append] at hh';have uE:=Hp.get (A:=[]) hh';have xt:=u7 uE;have pc:=Hp.set (A:=[]) hh' [.str ((nd t K).word 0),.int .i64 (c:Int),.ag,.int .i64 2,.arr s.next 0 2 1,.ag,d',dx];try refine zW (V3 hE uE lP o6) ?_
  refine a3S (Rp.app (row:=[.int .i64 (v:Int)]) (A:=[(s.next+1,_),(0,_),(2,_)]++[(yN,(a1J a.1).flatten)]++Ep++E') (B:=[]) rx (by simpa only [List.append_assoc,List.cons_append,List.nil_append,List.append_nil] using (pc.push _)) (W2 rfl) rfl (a5L _) (by decide) (by simp;omega)) rfl rfl ?_;clear uE xt hh';rintro d2 s3 ⟨E2,wD,hh',hn''⟩;have yC:=wD.one;simp only [List.append_assoc,List.cons_append,List.nil_append,List.append_nil] at hh';have uE:=Hp.get (A:=[]) hh';have xt:=u7 uE;try refine zW (W6 hE uE lP yC hsv) ?_
  have yn:=Hp.set (A:=[]) hh' [.str ((nd t K).word 0),.int .i64 (c:Int),.ag,.int .i64 2,.arr s.next 0 2 1,.ag,d',d2];refine ⟨b.seen-(v+1),by omega,v+1,d',d2,E',E2,by omega,rfl,?_,?_,yn,(rG hE)⟩
  ·rw [c3H zt,<- b7d];exact wY
  ·rw [List.range_succ,<- b00];exact wD
 clear hE hW;rintro env s3 ⟨dn,dx,En,Ex,rn,rx,hh,hE⟩;simp only [a2x];have ju:=FI.len (hT.nd K2).k;have hkl2:=bkf.length;have kO:=b1u t (nd t K);rw [a20] at kO;try refine zW hE ?_
 refine a82 (P:=fun env s'=>∃ (dl dn dx dv:D) (El En Ex Ev:Hs),Rp dl 1 (a0x ((List.range (a0b t (nd t K))).map (a.1.length+·))) El/\Rp dn 1 (a1G ((a.1.take b.seen).map Vr.name++((a1i t (nd t K)).take (a0b t (nd t K))).map fun y=>y.word 0)) En/\Rp dx 1 (a0x (List.range b.seen++(List.range (a0b t (nd t K))).map (a.1.length+·))) Ex/\Rp dv 3 (a1J (a.1++((a1i t (nd t K)).take (a0b t (nd t K))).map a4K)) Ev /\
  Hp s' ((s.next+1,[.str ((nd t K).word 0),.int .i64 (c:Int),dl,.int .i64 2,.arr s.next 0 2 1,.ag,dn,dx])::(0,[.ag,.int .i64 0,.ag,.ag,.ag,.ag,.bool false])::(2,[d,.int .i64 (((W4 t).vs.length:Nat):Int),dc,dv,dp,ds,.bool (W4 t).dead])::(Ev++(Ep++(El++(En++Ex))))) R2 /\
  (env.get 0=d/\env.get 2=.ptr 0 0/\env.get 5=.ptr 2 0/\env.get 8=.int .i64 (b.seen:Int)/\env.get 9=.int .i64 (i:Int)/\env.get 10=.ptr B0 0/\env.get 11=.int .i64 (c:Int)/\env.get 12=.ptr (s.next+1) 0/\env.get 14=.int .i64 (((a0b t (nd t K)):Nat):Int))) ?_ ?_
 ·refine a1c (Q:=a0j 9 _) (fun n env s'=>∃ (k:Nat) (dl dn dx dv:D) (El En Ex Ev:Hs),k<=a0b t (nd t K)/\n=a0b t (nd t K)-k/\Rp dl 1 (a0x ((List.range k).map (a.1.length+·))) El/\Rp dn 1 (a1G ((a.1.take b.seen).map Vr.name++((a1i t (nd t K)).take k).map fun y=>y.word 0)) En/\Rp dx 1 (a0x (List.range b.seen++(List.range k).map (a.1.length+·))) Ex/\Rp dv 3 (a1J (a.1++((a1i t (nd t K)).take k).map a4K)) Ev /\
   Hp s' ((s.next+1,[.str ((nd t K).word 0),.int .i64 (c:Int),dl,.int .i64 2,.arr s.next 0 2 1,.ag,dn,dx])::(0,[.ag,.int .i64 0,.ag,.ag,.ag,.ag,.bool false])::(2,[d,.int .i64 (((W4 t).vs.length:Nat):Int),dc,dv,dp,ds,.bool (W4 t).dead])::(Ev++(Ep++(El++(En++Ex))))) R2 /\
   (env.get 0=d/\env.get 2=.ptr 0 0/\env.get 5=.ptr 2 0/\env.get 8=.int .i64 (b.seen:Int)/\env.get 9=.int .i64 (i:Int)/\env.get 10=.ptr B0 0/\env.get 11=.int .i64 (c:Int)/\env.get 12=.ptr (s.next+1) 0/\env.get 14=.int .i64 ((k:Nat):Int))) ?_ (a0b t (nd t K)) _ _ ?_
  rotate_left
  ·exact ⟨0,.ag,dn,dx,dv,[],En,Ex,Ev,by omega,rfl,.inl ⟨rfl,rfl,rfl⟩,by simpa using rn,by simpa using rx,by simpa using rv,hh,by simp [q8.get,hE]⟩
  clear hE hh rn rx rv ov;clear Ev dv dn dx En Ex;rintro n env s' ⟨k,dl,dn,dx,dv,El,En,Ex,Ev,hk,rfl,rl,rn,rx,rv,hh,hE⟩;have hB:=hh.r _ (lI _ kS);have uF:=u7 hB;simp only at hB uF;by_cases c3:k<a0b t (nd t K)
  rotate_left
  ·obtain rfl:k=a0b t (nd t K):=by omega
   by_cases c4:a0b t (nd t K)<(nd t K).kids.length
   ·have jf:((a0b t (nd t K):Int)<((nd t K).kids.length:Int))=True:=eq_true (by omega)
    have um:=a2H hT hR.ok K2 c4;have tL:=a1U c4;have hJ:=hR.ok.ks K2 _ tL;have tx:(nd t ((nd t K).aC (a0b t (nd t K)))).kind≠2:=by
     have h1:a0b t (nd t K)<(nd t K).ks.length:=by rw [a20];exact c4
     have:=b6T h1;rw [a7c h1] at this;exact this
    generalize (nd t K).aC (a0b t (nd t K))=J at *;have mV:=hT.at (z:=(J:Int)) (by omega) (by omega) (k:=.i64);rw [Int.toNat_natCast] at mV;have tz:((nd t J).kind==2)=false:=by rw [beq_eq_false_iff_ne];exact tx
    try refine zW (U5 hE hB ju jf um mV tz on) ?_
    exact ⟨trivial,dl,dn,dx,dv,El,En,Ex,Ev,rl,rn,rx,rv,hh,(rG hE)⟩
   ·have jf:((a0b t (nd t K):Int)<((nd t K).kids.length:Int))=False:=eq_false (by omega)
    try refine zW (W6 hE hB ju jf on) ?_
    exact ⟨trivial,dl,dn,dx,dv,El,En,Ex,Ev,rl,rn,rx,rv,hh,(rG hE)⟩
  have c4:k<(nd t K).kids.length:=by omega
  have jf:((k:Int)<((nd t K).kids.length:Int))=True:=eq_true (by omega);have um:=a2H hT hR.ok K2 c4;have tL:=a1U c4;have hJ:=hR.ok.ks K2 _ tL;have tx:(nd t ((nd t K).aC k)).kind=2:=by
   have h1:k<(nd t K).ks.length:=by rw [a20];exact c4
   have:=b1b c3 h1;rw [a7c h1] at this;exact this
  have jA:=c03 c3;generalize (nd t K).aC k=J at *;have mV:=hT.at (z:=(J:Int)) (by omega) (by omega) (k:=.i64);rw [Int.toNat_natCast] at mV;have tz:((nd t J).kind==2)=true:=by rw [tx];rfl
  have yT:=a2N hT hJ.2;have zp:=hR.ok.node J hJ.2;have vw:=a6g hT hJ.2 (i:=0);have yq:=a51 hT hJ.2 (i:=0);have yi:=a51 hT hJ.2 (i:=1);have e1:((1:Nat):Int)=1:=rfl;rw [zp.wl,z0,tx] at vw;rw [zp.nl,z0,tx] at yq;rw [zp.nl,e1,tx] at yi;have vw:=vw (by decide);have yq:=yq (by decide);have yi:=yi (by decide);have hsk:IntKind.i64.wrap ((k:Int)+1)=((k+1:Nat):Int):=by rw [Z5 (by omega) (by omega)];omega
  have hP:=Hp.get (A:=[]) hh;have hM:=Hp.get (A:=[(s.next+1,_),(0,_)]) hh;have qN:=u7 hP;have mA:=u7 hM;have ov:=rv.one;have jZ:=rv.len;have iC:((a1i t (nd t K)).take k).length=k:=by rw [List.length_take,a5S];omega
  rw [b2k,List.length_append,List.length_map,iC] at jZ;have o5:=rn.one;have o6:=rx.one;have o7:=rl.one;have hmn:2≠s.next+1:=by
   have:=hh.nd;simp only [List.map_cons,List.nodup_cons,List.mem_cons] at this;omega
  have AD:=hh.newR (.cells [.int .i64 0,.ag,.ag,.ag,.int .i64 0]) [.int .i64 (nd t J).kind,(nd t J).dw,(nd t J).dn,(nd t J).dk,.int .i64 (nd t J).pos];try refine zW (U5 hE hB ju jf um mV tz (U5 on yT hP hM o5 o6 o7 (Y6 od oc ov op os jZ))) ?_
  refine a3S (Rp.app (row:=[.int .i64 ((a.1.length+k:Nat):Int)]) (A:=[(s.next+1,_),(0,_),(2,_)]++Ev++Ep) (B:=En++Ex) rl (by simpa only [List.append_assoc,List.cons_append,List.nil_append,List.append_nil] using (AD.push _)) (W2 rfl) rfl (a5L _) (by decide) (by simp;omega)) rfl rfl ?_;rintro d1 s1 ⟨E1,AQ,pc,Ap⟩;clear hh AD hP qN hM mA;have zC:=AQ.one;simp only [List.append_assoc,List.cons_append,List.nil_append,List.append_nil] at pc;have hP:=Hp.get (A:=[]) pc;have qN:=u7 hP;have hX:=pc.r _ (List.mem_cons_self);have wZ:=u7 hX;simp only at hX wZ;have hPX:s.next+1≠s'.next:=pc.ap _ (List.mem_cons_self) _ (List.mem_cons_self);have yn:=Hp.set (A:=[]) pc [.str ((nd t K).word 0),.int .i64 (c:Int),d1,.int .i64 2,.arr s.next 0 2 1,.ag,dn,dx];try refine zW (U5 hE hP hX yT vw zC o5 o6) ?_
  refine a3S (Rp.app (row:=[.str ((nd t J).word 0)]) (A:=[(s.next+1,_),(0,_),(2,_)]++Ev++Ep++E1) (B:=Ex) rn (by simpa only [List.append_assoc,List.cons_append,List.nil_append,List.append_nil] using (yn.push _)) (W2 rfl) rfl (a95 _) (by decide) (by simp;omega)) rfl rfl ?_;rintro d2 s2 ⟨E2,wY,hh4,oU⟩;clear pc yn hP qN hX wZ;have yC:=wY.one;simp only [List.append_assoc,List.cons_append,List.nil_append,List.append_nil] at hh4;have hP:=Hp.get (A:=[]) hh4;have hM:=Hp.get (A:=[(s.next+1,_),(0,_)]) hh4;have qN:=u7 hP;have mA:=u7 hM;have uJ:=Hp.set (A:=[]) hh4 [.str ((nd t K).word 0),.int .i64 (c:Int),d1,.int .i64 2,.arr s.next 0 2 1,.ag,d2,dx];try refine zW (U5 hE hP hM zC yC o6 od (W6 oc ov op os jZ)) ?_
  refine a3S (Rp.app (row:=[.int .i64 ((a.1.length+k:Nat):Int)]) (A:=[(s.next+1,_),(0,_),(2,_)]++Ev++Ep++E1++E2) (B:=[]) rx (by simpa only [List.append_assoc,List.cons_append,List.nil_append,List.append_nil] using (uJ.push _)) (W2 rfl) rfl (a5L _) (by decide) (by simp;omega)) rfl rfl ?_;rintro d3 s3 ⟨E3,wD,tg,wS⟩;clear hh4 uJ hP qN hM mA;have od3:=wD.one;simp only [List.append_assoc,List.cons_append,List.nil_append,List.append_nil] at tg;have hP:=Hp.get (A:=[]) tg;have qN:=u7 hP;have yu:=Hp.set (A:=[]) tg [.str ((nd t K).word 0),.int .i64 (c:Int),d1,.int .i64 2,.arr s.next 0 2 1,.ag,d2,d3];have hM:=Hp.get (A:=[(s.next+1,_),(0,_)]) tg;have mA:=u7 hM;have hX:=tg.r _ (List.mem_cons_self);have wZ:=u7 hX;simp only at hX wZ;try refine zW (U5 hE hP hM hX yT vw yq (U5 yi zC yC od3 od oc ov (V5 op os jZ))) ?_
  refine a3S (Rp.app (row:=(a4K (nd t J)).row) (A:=[(s.next+1,_),(0,_),(2,_)]) (B:=Ep++(E1++(E2++E3))) rv (by simpa only [List.append_assoc,List.cons_append,List.nil_append,List.append_nil] using (yu.push _)) (W2 rfl) rfl (b1i _) (by decide) (by simp;omega)) rfl rfl ?_;rintro d4 s4 ⟨E4,vX,hh8,hn4⟩;clear tg yu hP qN hM mA hX wZ;have od4:=vX.one;simp only [List.append_assoc,List.cons_append,List.nil_append,List.append_nil] at hh8;have hM:=Hp.get (A:=[(s.next+1,_),(0,_)]) hh8;have mA:=u7 hM;have yr:=Hp.set (A:=[(s.next+1,_),(0,_)]) hh8 [d,.int .i64 (((W4 t).vs.length:Nat):Int),dc,d4,dp,ds,.bool (W4 t).dead];try refine zW (U5 hE hM od oc od4 op os hsk) ?_
  refine ⟨a0b t (nd t K)-(k+1),by omega,k+1,d1,d2,d3,d4,E1,E2,E3,E4,by omega,rfl,?_,?_,?_,?_,?_,(rG hE)⟩
  ·rw [b7f,<- b00];exact AQ
  ·rw [jA,List.map_append,<- List.append_assoc,List.map_singleton,<- b7d];exact wY
  ·rw [b7f,<- List.append_assoc,<- b00];exact wD
  ·rw [jA,List.map_append,<- List.append_assoc,List.map_singleton,<- b6o];exact vX
  ·exact yr.sub (List.Sublist.refl _) fun x hx=>by simp [hx]
 clear hE hh rn rx rv ov;clear Ev dv dn dx En Ex;rintro env s3 ⟨dl,dn,dx,dv,El,En,Ex,Ev,rl,rn,rx,rv,hh,hE⟩;have iC:(a1i t (nd t K)).take (a0b t (nd t K))=a1i t (nd t K):=by rw [<- a5S,List.take_length]
 rw [iC] at rn rv;have hB:=hh.r _ (lI _ kS);have uF:=u7 hB;simp only at hB uF;have xK:=hh.r _ jY;simp only at xK;have hP:=Hp.get (A:=[]) hh;have hM:=Hp.get (A:=[(s.next+1,_),(0,_)]) hh;have qN:=u7 hP;have mA:=u7 hM;have ov:=rv.one;have o5:=rn.one;have o6:=rx.one;have o7:=rl.one;obtain ⟨uv,kE,mL⟩:=FL.drop (hT.nd K2).k (n:=a0b t (nd t K)) (by simpa using kO) (k:=.i64);rw [<- List.map_drop] at mL;have mL:FI uv ((nd t K).kids.drop (a0b t (nd t K))):=mL;obtain ⟨b',lU,mF⟩:=bkf.drop (a0b t (nd t K));have iM:=(a5I 19 K2 bw).1;have uD:=b5D hR (hp rfl).1 (i:=i) (by rw [a20];exact c1) hkg q3 iM (seen:=b.seen) (c:=c) (vs:=a.1) (by rw [Ay,tk1]) (by omega);have oQ:=b0J (hD.proc q3);have oB:∀j,j<t.length->(K<=j/\j<bK)->∀k∈(nd t j).ks,K<=k/\k<bK:=fun j _ hj k hk=>by
  obtain ⟨z,hz,rfl⟩:=List.mem_map.1 hk;have:=iM.down j hj.1 hj.2 z hz;omega
 have xR:Y0 s3 (en (nd t K) c b.seen a.1 (a1i t (nd t K))) ⟨dl,.arr s.next 0 2 1,.ag,dn,dx⟩:=by
  refine ⟨?_,?_,.inl ⟨rfl,rfl⟩,?_,?_⟩
  ·show SN s3 1 dl (a0x ((List.range (a1i t (nd t K)).length).map (a.1.length+·)))
   rw [a5S];exact rl.sn fun x hx=>hh.w x (by simp [hx])
  ·exact SN.of (rows:=a0h [false,true]) xK rfl
  ·exact rn.sn fun x hx=>hh.w x (by simp [hx])
  ·show SN s3 1 dx (a0x (List.range b.seen++(List.range (a1i t (nd t K)).length).map (a.1.length+·)))
   rw [a5S];exact rx.sn fun x hx=>hh.w x (by simp [hx])
 have hmd:a2M s3 ⟨d,dc,dv,dp,ds,(((W4 t).vs.length:Nat):Int),(W4 t).dead⟩ t (W4 t).ch:=⟨hT,fc _ fun x hx=>hh.r x (lI x (sX x hx)),ov,op,os⟩
 have xY:=b4J (t:=t) (ch:=(W4 t).ch) (names:=(en (nd t K) c b.seen a.1 (a1i t (nd t K))).names) (vars:=(en (nd t K) c b.seen a.1 (a1i t (nd t K))).vars) (f:=t.length+1) (node:=K) _ uv b' bK mF mL (fun k hk=>by
  rw [List.map_drop] at hk;have jm:=oQ.1 k hk;have nV:=List.mem_of_mem_drop hk;have ju:=hR.ok.ks K2 k nV;have yy:=oB K K2 ⟨Nat.le_refl _,bl⟩ k nV;exact ⟨b7a hR.ok (by omega) (by simp [en];omega) oB uD (t.length+1) k ju.2 yy jm (by omega),a92 hR.ok oB uD (t.length+1) k ju.2 yy jm (by omega),b0Y hR.ok _ (t.length+1) k ju.2 jm (by omega)⟩)
  s3 _ _ _ 0 1 hmd xR ⟨by simp [en],by simp [en],by simp [en]⟩ rfl rfl (by simp [en]) (by simp [en]) 2 ⟨by simp [en],by simp [en],by simp [en]⟩ (by omega)
 simp only [a2x];repeat first
 |(refine b0h (o:=.slice _ _ _ _) (d:=uv) kE ?_)
 |refine zW (U5 hE hP hM hB on od oc (U5 ov op os o1 o2 o3 o5 (V3 o6 o7 h0 jJ))) ?_
 apply a03 xY
 ·rfl
 have hq:a5y (W7 t ((W4 t).ch.map Ch.name) (t.length+1)) K (en (nd t K) c b.seen a.1 (a1i t (nd t K))) (((nd t K).kids.drop (a0b t (nd t K))).map Int.toNat) 0 1=a69 t (bt t) K b.seen c a.1:=by
  unfold a69 Nd.ks;rw [List.map_drop];rfl
 rw [hq];clear xY hq;generalize a69 t (bt t) K b.seen c a.1=q at *;rintro r s9 ⟨x9,rfl,f9,iP,ke⟩;have yr:=hh.fr f9;have yd:=Hp.get (A:=[]) yr;have hPl9:=u7 yd;have jQ:=iP.az;have hp10:Y0 (s9.set (s.next+1) (some (.cells (U6 q x9)))) q x9:=iP.set yd;have xL:=Hp.set (A:=[]) yr (U6 q x9);obtain ⟨E,hE1,hE2,nI⟩:=hp10.parts;have uo:=(xL.sub (W':=(s.next+1,U6 q x9)::(0,[.ag,.int .i64 0,.ag,.ag,.ag,.ag,.bool false])::(2,[d,.int .i64 (((W4 t).vs.length:Nat):Int),dc,dv,dp,ds,.bool (W4 t).dead])::(Ev++Ep)) (R':=R2) (.cons_cons _ (.cons_cons _ (.cons_cons _ (List.Sublist.append_left (List.sublist_append_left _ _) _)))) fun _ hx=>hx).ei hE1 (by
  intro w hw x hx;have kE:=hE2 x hx;simp only [List.mem_cons,List.mem_append] at hw;rcases hw with rfl | rfl | rfl | hw | hw
  ·exact kE.ne_si
  ·exact kE.ne_nil
  ·exact kE.ne_box hT
  ·obtain ⟨a,k,n,rest,e⟩:=rv.si (c4Z _) w hw
   rw [e];exact kE.ne_si
  ·obtain ⟨a,k,n,rest,e⟩:=rp.si (c4e _) w hw
   rw [e];exact kE.ne_si)
 clear xL hP qN hM mA hh;have hM:=Hp.get (A:=[(s.next+1,_),(0,_)]) uo;unfold U6 at yd;have mA:=u7 hM;repeat first
  |with_reducible first|apply vA|apply vB|apply vC
  |((with_reducible apply vD);(focus rfl))
  |((with_reducible first|apply vE|apply vF|apply vG|apply vH);simp only [q8.aF,q8.get,q8.ev,List.map,Nat.reduceEqDiff,↓reduceIte,a2x,a0j])
  |((with_reducible first|apply vI|apply vJ|apply vK|apply vL|apply vM|apply vN);(focus (simp (disch:=(first|with_reducible assumption|omega|((repeat (first|rw [nP]|rw [nS]))<;>omega)|fail)) only [go_sem,q8.ev,q8.get,↓reduceIte,yd,hE,jQ,U6]<;>rfl));(first|(with_reducible (first|apply vO|apply vP|apply vQ|apply vR|apply vS|apply vT|apply vU);try simp only [q8.put])|with_reducible refine (?_:WQ _ _ _ _ _ _)))
  |fail
 refine a1k (Φ:=fun s'=>s'=s9.set (s.next+1) (some (.cells (U6 q x9)))) rfl ?_;rintro lG rfl;generalize s9.set (s.next+1) (some (.cells (U6 q x9)))=lG at *;have hP:=Hp.get (A:=[]) uo;unfold U6 at hP;try refine zW (U5 hE hP hM jQ od oc ov (aN op os)) ?_
 refine a3S (Rp.app (sz:=8) (bytes:=152) (row:=U6 q x9) (A:=[(s.next+1,_),(0,_),(2,_)]++Ev) (B:=[]) rp (by simpa only [List.append_assoc,List.cons_append,List.nil_append,List.append_nil] using (uo.push _)) (W2 rfl) rfl (b8c _) (by decide) (by simp;omega)) rfl rfl ?_;rintro d5 s5 ⟨E5,Be,hh12,uH⟩;have od5:=Be.one;simp only [List.append_assoc,List.cons_append,List.nil_append,List.append_nil] at hh12;have AR:=Hp.get (A:=[(s.next+1,_),(0,_)]) hh12;have hMl5:=u7 AR;have hh13:=Hp.set (A:=[(s.next+1,_),(0,_)]) hh12 [d,.int .i64 (((W4 t).vs.length:Nat):Int),dc,dv,d5,ds,.bool (W4 t).dead];try refine zW (U5 hE AR od5 od oc ov op (aN os mw)) ?_
 refine ⟨((nd t K).num 0).toNat-(c+1),by omega,c+1,dv,d5,Ev,E5,E++R2,ps++[(q,x9)],by omega,rfl,⟨by rw [wH];exact rv,by rw [<- c40];exact Be,by rw [hcn2,List.map_append,heqI];rfl,?_,fun x hx=>List.mem_append_right _ (lI x (sX x hx)),?_⟩,List.mem_append_right _ (lI _ kS),?_,?_,(rG hE)⟩
 ·intro y hy
  rcases List.mem_append.1 hy with hy | hy
  ·exact (hatI y hy).mono fun x hx=>List.mem_append_right _ (lI x hx)
  ·simp only [List.mem_singleton] at hy
   subst hy;exact nI.mono fun x hx=>List.mem_append_left _ hx
 ·exact hh13.sub (List.sublist_cons_self _ _) fun _ hx=>hx
 ·rw [wH];simp only [List.length_append,List.length_map,a5S];omega
 ·simp only [List.length_append,List.length_singleton];omega
theorem c1n {d:D} {t:List Nd} (hT:X8 d t) (hR:Y9 t) :
 X9 U8 29 [d] k4.empty fun r s'=>r=.aR [.agg [.ag,.int .i64 0,.ag,.ag,.ag,.ag,.bool false],.bool false]∨(a5h t/\a3m t/\∃m ps,r=.aR [.agg (Y5 m),.bool true]/\b0f s' m (a7X t) ps/\m.dp≠.bg 8 (a27 ps)):=(c0D hT hR).mono fun r s' h=>h.imp And.left id
def b8y (t:List Nd) (r:D):Prop:=r=.aR [.agg [.ag,.int .i64 0,.ag,.ag,.ag,.ag,.bool false],.bool false]∨∃m ps,r=.aR [.agg (Y5 m),.bool true]/\Y9 t/\a5h t/\a3m t/\Z0 m (a7X t) ps
theorem makeI {d:D} {t:List Nd} (hT:X8 d t) (hR:Y9 t):∃r s1 d',Ev U8 29 [d] k4.empty r s1/\V.aL s1.get 20 r=some d'/\b8y t d':=by
 obtain ⟨r,s1,h1,h2⟩:=c1n hT hR;rcases h2 with rfl | ⟨hS,hY,m,ps,rfl,hm,hn⟩
 ·exact ⟨_,s1,_,h1,rfl,.inl rfl⟩
 ·obtain ⟨m',oL,h3,h4⟩:=hm.du hn true
  exact ⟨_,s1,_,h1,h3,.inr ⟨m',oL,rfl,hR,hS,hY,h4⟩⟩
theorem c0y {i:Nat} (h:i<1000000000):IntKind.i64.wrap ((i:Int)+1)=((i+1:Nat):Int):=by rw [Z5 (by omega) (by omega)];omega
theorem doR {s:k4} {a b:Int} {op w:Nat} (iX:op<5) (lF:1<=w) (rY:w<=16) (ha:-65536<=a) (ha':a<=65536) (hb:-65536<=b) (mz:b<=65536) :
 Ev U8 92 [.int .i64 (op:Int),.int .i64 a,.int .i64 b,.int .i64 (w:Int)] s (.int .i64 (eF op a b w)) s:=by
 have hwn:(w:Int)=min (max (w:Int) 1) 16:=by omega
 have hT:∀x:Int,-9223372036854775808<=x->x<9223372036854775808->Ev U8 34 [.int .i64 x,.int .i64 (w:Int)] k4.empty (.int .i64 (W9 x w)) k4.empty:=fun x h1 h2=>b7x hwn ⟨h1,h2⟩
 refine b0B (vf:=vf92) rfl ?_;unfold vf92;refine zE ?_;have h3:op=0∨op=1∨op=2∨(3<=op):=by omega
 rcases h3 with h3 | h3 | h3 | h3
 ·have n0:((op:Int)==0)=true:=by rw [h3];rfl
  have n1:((op:Int)==1)=false:=by rw [h3];rfl
  have n2:((op:Int)==2)=false:=by rw [h3];rfl
  have hd:eF op a b w=W9 (a+b) w:=by rw [h3];rfl
  rw [hd];have e:=Z5 (n:=a+b) (by omega) (by omega);have hT:=hT (a+b) (by omega) (by omega);repeat first
  |(apply a4Q hT rfl;(focus (simp only [q8.aP,q8.ev,q8.get,Nat.reduceEqDiff,↓reduceIte];rfl));(focus rfl))
  |refine zW (V3 e n0 n1 n2) ?_
  exact ⟨.inr trivial,trivial,rR⟩
 ·have n0:((op:Int)==0)=false:=by rw [h3];rfl
  have n1:((op:Int)==1)=true:=by rw [h3];rfl
  have n2:((op:Int)==2)=false:=by rw [h3];rfl
  have hd:eF op a b w=W9 (a-b) w:=by rw [h3];rfl
  rw [hd];have e:=Z5 (n:=a-b) (by omega) (by omega);have hT:=hT (a-b) (by omega) (by omega);repeat first
  |(apply a4Q hT rfl;(focus (simp only [q8.aP,q8.ev,q8.get,Nat.reduceEqDiff,↓reduceIte];rfl));(focus rfl))
  |refine zW (V3 e n0 n1 n2) ?_
  exact ⟨.inr trivial,trivial,rR⟩
 ·have n0:((op:Int)==0)=false:=by rw [h3];rfl
  have n1:((op:Int)==1)=false:=by rw [h3];rfl
  have n2:((op:Int)==2)=true:=by rw [h3];rfl
  have hd:eF op a b w=W9 (a*b) w:=by rw [h3];rfl
  rw [hd];have hm:-4294967296<=a*b/\a*b<=4294967296:=by
   have h1:(a*b).natAbs<=65536*65536:=by
    rw [Int.natAbs_mul];exact Nat.mul_le_mul (by omega) (by omega)
   omega
  have e:=Z5 (n:=a*b) (by omega) (by omega);have hT:=hT (a*b) (by omega) (by omega);repeat first
  |(apply a4Q hT rfl;(focus (simp only [q8.aP,q8.ev,q8.get,Nat.reduceEqDiff,↓reduceIte];rfl));(focus rfl))
  |refine zW (V3 e n0 n1 n2) ?_
  exact ⟨.inr trivial,trivial,rR⟩
 ·have n0:((op:Int)==0)=false:=by simp;omega
  have n1:((op:Int)==1)=false:=by simp;omega
  have n2:((op:Int)==2)=false:=by simp;omega
  by_cases mY:b=0
  ·subst mY
   have hd:eF op a 0 w=0:=by
    match op,h3 with
    | 3,_=>rfl
    | n+4,_=>rfl
   rw [hd];try refine zW (V5 n0 n1 n2) ?_
   exact ⟨.inr trivial,trivial,rR⟩
  ·have c0:(b==0)=false:=by simpa using mY
   have mr:0<b.natAbs:=by omega
   try refine zW (V3 n0 n1 n2 c0) ?_
   refine WP.mono (Q:=fun e env s1=>e=.normal/\s1=s/\(env.get 0=.int .i64 (op:Int)/\env.get 1=.int .i64 a/\env.get 2=.int .i64 b/\env.get 3=.int .i64 (w:Int)/\env.get 9=.int .i64 (a.natAbs:Int)/\env.get 10=.int .i64 b)) ?_ ?_
   ·by_cases h:a<0
    ·have b1:(a<0)=True:=eq_true h
     have e1:IntKind.i64.wrap (0-a)=(a.natAbs:Int):=by rw [Z5 (by omega) (by omega)];omega
     try refine zW (aN b1 e1) ?_
     exact ⟨trivial,trivial,by simp [q8.get]⟩
    ·have b1:(a<0)=False:=eq_false h
     have e1:a=(a.natAbs:Int):=by omega
     try refine zW b1 ?_
     exact ⟨trivial,trivial,by simp [q8.get,<- e1]⟩
   rintro e env s1 ⟨rfl,rfl,hE⟩;simp only [a2x];try refine zW hE ?_
   refine WP.mono (Q:=fun e env s2=>e=.normal/\s2=s1/\(env.get 0=.int .i64 (op:Int)/\env.get 1=.int .i64 a/\env.get 2=.int .i64 b/\env.get 3=.int .i64 (w:Int)/\env.get 9=.int .i64 (a.natAbs:Int)/\env.get 10=.int .i64 (b.natAbs:Int))) ?_ ?_
   ·by_cases h:b<0
    ·have b1:(b<0)=True:=eq_true h
     have e1:IntKind.i64.wrap (0-b)=(b.natAbs:Int):=by rw [Z5 (by omega) (by omega)];omega
     try refine zW (V5 hE b1 e1) ?_
     exact ⟨trivial,trivial,by simp [q8.get,hE]⟩
    ·have b1:(b<0)=False:=eq_false h
     have e1:b=(b.natAbs:Int):=by omega
     try refine zW (aN hE b1) ?_
     exact ⟨trivial,trivial,by simp [q8.get,hE,<- e1]⟩
   clear hE;rintro e env s2 ⟨rfl,rfl,hE⟩;simp only [a2x];try refine zW hE ?_
   have mT:a.natAbs<=65536:=by omega
   have oH:b.natAbs<=65536:=by omega
   have ta:a.tdiv b=if (decide (a<0) != decide (b<0))=true then -((a.natAbs / b.natAbs:Nat):Int) else ((a.natAbs / b.natAbs:Nat):Int):=by
    have key:((a.natAbs / b.natAbs:Nat):Int)=((a.natAbs:Nat):Int).tdiv (b.natAbs:Nat):=rfl;rw [key];by_cases h1:a<0<;>by_cases h2:b<0
    ·rw [decide_eq_true h1,decide_eq_true h2,if_neg (by decide),Int.ofNat_natAbs_of_nonpos (by omega),Int.ofNat_natAbs_of_nonpos (by omega),Int.neg_tdiv,Int.tdiv_neg];omega
    ·rw [decide_eq_true h1,decide_eq_false h2,if_pos (by decide),Int.ofNat_natAbs_of_nonpos (by omega),Int.natAbs_of_nonneg (by omega),Int.neg_tdiv];omega
    ·rw [decide_eq_false h1,decide_eq_true h2,if_pos (by decide),Int.natAbs_of_nonneg (by omega),Int.ofNat_natAbs_of_nonpos (by omega),Int.tdiv_neg];omega
    ·rw [decide_eq_false h1,decide_eq_false h2,if_neg (by decide),Int.natAbs_of_nonneg (by omega),Int.natAbs_of_nonneg (by omega)]
   have tm:a.tmod b=if a<0 then -((a.natAbs % b.natAbs:Nat):Int) else ((a.natAbs % b.natAbs:Nat):Int):=by
    have key:((a.natAbs % b.natAbs:Nat):Int)=((a.natAbs:Nat):Int).tmod (b.natAbs:Nat):=rfl;have kb:∀x:Int,x.tmod (b.natAbs:Int)=x.tmod b:=fun x=>by
     rcases Int.natAbs_eq b with hb | hb
     ·rw [<- hb]
     ·have:x.tmod b=x.tmod (-b):=by rw [Int.tmod_neg]
      rw [this];congr 1;omega
    rw [key,kb];by_cases h1:a<0
    ·rw [if_pos h1,Int.ofNat_natAbs_of_nonpos (by omega),Int.neg_tmod];omega
    ·rw [if_neg h1,Int.natAbs_of_nonneg (by omega)]
   generalize a.natAbs=p at *;generalize b.natAbs=r at *;refine a1c (fun k env s3=>∃ (q t:Nat),p=q*r+t/\k=t/\s3=s2/\(env.get 0=.int .i64 (op:Int)/\env.get 1=.int .i64 a/\env.get 2=.int .i64 b/\env.get 3=.int .i64 (w:Int)/\env.get 10=.int .i64 (r:Int)/\env.get 11=.int .i64 (q:Int)/\env.get 12=.int .i64 (t:Int))) ?_ p _ _
    ⟨0,p,by omega,rfl,rfl,by simp [q8.get,hE]⟩
   clear hE;rintro k env s3 ⟨q,t,hp,rfl,rfl,hE⟩;have Aq:q<=p:=by
    have:q*1<=q*r:=Nat.mul_le_mul_left q mr;omega
   by_cases hc:r<=k
   ·have c1:((r:Int)<=(k:Int))=True:=eq_true (by omega)
    have e1:IntKind.i64.wrap ((k:Int)-(r:Int))=((k-r:Nat):Int):=by rw [Z5 (by omega) (by omega)];omega
    have e2:=c0y (i:=q) (by omega);try refine zW (V3 hE c1 e1 e2) ?_
    exact ⟨k-r,by omega,q+1,k-r,by rw [Nat.succ_mul];omega,rfl,trivial,(rG hE)⟩
   ·have c1:((r:Int)<=(k:Int))=False:=eq_false (by omega)
    have dq:p / r=q:=by
     rw [hp,Nat.mul_comm,Nat.mul_add_div mr,Nat.div_eq_of_lt (by omega),Nat.add_zero]
    have dm:p % r=k:=by
     rw [hp,Nat.mul_comm,Nat.mul_add_mod,Nat.mod_eq_of_lt (by omega)]
    rw [dq] at ta;rw [dm] at tm;have hop':op=3∨op=4:=by omega
    rcases hop' with rfl | rfl
    ·have hd:eF 3 a b w=W9 (a.tdiv b) w:=by simp only [eF];rw [if_neg mY]
     have n3:((3:Nat):Int)=3:=rfl;rw [hd];by_cases hx:(decide (a<0) != decide (b<0))=true
     ·rw [if_pos hx] at ta
      rw [ta];have e1:IntKind.i64.wrap (0-(q:Int))=-(q:Int):=by rw [Z5 (by omega) (by omega)];omega
      have pG:(!(decide (a<0)==decide (b<0)))=true:=hx;have hT:=hT (-(q:Int)) (by omega) (by omega);repeat first
      |(apply a4Q hT rfl;(focus (simp only [q8.aP,q8.ev,q8.get,Nat.reduceEqDiff,↓reduceIte,hE];rfl));(focus rfl))
      |refine zW (W6 hE c1 n3 pG e1) ?_
      exact ⟨.inr trivial,trivial,rR⟩
     ·rw [if_neg hx] at ta
      rw [ta];have pG:(!(decide (a<0)==decide (b<0)))=false:=by simpa using hx
      have hT:=hT (q:Int) (by omega) (by omega);repeat first
      |(apply a4Q hT rfl;(focus (simp only [q8.aP,q8.ev,q8.get,Nat.reduceEqDiff,↓reduceIte,hE];rfl));(focus rfl))
      |refine zW (V3 hE c1 n3 pG) ?_
      exact ⟨.inr trivial,trivial,rR⟩
    ·have hd:eF 4 a b w=W9 (a.tmod b) w:=by simp only [eF];rw [if_neg mY]
     have n3:(((4:Nat):Int)==3)=false:=rfl;rw [hd];by_cases hx:a<0
     ·rw [if_pos hx] at tm
      rw [tm];have e1:IntKind.i64.wrap (0-(k:Int))=-(k:Int):=by rw [Z5 (by omega) (by omega)];omega
      have pG:(a<0)=True:=eq_true hx;have hT:=hT (-(k:Int)) (by omega) (by omega);repeat first
      |(apply a4Q hT rfl;(focus (simp only [q8.aP,q8.ev,q8.get,Nat.reduceEqDiff,↓reduceIte,hE];rfl));(focus rfl))
      |refine zW (W6 hE c1 n3 pG e1) ?_
      exact ⟨.inr trivial,trivial,rR⟩
     ·rw [if_neg hx] at tm
      rw [tm];have pG:(a<0)=False:=eq_false hx;have hT:=hT (k:Int) (by omega) (by omega);repeat first
      |(apply a4Q hT rfl;(focus (simp only [q8.aP,q8.ev,q8.get,Nat.reduceEqDiff,↓reduceIte,hE];rfl));(focus rfl))
      |refine zW (V3 hE c1 n3 pG) ?_
      exact ⟨.inr trivial,trivial,rR⟩
theorem do8 {op:Nat} (iX:op<5) {a b:Int} (ha:I8 a) (hb:I8 b):eu 92 [.int .i64 (op:Int),.int .i64 a,.int .i64 b,.int .i64 8] (.int .i64 (eF op a b 8)):=by
 obtain ⟨a1,a2⟩:=ha;obtain ⟨b1,b2⟩:=hb;exact ⟨_,doR (w:=8) iX (by decide) (by decide) (by omega) (by omega) (by omega) (by omega)⟩
theorem one_ok {b:Bool}:eu 91 [.bool b] (.int .i64 (V4 b)):=by
 refine a5A ?_;cases b
 ·refine V9 (vf:=a8T) rfl ?_
  unfold a8T;refine zE ?_;try refine ct ?_
  exact ⟨.inr trivial,_,rR,rfl⟩
 ·refine V9 (vf:=a8T) rfl ?_
  unfold a8T;refine zE ?_;try refine ct ?_
  exact ⟨.inr trivial,_,rR,rfl⟩
theorem c0W {m:X6} {mo:Mo} {ps:List (Pr×X0)} (hm:Z0 m mo ps) (ho:Z8 mo) {p:Nat} (hp:p<mo.procs.length) {w:ByteArray}:eu 90 [.agg (Y5 m),.int .i64 (p:Int),.str w] (.int .i64 (a2K (a0Z mo.procs[p] w))):=by
 refine a5A ?_;have om:=hm.az;have jc:=ho.pr _ (List.getElem_mem hp);obtain ⟨x,hx,yw⟩:=hm.proc hp;have yw:=yw .i64;have ou:=hm.eo;have ox:=hx.az;have iI:=hx.lenN;have nt:=jc.nl;have lH:=ho.nv;have hsm:=jc.same;have p1:((0:Int)<=(p:Int))=True:=eq_true (by omega);have p2:((p:Int)<(mo.procs.length:Int))=True:=eq_true (by omega);generalize mo.procs[p]=P at *;unfold U6 at yw;unfold Y5;refine V9 (vf:=a8Z) rfl ?_;unfold a8Z;refine zE ?_;try refine zW (Y6 om ou yw ox p1 p2) ?_
 refine a1c (Q:=a0j 0 _) (fun n env s=>∃i:Nat,i<=P.names.length/\n=P.names.length-i/\s.get 1=some (.cells [.str P.name,.int .i64 (P.copy:Int),x.dl,.int .i64 (P.ah:Int),x.dr,x.de,x.dn,x.dv])/\(∀j (hj:j<P.names.length),j<i->P.names[j]≠w)/\(env.get 2=.str w/\env.get 7=.ptr 1 0/\env.get 8=.int .i64 (i:Int))) ?_ P.names.length _ _ ⟨0,by omega,rfl,rfl,fun j _ h=>by omega,by simp [q8.get,a0f.at];rfl⟩;rintro n env s ⟨i,hi,rfl,hg,gU,hE⟩;by_cases c3:i<P.names.length
 ·have iB:((i:Int)<(P.names.length:Int))=True:=eq_true (by omega)
  have mD:IntKind.i64.wrap ((i:Int)+1)=((i+1:Nat):Int):=by rw [Z5 (by omega) (by omega)];omega
  have gP:=FLS.idx hx.n c3 (k:=.i64);by_cases c4:P.names[i]=w
  ·have jf:decide (P.names[i]=w)=true:=by simp [c4]
   have tZ:i<P.vars.length:=by omega
   have ui:=FLN.idx hx.v tZ (k:=.i64);have e:a2K (a0Z P w)=(P.vars[i]:Int):=by
    unfold a0Z;rw [a7Q c3 c4 gU,if_pos c3];simp [a2K,List.getD,tZ]
   rw [e];try refine zW (U5 hE hg ox iI iB gP jf ui) ?_
   exact ⟨.inr trivial,_,rR,rfl⟩
  ·have jf:decide (P.names[i]=w)=false:=by simp [c4]
   try refine zW (U5 hE hg ox iI iB gP jf mD) ?_
   refine ⟨P.names.length-(i+1),by omega,i+1,by omega,rfl,hg,fun j hj hji=>?_,(rG hE)⟩;by_cases ej:j=i
   ·subst ej;exact c4
   ·exact gU j hj (by omega)
 ·have iB:((i:Int)<(P.names.length:Int))=False:=eq_false (by omega)
  have e:a2K (a0Z P w)=-1:=by
   unfold a0Z;rw [if_neg (a7N fun j hj=>gU j hj (by omega))];rfl
  rw [e];try refine zW (W6 hE hg ox iI iB) ?_
  exact ⟨.inr trivial,_,rR,rfl⟩
theorem c3F {m:X6} {mo:Mo} {ps:List (Pr×X0)} (hm:Z0 m mo ps) (ho:Z8 mo) {w:ByteArray}:eu 90 [.agg (Y5 m),.int .i64 (-1),.str w] (.int .i64 (a2K (a1j mo w))):=by
 refine a5A ?_;have om:=hm.az;have lH:=ho.nv;have lj:=ho.gl;have ve:=hm.g;unfold Y5;rw [ve];have kO:((mo.vars.take mo.globals).map Vr.name).length=mo.globals:=by simp;omega
 refine V9 (vf:=a8Z) rfl ?_;unfold a8Z;refine zE ?_;try refine zW om ?_
 refine a1c (Q:=a0j 2 _) (fun n env s=>∃i:Nat,i<=mo.globals/\n=mo.globals-i/\s.get 0=some (.cells [m.dt,.int .i64 (mo.globals:Int),m.dc,m.dv,m.dp,m.ds,.bool m.b])/\(∀j (hj:j<mo.vars.length),j<i->mo.vars[j].name≠w)/\(env.get 2=.str w/\env.get 3=.ptr 0 0/\env.get 9=.int .i64 (i:Int))) ?_ mo.globals _ _ ⟨0,by omega,rfl,rfl,fun j _ h=>by omega,by simp [q8.get,a0f.at];rfl⟩;rintro n env s ⟨i,hi,rfl,hg,gU,hE⟩;by_cases c3:i<mo.globals
 ·have iB:((i:Int)<(mo.globals:Int))=True:=eq_true (by omega)
  have mD:IntKind.i64.wrap ((i:Int)+1)=((i+1:Nat):Int):=by rw [Z5 (by omega) (by omega)];omega
  have zj:i<mo.vars.length:=by omega
  have gP:=FLV.idx hm.v zj (k:=.i64);unfold Vr.row at gP;by_cases c4:mo.vars[i].name=w
  ·have jf:decide (mo.vars[i].name=w)=true:=by simp [c4]
   have e:a2K (a1j mo w)=(i:Int):=by
    unfold a1j;have rV:i<((mo.vars.take mo.globals).map Vr.name).length:=by omega
    rw [a7Q rV (by simpa using c4) (fun j hj hji=>by simpa using gU j (by simp at hj;omega) hji),if_pos c3];rfl
   rw [e];try refine zW (Y6 hE hg om iB gP jf) ?_
   exact ⟨.inr trivial,_,rR,rfl⟩
  ·have jf:decide (mo.vars[i].name=w)=false:=by simp [c4]
   try refine zW (Y3 hE hg om iB gP jf mD) ?_
   refine ⟨mo.globals-(i+1),by omega,i+1,by omega,rfl,hg,fun j hj hji=>?_,(rG hE)⟩;by_cases ej:j=i
   ·subst ej;exact c4
   ·exact gU j hj (by omega)
 ·have iB:((i:Int)<(mo.globals:Int))=False:=eq_false (by omega)
  have e:a2K (a1j mo w)=-1:=by
   unfold a1j;have:=a7N (l:=(mo.vars.take mo.globals).map Vr.name) (w:=w) (fun j hj=>by simpa using gU j (by simp at hj;omega) (by simp at hj;omega));rw [kO] at this;rw [if_neg this];rfl
  rw [e];try refine zW (V3 hE hg om iB) ?_
  exact ⟨.inr trivial,_,rR,rfl⟩
theorem c2m:∃s',Ev U8 5 [] k4.empty (.bool true) s':=c1p (n:=400) (by kernel_rfl)
end Go.Proofs.YtigbmclkjknnjaaGreat
