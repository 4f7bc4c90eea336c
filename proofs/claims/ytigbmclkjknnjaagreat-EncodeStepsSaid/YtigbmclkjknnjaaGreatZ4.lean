/- Texts one behind the other. -/
import Derived.Test.YtigbmclkjknnjaaGreatZ3
import Derived.Test.YtigbmclkjknnjaaGreatVt
set_option linter.all false
set_option maxRecDepth 100000
set_option maxHeartbeats 8000000
namespace Go.Proofs.YtigbmclkjknnjaaGreat
open Go.V
variable{i:Nat}{m:Int}
theorem a52{x:Nd}(h:i<x.aI.length)(ha:∀n∈x.aI,0<=n/\n<=m):0<=x.num i/\x.num i<=m:=by
 grind[a8h,List.getElem_mem]
variable{t:List Nd}
theorem c1C{x:Nd}{a b:Int}(h:∀i,0<=i->i<x.kids.length->a<=(nd t (x.aE i)).kind/\(nd t (x.aE i)).kind<=b):∀k∈x.ks,a<=(nd t k).kind/\(nd t k).kind<=b:=by
 intro k hk;obtain⟨i,hi,rfl⟩:=FQ hk;simp_all[a77,Nd.ks]
theorem ks_16{x:Nd}(h:∀i,i<x.kids.length->(nd t (x.aE i)).kind=16):∀k∈x.ks,(nd t k).kind=16:=by
 intro k hk;obtain⟨i,hi,rfl⟩:=FQ hk;grind[a77,Nd.ks]
theorem c4u{x:Nd}{v:Nat}(h:∀i,i<v->(nd t (x.aE i)).kind=2):∀k∈x.ks.take v,(nd t k).kind=2:=by
 intro k hk;obtain⟨i,hi,rfl⟩:=FQ hk;have h1:i<v/\i<x.kids.length:=by
  rw[GO,a4H]at hi;omega
 grind[a77,Nd.ks]
theorem c7P{x:Nd}{v:Nat}(h:∀i,v<=i->i<x.kids.length->6<=(nd t (x.aE i)).kind/\(nd t (x.aE i)).kind<=15):∀k∈x.ks.drop v,a5M (nd t k).kind:=by
 intro k hk;obtain⟨i,hi,rfl⟩:=FQ hk;simp_all[a77,Nd.ks,a5M]
variable{d:D}
theorem c3j{x:Nd}(hT:Z0 d t)(hx:x.Ok)(hk:a17 t x):a0E 68 [d,.agg x.row] λb=>b=true->b2W t x:=by
 by_cases hr:x.kind<0\/22<x.kind
 .obtain⟨b,h,rfl⟩:=node_x hT hx hr
  exact⟨false,h,sJ⟩
 have cs:x.kind=0\/x.kind=1\/x.kind=2\/x.kind=3\/x.kind=4\/x.kind=5\/x.kind=6\/x.kind=7\/x.kind=8\/x.kind=9\/x.kind=10\/x.kind=11\/x.kind=12\/x.kind=13\/x.kind=14\/x.kind=15\/x.kind=16\/x.kind=17\/x.kind=18\/x.kind=19\/x.kind=20\/x.kind=21\/x.kind=22:=oJ;rcases cs with hK|hK|hK|hK|hK|hK|hK|hK|hK|hK|hK|hK|hK|hK|hK|hK|hK|hK|hK|hK|hK|hK|hK
 .obtain⟨b,h,p⟩:=node_0 hT hx hk hK
  refine⟨b,h,λhb=>?_⟩;obtain⟨w,n,r⟩:=p hb;exact⟨oJ,by rw[hK,show a2p 0=0 from rfl];omega,by rw[hK,show a2q 0=0 from rfl];omega,λ_=>c1C r,fJ,fJ,fJ,fJ,fJ,fJ,fJ,fJ,fJ,fJ,fJ,fJ,fJ,fJ⟩
 .obtain⟨b,h,p⟩:=node_1 hT hx hk hK
  refine⟨b,h,λhb=>?_⟩;obtain⟨w,n,r⟩:=p hb;exact⟨oJ,by rw[hK,show a2p 1=1 from rfl];omega,by rw[hK,show a2q 1=4 from rfl];omega,fJ,λ_=>⟨(a52 oJ n.2).1,(a52 oJ n.2).1,(a52 oJ n.2).1,r.1,(a52 oJ n.2).1,r.2.1⟩,fJ,fJ,fJ,fJ,λ_=>r.2.2,fJ,fJ,fJ,fJ,fJ,fJ,fJ,fJ⟩
 .obtain⟨b,h,p⟩:=node_2 hT hx hk hK
  refine⟨b,h,λhb=>?_⟩;obtain⟨w,n,r⟩:=p hb;exact⟨oJ,by rw[hK,show a2p 2=1 from rfl];omega,by rw[hK,show a2q 2=2 from rfl];omega,fJ,fJ,λ_=>⟨r.1,r.2.1⟩,fJ,fJ,fJ,λ_=>r.2.2,fJ,fJ,fJ,fJ,fJ,fJ,fJ,fJ⟩
 .obtain⟨b,h,p⟩:=node_3 hT hx hk hK
  refine⟨b,h,λhb=>?_⟩;obtain⟨w,n,r⟩:=p hb;exact⟨oJ,by rw[hK,show a2p 3=1 from rfl];omega,by rw[hK,show a2q 3=1 from rfl];omega,fJ,fJ,fJ,λ_=>by obtain⟨v,v1,v2,v3⟩:=r;exact⟨v,by grind[a4H],c4u v2,c7P v3⟩,λ_=>a52 oJ n.2,fJ,fJ,fJ,fJ,fJ,fJ,fJ,fJ,fJ,fJ⟩
 .obtain⟨b,h,p⟩:=node_4 hT hx hk hK
  refine⟨b,h,λhb=>?_⟩;obtain⟨w,n,r⟩:=p hb;exact⟨oJ,by rw[hK,show a2p 4=0 from rfl];omega,by rw[hK,show a2q 4=0 from rfl];omega,fJ,fJ,fJ,fJ,fJ,λ_=>⟨oJ,(r.2.2 0 oJ).1 oJ⟩,fJ,fJ,fJ,fJ,fJ,fJ,fJ,fJ,fJ⟩
 .obtain⟨b,h,p⟩:=node_5 hT hx hk hK
  refine⟨b,h,λhb=>?_⟩;obtain⟨w,n,r⟩:=p hb;exact⟨oJ,by rw[hK,show a2p 5=0 from rfl];omega,by rw[hK,show a2q 5=0 from rfl];omega,fJ,fJ,fJ,fJ,fJ,fJ,λ_=>r,fJ,fJ,fJ,fJ,fJ,fJ,fJ,fJ⟩
 .obtain⟨b,h,p⟩:=node_6 hT hx hk hK
  refine⟨b,h,λhb=>?_⟩;obtain⟨w,n,r⟩:=p hb;exact⟨oJ,by rw[hK,show a2p 6=1 from rfl];omega,by rw[hK,show a2q 6=0 from rfl];omega,fJ,fJ,fJ,fJ,fJ,λ_=>⟨oJ,(r.2.2 0 oJ).1 oJ⟩,fJ,fJ,fJ,fJ,fJ,fJ,fJ,fJ,fJ⟩
 .obtain⟨b,h,p⟩:=node_7 hT hx hk hK
  refine⟨b,h,λhb=>?_⟩;obtain⟨w,n,r⟩:=p hb;exact⟨oJ,by rw[hK,show a2p 7=1 from rfl];omega,by rw[hK,show a2q 7=0 from rfl];omega,fJ,fJ,fJ,fJ,fJ,λ_=>⟨oJ,(r.2.2 0 oJ).1 oJ⟩,fJ,fJ,fJ,fJ,fJ,fJ,fJ,fJ,fJ⟩
 .obtain⟨b,h,p⟩:=node_8 hT hx hk hK
  refine⟨b,h,λhb=>?_⟩;obtain⟨w,n,r⟩:=p hb;exact⟨oJ,by rw[hK,show a2p 8=2 from rfl];omega,by rw[hK,show a2q 8=1 from rfl];omega,fJ,fJ,fJ,fJ,fJ,fJ,λ_=>r,fJ,fJ,fJ,fJ,fJ,fJ,λ_=>a52 oJ n.2,fJ⟩
 .obtain⟨b,h,p⟩:=node_9 hT hx hk hK
  refine⟨b,h,λhb=>?_⟩;obtain⟨w,n,r⟩:=p hb;exact⟨oJ,by rw[hK,show a2p 9=0 from rfl];omega,by rw[hK,show a2q 9=1 from rfl];omega,fJ,fJ,fJ,fJ,fJ,λ_=>⟨oJ,(r.2.2 0 oJ).1 oJ⟩,fJ,fJ,fJ,fJ,fJ,fJ,fJ,λ_=>a52 oJ n.2,fJ⟩
 .obtain⟨b,h,p⟩:=c4e hT hx hk hK
  refine⟨b,h,λhb=>?_⟩;obtain⟨w,n,r⟩:=p hb;exact⟨oJ,by rw[hK,show a2p 10=0 from rfl];omega,by rw[hK,show a2q 10=1 from rfl];omega,fJ,fJ,fJ,fJ,fJ,fJ,fJ,λ_=>⟨oJ,ks_16 λi hi=>(r.2.2 i hi).2 oJ⟩,fJ,fJ,fJ,fJ,fJ,λ_=>a52 oJ n.2,fJ⟩
 .obtain⟨b,h,p⟩:=c6P hT hx hk hK
  refine⟨b,h,λhb=>?_⟩;obtain⟨w,n,r⟩:=p hb;exact⟨oJ,by rw[hK,show a2p 11=0 from rfl];omega,by rw[hK,show a2q 11=0 from rfl];omega,fJ,fJ,fJ,fJ,fJ,fJ,fJ,fJ,λ_=>⟨oJ,(r.2.2 0 oJ).1 oJ,(r.2.2 1 oJ).2 oJ,λh3=>(r.2.2 2 oJ).2 oJ⟩,fJ,fJ,fJ,fJ,fJ,fJ⟩
 .obtain⟨b,h,p⟩:=c2L hT hx hk hK
  refine⟨b,h,λhb=>?_⟩;obtain⟨w,n,r⟩:=p hb;exact⟨oJ,by rw[hK,show a2p 12=0 from rfl];omega,by rw[hK,show a2q 12=0 from rfl];omega,fJ,fJ,fJ,fJ,fJ,fJ,fJ,fJ,fJ,λ_=>⟨oJ,(r.2.2 0 oJ).1 oJ,(r.2.2 1 oJ).2 oJ⟩,fJ,fJ,fJ,fJ,fJ⟩
 .obtain⟨b,h,p⟩:=c6e hT hx hk hK
  refine⟨b,h,λhb=>?_⟩;obtain⟨w,n,r⟩:=p hb;exact⟨oJ,by rw[hK,show a2p 13=0 from rfl];omega,by rw[hK,show a2q 13=0 from rfl];omega,fJ,fJ,fJ,fJ,fJ,fJ,fJ,fJ,fJ,fJ,λ_=>⟨oJ,(r.2.2 0 oJ).2 oJ⟩,fJ,fJ,fJ,fJ⟩
 .obtain⟨b,h,p⟩:=c5s hT hx hk hK
  refine⟨b,h,λhb=>?_⟩;obtain⟨w,n,r⟩:=p hb;exact⟨oJ,by rw[hK,show a2p 14=0 from rfl];omega,by rw[hK,show a2q 14=0 from rfl];omega,fJ,fJ,fJ,fJ,fJ,fJ,λ_=>r,fJ,fJ,fJ,fJ,fJ,fJ,fJ,fJ⟩
 .obtain⟨b,h,p⟩:=c4d hT hx hk hK
  refine⟨b,h,λhb=>?_⟩;obtain⟨w,n,r⟩:=p hb;exact⟨oJ,by rw[hK,show a2p 15=0 from rfl];omega,by rw[hK,show a2q 15=0 from rfl];omega,fJ,fJ,fJ,fJ,fJ,fJ,λ_=>r,fJ,fJ,fJ,fJ,fJ,fJ,fJ,fJ⟩
 .obtain⟨b,h,p⟩:=c4h hT hx hk hK
  refine⟨b,h,λhb=>?_⟩;obtain⟨w,n,r⟩:=p hb;exact⟨oJ,by rw[hK,show a2p 16=0 from rfl];omega,by rw[hK,show a2q 16=0 from rfl];omega,fJ,fJ,fJ,fJ,fJ,fJ,fJ,fJ,fJ,fJ,fJ,λ_=>c1C r,fJ,fJ,fJ⟩
 .obtain⟨b,h,p⟩:=c6Q hT hx hk hK
  refine⟨b,h,λhb=>?_⟩;obtain⟨w,n,r⟩:=p hb;exact⟨oJ,by rw[hK,show a2p 17=0 from rfl];omega,by rw[hK,show a2q 17=1 from rfl];omega,fJ,fJ,fJ,fJ,fJ,fJ,λ_=>r,fJ,fJ,fJ,fJ,fJ,fJ,fJ,λ_=>a52 oJ n.2⟩
 .obtain⟨b,h,p⟩:=c7f hT hx hk hK
  refine⟨b,h,λhb=>?_⟩;obtain⟨w,n,r⟩:=p hb;exact⟨oJ,by rw[hK,show a2p 18=1 from rfl];omega,by rw[hK,show a2q 18=0 from rfl];omega,fJ,fJ,fJ,fJ,fJ,fJ,λ_=>r,fJ,fJ,fJ,fJ,fJ,fJ,fJ,fJ⟩
 .obtain⟨b,h,p⟩:=c4x hT hx hk hK
  refine⟨b,h,λhb=>?_⟩;obtain⟨w,n,r⟩:=p hb;exact⟨oJ,by rw[hK,show a2p 19=1 from rfl];omega,by rw[hK,show a2q 19=0 from rfl];omega,fJ,fJ,fJ,fJ,fJ,fJ,λ_=>r,fJ,fJ,fJ,fJ,fJ,fJ,fJ,fJ⟩
 .obtain⟨b,h,p⟩:=c9b hT hx hk hK
  refine⟨b,h,λhb=>?_⟩;obtain⟨w,n,r⟩:=p hb;exact⟨oJ,by rw[hK,show a2p 20=0 from rfl];omega,by rw[hK,show a2q 20=0 from rfl];omega,fJ,fJ,fJ,fJ,fJ,λ_=>⟨oJ,(r.2.2 0 oJ).1 oJ⟩,fJ,fJ,fJ,fJ,fJ,fJ,fJ,fJ,fJ⟩
 .obtain⟨b,h,p⟩:=c2t hT hx hk hK
  refine⟨b,h,λhb=>?_⟩;obtain⟨w,n,r⟩:=p hb;exact⟨oJ,by rw[hK,show a2p 21=0 from rfl];omega,by rw[hK,show a2q 21=0 from rfl];omega,fJ,fJ,fJ,fJ,fJ,λ_=>⟨oJ,(r.2.2 0 oJ).1 oJ⟩,fJ,fJ,fJ,fJ,fJ,fJ,fJ,fJ,fJ⟩
 .obtain⟨b,h,p⟩:=c77 hT hx hk hK
  refine⟨b,h,λhb=>?_⟩;obtain⟨w,n,r⟩:=p hb;exact⟨oJ,by rw[hK,show a2p 22=0 from rfl];omega,by rw[hK,show a2q 22=1 from rfl];omega,fJ,fJ,fJ,fJ,fJ,fJ,fJ,fJ,fJ,fJ,fJ,fJ,λ_=>⟨oJ,(r.2.2 0 oJ).1 oJ,(r.2.2 1 oJ).1 oJ,(a52 oJ n.2).1,(a52 oJ n.2).2⟩,fJ,fJ⟩
theorem b9n{d:D}{t:List Nd}(hT:Z0 d t)(hl:t.length<=800):∀(f i:Nat),f<=20->i<t.length->eT 67 [d,.int .i64 (i:Int),.int .i64 ((21-f:Nat):Int)] (.aT [.int .i64 ((a0z t f i).1:Int),.bool (a0z t f i).2])
 |0,i,_,hi=>by
  refine a56 ?_;have e:(((21-0:Nat)):Int)=21:=rfl;rw[e];refine W4 (vf:=b0M) rfl ?_;unfold b0M;refine zE ?_;try refine cR ?_
  exact⟨.inr trivial,_,rR,rfl⟩
 |f+1,i,hf,hi=>by
  refine a56 ?_;have iM:=hT.at (z:=(i:Int)) oJ oJ (k:=.i64);rw[an]at iM;have hx:=hT.nd hi;have o1:=FL.one hx.w;have o2:=FL.one hx.n;have o3:=FL.one hx.k;have kT:=FI.len hx.k;have hlen:=hT.len;have e1:((20:Int)<((21-(f+1):Nat):Int))=False:=FH oJ;have e2:IntKind.i64.wrap ((i:Int)+1)=((i+1:Nat):Int):=by rw[Z9 oJ oJ];omega
  have e3:IntKind.i64.wrap (((21-(f+1):Nat):Int)+1)=((21-f:Nat):Int):=by rw[Z9 oJ oJ];omega
  have key:∀(n:Nat)(P:Nat×Bool),a0z t (f+1) i=P->True:=λ_ _ _=>trivial
  refine W4 (vf:=b0M) rfl ?_;unfold b0M;refine zE ?_;try refine zW (aN e1 e2) ?_
  refine a1l (Q:=a0u 0 _) (λn env s=>∃j next:Nat,j<=(nd t i).kids.length/\n=(nd t i).kids.length-j/\next<=t.length/\a0z t (f+1) i=a5L (a0z t f) t.length ((nd t i).kids.drop j) next/\(env.get 0=d/\env.get 1=.int .i64 (i:Int)/\env.get 2=.int .i64 ((21-(f+1):Nat):Int)/\env.get 8=.int .i64 (next:Int)/\env.get 9=.int .i64 (j:Int))) ?_ (nd t i).kids.length _ _ ⟨0,i+1,oJ,rfl,oJ,rfl,by simp[k6.get]⟩;rintro n env s ⟨j,next,hj,rfl,hn,hw,hE⟩;by_cases c1:j<(nd t i).kids.length
  .have iU:((j:Int)<((nd t i).kids.length:Int))=True:=FR oJ
   have kK:=FI.idx hx.k c1 (k:=.i64);have hs:=a5K c1 hx.kl;rw[GS c1]at hw;unfold a5L at hw;by_cases c2:(nd t i).kids[j]=(next:Int)
   .have km:((nd t i).kids[j] != (next:Int))=false:=by rw[c2];simp
    by_cases c3:next<t.length
    .have jm:((t.length:Int)<=(next:Int))=False:=FH oJ
     rw[so oJ]at hw;have pL:=b9n hT hl f next oJ c3;obtain⟨s1,pL⟩:=pL;have nU:=c0Q f c3;cases hb:(a0z t f next).2
     .rw[hb]at pL hw
      rw[so sJ]at hw;repeat first
      |(refine a5Y (l:=[d,.int .i64 (next:Int),.int .i64 ((21-f:Nat):Int)]) ?_ (Y6 hT.fz U2 U2) pL rfl rfl ?_;(focus(simp only[k6.aR,k6.ev,k6.get,Nat.reduceEqDiff,↓reduceIte,hE])))
      |refine zW (U0 hE e1 iM o1 o2 o3 kT (X4 hlen iU kK km jm e3)) ?_
      exact⟨.inr trivial,_,rR,by rw[hw]⟩
     .rw[hb]at pL hw
      rw[Fk rfl]at hw;repeat first
      |(refine a5Y (l:=[d,.int .i64 (next:Int),.int .i64 ((21-f:Nat):Int)]) ?_ (Y6 hT.fz U2 U2) pL rfl rfl ?_;(focus(simp only[k6.aR,k6.ev,k6.get,Nat.reduceEqDiff,↓reduceIte,hE])))
      |refine zW (U0 hE e1 iM o1 o2 o3 kT (X0 hlen iU kK km jm e3 hs)) ?_
      exact⟨(nd t i).kids.length-(j+1),oJ,j+1,(a0z t f next).1,oJ,rfl,nU,hw,(rG hE)⟩
    .have jm:((t.length:Int)<=(next:Int))=True:=FR oJ
     rw[Fk oJ]at hw;try refine zW (U0 hE e1 iM o1 o2 o3 kT (W0 hlen iU kK km jm)) ?_
     exact⟨.inr trivial,_,rR,by rw[hw]⟩
   .have km:((nd t i).kids[j] != (next:Int))=true:=by rw[Hm];exact c2
    rw[Fk oJ]at hw;try refine zW (U0 hE e1 iM o1 o2 o3 kT (V1 hlen iU kK km)) ?_
    exact⟨.inr trivial,_,rR,by rw[hw]⟩
  .have iU:((j:Int)<((nd t i).kids.length:Int))=False:=FH oJ
   rw[HG oJ]at hw;try refine zW (U0 hE e1 iM o1 o2 o3 kT (aN hlen iU)) ?_
   exact⟨.inr trivial,_,rR,by rw[hw];rfl⟩
theorem c5g(hT:Z0 d t):a0E 30 [d] λ_=>True:=by
 refine a0N ?_;have hlen:=hT.len;refine W4 (vf:=vf30) rfl ?_;unfold vf30;refine zE ?_;try refine zW hlen ?_
 refine a1l (Q:=a0u 0 _) (λn env s=>∃(i:Nat)(m:Int),i<=t.length/\n=t.length-i/\(env.get 0=d/\env.get 3=.int .i64 m/\env.get 4=.int .i64 (i:Int))) ?_ t.length _ _ ⟨0,_,oJ,rfl,by simp[k6.get];rfl⟩;rintro n env s ⟨i,m,hi,rfl,hE⟩;by_cases c1:i<t.length
 .have iU:((i:Int)<(t.length:Int))=True:=FR oJ
  have hs:=a5K c1 hT.le;have iM:=hT.at (z:=(i:Int)) oJ oJ (k:=.i64);rw[an]at iM;have hx:=hT.nd c1;have o1:=FL.one hx.w;have o2:=FL.one hx.n;have o3:=FL.one hx.k;have l1:=FS.len hx.w;have l2:=FI.len hx.n;have l3:=FI.len hx.k;by_cases c2:m<=1500
  .try refine zW (U0 hE hlen iU c2 iM o1 o2 (W0 o3 l1 l2 l3 hs)) ?_
   exact⟨t.length-(i+1),oJ,i+1,_,oJ,rfl,by simp only[k6.get,Nat.reduceEqDiff,↓reduceIte,hE,HN,true_and,and_true];rfl⟩
  .try refine zW (V1 hE hlen iU c2) ?_
   exact⟨.inr trivial,_,rR,_,rfl,trivial⟩
 .have iU:((i:Int)<(t.length:Int))=False:=FH oJ
  try refine zW (V4 hE hlen iU) ?_
  exact⟨.inr trivial,_,rR,_,rfl,trivial⟩
theorem c4t(hT:Z0 d t):a0E 31 [d] λb=>b=true->Y9 t:=by
 refine a0N ?_;have hlen:=hT.len;by_cases c1:t.length=0
 .have iU:((t.length:Int)==0)=true:=by rw[c1];rfl
  refine W4 (vf:=a5o) rfl ?_;unfold a5o;refine zE ?_;try refine zW (aN hlen iU) ?_
  exact⟨.inr trivial,_,rR,_,rfl,sJ⟩
 have iU:((t.length:Int)==0)=false:=by rw[FA];omega
 by_cases c2:800<t.length
 .have km:((800:Int)<(t.length:Int))=True:=FR oJ
  refine W4 (vf:=a5o) rfl ?_;unfold a5o;refine zE ?_;try refine zW (V4 hlen iU km) ?_
  exact⟨.inr trivial,_,rR,_,rfl,sJ⟩
 have km:((800:Int)<(t.length:Int))=False:=FH oJ;have h0:=hT.at (z:=0) oJ oJ (k:=.i64);have x0:=hT.nd (i:=0) oJ;have z0:(0:Int).toNat=0:=rfl;rw[z0]at h0;have o1:=FL.one x0.w;have o2:=FL.one x0.n;have o3:=FL.one x0.k;by_cases c3:(nd t 0).kind=0
 .have jm:((nd t 0).kind != 0)=false:=by rw[c3];rfl
  obtain⟨s1,hw⟩:=b9n hT oJ 20 0 oJ oJ;have e21:((21-20:Nat):Int)=1:=rfl;have e00:((0:Nat):Int)=0:=rfl;rw[e21,e00]at hw;cases hb:(a0z t 20 0).2
  .rw[hb]at hw
   refine W4 (vf:=a5o) rfl ?_;unfold a5o;refine zE ?_;repeat first
   |(refine a5Y (l:=[d,.int .i64 0,.int .i64 1]) rfl (Y6 hT.fz U2 U2) hw rfl rfl ?_)
   |refine zW (U0 hlen iU km h0 o1 o2 o3 jm) ?_
   exact⟨.inr trivial,_,rR,_,rfl,sJ⟩
  .rw[hb]at hw
   by_cases c4:(a0z t 20 0).1=t.length
   .have kD:(((a0z t 20 0).1:Int) != (t.length:Int))=false:=by rw[c4];simp
    have vg:a0z t 20 0=(t.length,true):=by rw[<- c4,<- hb]
    obtain⟨jo,hsubs⟩:=a6I 20 oJ vg;have tF:∀i,i<t.length->∀k∈(nd t i).kids,(i:Int)<k/\k<(t.length:Int):=λi hi k hk=>jo.down i oJ hi k hk
    refine W4 (vf:=a5o) rfl ?_;unfold a5o;refine zE ?_;repeat first
    |(refine a5Y (l:=[d,.int .i64 0,.int .i64 1]) rfl (Y6 hT.fz U2 U2) hw rfl rfl ?_)
    |refine zW (U0 hlen iU km h0 o1 o2 o3 (aN jm kD)) ?_
    refine a1l (Q:=a0u 0 _) (λn env s=>∃i:Nat,i<=t.length/\n=t.length-i/\(∀j,j<i->b2W t (nd t j))/\(env.get 0=d/\env.get 5=.int .i64 (i:Int))) ?_ t.length _ _ ⟨0,oJ,rfl,λj h=>by omega,by simp[k6.get]⟩;rintro n env s ⟨i,hi,rfl,iR,hE⟩;by_cases c5:i<t.length
    .have pC:((i:Int)<(t.length:Int))=True:=FR oJ
     have hs:=a5K c5 hT.le;have iM:=hT.at (z:=(i:Int)) oJ oJ (k:=.i64);rw[an]at iM;have hx:=hT.nd c5;have p1:=FL.one hx.w;have p2:=FL.one hx.n;have p3:=FL.one hx.k;obtain⟨b,hn,hp⟩:=c3j hT hx (λk hk=>by have:=tF i c5 k hk;omega);have hz:=hx.fz;unfold Nd.row at hn hz;cases b
     .repeat first
      |(apply V2 hn rfl;(focus(simp only[k6.aR,k6.ev,k6.get,Nat.reduceEqDiff,↓reduceIte,hE]));(focus exact Y7 hT.fz hz))
      |refine zW (X0 hE hlen pC iM p1 p2 p3) ?_
      exact⟨.inr trivial,_,rR,_,rfl,sJ⟩
     .repeat first
      |(apply V2 hn rfl;(focus(simp only[k6.aR,k6.ev,k6.get,Nat.reduceEqDiff,↓reduceIte,hE]));(focus exact Y7 hT.fz hz))
      |refine zW (U0 hE hlen pC iM p1 p2 p3 hs) ?_
      refine⟨t.length-(i+1),oJ,i+1,oJ,rfl,λj h=>?_,(rG hE)⟩;by_cases e:j=i
      .subst e;exact hp rfl
      .exact iR j oJ
    .have pC:((i:Int)<(t.length:Int))=False:=FH oJ
     try refine zW (V4 hE hlen pC) ?_
     exact⟨.inr trivial,_,rR,_,rfl,λ_=>⟨⟨oJ,oJ,c3,tF,λj h=>iR j oJ⟩,hsubs,vg⟩⟩
   .have kD:(((a0z t 20 0).1:Int) != (t.length:Int))=true:=by rw[Hm];omega
    refine W4 (vf:=a5o) rfl ?_;unfold a5o;refine zE ?_;repeat first
    |(refine a5Y (l:=[d,.int .i64 0,.int .i64 1]) rfl (Y6 hT.fz U2 U2) hw rfl rfl ?_)
    |refine zW (U0 hlen iU km h0 o1 o2 o3 (aN jm kD)) ?_
    exact⟨.inr trivial,_,rR,_,rfl,sJ⟩
 .have jm:((nd t 0).kind != 0)=true:=by rw[Hm];exact c3
  refine W4 (vf:=a5o) rfl ?_;unfold a5o;refine zE ?_;try refine zW (U0 hlen iU km h0 o1 o2 o3 jm) ?_
  exact⟨.inr trivial,_,rR,_,rfl,sJ⟩
variable{l:List ByteArray}
theorem rd_fs(h:Rd k4.empty d (l.map .str)):FS d l:=by
 rcases h with⟨rfl,h⟩|rfl|⟨id,off,cs,rfl,h,_⟩
 .left;exact⟨rfl,sU h⟩
 .right;simp
 .simp at h
theorem b72{s:k4}{ids:List Nat}(h:Sl s d (l.map .str) ids):∃d',V.aK s.get 20 d=some d'/\FS d' l:=by
 obtain⟨d',h1,h2⟩:=h.rd.aK (by simp[a2i]);exact⟨d',h1,rd_fs h2⟩
variable{x:ByteArray}
theorem c7e(h:i<l.length):eP (l.take (i+1)) x=(eP (l.take i) x||decide (l[i]=x)):=by
 unfold eP;rw[FO h,List.any_append];simp
theorem a4b(hd:FS d l)(hl:l.length<=maxLen):eT 171 [d,.str x] (.bool (eP l x)):=by
 refine a56 ?_;have hlen:=FS.len hd;refine W4 (vf:=b5M) rfl ?_;unfold b5M;refine zE ?_;try refine cR ?_
 refine a1l (Q:=a0u 0 _) (λn env s=>∃i:Nat,i<=l.length/\n=l.length-i/\eP (l.take i) x=false/\(env.get 0=d/\env.get 1=.str x/\env.get 5=.int .i64 (i:Int))) ?_ l.length _ _ ⟨0,oJ,rfl,by simp[eP],by simp[k6.get]⟩;rintro n env s ⟨i,hi,rfl,hn,hE⟩;by_cases c1:i<l.length
 .have iU:((i:Int)<(l.length:Int))=True:=FR oJ
  have hs:=a5K c1 hl;have iM:=FS.idx hd c1 (k:=.i64);have ht:=c7e (x:=x) c1;rw[hn]at ht;by_cases c2:l[i]=x
  .try refine zW (W0 hE hlen iU iM c2) ?_
   refine⟨.inr trivial,_,rR,?_⟩;have:eP l x=true:=by rw[c0K];exact c2▸Fp c1
   rw[this]
  .rw[FP c2]at ht
   try refine zW (X4 hE hlen iU iM c2 hs) ?_
   exact⟨l.length-(i+1),oJ,i+1,oJ,rfl,by rw[ht];rfl,(rG hE)⟩
 .have iU:((i:Int)<(l.length:Int))=False:=FH oJ
  rw[Gk oJ]at hn;try refine zW (V4 hE hlen iU) ?_
  exact⟨.inr trivial,_,rR,by rw[hn]⟩
theorem b53(hT:Z0 d t)(hR:Y9 t)(hi:i<t.length):eT 181 [d,.int .i64 (i:Int)] (.int .i64 (item t i:Int)):=by
 refine a56 ?_;have hp:=hR.ok.pos;have h0:=hT.at (z:=0) oJ oJ (k:=.i64);have x0:=hT.nd (i:=0) oJ;have z0:(0:Int).toNat=0:=rfl;rw[z0]at h0;have o1:=FL.one x0.w;have o2:=FL.one x0.n;have o3:=FL.one x0.k;have kT:=FI.len x0.k;refine W4 (vf:=b3Y) rfl ?_;unfold b3Y;refine zE ?_;try refine cR ?_
 refine a1l (Q:=a0u 0 _) (λn env s=>∃j out:Nat,j<=(nd t 0).kids.length/\n=(nd t 0).kids.length-j/\item t i=a43 ((nd t 0).kids.drop j) i out/\(env.get 0=d/\env.get 1=.int .i64 (i:Int)/\env.get 5=.int .i64 (out:Int)/\env.get 6=.int .i64 (j:Int))) ?_ (nd t 0).kids.length _ _ ⟨0,0,oJ,rfl,rfl,by simp[k6.get]⟩;rintro n env s ⟨j,out,hj,rfl,hw,hE⟩;by_cases c1:j<(nd t 0).kids.length
 .have iU:((j:Int)<((nd t 0).kids.length:Int))=True:=FR oJ
  have kK:=FI.idx x0.k c1 (k:=.i64);have hs:=a5K c1 x0.kl;have DZ:=hR.ok.kids 0 hp _ (Fp c1);rw[GS c1]at hw;unfold a43 at hw;by_cases c2:(nd t 0).kids[j]<=(i:Int)
  .rw[Fk c2]at hw
   have hk:(((nd t 0).kids[j].toNat:Nat):Int)=(nd t 0).kids[j]:=Gx oJ;try refine zW (U0 hE h0 o1 o2 o3 kT iU (V4 kK c2 hs)) ?_
   exact⟨(nd t 0).kids.length-(j+1),oJ,j+1,_,oJ,rfl,hw,by simp only[k6.get,Nat.reduceEqDiff,↓reduceIte,hE,hk,HN]⟩
  .rw[so c2]at hw
   try refine zW (U0 hE h0 o1 o2 o3 kT iU (V4 kK c2 hs)) ?_
   exact⟨(nd t 0).kids.length-(j+1),oJ,j+1,_,oJ,rfl,hw,(rG hE)⟩
 .have iU:((j:Int)<((nd t 0).kids.length:Int))=False:=FH oJ
  rw[HG oJ]at hw;try refine zW (X0 hE h0 o1 o2 o3 kT iU) ?_
  exact⟨.inr trivial,_,rR,by rw[hw];rfl⟩
theorem b5g(t:List Nd)(aF:Nat)(kind:Int):∀n,(a1L t aF kind n).length<=n
 |0=>sm _
 |n+1=>by
  have:=b5g t aF kind n;rw[a1L];split
  .simp;exact this
  .omega
def IsoS(f:Nat)(l:List D)(x:List ByteArray):Prop:=∃s1 r d',Ev U5 f l k4.empty r s1/\V.aK s1.get 20 r=some d'/\FS d' x
variable{l:List D}
theorem a1Z{af i t f args rest s Q}{env:k6}{x:List ByteArray}(hr:IsoS f l x)(hl:env.aR args=l)(ha:X8 (V.aK s.get 20) l=some l)(hp:aM l=true)
 (h:∀d,FS d x->WQ U5 af rest ((t,d)::env) s Q):WQ U5 af ((i,⟨some t,.m (.call .gu (.aL (.fn f [])) args),none⟩)::rest) env s Q:=by
 obtain⟨s1,r,d',h1,h2,h3⟩:=hr;exact a5Y hl ha h1 h2 (by rw[hp,Bool.or_true]) (h d' h3)
variable{kind:Int}
theorem a11(hT:Z0 d t)(hR:Y9 t)(hi:i<t.length)(hk:kind=1\/kind=2\/kind=3):IsoS 170 [d,.int .i64 (i:Int),.int .i64 kind] (a1L t i kind i):=by
 have main:Y4 U5 170 [d,.int .i64 (i:Int),.int .i64 kind] k4.empty λr s'=>∃ids,Sl s' r ((a1L t i kind i).map .str) ids:=by
  have tD:=b53 hT hR hi;have hle:=hR.ok.le;refine W4 (vf:=b3R) rfl ?_;unfold b3R;refine zE ?_;repeat first
  |(apply V2 tD rfl rfl (Y7 hT.fz U2))
  |refine cR ?_
  refine a1l (Q:=a0u 0 _) (λn env s=>∃(j:Nat)(dn:D)(ids:List Nat),j<=i/\n=i-j/\Sl s dn ((a1L t i kind j).map .str) ids/\(env.get 0=d/\env.get 1=.int .i64 (i:Int)/\env.get 2=.int .i64 kind/\env.get 7=dn/\env.get 8=.int .i64 (item t i:Int)/\env.get 9=.int .i64 (j:Int))) ?_ i _ _ ⟨0,.ag,[],oJ,rfl,.inl ⟨rfl,rfl,rfl⟩,by simp[k6.get]⟩;rintro n env s ⟨j,dn,ids,hj,rfl,hS,hE⟩;have qH:=b5g t i kind j;by_cases c1:j<i
  .have iU:((j:Int)<(i:Int))=True:=FR oJ
   have hs:IntKind.i64.wrap ((j:Int)+1)=((j+1:Nat):Int):=by rw[Z9 oJ oJ];omega
   have iM:=hT.at (z:=(j:Int)) oJ oJ (k:=.i64);rw[an]at iM;have hx:=hT.nd (i:=j) oJ;have o1:=FL.one hx.w;have o2:=FL.one hx.n;have o3:=FL.one hx.k;have jd:=hR.ok.node j oJ;have sH:=b53 hT hR (i:=j) oJ;by_cases c2:(nd t j).kind=kind
   .have km:((nd t j).kind != kind)=false:=by rw[c2];simp
    have nU:(nd t j).words.length=1:=by
     rw[jd.wl,c2];rcases hk with rfl|rfl|rfl<;>rfl
    have mw:W7 1 (nd t j).dw (.int .i64 0)=some (.fp [.str ((nd t j).word 0)] 0):=by
     rw[a6s oJ];exact FS.idx hx.w (i:=0) oJ
    obtain⟨dn',vq,sP⟩:=b72 hS;obtain⟨s1,mI⟩:=a4b (x:=(nd t j).word 0) sP (by have:maxLen=9223372036854775807:=rfl;omega);obtain⟨s',d',e1,e2,e3,e4⟩:=hS.push1 (.str ((nd t j).word 0)) (bytes:=16) dJ (by rw[FT];omega);have jN:=hS.one;by_cases b1:item t j=j
    .have c3:item t j=j\/item t j=item t i:=.inl b1
     have vX:(item t j=j)=True:=FR b1;cases hr:eP (a1L t i kind j) ((nd t j).word 0)
     .rw[hr]at mI
      repeat first
      |(apply V2 sH rfl;(focus(simp only[k6.aR,k6.ev,k6.get,Nat.reduceEqDiff,↓reduceIte,hE]));(focus exact Y7 hT.fz U2))
      |(refine a5D (l:=[dn,.str ((nd t j).word 0)]) mI rfl ?_ ?_ ?_;(focus(simp only[k6.aR,k6.ev,k6.get,Nat.reduceEqDiff,↓reduceIte,hE]));(focus(simp only[X8,vq];rfl)))
      |(apply b4p;(focus(simp only[k6.ev,k6.get,Nat.reduceEqDiff,↓reduceIte,hE];rfl));(focus rfl);(focus exact e1))
      |refine zW (U0 hE iU iM o1 o2 o3 km (V1 vX mw hs jN)) ?_
      refine⟨i-(j+1),oJ,j+1,d',[s.next+1],oJ,rfl,?_,(rG hE)⟩;rw[a1L,Fk ⟨c2,c3,hr⟩,FK];exact e2
     .rw[hr]at mI
      repeat first
      |(apply V2 sH rfl;(focus(simp only[k6.aR,k6.ev,k6.get,Nat.reduceEqDiff,↓reduceIte,hE]));(focus exact Y7 hT.fz U2))
      |(refine a5D (l:=[dn,.str ((nd t j).word 0)]) mI rfl ?_ ?_ ?_;(focus(simp only[k6.aR,k6.ev,k6.get,Nat.reduceEqDiff,↓reduceIte,hE]));(focus(simp only[X8,vq];rfl)))
      |refine zW (U0 hE iU iM o1 o2 o3 km (V1 vX mw hs jN)) ?_
      refine⟨i-(j+1),oJ,j+1,dn,ids,oJ,rfl,?_,(rG hE)⟩;rw[a1L,so (by rw[hr];simp)];exact hS
    .have vX:(item t j=j)=False:=FH b1
     by_cases b2:item t j=item t i
     .have Br:(item t j=item t i)=True:=FR b2
      have c3:item t j=j\/item t j=item t i:=.inr b2;cases hr:eP (a1L t i kind j) ((nd t j).word 0)
      .rw[hr]at mI
       repeat first
       |(apply V2 sH rfl;(focus(simp only[k6.aR,k6.ev,k6.get,Nat.reduceEqDiff,↓reduceIte,hE]));(focus exact Y7 hT.fz U2))
       |(refine a5D (l:=[dn,.str ((nd t j).word 0)]) mI rfl ?_ ?_ ?_;(focus(simp only[k6.aR,k6.ev,k6.get,Nat.reduceEqDiff,↓reduceIte,hE]));(focus(simp only[X8,vq];rfl)))
       |(apply b4p;(focus(simp only[k6.ev,k6.get,Nat.reduceEqDiff,↓reduceIte,hE];rfl));(focus rfl);(focus exact e1))
       |refine zW (U0 hE iU iM o1 o2 o3 km (W0 vX Br mw hs jN)) ?_
       refine⟨i-(j+1),oJ,j+1,d',[s.next+1],oJ,rfl,?_,(rG hE)⟩;rw[a1L,Fk ⟨c2,c3,hr⟩,FK];exact e2
      .rw[hr]at mI
       repeat first
       |(apply V2 sH rfl;(focus(simp only[k6.aR,k6.ev,k6.get,Nat.reduceEqDiff,↓reduceIte,hE]));(focus exact Y7 hT.fz U2))
       |(refine a5D (l:=[dn,.str ((nd t j).word 0)]) mI rfl ?_ ?_ ?_;(focus(simp only[k6.aR,k6.ev,k6.get,Nat.reduceEqDiff,↓reduceIte,hE]));(focus(simp only[X8,vq];rfl)))
       |refine zW (U0 hE iU iM o1 o2 o3 km (W0 vX Br mw hs jN)) ?_
       refine⟨i-(j+1),oJ,j+1,dn,ids,oJ,rfl,?_,(rG hE)⟩;rw[a1L,so (by rw[hr];simp)];exact hS
     .have Br:(item t j=item t i)=False:=FH b2
      repeat first
      |(apply V2 sH rfl;(focus(simp only[k6.aR,k6.ev,k6.get,Nat.reduceEqDiff,↓reduceIte,hE]));(focus exact Y7 hT.fz U2))
      |refine zW (U0 hE iU iM o1 o2 o3 km (V4 vX Br hs)) ?_
      refine⟨i-(j+1),oJ,j+1,dn,ids,oJ,rfl,?_,(rG hE)⟩;rw[a1L,so λh=>by rcases h.2.1 with h|h;exact b1 h;exact b2 h];exact hS
   .have km:((nd t j).kind != kind)=true:=by rw[Hm];exact c2
    try refine zW (U0 hE iU iM o1 o2 o3 km hs) ?_
    refine⟨i-(j+1),oJ,j+1,dn,ids,oJ,rfl,?_,(rG hE)⟩;rw[a1L,so λh=>c2 h.1];exact hS
  .have iU:((j:Int)<(i:Int))=False:=FH oJ
   obtain rfl:j=i:=oJ;try refine zW (aN hE iU) ?_
   exact⟨.inr trivial,_,rR,ids,hS⟩
 obtain⟨r,s',h,ids,hS⟩:=main;obtain⟨d',h1,h2⟩:=b72 hS;exact⟨s',r,d',h,h1,h2⟩
structure a6i(t:List Nd)(i:Nat):Prop where
 use:(nd t i).kind=6\/(nd t i).kind=18->a3I t 2 i ((nd t i).word 0)
 chan:(nd t i).kind=7\/(nd t i).kind=19\/(nd t i).kind=8->a3I t 1 i ((nd t i).word 0)
 recv:(nd t i).kind=8->a3I t 2 i ((nd t i).word 1)
 once:(nd t i).kind=1\/(nd t i).kind=2\/(nd t i).kind=3->¬a3I t 1 i ((nd t i).word 0)/\¬a3I t 2 i ((nd t i).word 0)/\¬a3I t 3 i ((nd t i).word 0)
variable{s:ByteArray}{k:Int}
theorem a8f:eP (a1L t i k i) s=true↔a3I t k i s:=by rw[c0K,b8E];rfl
theorem a6L:eP (a1L t i k i) s=false↔¬a3I t k i s:=by grind[a8f]
theorem a4D(hR:Y9 t)(hi:i<t.length):(a1L t i k i).length<=maxLen:=by
 have h1:=b5g t i k i;have h2:=hR.ok.le;have:maxLen=9223372036854775807:=rfl;omega
theorem bad_1(hT:Z0 d t)(hR:Y9 t)(hi:i<t.length)(hK:(nd t i).kind=1):a0E 140 [d,.int .i64 (i:Int)] λb=>b=false->a6i t i:=by
 refine a0N ?_;have iM:=hT.at (z:=(i:Int)) oJ oJ (k:=.i64);rw[an]at iM;have hx:=hT.nd hi;have jd:=hR.ok.node i hi;have o1:=FL.one hx.w;have o2:=FL.one hx.n;have o3:=FL.one hx.k;have kS:∀n m:Int,aM [d,.int .i64 n,.int .i64 m]=true:=λn m=>by simp[aM,a1j,hT.fl.pure]
 have nU:(nd t i).words.length=1:=by rw[jd.wl,hK];rfl
 have w0:W7 1 (nd t i).dw (.int .i64 0)=some (.fp [.str ((nd t i).word 0)] 0):=by
  rw[a6s oJ];exact FS.idx hx.w (i:=0) oJ
 rw[hK]at iM;refine W4 (vf:=a3o) rfl ?_;unfold a3o;refine zE ?_;try refine zW (V1 iM o1 o2 o3) ?_
 refine a1Z (a11 hT hR hi (.inl rfl)) rfl (Y6 hT.fz U2 U2) (kS _ _) ?_;intro dc kL;try refine cR ?_
 refine a1Z (a11 hT hR hi (.inr (.inl rfl))) rfl (Y6 hT.fz U2 U2) (kS _ _) ?_;intro dv hdv;try refine cR ?_
 refine a1Z (a11 hT hR hi (.inr (.inr rfl))) rfl (Y6 hT.fz U2 U2) (kS _ _) ?_;intro dp hdp;have fc:=FL.fz kL;have fv:=FL.fz hdv;have fp:=FL.fz hdp;have hc:=a4b (x:=(nd t i).word 0) kL (a4D hR hi);have hv:=a4b (x:=(nd t i).word 0) hdv (a4D hR hi);have hp:=a4b (x:=(nd t i).word 0) hdp (a4D hR hi);cases r1:eP (a1L t i 1 i) ((nd t i).word 0)
 .rw[r1]at hc
  cases r2:eP (a1L t i 2 i) ((nd t i).word 0)
  .rw[r2]at hv
   repeat first
   |(apply V2 hc rfl rfl (Y7 fc a1h))
   |(apply V2 hv rfl rfl (Y7 fv a1h))
   |(apply V2 hp rfl rfl (Y7 fp a1h))
   |refine zW (V1 o1 o2 o3 w0) ?_
   exact⟨.inr trivial,_,rR,_,rfl,λh=>⟨fJ,fJ,fJ,λ_=>⟨a6L.1 r1,a6L.1 r2,a6L.1 h⟩⟩⟩
  .rw[r2]at hv
   repeat first
   |(apply V2 hc rfl rfl (Y7 fc a1h))
   |(apply V2 hv rfl rfl (Y7 fv a1h))
   |(apply V2 hp rfl rfl (Y7 fp a1h))
   |refine zW (V1 o1 o2 o3 w0) ?_
   exact⟨.inr trivial,_,rR,_,rfl,sJ⟩
 .rw[r1]at hc
  repeat first
  |(apply V2 hc rfl rfl (Y7 fc a1h))
  |(apply V2 hv rfl rfl (Y7 fv a1h))
  |(apply V2 hp rfl rfl (Y7 fp a1h))
  |refine zW (V1 o1 o2 o3 w0) ?_
  exact⟨.inr trivial,_,rR,_,rfl,sJ⟩
theorem bad_2(hT:Z0 d t)(hR:Y9 t)(hi:i<t.length)(hK:(nd t i).kind=2):a0E 140 [d,.int .i64 (i:Int)] λb=>b=false->a6i t i:=by
 refine a0N ?_;have iM:=hT.at (z:=(i:Int)) oJ oJ (k:=.i64);rw[an]at iM;have hx:=hT.nd hi;have jd:=hR.ok.node i hi;have o1:=FL.one hx.w;have o2:=FL.one hx.n;have o3:=FL.one hx.k;have kS:∀n m:Int,aM [d,.int .i64 n,.int .i64 m]=true:=λn m=>by simp[aM,a1j,hT.fl.pure]
 have nU:(nd t i).words.length=1:=by rw[jd.wl,hK];rfl
 have w0:W7 1 (nd t i).dw (.int .i64 0)=some (.fp [.str ((nd t i).word 0)] 0):=by
  rw[a6s oJ];exact FS.idx hx.w (i:=0) oJ
 rw[hK]at iM;refine W4 (vf:=a3o) rfl ?_;unfold a3o;refine zE ?_;try refine zW (V1 iM o1 o2 o3) ?_
 refine a1Z (a11 hT hR hi (.inl rfl)) rfl (Y6 hT.fz U2 U2) (kS _ _) ?_;intro dc kL;try refine cR ?_
 refine a1Z (a11 hT hR hi (.inr (.inl rfl))) rfl (Y6 hT.fz U2 U2) (kS _ _) ?_;intro dv hdv;try refine cR ?_
 refine a1Z (a11 hT hR hi (.inr (.inr rfl))) rfl (Y6 hT.fz U2 U2) (kS _ _) ?_;intro dp hdp;have fc:=FL.fz kL;have fv:=FL.fz hdv;have fp:=FL.fz hdp;have hc:=a4b (x:=(nd t i).word 0) kL (a4D hR hi);have hv:=a4b (x:=(nd t i).word 0) hdv (a4D hR hi);have hp:=a4b (x:=(nd t i).word 0) hdp (a4D hR hi);cases r1:eP (a1L t i 1 i) ((nd t i).word 0)
 .rw[r1]at hc
  cases r2:eP (a1L t i 2 i) ((nd t i).word 0)
  .rw[r2]at hv
   repeat first
   |(apply V2 hc rfl rfl (Y7 fc a1h))
   |(apply V2 hv rfl rfl (Y7 fv a1h))
   |(apply V2 hp rfl rfl (Y7 fp a1h))
   |refine zW (V1 o1 o2 o3 w0) ?_
   exact⟨.inr trivial,_,rR,_,rfl,λh=>⟨fJ,fJ,fJ,λ_=>⟨a6L.1 r1,a6L.1 r2,a6L.1 h⟩⟩⟩
  .rw[r2]at hv
   repeat first
   |(apply V2 hc rfl rfl (Y7 fc a1h))
   |(apply V2 hv rfl rfl (Y7 fv a1h))
   |(apply V2 hp rfl rfl (Y7 fp a1h))
   |refine zW (V1 o1 o2 o3 w0) ?_
   exact⟨.inr trivial,_,rR,_,rfl,sJ⟩
 .rw[r1]at hc
  repeat first
  |(apply V2 hc rfl rfl (Y7 fc a1h))
  |(apply V2 hv rfl rfl (Y7 fv a1h))
  |(apply V2 hp rfl rfl (Y7 fp a1h))
  |refine zW (V1 o1 o2 o3 w0) ?_
  exact⟨.inr trivial,_,rR,_,rfl,sJ⟩
theorem bad_3(hT:Z0 d t)(hR:Y9 t)(hi:i<t.length)(hK:(nd t i).kind=3):a0E 140 [d,.int .i64 (i:Int)] λb=>b=false->a6i t i:=by
 refine a0N ?_;have iM:=hT.at (z:=(i:Int)) oJ oJ (k:=.i64);rw[an]at iM;have hx:=hT.nd hi;have jd:=hR.ok.node i hi;have o1:=FL.one hx.w;have o2:=FL.one hx.n;have o3:=FL.one hx.k;have kS:∀n m:Int,aM [d,.int .i64 n,.int .i64 m]=true:=λn m=>by simp[aM,a1j,hT.fl.pure]
 have nU:(nd t i).words.length=1:=by rw[jd.wl,hK];rfl
 have w0:W7 1 (nd t i).dw (.int .i64 0)=some (.fp [.str ((nd t i).word 0)] 0):=by
  rw[a6s oJ];exact FS.idx hx.w (i:=0) oJ
 rw[hK]at iM;refine W4 (vf:=a3o) rfl ?_;unfold a3o;refine zE ?_;try refine zW (V1 iM o1 o2 o3) ?_
 refine a1Z (a11 hT hR hi (.inl rfl)) rfl (Y6 hT.fz U2 U2) (kS _ _) ?_;intro dc kL;try refine cR ?_
 refine a1Z (a11 hT hR hi (.inr (.inl rfl))) rfl (Y6 hT.fz U2 U2) (kS _ _) ?_;intro dv hdv;try refine cR ?_
 refine a1Z (a11 hT hR hi (.inr (.inr rfl))) rfl (Y6 hT.fz U2 U2) (kS _ _) ?_;intro dp hdp;have fc:=FL.fz kL;have fv:=FL.fz hdv;have fp:=FL.fz hdp;have hc:=a4b (x:=(nd t i).word 0) kL (a4D hR hi);have hv:=a4b (x:=(nd t i).word 0) hdv (a4D hR hi);have hp:=a4b (x:=(nd t i).word 0) hdp (a4D hR hi);cases r1:eP (a1L t i 1 i) ((nd t i).word 0)
 .rw[r1]at hc
  cases r2:eP (a1L t i 2 i) ((nd t i).word 0)
  .rw[r2]at hv
   repeat first
   |(apply V2 hc rfl rfl (Y7 fc a1h))
   |(apply V2 hv rfl rfl (Y7 fv a1h))
   |(apply V2 hp rfl rfl (Y7 fp a1h))
   |refine zW (V1 o1 o2 o3 w0) ?_
   exact⟨.inr trivial,_,rR,_,rfl,λh=>⟨fJ,fJ,fJ,λ_=>⟨a6L.1 r1,a6L.1 r2,a6L.1 h⟩⟩⟩
  .rw[r2]at hv
   repeat first
   |(apply V2 hc rfl rfl (Y7 fc a1h))
   |(apply V2 hv rfl rfl (Y7 fv a1h))
   |(apply V2 hp rfl rfl (Y7 fp a1h))
   |refine zW (V1 o1 o2 o3 w0) ?_
   exact⟨.inr trivial,_,rR,_,rfl,sJ⟩
 .rw[r1]at hc
  repeat first
  |(apply V2 hc rfl rfl (Y7 fc a1h))
  |(apply V2 hv rfl rfl (Y7 fv a1h))
  |(apply V2 hp rfl rfl (Y7 fp a1h))
  |refine zW (V1 o1 o2 o3 w0) ?_
  exact⟨.inr trivial,_,rR,_,rfl,sJ⟩
theorem bad_6(hT:Z0 d t)(hR:Y9 t)(hi:i<t.length)(hK:(nd t i).kind=6):a0E 140 [d,.int .i64 (i:Int)] λb=>b=false->a6i t i:=by
 refine a0N ?_;have iM:=hT.at (z:=(i:Int)) oJ oJ (k:=.i64);rw[an]at iM;have hx:=hT.nd hi;have jd:=hR.ok.node i hi;have o1:=FL.one hx.w;have o2:=FL.one hx.n;have o3:=FL.one hx.k;have kS:∀n m:Int,aM [d,.int .i64 n,.int .i64 m]=true:=λn m=>by simp[aM,a1j,hT.fl.pure]
 have nU:(nd t i).words.length=1:=by rw[jd.wl,hK];rfl
 have w0:W7 1 (nd t i).dw (.int .i64 0)=some (.fp [.str ((nd t i).word 0)] 0):=by
  rw[a6s oJ];exact FS.idx hx.w (i:=0) oJ
 rw[hK]at iM;refine W4 (vf:=a3o) rfl ?_;unfold a3o;refine zE ?_;try refine zW (V1 iM o1 o2 o3) ?_
 refine a1Z (a11 hT hR hi (.inl rfl)) rfl (Y6 hT.fz U2 U2) (kS _ _) ?_;intro dc kL;try refine cR ?_
 refine a1Z (a11 hT hR hi (.inr (.inl rfl))) rfl (Y6 hT.fz U2 U2) (kS _ _) ?_;intro dv hdv;try refine cR ?_
 refine a1Z (a11 hT hR hi (.inr (.inr rfl))) rfl (Y6 hT.fz U2 U2) (kS _ _) ?_;intro dp hdp;have fc:=FL.fz kL;have fv:=FL.fz hdv;have fp:=FL.fz hdp;have hc:=a4b (x:=(nd t i).word 0) hdv (a4D hR hi);repeat first
 |(apply V2 hc rfl rfl (Y7 fv a1h))
 |refine zW (V1 o1 o2 o3 w0) ?_
 exact⟨.inr trivial,_,rR,_,rfl,λh=>⟨λ_=>a8f.1 (sU h),fJ,fJ,fJ⟩⟩
theorem bad_18(hT:Z0 d t)(hR:Y9 t)(hi:i<t.length)(hK:(nd t i).kind=18):a0E 140 [d,.int .i64 (i:Int)] λb=>b=false->a6i t i:=by
 refine a0N ?_;have iM:=hT.at (z:=(i:Int)) oJ oJ (k:=.i64);rw[an]at iM;have hx:=hT.nd hi;have jd:=hR.ok.node i hi;have o1:=FL.one hx.w;have o2:=FL.one hx.n;have o3:=FL.one hx.k;have kS:∀n m:Int,aM [d,.int .i64 n,.int .i64 m]=true:=λn m=>by simp[aM,a1j,hT.fl.pure]
 have nU:(nd t i).words.length=1:=by rw[jd.wl,hK];rfl
 have w0:W7 1 (nd t i).dw (.int .i64 0)=some (.fp [.str ((nd t i).word 0)] 0):=by
  rw[a6s oJ];exact FS.idx hx.w (i:=0) oJ
 rw[hK]at iM;refine W4 (vf:=a3o) rfl ?_;unfold a3o;refine zE ?_;try refine zW (V1 iM o1 o2 o3) ?_
 refine a1Z (a11 hT hR hi (.inl rfl)) rfl (Y6 hT.fz U2 U2) (kS _ _) ?_;intro dc kL;try refine cR ?_
 refine a1Z (a11 hT hR hi (.inr (.inl rfl))) rfl (Y6 hT.fz U2 U2) (kS _ _) ?_;intro dv hdv;try refine cR ?_
 refine a1Z (a11 hT hR hi (.inr (.inr rfl))) rfl (Y6 hT.fz U2 U2) (kS _ _) ?_;intro dp hdp;have fc:=FL.fz kL;have fv:=FL.fz hdv;have fp:=FL.fz hdp;have hc:=a4b (x:=(nd t i).word 0) hdv (a4D hR hi);repeat first
 |(apply V2 hc rfl rfl (Y7 fv a1h))
 |refine zW (V1 o1 o2 o3 w0) ?_
 exact⟨.inr trivial,_,rR,_,rfl,λh=>⟨λ_=>a8f.1 (sU h),fJ,fJ,fJ⟩⟩
theorem bad_7(hT:Z0 d t)(hR:Y9 t)(hi:i<t.length)(hK:(nd t i).kind=7):a0E 140 [d,.int .i64 (i:Int)] λb=>b=false->a6i t i:=by
 refine a0N ?_;have iM:=hT.at (z:=(i:Int)) oJ oJ (k:=.i64);rw[an]at iM;have hx:=hT.nd hi;have jd:=hR.ok.node i hi;have o1:=FL.one hx.w;have o2:=FL.one hx.n;have o3:=FL.one hx.k;have kS:∀n m:Int,aM [d,.int .i64 n,.int .i64 m]=true:=λn m=>by simp[aM,a1j,hT.fl.pure]
 have nU:(nd t i).words.length=1:=by rw[jd.wl,hK];rfl
 have w0:W7 1 (nd t i).dw (.int .i64 0)=some (.fp [.str ((nd t i).word 0)] 0):=by
  rw[a6s oJ];exact FS.idx hx.w (i:=0) oJ
 rw[hK]at iM;refine W4 (vf:=a3o) rfl ?_;unfold a3o;refine zE ?_;try refine zW (V1 iM o1 o2 o3) ?_
 refine a1Z (a11 hT hR hi (.inl rfl)) rfl (Y6 hT.fz U2 U2) (kS _ _) ?_;intro dc kL;try refine cR ?_
 refine a1Z (a11 hT hR hi (.inr (.inl rfl))) rfl (Y6 hT.fz U2 U2) (kS _ _) ?_;intro dv hdv;try refine cR ?_
 refine a1Z (a11 hT hR hi (.inr (.inr rfl))) rfl (Y6 hT.fz U2 U2) (kS _ _) ?_;intro dp hdp;have fc:=FL.fz kL;have fv:=FL.fz hdv;have fp:=FL.fz hdp;have hc:=a4b (x:=(nd t i).word 0) kL (a4D hR hi);repeat first
 |(apply V2 hc rfl rfl (Y7 fc a1h))
 |refine zW (V1 o1 o2 o3 w0) ?_
 exact⟨.inr trivial,_,rR,_,rfl,λh=>⟨fJ,λ_=>a8f.1 (sU h),fJ,fJ⟩⟩
theorem bad_19(hT:Z0 d t)(hR:Y9 t)(hi:i<t.length)(hK:(nd t i).kind=19):a0E 140 [d,.int .i64 (i:Int)] λb=>b=false->a6i t i:=by
 refine a0N ?_;have iM:=hT.at (z:=(i:Int)) oJ oJ (k:=.i64);rw[an]at iM;have hx:=hT.nd hi;have jd:=hR.ok.node i hi;have o1:=FL.one hx.w;have o2:=FL.one hx.n;have o3:=FL.one hx.k;have kS:∀n m:Int,aM [d,.int .i64 n,.int .i64 m]=true:=λn m=>by simp[aM,a1j,hT.fl.pure]
 have nU:(nd t i).words.length=1:=by rw[jd.wl,hK];rfl
 have w0:W7 1 (nd t i).dw (.int .i64 0)=some (.fp [.str ((nd t i).word 0)] 0):=by
  rw[a6s oJ];exact FS.idx hx.w (i:=0) oJ
 rw[hK]at iM;refine W4 (vf:=a3o) rfl ?_;unfold a3o;refine zE ?_;try refine zW (V1 iM o1 o2 o3) ?_
 refine a1Z (a11 hT hR hi (.inl rfl)) rfl (Y6 hT.fz U2 U2) (kS _ _) ?_;intro dc kL;try refine cR ?_
 refine a1Z (a11 hT hR hi (.inr (.inl rfl))) rfl (Y6 hT.fz U2 U2) (kS _ _) ?_;intro dv hdv;try refine cR ?_
 refine a1Z (a11 hT hR hi (.inr (.inr rfl))) rfl (Y6 hT.fz U2 U2) (kS _ _) ?_;intro dp hdp;have fc:=FL.fz kL;have fv:=FL.fz hdv;have fp:=FL.fz hdp;have hc:=a4b (x:=(nd t i).word 0) kL (a4D hR hi);repeat first
 |(apply V2 hc rfl rfl (Y7 fc a1h))
 |refine zW (V1 o1 o2 o3 w0) ?_
 exact⟨.inr trivial,_,rR,_,rfl,λh=>⟨fJ,λ_=>a8f.1 (sU h),fJ,fJ⟩⟩
theorem bad_8(hT:Z0 d t)(hR:Y9 t)(hi:i<t.length)(hK:(nd t i).kind=8):a0E 140 [d,.int .i64 (i:Int)] λb=>b=false->a6i t i:=by
 refine a0N ?_;have iM:=hT.at (z:=(i:Int)) oJ oJ (k:=.i64);rw[an]at iM;have hx:=hT.nd hi;have jd:=hR.ok.node i hi;have o1:=FL.one hx.w;have o2:=FL.one hx.n;have o3:=FL.one hx.k;have kS:∀n m:Int,aM [d,.int .i64 n,.int .i64 m]=true:=λn m=>by simp[aM,a1j,hT.fl.pure]
 have nU:(nd t i).words.length=2:=by rw[jd.wl,hK];rfl
 have w0:W7 1 (nd t i).dw (.int .i64 0)=some (.fp [.str ((nd t i).word 0)] 0):=by
  rw[a6s oJ];exact FS.idx hx.w (i:=0) oJ
 have w1:W7 1 (nd t i).dw (.int .i64 1)=some (.fp [.str ((nd t i).word 1)] 0):=by
  rw[a6s oJ];exact FS.idx hx.w (i:=1) oJ
 rw[hK]at iM;refine W4 (vf:=a3o) rfl ?_;unfold a3o;refine zE ?_;try refine zW (V1 iM o1 o2 o3) ?_
 refine a1Z (a11 hT hR hi (.inl rfl)) rfl (Y6 hT.fz U2 U2) (kS _ _) ?_;intro dc kL;try refine cR ?_
 refine a1Z (a11 hT hR hi (.inr (.inl rfl))) rfl (Y6 hT.fz U2 U2) (kS _ _) ?_;intro dv hdv;try refine cR ?_
 refine a1Z (a11 hT hR hi (.inr (.inr rfl))) rfl (Y6 hT.fz U2 U2) (kS _ _) ?_;intro dp hdp;have fc:=FL.fz kL;have fv:=FL.fz hdv;have fp:=FL.fz hdp;have hc:=a4b (x:=(nd t i).word 0) kL (a4D hR hi);have hv:=a4b (x:=(nd t i).word 1) hdv (a4D hR hi);cases r1:eP (a1L t i 1 i) ((nd t i).word 0)
 .rw[r1]at hc
  repeat first
  |(apply V2 hc rfl rfl (Y7 fc a1h))
  |(apply V2 hv rfl rfl (Y7 fv a1h))
  |refine zW (W0 o1 o2 o3 w0 w1) ?_
  exact⟨.inr trivial,_,rR,_,rfl,sJ⟩
 .rw[r1]at hc
  repeat first
  |(apply V2 hc rfl rfl (Y7 fc a1h))
  |(apply V2 hv rfl rfl (Y7 fv a1h))
  |refine zW (W0 o1 o2 o3 w0 w1) ?_
  exact⟨.inr trivial,_,rR,_,rfl,λh=>⟨fJ,λ_=>a8f.1 r1,λ_=>a8f.1 (sU h),fJ⟩⟩
theorem bad_x(hT:Z0 d t)(hR:Y9 t)(hi:i<t.length)(hK:(nd t i).kind≠1/\(nd t i).kind≠2/\(nd t i).kind≠3/\(nd t i).kind≠6/\(nd t i).kind≠18/\(nd t i).kind≠7/\(nd t i).kind≠19/\(nd t i).kind≠8):a0E 140 [d,.int .i64 (i:Int)] λb=>b=false->a6i t i:=by
 refine a0N ?_;have iM:=hT.at (z:=(i:Int)) oJ oJ (k:=.i64);rw[an]at iM;have hx:=hT.nd hi;have jd:=hR.ok.node i hi;have o1:=FL.one hx.w;have o2:=FL.one hx.n;have o3:=FL.one hx.k;have kS:∀n m:Int,aM [d,.int .i64 n,.int .i64 m]=true:=λn m=>by simp[aM,a1j,hT.fl.pure]
 have n1:((nd t i).kind==1)=false:=by grind
 have n2:((nd t i).kind==2)=false:=by grind
 have n3:((nd t i).kind==3)=false:=by grind
 have n6:((nd t i).kind==6)=false:=by grind
 have n18:((nd t i).kind==18)=false:=by grind
 have n7:((nd t i).kind==7)=false:=by grind
 have n19:((nd t i).kind==19)=false:=by grind
 have n8:((nd t i).kind==8)=false:=by grind
 refine W4 (vf:=a3o) rfl ?_;unfold a3o;refine zE ?_;try refine zW (V1 iM o1 o2 o3) ?_
 refine a1Z (a11 hT hR hi (.inl rfl)) rfl (Y6 hT.fz U2 U2) (kS _ _) ?_;intro dc kL;try refine cR ?_
 refine a1Z (a11 hT hR hi (.inr (.inl rfl))) rfl (Y6 hT.fz U2 U2) (kS _ _) ?_;intro dv hdv;try refine cR ?_
 refine a1Z (a11 hT hR hi (.inr (.inr rfl))) rfl (Y6 hT.fz U2 U2) (kS _ _) ?_;intro dp hdp;have fc:=FL.fz kL;have fv:=FL.fz hdv;have fp:=FL.fz hdp;try refine zW (U0 o1 o2 o3 n1 n2 n3 n6 (V1 n18 n7 n19 n8)) ?_
 exact⟨.inr trivial,_,rR,_,rfl,λ_=>⟨fJ,fJ,fJ,fJ⟩⟩
theorem bad_ok(hT:Z0 d t)(hR:Y9 t)(hi:i<t.length):a0E 140 [d,.int .i64 (i:Int)] λb=>b=false->a6i t i:=by
 grind[bad_1,bad_2,bad_3,bad_6,bad_18,bad_7,bad_19,bad_8,bad_x]
def IsoF(f:Nat)(l:List D)(P:Prop):Prop:=∃(e a:Int),eT f l (.agg [.int .i64 e,.int .i64 a])/\(e=0->P)
variable{f:Nat}{P:Prop}
theorem c2h(h:Y4 U5 f l k4.empty λd _=>∃(e a:Int),d=.agg [.int .i64 e,.int .i64 a]/\(e=0->P)):IsoF f l P:=by
 obtain⟨d,s',h,e,a,rfl,hp⟩:=h;exact⟨e,a,⟨s',h⟩,hp⟩
theorem c8C(hT:Z0 d t)(hR:Y9 t):IsoF 104 [d] (a3g t):=by
 refine c2h ?_;have hlen:=hT.len;have hle:=hR.ok.le;refine W4 (vf:=b4q) rfl ?_;unfold b4q;refine zE ?_;try refine cR ?_
 refine a1l (Q:=a0u 0 _) (λn env s=>∃i:Nat,i<=t.length/\n=t.length-i/\(∀j,j<i->a6i t j)/\s.get 0=some (.cells [.int .i64 0,.int .i64 0])/\(env.get 0=d/\env.get 2=.ptr 0 0/\env.get 3=.int .i64 (i:Int))) ?_ t.length _ _ ⟨0,oJ,rfl,λj h=>by omega,W8 rfl,by simp[k6.get,a0n.at];rfl⟩;rintro n env s ⟨i,hi,rfl,iR,hg,hE⟩;have nQ:=t3 hg;by_cases c1:i<t.length
 .have iU:((i:Int)<(t.length:Int))=True:=FR oJ
  have hs:IntKind.i64.wrap ((i:Int)+1)=((i+1:Nat):Int):=by grind[Z9]
  have iM:=hT.at (z:=(i:Int)) oJ oJ (k:=.i64);rw[an]at iM;have hx:=hT.nd c1;have o1:=FL.one hx.w;have o2:=FL.one hx.n;have o3:=FL.one hx.k;obtain⟨b,hb,hp⟩:=bad_ok hT hR c1;cases b
  .repeat first
   |(apply V2 hb rfl;(focus(simp only[k6.aR,k6.ev,k6.get,Nat.reduceEqDiff,↓reduceIte,hE]));(focus exact Y7 hT.fz U2))
   |refine zW (V1 hE hlen iU hs) ?_
   refine⟨t.length-(i+1),oJ,i+1,oJ,rfl,λj h=>?_,hg,(rG hE)⟩;grind
  .repeat first
   |(apply V2 hb rfl;(focus(simp only[k6.aR,k6.ev,k6.get,Nat.reduceEqDiff,↓reduceIte,hE]));(focus exact Y7 hT.fz U2))
   |refine zW (U0 hE hlen iU iM o1 o2 o3 hg) ?_
   refine⟨.inr trivial,_,?_,20,(nd t i).pos,rfl,sJ⟩;simp only[a03,a08,a1t,k6.get,Nat.reduceEqDiff,↓reduceIte,hE,a0b nQ];rfl
 .have iU:((i:Int)<(t.length:Int))=False:=FH oJ
  try refine zW (V1 hE hlen iU hg) ?_
  refine⟨.inr trivial,_,?_,0,0,rfl,λ_=>?_⟩
  .simp only[a03,a08,a1t,k6.get,Nat.reduceEqDiff,↓reduceIte,hE,a0b nQ]
   rfl
  .exact⟨λj h=>(iR j oJ).use,λj h=>(iR j oJ).chan,λj h=>(iR j oJ).recv,λj h=>(iR j oJ).once⟩
variable{w:Nat}
theorem c0E{v:Nat}(h:w<=v):(2:Int)^w<=2^v:=by
 have:(2:Nat)^w<=2^v:=HQ oJ h;exact_mod_cast this
theorem b2m{v:Nat}(h:w<=v):(2:Int)^w ∣ 2^v:=by
 obtain⟨k,rfl⟩:∃k,v=w+k:=⟨v-w,oJ⟩
 rw[Int.pow_add];exact Int.dvd_mul_right _ _
variable{n:Int}
theorem b3u(h:0<w):W3 n w=if 2^(w-1)<=n%2^w then n%2^w-2^w else n%2^w:=by
 have hp:=a9F h;have p:=a6b w;have h1:=Is n (b:=2^w) oJ;have h2:=Iu n p;have e:W3 n w=W3 (n%2^w) w:=(a94 (by rw[Hq _ (JQ _)])).symm;rw[e];generalize n%2^w=r at *;split
 .rw[<- a94 (a:=r-2^w) (b:=r) (by rw[Int.sub_emod,Int.emod_self];simp),a6Y h oJ oJ]
 .rw[a6Y h oJ oJ]
theorem c8W(h:0<m):(if n.tmod m<0 then n.tmod m+m else n.tmod m)=n%m:=by
 have h1:=Int.mul_tdiv_add_tmod n m;have h2:=Je n h;have h3:-m<n.tmod m:=by
  have:=Je (-n) h;rw[KA]at this;omega
 have e:n%m=n.tmod m%m:=by
  conv=>lhs;rw[<- h1]
  rw[Int.add_comm,Int.add_mul_emod_self_left]
 rw[e];generalize n.tmod m=r at *;split
 .rw[<- Int.add_emod_right,GQ oJ oJ]
 .rw[GQ oJ oJ]
theorem c1F(h:w<=16):(2:Int)^w<=65536:=by
 have:=c0E (w:=w) (v:=16) h;omega
variable{s:k4}
theorem b9u{x:Int}(hn:(w:Int)=min (max n 1) 16)(hx:a2C x) :
 Ev U5 34 [.int .i64 x,.int .i64 n] s (.int .i64 (W3 x w)) s:=by
 obtain⟨CG,qU⟩:=hx;have me:1<=w:=oJ;have nU:w<=16:=oJ;have hp:=c1F nU;have jV:=a6b w;rw[b3u me];refine b0p (vf:=vf34) rfl ?_;unfold vf34;refine zE ?_;try refine cR ?_
 refine WP.mono (Q:=λe env s'=>e=.normal/\s'=s/\(env.get 0=.int .i64 x/\env.get 1=.int .i64 (max n 1))) ?_ ?_
 .by_cases h:n<1
  .have b1:(n<1)=True:=FR h
   try refine zW b1 ?_
   exact⟨trivial,trivial,by simp[k6.get];omega⟩
  .have b1:(n<1)=False:=FH h
   try refine zW b1 ?_
   exact⟨trivial,trivial,by simp[k6.get];omega⟩
 rintro e env s' ⟨rfl,rfl,hE⟩;simp only[a2w];try refine zW hE ?_
 refine WP.mono (Q:=λe env s1=>e=.normal/\s1=s'/\(env.get 0=.int .i64 x/\env.get 1=.int .i64 (w:Int))) ?_ ?_
 .by_cases h:16<max n 1
  .have b1:(16<max n 1)=True:=FR h
   try refine zW (aN hE b1) ?_
   exact⟨trivial,trivial,by simp[k6.get,hE];omega⟩
  .have b1:(16<max n 1)=False:=FH h
   try refine zW (aN hE b1) ?_
   exact⟨trivial,trivial,by simp[k6.get,hE];omega⟩
 clear hE;rintro e env s1 ⟨rfl,rfl,hE⟩;simp only[a2w];try refine zW hE ?_
 refine a1l (λk env s2=>∃(i:Nat),i<=w/\k=w-i/\s2=s1/\(env.get 0=.int .i64 x/\env.get 1=.int .i64 (w:Int)/\env.get 5=.int .i64 (2^i)/\env.get 6=.int .i64 (i:Int))) ?_ w _ _
  ⟨0,KB _,oJ,rfl,by simp[k6.get,hE]⟩
 clear hE;rintro k env s2 ⟨i,hi,rfl,rfl,hE⟩;by_cases my:i<w
 .have rj:(i:Int)<(w:Int):=oJ
  have hs:=(by rw[Z9 oJ oJ];omega:IntKind.i64.wrap ((i:Int)+1)=((i+1:Nat):Int))
  have EX:=c1F (w:=i) oJ;have hpi0:=a6b i;have hmul:IntKind.i64.wrap ((2:Int)^i*2)=2^(i+1):=by rw[Z9 oJ oJ,IX]
  try refine zW (V1 hE rj hs hmul) ?_
  exact⟨w-(i+1),oJ,i+1,oJ,rfl,trivial,(rG hE)⟩
 .have rj:¬(i:Int)<(w:Int):=oJ
  obtain rfl:i=w:=oJ;have jt:((2:Int)^i=0)=False:=FH oJ;have hm:=c8W (n:=x) jV;have h1:=Is x (b:=2^i) oJ;have h2:=Iu x jV;have hh:=a9F (w:=i) oJ;have hdiv:((2:Int)^i).tdiv 2=2^(i-1):=by
   rw[Int.tdiv_eq_ediv_of_nonneg oJ];omega
  have rz:IntKind.i64.wrap ((2:Int)^(i-1))=2^(i-1):=Z9 oJ oJ;have mq:IntKind.i64.wrap (x%2^i-2^i)=x%2^i-2^i:=Z9 oJ oJ;by_cases pW:x.tmod (2^i)<0
  .rw[Fk pW]at hm
   have zm:IntKind.i64.wrap (x.tmod (2^i)+2^i)=x%2^i:=by rw[hm];exact Z9 oJ oJ
   by_cases hc:2^(i-1)<=x%2^i
   .try refine zW (U0 hE rj jt pW zm hdiv rz (aN hc mq)) ?_
    exact⟨.inr trivial,trivial,(by simp only[a03,a08,a1t,k6.get,Nat.reduceEqDiff,↓reduceIte,hc]<;>rfl)⟩
   .try refine zW (U0 hE rj jt pW zm hdiv rz (aN hc mq)) ?_
    exact⟨.inr trivial,trivial,(by simp only[a03,a08,a1t,k6.get,Nat.reduceEqDiff,↓reduceIte,hc]<;>rfl)⟩
  .rw[so pW]at hm
   have pW:(x%2^i<0)=False:=FH oJ;by_cases hc:2^(i-1)<=x%2^i
   .try refine zW (U0 hE rj jt pW hm hdiv rz (aN hc mq)) ?_
    exact⟨.inr trivial,trivial,(by simp only[a03,a08,a1t,k6.get,Nat.reduceEqDiff,↓reduceIte,hc]<;>rfl)⟩
   .try refine zW (U0 hE rj jt pW hm hdiv rz (aN hc mq)) ?_
    exact⟨.inr trivial,trivial,(by simp only[a03,a08,a1t,k6.get,Nat.reduceEqDiff,↓reduceIte,hc]<;>rfl)⟩
theorem b1z{x:Int}(hn:(w:Int)=min (max n 1) 16)(hx:a2C x):eT 34 [.int .i64 x,.int .i64 n] (.int .i64 (W3 x w)):=⟨_,b9u hn hx⟩
theorem a6v{x:Nd}(hx:x.Ok)(h:i<x.aI.length):W7 1 x.dn (.int .i64 (i:Int))=some (.fp [.int .i64 (x.num i)] 0):=by rw[a8h h];exact FI.idx hx.n h
theorem c5x(hT:Z0 d t)(hR:Y9 t)(hi:i<t.length):eT 172 [d,.int .i64 (i:Int)] (.int .i64 (a5W t i)):=by
 refine a56 ?_;have tD:=b53 hT hR hi;have hle:=b9E hR hi;have iM:=hT.at (z:=(item t i:Int)) oJ oJ (k:=.i64);rw[an]at iM;have hx:=hT.nd (i:=item t i) oJ;have o1:=FL.one hx.w;have o2:=FL.one hx.n;have o3:=FL.one hx.k;unfold a5W;by_cases c:(nd t (item t i)).kind=3
 .have c':((nd t (item t i)).kind==3)=true:=by rw[c];rfl
  have qH:(nd t (item t i)).aI.length=1:=by rw[(hR.ok.node _ oJ).nl,c];rfl
  have n0:=a6v hx (i:=0) oJ;have z0:((0:Nat):Int)=0:=rfl;rw[z0]at n0;rw[Fk c];refine W4 (vf:=a96) rfl ?_;unfold a96;refine zE ?_;repeat first
  |(apply V2 tD rfl rfl (Y7 hT.fz U2))
  |refine zW (X4 iM o1 o2 o3 c' n0) ?_
  exact⟨.inr trivial,_,rR,rfl⟩
 .have c':((nd t (item t i)).kind==3)=false:=by rw[FA];exact c
  rw[so c];refine W4 (vf:=a96) rfl ?_;unfold a96;refine zE ?_;repeat first
  |(apply V2 tD rfl rfl (Y7 hT.fz U2))
  |refine zW (W0 iM o1 o2 o3 c') ?_
  exact⟨.inr trivial,_,rR,rfl⟩
theorem b39(hT:Z0 d t)(hR:Y9 t)(hi:i<t.length):eT 141 [d,.int .i64 (i:Int),.int .i64 kind] (.int .i64 (a0J t kind (i+1))):=by
 refine a56 ?_;have hle:=hR.ok.le;refine W4 (vf:=b4S) rfl ?_;unfold b4S;refine zE ?_;try refine cR ?_
 refine a1l (Q:=a0u 0 _) (λn env s=>∃j:Nat,j<=i+1/\n=i+1-j/\(env.get 0=d/\env.get 1=.int .i64 (i:Int)/\env.get 2=.int .i64 kind/\env.get 7=.int .i64 (a0J t kind j)/\env.get 8=.int .i64 (j:Int))) ?_ (i+1) _ _ ⟨0,oJ,rfl,by simp[k6.get,a0J]⟩;rintro n env s ⟨j,hj,rfl,hE⟩;have hsi:=b5K hR (kind:=kind) (i:=j) oJ;by_cases c1:j<=i
 .have iU:((j:Int)<=(i:Int))=True:=FR oJ
  have hs:IntKind.i64.wrap ((j:Int)+1)=((j+1:Nat):Int):=by rw[Z9 oJ oJ];omega
  by_cases c2:a0J t kind j<100
  .have iM:=hT.at (z:=(j:Int)) oJ oJ (k:=.i64)
   rw[an]at iM;have hx:=hT.nd (i:=j) oJ;have o1:=FL.one hx.w;have o2:=FL.one hx.n;have o3:=FL.one hx.k;by_cases c3:(nd t j).kind=kind
   .have jm:((nd t j).kind != kind)=false:=by rw[c3];simp
    have jZ:a0J t kind (j+1)=a0J t kind j+a4v t kind j:=by rw[a0J,Fk ⟨c2,c3⟩]
    have hsr:=b7A hR (kind:=kind) (i:=j) oJ;by_cases c4:kind=1
    .have kD:(kind==1)=true:=by rw[c4];rfl
     have hw:IntKind.i64.wrap (a0J t kind j+1)=a0J t kind (j+1):=by rw[Z9 oJ oJ,jZ,a4v,Fk c4]
     try refine zW (U0 hE iU c2 iM o1 o2 o3 (V1 jm kD hw hs)) ?_
     exact⟨i+1-(j+1),oJ,j+1,oJ,rfl,(rG hE)⟩
    .have kD:(kind==1)=false:=by rw[FA];exact c4
     have hc:=c5x hT hR (i:=j) oJ;have hcr:=b9R hR (i:=j) oJ;have hw:IntKind.i64.wrap (a0J t kind j+min (a5W t j) 100)=a0J t kind (j+1):=by rw[Z9 oJ oJ,jZ,a4v,so c4]
     repeat first
     |(apply V2 hc rfl;(focus(simp only[k6.aR,k6.ev,k6.get,Nat.reduceEqDiff,↓reduceIte,hE]));(focus exact Y7 hT.fz U2))
     |refine zW (U0 hE iU c2 iM o1 o2 o3 (V1 jm kD hw hs)) ?_
     exact⟨i+1-(j+1),oJ,j+1,oJ,rfl,(rG hE)⟩
   .have jm:((nd t j).kind != kind)=true:=by rw[Hm];exact c3
    have jZ:a0J t kind (j+1)=a0J t kind j:=by rw[a0J,so λh=>c3 h.2]
    try refine zW (U0 hE iU c2 iM o1 o2 o3 (aN jm hs)) ?_
    exact⟨i+1-(j+1),oJ,j+1,oJ,rfl,by simp only[k6.get,Nat.reduceEqDiff,↓reduceIte,hE,jZ,HN]⟩
  .have hb:=b9v (t:=t) (kind:=kind) (i:=j) oJ (j:=i+1) oJ
   try refine zW (V4 hE iU c2) ?_
   exact⟨.inr trivial,_,rR,by rw[hb]⟩
 .have iU:((j:Int)<=(i:Int))=False:=FH oJ
  obtain rfl:j=i+1:=oJ;try refine zW (aN hE iU) ?_
  exact⟨.inr trivial,_,rR,rfl⟩
theorem b9s{d:D}{t:List Nd}(hT:Z0 d t)(hR:Y9 t){z:Int}:∀(f a:Nat),a<t.length->t.length-a<f->a0E 142 [d,.int .i64 z,.int .i64 (a:Int)] λ_=>True
 |0,a,_,h=>by omega
 |f+1,a,ha,hf=>by
  refine a0N ?_;have iM:=hT.at (z:=(a:Int)) oJ oJ (k:=.i64);rw[an]at iM;have hx:=hT.nd ha;have o1:=FL.one hx.w;have o2:=FL.one hx.n;have o3:=FL.one hx.k;have kT:=FI.len hx.k;refine W4 (vf:=b4X) rfl ?_;unfold b4X;refine zE ?_;try refine cR ?_
  refine a1l (Q:=a0u 0 _) (λn env s=>∃j:Nat,j<=(nd t a).kids.length/\n=(nd t a).kids.length-j/\(env.get 0=d/\env.get 1=.int .i64 z/\env.get 2=.int .i64 (a:Int)/\env.get 7=.int .i64 (j:Int))) ?_ (nd t a).kids.length _ _ ⟨0,oJ,rfl,by simp[k6.get]⟩;rintro n env s ⟨j,hj,rfl,hE⟩;by_cases c1:j<(nd t a).kids.length
  .have iU:((j:Int)<((nd t a).kids.length:Int))=True:=FR oJ
   have kK:=FI.idx hx.k c1 (k:=.i64);have hs:=a5K c1 hx.kl;have DZ:=hR.ok.kids a ha _ (Fp c1);obtain⟨k,hk⟩:∃k:Nat,(nd t a).kids[j]=(k:Int):=⟨(nd t a).kids[j].toNat,oJ⟩
   rw[hk]at kK DZ;obtain⟨b,hb,_⟩:=b9s hT hR (z:=z) f k oJ oJ;cases c2:((k:Int)==z)
   .cases b
    .repeat first
     |(apply V2 hb rfl;(focus(simp only[k6.aR,k6.ev,k6.get,Nat.reduceEqDiff,↓reduceIte,hE]));(focus exact Y6 hT.fz U2 U2))
     |refine zW (U0 hE iM o1 o2 o3 kT iU (V4 kK c2 hs)) ?_
     exact⟨(nd t a).kids.length-(j+1),oJ,j+1,oJ,rfl,(rG hE)⟩
    .repeat first
     |(apply V2 hb rfl;(focus(simp only[k6.aR,k6.ev,k6.get,Nat.reduceEqDiff,↓reduceIte,hE]));(focus exact Y6 hT.fz U2 U2))
     |refine zW (U0 hE iM o1 o2 o3 kT iU (aN kK c2)) ?_
     exact⟨.inr trivial,_,rR,_,rfl,trivial⟩
   .try refine zW (U0 hE iM o1 o2 o3 kT iU (aN kK c2)) ?_
    exact⟨.inr trivial,_,rR,_,rfl,trivial⟩
  .have iU:((j:Int)<((nd t a).kids.length:Int))=False:=FH oJ
   try refine zW (X0 hE iM o1 o2 o3 kT iU) ?_
   exact⟨.inr trivial,_,rR,_,rfl,trivial⟩
def a7r(f:Nat)(l:List D)(P:Prop):Prop:=∃e:Int,eT f l (.int .i64 e)/\(e=0->P)
theorem a8V(h:Y4 U5 f l k4.empty λd _=>∃e:Int,d=.int .i64 e/\(e=0->P)):a7r f l P:=by
 obtain⟨d,s',h,e,rfl,hp⟩:=h;exact⟨e,⟨s',h⟩,hp⟩
theorem c8c(hT:Z0 d t)(hR:Y9 t)(hi:i<t.length)(hK:(nd t i).kind=1):a7r 105 [d,.int .i64 (i:Int)] (a6Z t i):=by
 refine a8V ?_;have iM:=hT.at (z:=(i:Int)) oJ oJ (k:=.i64);rw[an]at iM;have hx:=hT.nd hi;have jd:=hR.ok.node i hi;have hle:=hR.ok.le;have o1:=FL.one hx.w;have o2:=FL.one hx.n;have o3:=FL.one hx.k;have qH:(nd t i).aI.length=4:=by rw[jd.nl,hK];rfl
 have n0:W7 1 (nd t i).dn (.int .i64 0)=some (.fp [.int .i64 ((nd t i).num 0)] 0):=a6v hx (i:=0) oJ;have n1:W7 1 (nd t i).dn (.int .i64 1)=some (.fp [.int .i64 ((nd t i).num 1)] 0):=a6v hx (i:=1) oJ;rw[hK]at iM;have hs:=b39 hT hR hi (kind:=1);by_cases e0:(nd t i).num 0<1
 .have d0:((nd t i).num 0<1)=True:=FR e0
  refine W4 (vf:=a04) rfl ?_;unfold a04;refine zE ?_;repeat first
  |(apply V2 hs rfl rfl (Y6 hT.fz U2 U2))
  |refine zW (X0 iM o1 o2 o3 n0 n1 d0) ?_
  exact⟨.inr trivial,_,rR,_,rfl,sJ⟩
 have d0:((nd t i).num 0<1)=False:=FH e0;by_cases e1:3<(nd t i).num 0
 .have d1:(3<(nd t i).num 0)=True:=FR e1
  refine W4 (vf:=a04) rfl ?_;unfold a04;refine zE ?_;repeat first
  |(apply V2 hs rfl rfl (Y6 hT.fz U2 U2))
  |refine zW (U0 iM o1 o2 o3 n0 n1 d0 d1) ?_
  exact⟨.inr trivial,_,rR,_,rfl,sJ⟩
 have d1:(3<(nd t i).num 0)=False:=FH e1;by_cases e2:(nd t i).num 1<1
 .have d2:((nd t i).num 1<1)=True:=FR e2
  refine W4 (vf:=a04) rfl ?_;unfold a04;refine zE ?_;repeat first
  |(apply V2 hs rfl rfl (Y6 hT.fz U2 U2))
  |refine zW (U0 iM o1 o2 o3 n0 n1 d0 (aN d1 d2)) ?_
  exact⟨.inr trivial,_,rR,_,rfl,sJ⟩
 have d2:((nd t i).num 1<1)=False:=FH e2;by_cases e3:8<(nd t i).num 1
 .have d3:(8<(nd t i).num 1)=True:=FR e3
  refine W4 (vf:=a04) rfl ?_;unfold a04;refine zE ?_;repeat first
  |(apply V2 hs rfl rfl (Y6 hT.fz U2 U2))
  |refine zW (U0 iM o1 o2 o3 n0 n1 d0 (V4 d1 d2 d3)) ?_
  exact⟨.inr trivial,_,rR,_,rfl,sJ⟩
 have d3:(8<(nd t i).num 1)=False:=FH e3;by_cases e4:3<a0J t 1 (i+1)
 .have d4:(3<a0J t 1 (i+1))=True:=FR e4
  refine W4 (vf:=a04) rfl ?_;unfold a04;refine zE ?_;repeat first
  |(apply V2 hs rfl rfl (Y6 hT.fz U2 U2))
  |refine zW (U0 iM o1 o2 o3 n0 n1 d0 (V1 d1 d2 d3 d4)) ?_
  exact⟨.inr trivial,_,rR,_,rfl,sJ⟩
 have d4:(3<a0J t 1 (i+1))=False:=FH e4;refine W4 (vf:=a04) rfl ?_;unfold a04;refine zE ?_;repeat first
 |(apply V2 hs rfl rfl (Y6 hT.fz U2 U2))
 |refine zW (U0 iM o1 o2 o3 n0 n1 d0 (V1 d1 d2 d3 d4)) ?_
 exact⟨.inr trivial,_,rR,_,rfl,λ_=>⟨fJ,fJ,fJ,fJ⟩⟩
theorem c2U(hT:Z0 d t)(hR:Y9 t)(hi:i<t.length)(hK:(nd t i).kind=2):a7r 105 [d,.int .i64 (i:Int)] (a6Z t i):=by
 refine a8V ?_;have iM:=hT.at (z:=(i:Int)) oJ oJ (k:=.i64);rw[an]at iM;have hx:=hT.nd hi;have jd:=hR.ok.node i hi;have hle:=hR.ok.le;have o1:=FL.one hx.w;have o2:=FL.one hx.n;have o3:=FL.one hx.k;have qH:(nd t i).aI.length=2:=by rw[jd.nl,hK];rfl
 have n0:W7 1 (nd t i).dn (.int .i64 0)=some (.fp [.int .i64 ((nd t i).num 0)] 0):=a6v hx (i:=0) oJ;have n1:W7 1 (nd t i).dn (.int .i64 1)=some (.fp [.int .i64 ((nd t i).num 1)] 0):=a6v hx (i:=1) oJ;rw[hK]at iM;have hs:=b39 hT hR hi (kind:=2);have hv:=jd.var hK;by_cases e0:(nd t i).num 0<1
 .have d0:((nd t i).num 0<1)=True:=FR e0
  refine W4 (vf:=a04) rfl ?_;unfold a04;refine zE ?_;repeat first
  |(apply V2 hs rfl rfl (Y6 hT.fz U2 U2))
  |refine zW (X0 iM o1 o2 o3 n0 n1 d0) ?_
  exact⟨.inr trivial,_,rR,_,rfl,sJ⟩
 have d0:((nd t i).num 0<1)=False:=FH e0;by_cases e1:8<(nd t i).num 0
 .have d1:(8<(nd t i).num 0)=True:=FR e1
  refine W4 (vf:=a04) rfl ?_;unfold a04;refine zE ?_;repeat first
  |(apply V2 hs rfl rfl (Y6 hT.fz U2 U2))
  |refine zW (U0 iM o1 o2 o3 n0 n1 d0 d1) ?_
  exact⟨.inr trivial,_,rR,_,rfl,sJ⟩
 have d1:(8<(nd t i).num 0)=False:=FH e1;have ht:=b1z (x:=(nd t i).num 1) (n:=(nd t i).num 0) (w:=((nd t i).num 0).toNat) oJ ⟨oJ,oJ⟩;by_cases e2:W3 ((nd t i).num 1) ((nd t i).num 0).toNat=(nd t i).num 1
 .have d2:(W3 ((nd t i).num 1) ((nd t i).num 0).toNat != (nd t i).num 1)=false:=by rw[e2];simp
  by_cases e3:8<a0J t 2 (i+1)
  .have d3:(8<a0J t 2 (i+1))=True:=FR e3
   refine W4 (vf:=a04) rfl ?_;unfold a04;refine zE ?_;repeat first
   |(apply V2 hs rfl rfl (Y6 hT.fz U2 U2))
   |(apply V2 ht rfl rfl (Y7 U2 U2))
   |refine zW (U0 iM o1 o2 o3 n0 n1 d0 (V4 d1 d2 d3)) ?_
   exact⟨.inr trivial,_,rR,_,rfl,sJ⟩
  .have d3:(8<a0J t 2 (i+1))=False:=FH e3
   refine W4 (vf:=a04) rfl ?_;unfold a04;refine zE ?_;repeat first
   |(apply V2 hs rfl rfl (Y6 hT.fz U2 U2))
   |(apply V2 ht rfl rfl (Y7 U2 U2))
   |refine zW (U0 iM o1 o2 o3 n0 n1 d0 (V4 d1 d2 d3)) ?_
   exact⟨.inr trivial,_,rR,_,rfl,λ_=>⟨fJ,λ_=>⟨oJ,oJ,e2,oJ⟩,fJ,fJ⟩⟩
 .have d2:(W3 ((nd t i).num 1) ((nd t i).num 0).toNat != (nd t i).num 1)=true:=by rw[Hm];exact e2
  refine W4 (vf:=a04) rfl ?_;unfold a04;refine zE ?_;repeat first
  |(apply V2 hs rfl rfl (Y6 hT.fz U2 U2))
  |(apply V2 ht rfl rfl (Y7 U2 U2))
  |refine zW (U0 iM o1 o2 o3 n0 n1 d0 (aN d1 d2)) ?_
  exact⟨.inr trivial,_,rR,_,rfl,sJ⟩
theorem c6C(hT:Z0 d t)(hR:Y9 t)(hi:i<t.length)(hK:(nd t i).kind=3):a7r 105 [d,.int .i64 (i:Int)] (a6Z t i):=by
 refine a8V ?_;have iM:=hT.at (z:=(i:Int)) oJ oJ (k:=.i64);rw[an]at iM;have hx:=hT.nd hi;have jd:=hR.ok.node i hi;have hle:=hR.ok.le;have o1:=FL.one hx.w;have o2:=FL.one hx.n;have o3:=FL.one hx.k;have qH:(nd t i).aI.length=1:=by rw[jd.nl,hK];rfl
 have n0:W7 1 (nd t i).dn (.int .i64 0)=some (.fp [.int .i64 ((nd t i).num 0)] 0):=a6v hx (i:=0) oJ;rw[hK]at iM;have hs:=b39 hT hR hi (kind:=3);by_cases e0:(nd t i).num 0<1
 .have d0:((nd t i).num 0<1)=True:=FR e0
  refine W4 (vf:=a04) rfl ?_;unfold a04;refine zE ?_;repeat first
  |(apply V2 hs rfl rfl (Y6 hT.fz U2 U2))
  |refine zW (X4 iM o1 o2 o3 n0 d0) ?_
  exact⟨.inr trivial,_,rR,_,rfl,sJ⟩
 have d0:((nd t i).num 0<1)=False:=FH e0;by_cases e1:4<a0J t 3 (i+1)
 .have d1:(4<a0J t 3 (i+1))=True:=FR e1
  refine W4 (vf:=a04) rfl ?_;unfold a04;refine zE ?_;repeat first
  |(apply V2 hs rfl rfl (Y6 hT.fz U2 U2))
  |refine zW (X0 iM o1 o2 o3 n0 d0 d1) ?_
  exact⟨.inr trivial,_,rR,_,rfl,sJ⟩
 have d1:(4<a0J t 3 (i+1))=False:=FH e1;refine W4 (vf:=a04) rfl ?_;unfold a04;refine zE ?_;repeat first
 |(apply V2 hs rfl rfl (Y6 hT.fz U2 U2))
 |refine zW (X0 iM o1 o2 o3 n0 d0 d1) ?_
 exact⟨.inr trivial,_,rR,_,rfl,λ_=>⟨fJ,fJ,fJ,fJ⟩⟩
theorem c5p(hT:Z0 d t)(hR:Y9 t)(hi:i<t.length)(hK:(nd t i).kind=17):a7r 105 [d,.int .i64 (i:Int)] (a6Z t i):=by
 refine a8V ?_;have iM:=hT.at (z:=(i:Int)) oJ oJ (k:=.i64);rw[an]at iM;have hx:=hT.nd hi;have jd:=hR.ok.node i hi;have hle:=hR.ok.le;have o1:=FL.one hx.w;have o2:=FL.one hx.n;have o3:=FL.one hx.k;have qH:(nd t i).aI.length=1:=by rw[jd.nl,hK];rfl
 have n0:W7 1 (nd t i).dn (.int .i64 0)=some (.fp [.int .i64 ((nd t i).num 0)] 0):=a6v hx (i:=0) oJ;rw[hK]at iM;by_cases e0:127<(nd t i).num 0
 .have d0:(127<(nd t i).num 0)=True:=FR e0
  refine W4 (vf:=a04) rfl ?_;unfold a04;refine zE ?_;try refine zW (X4 iM o1 o2 o3 n0 d0) ?_
  exact⟨.inr trivial,_,rR,_,rfl,sJ⟩
 have d0:(127<(nd t i).num 0)=False:=FH e0;refine W4 (vf:=a04) rfl ?_;unfold a04;refine zE ?_;try refine zW (X4 iM o1 o2 o3 n0 d0) ?_
 exact⟨.inr trivial,_,rR,_,rfl,λ_=>⟨fJ,fJ,fJ,fJ⟩⟩
theorem c7u(hT:Z0 d t)(hR:Y9 t)(hi:i<t.length)(hK:(nd t i).kind=13):a7r 105 [d,.int .i64 (i:Int)] (a6Z t i):=by
 refine a8V ?_;have iM:=hT.at (z:=(i:Int)) oJ oJ (k:=.i64);rw[an]at iM;have hx:=hT.nd hi;have jd:=hR.ok.node i hi;have hle:=hR.ok.le;have o1:=FL.one hx.w;have o2:=FL.one hx.n;have o3:=FL.one hx.k;rw[hK]at iM;refine W4 (vf:=a04) rfl ?_;unfold a04;refine zE ?_;try refine zW (V1 iM o1 o2 o3) ?_
 refine a1l (Q:=a0u 1 _) (λn env s=>∃j:Nat,j<=i/\n=i-j/\(env.get 0=d/\env.get 1=.int .i64 (i:Int)/\env.get 6=.bool false/\env.get 7=.int .i64 (j:Int))) ?_ i _ _ ⟨0,oJ,rfl,by simp[k6.get]⟩;rintro n env s ⟨j,hj,rfl,hE⟩;by_cases c1:j<i
 .have iU:((j:Int)<(i:Int))=True:=FR oJ
  have hs:IntKind.i64.wrap ((j:Int)+1)=((j+1:Nat):Int):=by rw[Z9 oJ oJ];omega
  have tX:=hT.at (z:=(j:Int)) oJ oJ (k:=.i64);rw[an]at tX;have hy:=hT.nd (i:=j) oJ;have q1:=FL.one hy.w;have q2:=FL.one hy.n;have q3:=FL.one hy.k;obtain⟨b,hb,_⟩:=b9s hT hR (z:=(i:Int)) (t.length+1) j oJ oJ;by_cases c2:(nd t j).kind=13
  .have km:((nd t j).kind==13)=true:=by rw[c2];rfl
   cases b
   .repeat first
    |(apply V2 hb rfl;(focus(simp only[k6.aR,k6.ev,k6.get,Nat.reduceEqDiff,↓reduceIte,hE]));(focus exact Y6 hT.fz U2 U2))
    |refine zW (U0 hE tX q1 q2 q3 iU km hs) ?_
    exact⟨i-(j+1),oJ,j+1,oJ,rfl,(rG hE)⟩
   .repeat first
    |(apply V2 hb rfl;(focus(simp only[k6.aR,k6.ev,k6.get,Nat.reduceEqDiff,↓reduceIte,hE]));(focus exact Y6 hT.fz U2 U2))
    |refine zW (X0 hE tX q1 q2 q3 iU km) ?_
    exact⟨.inr trivial,_,rR,_,rfl,sJ⟩
  .have km:((nd t j).kind==13)=false:=by rw[FA];exact c2
   try refine zW (U0 hE tX q1 q2 q3 iU km hs) ?_
   exact⟨i-(j+1),oJ,j+1,oJ,rfl,(rG hE)⟩
 .have iU:((j:Int)<(i:Int))=False:=FH oJ
  try refine zW (aN hE iU) ?_
  exact⟨.inr trivial,_,rR,_,rfl,λ_=>⟨fJ,fJ,fJ,fJ⟩⟩
theorem c9i(hT:Z0 d t)(hR:Y9 t)(hi:i<t.length)(hK:(nd t i).kind≠1/\(nd t i).kind≠2/\(nd t i).kind≠3/\(nd t i).kind≠13/\(nd t i).kind≠17):a7r 105 [d,.int .i64 (i:Int)] (a6Z t i):=by
 refine a8V ?_;have iM:=hT.at (z:=(i:Int)) oJ oJ (k:=.i64);rw[an]at iM;have hx:=hT.nd hi;have jd:=hR.ok.node i hi;have hle:=hR.ok.le;have o1:=FL.one hx.w;have o2:=FL.one hx.n;have o3:=FL.one hx.k;have n1:((nd t i).kind==1)=false:=by rw[FA];omega
 have n2:((nd t i).kind==2)=false:=by rw[FA];omega
 have n3:((nd t i).kind==3)=false:=by rw[FA];omega
 have Ce:((nd t i).kind==13)=false:=by rw[FA];omega
 have n17:((nd t i).kind==17)=false:=by rw[FA];omega
 refine W4 (vf:=a04) rfl ?_;unfold a04;refine zE ?_;try refine zW (U0 iM o1 o2 o3 n1 n2 n3 (aN Ce n17)) ?_
 exact⟨.inr trivial,_,rR,_,rfl,λ_=>⟨fJ,fJ,fJ,fJ⟩⟩
theorem c8b(hT:Z0 d t)(hR:Y9 t)(hi:i<t.length):a7r 105 [d,.int .i64 (i:Int)] (a6Z t i):=by
 by_cases k1:(nd t i).kind=1
 .exact c8c hT hR hi k1
 by_cases k2:(nd t i).kind=2
 .exact c2U hT hR hi k2
 by_cases k3:(nd t i).kind=3
 .exact c6C hT hR hi k3
 by_cases DL:(nd t i).kind=13
 .exact c7u hT hR hi DL
 by_cases Dg:(nd t i).kind=17
 .exact c5p hT hR hi Dg
 exact c9i hT hR hi ⟨k1,k2,k3,DL,Dg⟩
theorem c3Y(hT:Z0 d t)(hR:Y9 t):IsoF 65 [d] (a3g t/\a30 t):=by
 refine c2h ?_;have hlen:=hT.len;have hle:=hR.ok.le;obtain⟨e,a,hc,hp⟩:=c8C hT hR;obtain⟨sc,hc⟩:=hc;by_cases c0:e=0
 .subst c0
  refine W4 (vf:=b1r) rfl ?_;unfold b1r;refine zE ?_;repeat first
  |(refine a5Y rfl (fz1 hT.fz) hc rfl rfl ?_)
  |refine cR ?_
  refine a1l (Q:=a0u 0 _) (λn env s=>∃i:Nat,i<=t.length/\n=t.length-i/\(∀j,j<i->a6Z t j)/\s.get 0=some (.cells [.int .i64 0,.int .i64 0])/\(env.get 0=d/\env.get 2=.ptr 0 0/\env.get 4=.int .i64 (i:Int))) ?_ t.length _ _ ⟨0,oJ,rfl,λj h=>by omega,rfl,by simp[k6.get,a0n.at];rfl⟩;rintro n env s ⟨i,hi,rfl,iR,hg,hE⟩;have nQ:=t3 hg;by_cases c1:i<t.length
  .have iU:((i:Int)<(t.length:Int))=True:=FR oJ
   have hs:IntKind.i64.wrap ((i:Int)+1)=((i+1:Nat):Int):=by rw[Z9 oJ oJ];omega
   have iM:=hT.at (z:=(i:Int)) oJ oJ (k:=.i64);rw[an]at iM;have hx:=hT.nd c1;have o1:=FL.one hx.w;have o2:=FL.one hx.n;have o3:=FL.one hx.k;obtain⟨e,hb,hq⟩:=c8b hT hR c1;by_cases c2:e=0
   .subst c2
    repeat first
    |(apply V2 hb rfl;(focus(simp only[k6.aR,k6.ev,k6.get,Nat.reduceEqDiff,↓reduceIte,hE]));(focus exact Y7 hT.fz U2))
    |refine zW (V1 hE hlen iU hs) ?_
    refine⟨t.length-(i+1),oJ,i+1,oJ,rfl,λj h=>?_,hg,(rG hE)⟩;by_cases e:j=i
    .subst e;exact hq rfl
    .exact iR j oJ
   .have km:(e != 0)=true:=by rw[Hm];exact c2
    repeat first
    |(apply V2 hb rfl;(focus(simp only[k6.aR,k6.ev,k6.get,Nat.reduceEqDiff,↓reduceIte,hE]));(focus exact Y7 hT.fz U2))
    |refine zW (U0 hE hlen iU km iM o1 o2 (aN o3 hg)) ?_
    refine⟨.inr trivial,_,?_,e,(nd t i).pos,rfl,λh=>(c2 h).elim⟩;simp only[a03,a08,a1t,k6.get,Nat.reduceEqDiff,↓reduceIte,hE,a0b nQ];rfl
  .have iU:((i:Int)<(t.length:Int))=False:=FH oJ
   try refine zW (V1 hE hlen iU hg) ?_
   refine⟨.inr trivial,_,?_,0,0,rfl,λ_=>⟨hp rfl,⟨λj h=>iR j oJ⟩⟩⟩;simp only[a03,a08,a1t,k6.get,Nat.reduceEqDiff,↓reduceIte,hE,a0b nQ];rfl
 .have rT:(e != 0)=true:=by rw[Hm];exact c0
  refine W4 (vf:=b1r) rfl ?_;unfold b1r;refine zE ?_;repeat first
  |(refine a5Y rfl (fz1 hT.fz) hc rfl rfl ?_)
  |refine zW rT ?_
  exact⟨.inr trivial,_,rR,e,a,rfl,λh=>(c0 h).elim⟩
variable{x:X2}{p:Pr}
theorem b0j(hp:Z5 s p x)(hl:a0L p 1000000) :
 Y4 U5 108 [.agg (V0 p x)] s λr s'=>∃x',r=.aT [.agg (V0 p.place x'),.int .i64 (p.ah:Int)]/\Fr [] s s'/\Z5 s' p.place x':=by
 have o1:=hp.l.one;have o2:=hp.r.one;have o3:=hp.e.one;have o4:=hp.n.one;have o5:=hp.v.one;have ky:=hl.pl;have tQ:=hl.rl;have e1:IntKind.i64.wrap ((p.ah:Int)+1)=((p.ah+1:Nat):Int):=by rw[Z9 oJ oJ];omega
 have e2:IntKind.i64.wrap (((p.ah+1:Nat):Int)-1)=(p.ah:Int):=by rw[Z9 oJ oJ];omega
 unfold V0;refine W4 (vf:=b3W) rfl ?_;unfold b3W;refine zE ?_;try refine zW (X4 o1 o2 o3 o4 o5 e1) ?_
 refine a4z (a9i (bO:=[]) (rows:=a0o p.rest) (sz:=1) (bytes:=1) (d:=x.dr) ?_ sJ ?_ (a5b _) dJ qJ) rfl rfl ?_
 .exact W8 rfl
 .exact hp.r.stay ((((Fr.push _).ak _).aC _ (.inr (sm _))).ak _)
 rintro d1 s1 ⟨oO,rfl,k1,f1,g1⟩;have lP:Fr [] s s1:=Fr.trans ((((Fr.push _).ak _).aC _ (.inr (sm _))).ak _) f1 qJ;have n1:=f1.1;have kb:=f1.2 s.next (by simp only[k4.aj,k4.au];omega) (by simp only[k4.aj,k4.au,Fu];omega);have kz:=f1.2 (s.next+1) (by simp only[k4.aj,k4.au];omega) (by simp only[k4.aj,k4.au,Fu];omega);simp only[k4.aj,k4.au]at n1 g1;rw[a0k (by simp only[k4.aj,k4.au];omega),a0b (by simp only[k4.aj];omega)]at kb;rw[a0k (by simp only[k4.aj,k4.au];omega),Y8 oJ,W8 (by simp only[k4.aj])]at kz;have Af:s.next+2<=oO:=oJ;clear f1 g1;rw[Fv]at k1;simp only[Fv,b0f];have uk:=t3 k1;try refine cR ?_
 refine a4z (a9i (bO:=a0o p.rest) (rows:=a0o [false]) (sz:=1) (bytes:=1) (d:=.arr s1.next 0 1 1) ?_ (a5b _) (SN.of (W8 rfl) rfl) (a5b _) dJ qJ) (by rw[b0f];rfl) rfl ?_
 .rw[a0k uk,k1]
 rintro d2 s2 ⟨mL,rfl,k2,f2,g2⟩;have je:Fr [] s s2:=(lP.ak _).trans f2 qJ;have n2:=f2.1;have zG:=f2.2 s.next (by simp only[k4.aj];omega) (by simp only[Fu];omega);have yO:=f2.2 (s.next+1) (by simp only[k4.aj];omega) (by simp only[Fu];omega);simp only[k4.aj]at n2 g2;rw[a0k oJ,kb]at zG;rw[a0k oJ,kz]at yO;have qq:s.next+2<=mL:=oJ;clear f2 g2 kb kz;rw[<- b8o]at k2;rw[<- b8o,b0f];have lid2:=t3 k2;try refine zT (X0 zG yO o1 o3 o4 o5 e2) ?_
 refine wt_w (id:=s.next+1) (ob:=.cells [.str p.name,.int .i64 (p.copy:Int),x.dl,.int .i64 ((p.ah+1:Nat):Int),.arr mL 0 (p.rest++[false]).length 1,x.de,x.dn,x.dv]) ?_ sJ rfl ?_
 .simp(disch:=(first|with_reducible assumption|omega|((repeat(first|rw[nP]|rw[nS]))<;>omega)|fail)) only[go_sem,k6.ev,k6.get,↓reduceIte,yO,o1,o3,o4,o5]
 try refine cR ?_
 have iY:Fr [] s ((s2.set s.next (some (.cells [.str p.name,.int .i64 (p.copy:Int),x.dl,.int .i64 ((p.ah+1:Nat):Int),.arr mL 0 (p.rest++[false]).length 1,x.de,x.dn,x.dv]))).set (s.next+1) (some (.cells [.str p.name,.int .i64 (p.copy:Int),x.dl,.int .i64 ((p.ah+1:Nat):Int),.arr mL 0 (p.rest++[false]).length 1,x.de,x.dn,x.dv]))):=(je.aC _ (.inr (sm _))).aC _ (.inr (Hn _));refine⟨.inr trivial,_,?_,⟨x.dl,.arr mL 0 (p.rest++[false]).length 1,x.de,x.dn,x.dv⟩,rfl,iY,?_⟩
 .simp only[a03,a08,a1t,k6.get,Nat.reduceEqDiff,↓reduceIte,a0n.at,k4.aj,a0b (s:=s2.set s.next _) (i:=s.next+1) (by simp only[k4.au];omega)]
  rfl
 refine⟨hp.l.stay iY,SN.of ?_ (by simp[Pr.place]),hp.e.stay iY,hp.n.stay iY,hp.v.stay iY⟩;rw[Y8 oJ,Y8 oJ,k2];rfl
theorem a5m(hp:Z5 s p x)(hl:a0L p 1000000){aq to act node:Nat}{expr v c:Int} :
 Y4 U5 106 [.agg (V0 p x),.int .i64 (aq:Int),.int .i64 (to:Int),.int .i64 (act:Int),.int .i64 (node:Int),.int .i64 expr,.int .i64 v,.int .i64 c] s λr s'=>∃x',r=.agg (V0 (p.put aq to act node expr v c) x')/\Fr [] s s'/\Z5 s' (p.put aq to act node expr v c) x'/\∃id,x'.de=.arr id 0 (p.put aq to act node expr v c).ai.length 8/\s.next<=id:=by
 have o1:=hp.l.one;have o2:=hp.r.one;have o3:=hp.e.one;have o4:=hp.n.one;have o5:=hp.v.one;have mO:=hl.el;unfold V0;refine W4 (vf:=b4H) rfl ?_;unfold b4H;refine zE ?_;try refine zW (W0 o1 o2 o3 o4 o5) ?_
 refine a4z (a9i (bO:=[]) (rows:=a0O p.ai) (sz:=8) (bytes:=64) (d:=x.de) ?_ sJ ?_ (a7v _) dJ qJ) rfl rfl ?_
 .exact W8 rfl
 .exact hp.e.stay (((Fr.push _).ak _).ak _)
 rintro d1 s1 ⟨oO,rfl,k1,f1,g1⟩;have lP:Fr [] s s1:=Fr.trans (((Fr.push _).ak _).ak _) f1 qJ;have n1:=f1.1;have kb:=f1.2 s.next (by simp only[k4.aj];omega) (by simp only[k4.aj,Fu];omega);have kz:=f1.2 (s.next+1) (by simp only[k4.aj];omega) (by simp only[k4.aj,Fu];omega);simp only[k4.aj]at n1 g1;rw[a0k (by simp only[k4.aj];omega),a0k (by simp only[k4.aj];omega),W8 rfl]at kb;rw[a0k (by simp only[k4.aj];omega),W8 (by simp only[k4.aj])]at kz;have Af:s.next+2<=oO:=oJ;clear f1 g1;rw[Fv]at k1;simp only[Fv,a6S];have uk:=t3 k1;try refine cR ?_
 refine a4z (a9i (bO:=a0O p.ai) (rows:=a0O [⟨aq,to,act,expr,v,c,false,node⟩]) (sz:=8) (bytes:=64) (d:=.arr s1.next 0 1 8) ?_ (a7v _) (SN.of (W8 rfl) rfl) (a7v _) dJ qJ) (by rw[a6S];rfl) rfl ?_
 .rw[a0k uk,k1]
 rintro d2 s2 ⟨mL,rfl,k2,f2,g2⟩;have je:Fr [] s s2:=(lP.ak _).trans f2 qJ;have n2:=f2.1;have zG:=f2.2 s.next (by simp only[k4.aj];omega) (by simp only[Fu];omega);have yO:=f2.2 (s.next+1) (by simp only[k4.aj];omega) (by simp only[Fu];omega);simp only[k4.aj]at n2 g2;rw[a0k oJ,kb]at zG;rw[a0k oJ,kz]at yO;have qq:s.next+2<=mL:=oJ;clear f2 g2 kb kz;rw[<- b9i]at k2;rw[<- b9i,a6S];have lid2:=t3 k2;try refine zW (X4 zG yO o1 o2 o4 o5) ?_
 generalize iS:[D.str p.name,.int .i64 (p.copy:Int),x.dl,.int .i64 (p.ah:Int),x.dr,.arr mL 0 (p.ai++[(⟨aq,to,act,expr,v,c,false,node⟩:Ed)]).length 8,x.dn,x.dv]=row;have iY:Fr [] s ((s2.set s.next (some (.cells row))).set (s.next+1) (some (.cells row))):=(je.aC _ (.inr (sm _))).aC _ (.inr (Hn _));refine⟨.inr trivial,_,?_,⟨x.dl,x.dr,.arr mL 0 (p.ai++[(⟨aq,to,act,expr,v,c,false,node⟩:Ed)]).length 8,x.dn,x.dv⟩,rfl,iY,?_,mL,rfl,oJ⟩
 .simp only[a03,a08,a1t,k6.get,Nat.reduceEqDiff,↓reduceIte,a0n.at,k4.aj,a0b (s:=s2.set s.next _) (i:=s.next+1) (by simp only[k4.au];omega)]
  rw[<- iS];rfl
 refine⟨hp.l.stay iY,hp.r.stay iY,SN.of ?_ (by simp[Pr.put]),hp.n.stay iY,hp.v.stay iY⟩;rw[Y8 oJ,Y8 oJ,k2];rfl
theorem c2w(l:List Bool)(i:Nat)(b:Bool):(a0o l).flatten.set i (.bool b)=(a0o (l.set i b)).flatten:=by
 have key:∀l:List Bool,(a0o l).flatten=l.map .bool:=by
  intro l;induction l with
  |nil=>rfl
  |cons a r ih=>simp only[a0o,FJ,GF]at ih⊢;rw[ih];rfl
 rw[key,key,Kx]
theorem dB(l:List Bool):(a0o l).flatten.length=l.length:=by rw[a8u (a5b l),b0f,HM]
variable{n:Nat}{is:Int}
theorem b5j(hp:Z5 s p x)(hl:a0L p 1000000)(hn:n<p.rest.length):
 Y4 U5 145 [.agg (V0 p x),.int .i64 (n:Int),.int .i64 is] s λr s'=>∃x',r=.agg (V0 (p.idle n is) x')/\Fr [] s s'/\Z5 s' (p.idle n is) x':=by
 have o1:=hp.l.one;have o2:=hp.r.one;have o3:=hp.e.one;have o4:=hp.n.one;have o5:=hp.v.one;have tQ:=hl.rl;unfold V0;refine W4 (vf:=b6n) rfl ?_;unfold b6n;refine zE ?_;try refine zW (W0 o1 o2 o3 o4 o5) ?_
 refine a4z (a9i (bO:=[]) (rows:=a0o p.rest) (sz:=1) (bytes:=1) (d:=x.dr) ?_ sJ ?_ (a5b _) dJ qJ) rfl rfl ?_
 .exact W8 rfl
 .exact hp.r.stay (((Fr.push _).ak _).ak _)
 rintro d1 s1 ⟨oO,rfl,k1,f1,g1⟩;have lP:Fr [] s s1:=Fr.trans (((Fr.push _).ak _).ak _) f1 qJ;have n1:=f1.1;have kb:=f1.2 s.next (by simp only[k4.aj];omega) (by simp only[k4.aj,Fu];omega);have kz:=f1.2 (s.next+1) (by simp only[k4.aj];omega) (by simp only[k4.aj,Fu];omega);simp only[k4.aj]at n1 g1;rw[a0k (by simp only[k4.aj];omega),a0k (by simp only[k4.aj];omega),W8 rfl]at kb;rw[a0k (by simp only[k4.aj];omega),W8 (by simp only[k4.aj])]at kz;have Af:s.next+2<=oO:=oJ;clear f1 g1;rw[Fv]at k1;simp only[Fv,b0f];have uk:=t3 k1;by_cases c:is=1
 .have c':(is==1)=true:=by rw[c];rfl
  have qH:((n:Int)<(p.rest.length:Int)):=oJ;have hi:W7 1 (.arr oO 0 p.rest.length 1) (.int .i64 (n:Int))=some (.ptr oO n):=by
   simp only[W7];rw[Fk ⟨trivial,oJ,oJ⟩];simp
  repeat first
  |(refine b2H (x:=.bool true) k1 (n:=n) (by rw[dB];omega) rfl ?_ rfl ?_;(focus(simp only[k6.ev,k6.get,Nat.reduceEqDiff,↓reduceIte])))
  |refine zW (aN c' hi) ?_
  have kb1:(s1.set oO (some (.cells ((a0o p.rest).flatten.set n (.bool true))))).get s.next=some (.cells [.str p.name,.int .i64 (p.copy:Int),x.dl,.int .i64 (p.ah:Int),x.dr,x.de,x.dn,x.dv]):=by rw[Y8 oJ,kb]
  have DO:=Y8 (s:=s1) (o:=some (.cells ((a0o p.rest).flatten.set n (.bool true)))) (i:=s.next+1) (id:=oO) oJ;rw[kz]at DO;try refine zW (X4 kb1 DO o1 o3 o4 o5) ?_
  generalize iS:[D.str p.name,.int .i64 (p.copy:Int),x.dl,.int .i64 (p.ah:Int),.arr oO 0 p.rest.length 1,x.de,x.dn,x.dv]=row;have iY:Fr [] s (((s1.set oO (some (.cells ((a0o p.rest).flatten.set n (.bool true))))).set s.next (some (.cells row))).set (s.next+1) (some (.cells row))):=((lP.aC _ (.inr oJ)).aC _ (.inr (sm _))).aC _ (.inr (Hn _));have jb:p.idle n is={ p with rest:=p.rest.set n true }:=by unfold Pr.idle;rw[Fk c]
  rw[jb];refine⟨.inr trivial,_,?_,⟨x.dl,.arr oO 0 p.rest.length 1,x.de,x.dn,x.dv⟩,rfl,iY,?_⟩
  .simp only[a03,a08,a1t,k6.get,Nat.reduceEqDiff,↓reduceIte,a0n.at,k4.aj,a0b (i:=s.next+1) (s:=(s1.set oO _).set s.next _) (by simp only[k4.au];omega)]
   rw[<- iS];rfl
  refine⟨hp.l.stay iY,SN.of ?_ sJ,hp.e.stay iY,hp.n.stay iY,hp.v.stay iY⟩;rw[Y8 oJ,Y8 oJ,a0b uk,c2w]
 .have c':(is==1)=false:=by rw[FA];exact c
  try refine zW (X0 c' kb kz o1 o3 o4 o5) ?_
  generalize iS:[D.str p.name,.int .i64 (p.copy:Int),x.dl,.int .i64 (p.ah:Int),.arr oO 0 p.rest.length 1,x.de,x.dn,x.dv]=row;have iY:Fr [] s ((s1.set s.next (some (.cells row))).set (s.next+1) (some (.cells row))):=(lP.aC _ (.inr (sm _))).aC _ (.inr (Hn _));have jb:p.idle n is=p:=by unfold Pr.idle;rw[so c]
  rw[jb];refine⟨.inr trivial,_,?_,⟨x.dl,.arr oO 0 p.rest.length 1,x.de,x.dn,x.dv⟩,rfl,iY,?_⟩
  .simp only[a03,a08,a1t,k6.get,Nat.reduceEqDiff,↓reduceIte,a0n.at,k4.aj,a0b (i:=s.next+1) (s:=s1.set s.next _) (by simp only[k4.au];omega)]
   rw[<- iS];rfl
  refine⟨hp.l.stay iY,SN.of ?_ sJ,hp.e.stay iY,hp.n.stay iY,hp.v.stay iY⟩;rw[Y8 oJ,Y8 oJ,k1]
variable{x:ByteArray}
theorem b6G{l:List ByteArray}(h:i<l.length)(hx:l[i]=x)(hb:∀j(hj:j<l.length),j<i->l[j]≠x):a2k l x=i:=by
 have:l.findIdx (λy=>decide (y=x))=i:=by
  rw[List.findIdx_eq h];exact⟨sU hx,λj hj=>sU (hb j oJ hj)⟩
 unfold a2k;rw[this,Fk h]
theorem b9m{l:List ByteArray}(hb:∀j(hj:j<l.length),l[j]≠x):a2k l x=0:=by
 unfold a2k;rw[so];rw[List.findIdx_lt_length];rintro⟨y,hy,e⟩;obtain⟨j,hj,rfl⟩:=FQ hy;exact hb j hj (sU e)
theorem b8u{l:List ByteArray}(hd:SN s 1 d (a1M l))(hl:l.length<=1000000):Ev U5 143 [d,.str x] s (.int .i64 (a2k l x:Int)) s:=by
 have hlen:=hd.len;rw[b5I]at hlen;refine b0p (vf:=b3k) rfl ?_;unfold b3k;refine zE ?_;try refine cR ?_
 refine a1l (Q:=a0u 0 _) (λn env s1=>∃i:Nat,i<=l.length/\n=l.length-i/\(∀j(hj:j<l.length),j<i->l[j]≠x)/\s1=s/\(env.get 0=d/\env.get 1=.str x/\env.get 5=.int .i64 (i:Int))) ?_ l.length _ _ ⟨0,oJ,rfl,λj _ h=>by omega,rfl,by simp[k6.get]⟩;rintro n env s1 ⟨i,hi,rfl,iT,rfl,hE⟩;by_cases c1:i<l.length
 .have iU:((i:Int)<(l.length:Int))=True:=FR oJ
  have hs:IntKind.i64.wrap ((i:Int)+1)=((i+1:Nat):Int):=by rw[Z9 oJ oJ];omega
  obtain⟨pp,p1,p2,-⟩:=hd.iy (b1D l) (i:=i) (c:=.str l[i]) (sU c1) (by simp[a1M]) rfl dJ;by_cases c2:l[i]=x
  .have hf:=b6G c1 c2 iT
   try refine zW (X4 hE hlen iU p1 p2 c2) ?_
   exact⟨.inr trivial,trivial,by rw[hf];simp only[a03,a08,a1t,k6.get,Nat.reduceEqDiff,↓reduceIte,hE]⟩
  .try refine zW (X0 hE hlen iU p1 p2 c2 hs) ?_
   refine⟨l.length-(i+1),oJ,i+1,oJ,rfl,λj hj hji=>?_,trivial,(rG hE)⟩;by_cases e:j=i
   .subst e;exact c2
   .exact iT j hj oJ
 .have iU:((i:Int)<(l.length:Int))=False:=FH oJ
  have hf:=b9m (l:=l) (x:=x) λj hj=>iT j hj oJ
  try refine zW (V4 hE hlen iU) ?_
  exact⟨.inr trivial,trivial,by rw[hf];rfl⟩
variable{m:X7}
theorem b9G{ch:List Ch}(hm:a25 s m t ch)(hl:ch.length<=1000000) :
 Y4 U5 144 [.agg (Z6 m),.str x] s λr s'=>r=.int .i64 (a2k (ch.map Ch.name) x:Int)/\Fr [] s s':=by
 have hlen:=hm.c.len;rw[b0x]at hlen;have o0:=FL.one hm.tr.fl;have o1:=hm.c.one;have o2:=hm.ov;have o3:=hm.op;have o4:=hm.os;unfold Z6;refine W4 (vf:=b4s) rfl ?_;unfold b4s;refine zE ?_;try refine zW (W0 o0 o1 o2 o3 o4) ?_
 have qA:(s.push (.cells [m.dt,.int .i64 m.g,m.dc,m.dv,m.dp,m.ds,.bool m.b])).get s.next=some (.cells [m.dt,.int .i64 m.g,m.dc,m.dv,m.dp,m.ds,.bool m.b]):=W8 rfl;have hc:=hm.c.stay (Fr.push (ids:=[]) (s:=s) (.cells [m.dt,.int .i64 m.g,m.dc,m.dv,m.dp,m.ds,.bool m.b]));have fr:=Fr.push (ids:=[]) (s:=s) (.cells [m.dt,.int .i64 m.g,m.dc,m.dv,m.dp,m.ds,.bool m.b]);generalize s.push (.cells [m.dt,.int .i64 m.g,m.dc,m.dv,m.dp,m.ds,.bool m.b])=s1 at *;refine a1l (Q:=a0u 0 _) (λn env s2=>∃i:Nat,i<=ch.length/\n=ch.length-i/\(∀j(hj:j<(ch.map Ch.name).length),j<i->(ch.map Ch.name)[j]≠x)/\s2=s1/\(env.get 1=.str x/\env.get 2=.ptr s.next 0/\env.get 5=.int .i64 (i:Int))) ?_ ch.length _ _ ⟨0,oJ,rfl,λj _ h=>by omega,rfl,by simp[k6.get,a0n.at]⟩;rintro n env s2 ⟨i,hi,rfl,iT,rfl,hE⟩;by_cases c1:i<ch.length
 .have iU:((i:Int)<(ch.length:Int))=True:=FR oJ
  have hs:IntKind.i64.wrap ((i:Int)+1)=((i+1:Nat):Int):=by rw[Z9 oJ oJ];omega
  rcases hc with⟨_,h0⟩|⟨id,kL,hg⟩|kL
  .have:=Ig List.length h0
   rw[b0x,IS]at this;omega
  .have hq:(a2Q ch).flatten[i*5]?=some (.str ch[i].name):=by
    have:=b0q (b6C ch) (i:=i) (f:=0) (sU c1) dJ;rw[GN]at this;rw[this];simp[a2Q,Ch.row]
   rw[b0x]at kL;have rL:(ch.map Ch.name)[i]'(sU c1)=ch[i].name:=sJ;rw[kL]at qA hlen o1;by_cases c2:ch[i].name=x
   .have hf:=b6G (l:=ch.map Ch.name) (i:=i) (sU c1) (by rw[rL];exact c2) iT
    try refine zW (U0 hE qA o0 o1 o2 o3 o4 (W0 hlen iU hg hq c2)) ?_
    exact⟨.inr trivial,_,rR,by rw[hf],fr⟩
   .try refine zW (U0 hE qA o0 o1 o2 o3 o4 (X4 hlen iU hg hq c2 hs)) ?_
    refine⟨ch.length-(i+1),oJ,i+1,oJ,rfl,λj hj hji=>?_,trivial,(rG hE)⟩;by_cases e:j=i
    .subst e;rw[rL];exact c2
    .exact iT j hj oJ
  .have rL:(ch.map Ch.name)[i]'(sU c1)=ch[i].name:=sJ
   have mA:W7 5 m.dc (.int .i64 (i:Int))=some (.fp [.str ch[i].name,.int .i64 ch[i].room,.int .i64 ch[i].width,.bool ch[i].bC,.bool ch[i].aS] 0):=by
    rw[kL];simp[W7,a2Q,c1,Ch.row]
   by_cases c2:ch[i].name=x
   .have hf:=b6G (l:=ch.map Ch.name) (i:=i) (sU c1) (by rw[rL];exact c2) iT
    try refine zW (U0 hE qA o0 o1 o2 o3 o4 (V1 hlen iU mA c2)) ?_
    exact⟨.inr trivial,_,rR,by rw[hf],fr⟩
   .try refine zW (U0 hE qA o0 o1 o2 o3 o4 (W0 hlen iU mA c2 hs)) ?_
    refine⟨ch.length-(i+1),oJ,i+1,oJ,rfl,λj hj hji=>?_,trivial,(rG hE)⟩;by_cases e:j=i
    .subst e;rw[rL];exact c2
    .exact iT j hj oJ
 .have iU:((i:Int)<(ch.length:Int))=False:=FH oJ
  have hf:=b9m (l:=ch.map Ch.name) (x:=x) λj hj=>iT j hj (by simp at hj;omega)
  try refine zW (U0 hE qA o0 o1 o2 o3 o4 (aN hlen iU)) ?_
  exact⟨.inr trivial,_,rR,by rw[hf];rfl,fr⟩
theorem a1p:∀(p:Pr)(x:X2),V0 p x=[.str p.name,.int .i64 (p.copy:Int),x.dl,.int .i64 (p.ah:Int),x.dr,x.de,x.dn,x.dv]:=λ_ _=>rfl
theorem b9J{l:List Nat}(h:SN s 1 d (a0i l))(hi:i<l.length):∃p,W7 1 d (.int .i64 (i:Int))=some p/\bF s.get none p=some (.int .i64 ((l.getD i 0:Nat):Int))/\∀id off,p=.ptr id off->id<s.next :=
 h.iy (a4M l) (sU hi) (by simp[a0i,List.getD,hi]) rfl dJ
theorem a3s{a b:Nat}(h:a0L p a)(k:a<=b):a0L p b:=⟨by have:=h.pl;omega,by have:=h.rl;omega,by have:=h.el;omega⟩
theorem b5C{a n:Nat}(h:a0L p a):a0L (p.idle n is) a:=by
 have g:=b2u p n is;exact⟨by have:=h.pl;have:=g.pl;omega,by have:=h.rl;have:=g.rl;omega,by have:=h.el;have:=g.el;omega⟩
theorem a4f{q:Pr}{a b n:Nat}(h:a0L p a)(g:Gw p q n)(k:a+n<=b):a0L q b:=⟨by have:=h.pl;have:=g.pl;omega,by have:=h.rl;have:=g.rl;omega,by have:=h.el;have:=g.el;omega⟩
variable{x:X2}{k aq to:Nat}
theorem c3n{ch:List Ch}(hm:a25 s m t ch)(ht:a2a t)(hp:Z5 s p x)(hl:a0L p 900000)(hk:k<t.length)(hK:(nd t k).kind=14):
 Y4 U5 107 [.agg (Z6 m),.agg (V0 p x),.int .i64 (k:Int),.int .i64 (aq:Int),.int .i64 (to:Int)] s (fB s p (X5 t (ch.map Ch.name) (f+1) p k aq to)):=by
 have hF:X5 t (ch.map Ch.name) (f+1) p k aq to=p.put aq to 0 k (-1) (-1) (-1):=by simp[X5,hK]
 rw[hF];have iM:=hm.tr.at (z:=(k:Int)) oJ oJ (k:=.i64);rw[an,hK]at iM;have on:=a2Y hm.tr hk;have op:=hp.aw;have om:=hm.aw;have kE:a0L p 1000000:=⟨by have:=hl.pl;omega,by have:=hl.rl;omega,by have:=hl.el;omega⟩
 have iT:=ht.node k hk;unfold Z6 V0;refine W4 (vf:=a22) rfl ?_;unfold a22;refine zE ?_;try refine zW (V1 iM on op om) ?_
 refine a1B (Φ:=SF s m [.int .i64 14,(nd t k).dw,(nd t k).dn,(nd t k).dk,.int .i64 (nd t k).pos] (V0 p x)) ?_ ?_
 .refine⟨(((((Fr.push _).ak _).ak _).ak _).aC _ (.inr (by first|omega|(simp only[k4.aj];omega)))),by simp only[k4.aj,k4.au];omega,?_,?_,?_,?_⟩<;>(simp(disch:=(first|with_reducible assumption|omega|((repeat(first|rw[nP]|rw[nS]))<;>omega)|fail)) only[a0k,W8,Y8,a0b,k4.aj,k4.au])<;>rfl
 intro s4 h4;simp only[a0n.at,k4.aj,k4.au];apply a09 (a5m (to:=to) (act:=0) (hp.stay h4.fr) kE)
 .rfl
 rintro r s9 ⟨x9,rfl,f9,jI,id9,e9,z9⟩;have h9:=h4.call f9;have lZ:a2G s x9.de:=a7k e9 z9 h4.fr.1;have lJ:=jI.aw;have r9:=h9.r;try refine zW (V4 r9 lJ @a1p) ?_
 exact⟨.inr trivial,_,h9.res rfl,h9.fin jI lZ⟩
theorem c6a{ch:List Ch}(hm:a25 s m t ch)(ht:a2a t)(hp:Z5 s p x)(hl:a0L p 900000)(hk:k<t.length)(hK:(nd t k).kind=15):
 Y4 U5 107 [.agg (Z6 m),.agg (V0 p x),.int .i64 (k:Int),.int .i64 (aq:Int),.int .i64 (to:Int)] s (fB s p (X5 t (ch.map Ch.name) (f+1) p k aq to)):=by
 have hF:X5 t (ch.map Ch.name) (f+1) p k aq to=p.put aq 1 0 k (-1) (-1) (-1):=by simp[X5,hK]
 rw[hF];have iM:=hm.tr.at (z:=(k:Int)) oJ oJ (k:=.i64);rw[an,hK]at iM;have on:=a2Y hm.tr hk;have op:=hp.aw;have om:=hm.aw;have kE:a0L p 1000000:=⟨by have:=hl.pl;omega,by have:=hl.rl;omega,by have:=hl.el;omega⟩
 have iT:=ht.node k hk;unfold Z6 V0;refine W4 (vf:=a22) rfl ?_;unfold a22;refine zE ?_;try refine zW (V1 iM on op om) ?_
 refine a1B (Φ:=SF s m [.int .i64 15,(nd t k).dw,(nd t k).dn,(nd t k).dk,.int .i64 (nd t k).pos] (V0 p x)) ?_ ?_
 .refine⟨(((((Fr.push _).ak _).ak _).ak _).aC _ (.inr (by first|omega|(simp only[k4.aj];omega)))),by simp only[k4.aj,k4.au];omega,?_,?_,?_,?_⟩<;>(simp(disch:=(first|with_reducible assumption|omega|((repeat(first|rw[nP]|rw[nS]))<;>omega)|fail)) only[a0k,W8,Y8,a0b,k4.aj,k4.au])<;>rfl
 intro s4 h4;simp only[a0n.at,k4.aj,k4.au];apply a09 (a5m (to:=1) (act:=0) (hp.stay h4.fr) kE)
 .rfl
 rintro r s9 ⟨x9,rfl,f9,jI,id9,e9,z9⟩;have h9:=h4.call f9;have lZ:a2G s x9.de:=a7k e9 z9 h4.fr.1;have lJ:=jI.aw;have r9:=h9.r;try refine zW (V4 r9 lJ @a1p) ?_
 exact⟨.inr trivial,_,h9.res rfl,h9.fin jI lZ⟩
theorem stat_6{ch:List Ch}(hm:a25 s m t ch)(ht:a2a t)(hp:Z5 s p x)(hl:a0L p 900000)(lD:p.names.length=p.vars.length)(pX:0<p.names.length)(nF:p.names.length<=1000000)(hk:k<t.length)(hK:(nd t k).kind=6):
 Y4 U5 107 [.agg (Z6 m),.agg (V0 p x),.int .i64 (k:Int),.int .i64 (aq:Int),.int .i64 (to:Int)] s (fB s p (X5 t (ch.map Ch.name) (f+1) p k aq to)):=by
 have hF:X5 t (ch.map Ch.name) (f+1) p k aq to=p.put aq to 1 k ((nd t k).aE 0) (p.vars.getD (a2k p.names ((nd t k).word 0)) 0:Nat) (-1):=by simp[X5,hK]
 rw[hF];have iM:=hm.tr.at (z:=(k:Int)) oJ oJ (k:=.i64);rw[an,hK]at iM;have on:=a2Y hm.tr hk;have op:=hp.aw;have om:=hm.aw;have kE:a0L p 1000000:=⟨by have:=hl.pl;omega,by have:=hl.rl;omega,by have:=hl.el;omega⟩
 have iT:=ht.node k hk;have ke:=iT.one oJ;have k0:W7 1 (nd t k).dk (.int .i64 0)=some (.fp [.int .i64 ((nd t k).aE 0:Int)] 0):=a2T hm.tr ht hk (i:=0) oJ;have nU:(nd t k).words.length=1:=by rw[iT.wl,hK];rfl
 have w0:W7 1 (nd t k).dw (.int .i64 0)=some (.fp [.str ((nd t k).word 0)] 0):=a6m hm.tr hk (i:=0) oJ;have mZ:=b1a (s:=(nd t k).word 0) pX;unfold Z6 V0;refine W4 (vf:=a22) rfl ?_;unfold a22;refine zE ?_;try refine zW (X4 iM on op om k0 w0) ?_
 refine a1B (Φ:=SF s m [.int .i64 6,(nd t k).dw,(nd t k).dn,(nd t k).dk,.int .i64 (nd t k).pos] (V0 p x)) ?_ ?_
 .refine⟨(((((Fr.push _).ak _).ak _).ak _).aC _ (.inr (by first|omega|(simp only[k4.aj];omega)))),by simp only[k4.aj,k4.au];omega,?_,?_,?_,?_⟩<;>(simp(disch:=(first|with_reducible assumption|omega|((repeat(first|rw[nP]|rw[nS]))<;>omega)|fail)) only[a0k,W8,Y8,a0b,k4.aj,k4.au])<;>rfl
 intro s4 h4;simp only[a0n.at,k4.aj,k4.au];refine c3r (l:=[x.dn,.str ((nd t k).word 0)]) rfl (b8u (hp.stay h4.fr).n nF) ?_;obtain⟨id,v1,v2,v3⟩:=b9J (hp.stay h4.fr).v (i:=a2k p.names ((nd t k).word 0)) oJ;try refine zW (aN v1 v2) ?_
 apply a09 (a5m (act:=1) (hp.stay h4.fr) kE)
 .rfl
 rintro r s9 ⟨x9,rfl,f9,jI,id9,e9,z9⟩;have h9:=h4.call f9;have lZ:a2G s x9.de:=a7k e9 z9 h4.fr.1;have lJ:=jI.aw;have r9:=h9.r;try refine zW (V4 r9 lJ @a1p) ?_
 exact⟨.inr trivial,_,h9.res rfl,h9.fin jI lZ⟩
theorem stat_7{ch:List Ch}(hm:a25 s m t ch)(ht:a2a t)(hp:Z5 s p x)(hl:a0L p 900000)(uO:ch.length<=1000000)(hk:k<t.length)(hK:(nd t k).kind=7):
 Y4 U5 107 [.agg (Z6 m),.agg (V0 p x),.int .i64 (k:Int),.int .i64 (aq:Int),.int .i64 (to:Int)] s (fB s p (X5 t (ch.map Ch.name) (f+1) p k aq to)):=by
 have hF:X5 t (ch.map Ch.name) (f+1) p k aq to=p.put aq to 2 k ((nd t k).aE 0) (-1) (a2k (ch.map Ch.name) ((nd t k).word 0):Nat):=by simp[X5,hK]
 rw[hF];have iM:=hm.tr.at (z:=(k:Int)) oJ oJ (k:=.i64);rw[an,hK]at iM;have on:=a2Y hm.tr hk;have op:=hp.aw;have om:=hm.aw;have kE:a0L p 1000000:=⟨by have:=hl.pl;omega,by have:=hl.rl;omega,by have:=hl.el;omega⟩
 have iT:=ht.node k hk;have ke:=iT.one oJ;have k0:W7 1 (nd t k).dk (.int .i64 0)=some (.fp [.int .i64 ((nd t k).aE 0:Int)] 0):=a2T hm.tr ht hk (i:=0) oJ;have nU:(nd t k).words.length=1:=by rw[iT.wl,hK];rfl
 have w0:W7 1 (nd t k).dw (.int .i64 0)=some (.fp [.str ((nd t k).word 0)] 0):=a6m hm.tr hk (i:=0) oJ;unfold Z6 V0;refine W4 (vf:=a22) rfl ?_;unfold a22;refine zE ?_;try refine zT (X4 iM on op om k0 w0) ?_
 refine c0Y (Φ:=SF s m [.int .i64 7,(nd t k).dw,(nd t k).dn,(nd t k).dk,.int .i64 (nd t k).pos] (V0 p x)) ?_ ?_
 .refine⟨(((((Fr.push _).ak _).ak _).ak _).aC _ (.inr (by first|omega|(simp only[k4.aj];omega)))),by simp only[k4.aj,k4.au];omega,?_,?_,?_,?_⟩<;>(simp(disch:=(first|with_reducible assumption|omega|((repeat(first|rw[nP]|rw[nS]))<;>omega)|fail)) only[a0k,W8,Y8,a0b,k4.aj,k4.au])<;>rfl
 intro s4 h4;simp only[a0n.at,k4.aj,k4.au];refine c0d (b9G (hm.stay h4.fr) uO) (λd s' h=>h.2) (by
  intro id jb;have:=h4.nx;simp only[Fi,FW,Hg]at jb;omega) rfl rfl ?_
 rintro r s5 ⟨rfl,f5⟩;have h5:=h4.call f5;apply a09 (a5m (act:=2) (hp.stay h5.fr) kE)
 .rfl
 rintro r s9 ⟨x9,rfl,f9,jI,id9,e9,z9⟩;have h9:=h5.call f9;have lZ:a2G s x9.de:=a7k e9 z9 h5.fr.1;have lJ:=jI.aw;have r9:=h9.r;try refine zW (V4 r9 lJ @a1p) ?_
 exact⟨.inr trivial,_,h9.res rfl,h9.fin jI lZ⟩
theorem stat_9{ch:List Ch}(hm:a25 s m t ch)(ht:a2a t)(hp:Z5 s p x)(hl:a0L p 900000)(iW:aq<p.rest.length)(hk:k<t.length)(hK:(nd t k).kind=9):
 Y4 U5 107 [.agg (Z6 m),.agg (V0 p x),.int .i64 (k:Int),.int .i64 (aq:Int),.int .i64 (to:Int)] s (fB s p (X5 t (ch.map Ch.name) (f+1) p k aq to)):=by
 have hF:X5 t (ch.map Ch.name) (f+1) p k aq to=(p.idle aq ((nd t k).num 0)).put aq to 4 k ((nd t k).aE 0) (-1) (-1):=by simp[X5,hK]
 rw[hF];have iM:=hm.tr.at (z:=(k:Int)) oJ oJ (k:=.i64);rw[an,hK]at iM;have on:=a2Y hm.tr hk;have op:=hp.aw;have om:=hm.aw;have kE:a0L p 1000000:=⟨by have:=hl.pl;omega,by have:=hl.rl;omega,by have:=hl.el;omega⟩
 have iT:=ht.node k hk;have ke:=iT.one oJ;have k0:W7 1 (nd t k).dk (.int .i64 0)=some (.fp [.int .i64 ((nd t k).aE 0:Int)] 0):=a2T hm.tr ht hk (i:=0) oJ;have qH:(nd t k).aI.length=1:=by rw[iT.nl,hK];rfl
 have n0:W7 1 (nd t k).dn (.int .i64 0)=some (.fp [.int .i64 ((nd t k).num 0)] 0):=a6v (hm.tr.nd hk) (i:=0) oJ;unfold Z6 V0;refine W4 (vf:=a22) rfl ?_;unfold a22;refine zE ?_;try refine zW (W0 iM on op om n0) ?_
 refine a1B (Φ:=SF s m [.int .i64 9,(nd t k).dw,(nd t k).dn,(nd t k).dk,.int .i64 (nd t k).pos] (V0 p x)) ?_ ?_
 .refine⟨(((((Fr.push _).ak _).ak _).ak _).aC _ (.inr (by first|omega|(simp only[k4.aj];omega)))),by simp only[k4.aj,k4.au];omega,?_,?_,?_,?_⟩<;>(simp(disch:=(first|with_reducible assumption|omega|((repeat(first|rw[nP]|rw[nS]))<;>omega)|fail)) only[a0k,W8,Y8,a0b,k4.aj,k4.au])<;>rfl
 intro s4 h4;simp only[a0n.at,k4.aj,k4.au];apply a09 (b5j (hp.stay h4.fr) kE iW)
 .rfl
 rintro r s5 ⟨x5,rfl,f5,lK⟩;have h5:=h4.call f5;have mr:=lK.aw;have p5:=h5.p;unfold V0 at p5;have kH:Z5 (s5.set (s.next+1) (some (.cells (V0 (p.idle aq ((nd t k).num 0)) x5)))) (p.idle aq ((nd t k).num 0)) x5:=lK.set p5;have h6:SF s m _ (V0 (p.idle aq ((nd t k).num 0)) x5) (s5.set (s.next+1) (some (.cells (V0 (p.idle aq ((nd t k).num 0)) x5)))):=h5.eo;have ip:=b0U p aq ((nd t k).num 0);have yq:a0L (p.idle aq ((nd t k).num 0)) 1000000:=b5C kE;generalize p.idle aq ((nd t k).num 0)=q at *;try refine zW (V4 p5 mr @a1p) ?_
 refine a1B (Φ:=λs'=>SF s m _ (V0 q x5) s'/\Z5 s' q x5) ⟨h6,kH⟩ ?_;rintro s6 ⟨h6,kH⟩;have p6:=h6.p;have n6:=h6.n;unfold V0 at p6;try refine zW (W0 p6 n6 mr on k0) ?_
 apply a09 (a5m (act:=4) kH yq)
 .rfl
 rintro r s9 ⟨x9,rfl,f9,jI,id9,e9,z9⟩;have h9:=h6.call f9;have lZ:a2G s x9.de:=a7k e9 z9 h6.fr.1;have lJ:=jI.aw;have r9:=h9.r;try refine zW (V4 r9 lJ @a1p) ?_
 exact⟨.inr trivial,_,h9.res rfl,h9.fin jI lZ⟩
theorem stat_8{ch:List Ch}(hm:a25 s m t ch)(ht:a2a t)(hp:Z5 s p x)(hl:a0L p 900000)(lD:p.names.length=p.vars.length)(pX:0<p.names.length)(nF:p.names.length<=1000000)(uO:ch.length<=1000000)(iW:aq<p.rest.length)(hk:k<t.length)(hK:(nd t k).kind=8):
 Y4 U5 107 [.agg (Z6 m),.agg (V0 p x),.int .i64 (k:Int),.int .i64 (aq:Int),.int .i64 (to:Int)] s (fB s p (X5 t (ch.map Ch.name) (f+1) p k aq to)):=by
 have hF:X5 t (ch.map Ch.name) (f+1) p k aq to=(p.idle aq ((nd t k).num 0)).put aq to 3 k (-1) (p.vars.getD (a2k p.names ((nd t k).word 1)) 0:Nat) (a2k (ch.map Ch.name) ((nd t k).word 0):Nat):=by simp[X5,hK]
 rw[hF];have iM:=hm.tr.at (z:=(k:Int)) oJ oJ (k:=.i64);rw[an,hK]at iM;have on:=a2Y hm.tr hk;have op:=hp.aw;have om:=hm.aw;have kE:a0L p 1000000:=⟨by have:=hl.pl;omega,by have:=hl.rl;omega,by have:=hl.el;omega⟩
 have iT:=ht.node k hk;have nU:(nd t k).words.length=2:=by rw[iT.wl,hK];rfl
 have w0:W7 1 (nd t k).dw (.int .i64 0)=some (.fp [.str ((nd t k).word 0)] 0):=a6m hm.tr hk (i:=0) oJ;have w1:W7 1 (nd t k).dw (.int .i64 1)=some (.fp [.str ((nd t k).word 1)] 0):=a6m hm.tr hk (i:=1) oJ;have qH:(nd t k).aI.length=1:=by rw[iT.nl,hK];rfl
 have n0:W7 1 (nd t k).dn (.int .i64 0)=some (.fp [.int .i64 ((nd t k).num 0)] 0):=a6v (hm.tr.nd hk) (i:=0) oJ;have mZ:=b1a (s:=(nd t k).word 1) pX;unfold Z6 V0;refine W4 (vf:=a22) rfl ?_;unfold a22;refine zE ?_;try refine zW (W0 iM on op om n0) ?_
 refine a1B (Φ:=SF s m [.int .i64 8,(nd t k).dw,(nd t k).dn,(nd t k).dk,.int .i64 (nd t k).pos] (V0 p x)) ?_ ?_
 .refine⟨(((((Fr.push _).ak _).ak _).ak _).aC _ (.inr (by first|omega|(simp only[k4.aj];omega)))),by simp only[k4.aj,k4.au];omega,?_,?_,?_,?_⟩<;>(simp(disch:=(first|with_reducible assumption|omega|((repeat(first|rw[nP]|rw[nS]))<;>omega)|fail)) only[a0k,W8,Y8,a0b,k4.aj,k4.au])<;>rfl
 intro s4 h4;simp only[a0n.at,k4.aj,k4.au];apply a09 (b5j (hp.stay h4.fr) kE iW)
 .rfl
 rintro r s5 ⟨x5,rfl,f5,lK⟩;have h5:=h4.call f5;have mr:=lK.aw;have p5:=h5.p;unfold V0 at p5;have kH:Z5 (s5.set (s.next+1) (some (.cells (V0 (p.idle aq ((nd t k).num 0)) x5)))) (p.idle aq ((nd t k).num 0)) x5:=lK.set p5;have h6:SF s m _ (V0 (p.idle aq ((nd t k).num 0)) x5) (s5.set (s.next+1) (some (.cells (V0 (p.idle aq ((nd t k).num 0)) x5)))):=h5.eo;have ip:=b0U p aq ((nd t k).num 0);have yq:a0L (p.idle aq ((nd t k).num 0)) 1000000:=b5C kE;generalize p.idle aq ((nd t k).num 0)=q at *;have uD:q.names.length<=1000000:=by rw[ip.2.2.2];exact nF
 have hfl':a2k q.names ((nd t k).word 1)<q.vars.length:=by rw[ip.2.2.2,ip.2.2.1];omega
 rw[<- ip.2.2.1,<- ip.2.2.2];repeat first
  |(with_reducible refine b3E ?_)
  |((with_reducible apply wt_p);(focus(simp(disch:=(first|with_reducible assumption|omega|((repeat(first|rw[nP]|rw[nS]))<;>omega)|fail)) only[go_sem,k6.ev,k6.get,↓reduceIte,p5,mr,V0]<;>rfl)))
  |((with_reducible apply b37);(focus(simp only[k6.ev,k6.get,Nat.reduceEqDiff,↓reduceIte,a0n.at,GN,GJ,p5,mr,V0]<;>rfl));(focus(simp(disch:=(first|with_reducible assumption|omega|((repeat(first|rw[nP]|rw[nS]))<;>omega)|fail)) only[go_sem,k6.ev,k6.get,↓reduceIte,p5,mr,V0]<;>rfl)))
  |((with_reducible apply b58);(focus(simp only[k6.ev,k6.get,Nat.reduceEqDiff,↓reduceIte,a0n.at,GN,GJ,p5,mr,V0]<;>rfl));(focus(simp(disch:=(first|with_reducible assumption|omega|((repeat(first|rw[nP]|rw[nS]))<;>omega)|fail)) only[go_sem,k6.ev,k6.get,↓reduceIte,p5,mr,V0]<;>rfl)))
  |with_reducible first|apply vA|apply vB|apply vC
  |((with_reducible apply vD);(focus rfl))
  |((with_reducible first|apply vE|apply vF|apply vG|apply vH);simp only[k6.aG,k6.get,k6.ev,List.map,Nat.reduceEqDiff,↓reduceIte,a2w,a0u])
  |((with_reducible first|apply vI|apply vJ|apply vK|apply vL|apply vM|apply vN);(focus(simp(disch:=(first|with_reducible assumption|omega|((repeat(first|rw[nP]|rw[nS]))<;>omega)|fail)) only[go_sem,k6.ev,k6.get,↓reduceIte,p5,mr,V0]<;>rfl));(first|(with_reducible (first|apply vO|apply vP|apply vQ|apply vR|apply vS|apply vT|apply vU);try simp only[k6.put])|with_reducible refine(?_:WQ _ _ _ _ _ _)))
  |fail
 refine c0Y (Φ:=λs'=>SF s m _ (V0 q x5) s'/\Z5 s' q x5) ⟨h6,kH⟩ ?_;rintro s6 ⟨h6,kH⟩;have p6:=h6.p;have n6:=h6.n;have m6:=h6.m;unfold V0 at p6;unfold Z6 at m6;try refine zT (U0 p6 n6 m6 mr on om w0 w1) ?_
 refine c3b (b8u kH.n uD) rfl ?_;obtain⟨id,v1,v2,v3⟩:=b9J kH.v (i:=a2k q.names ((nd t k).word 1)) oJ;repeat first
 |(apply wt_ldv v2;(focus(simp only[k6.ev,k6.get,Nat.reduceEqDiff,↓reduceIte])))
 |refine zT (U0 v1 p6 n6 m6 mr on om (aN w0 w1)) ?_
 refine c0d (b9G (hm.stay h6.fr) uO) (λd s' h=>h.2) (by
  intro i jb;have:=h6.nx;simp only[Fi,Fm,FW,Hg]at jb;by_cases hv:i∈b1h id
  .obtain⟨off,e⟩:=c4c hv
   exact v3 _ _ e
  .simp only[hv,false_or,Hg]at jb
   omega) rfl rfl ?_
 rintro r s7 ⟨rfl,f7⟩;have h7:=h6.call f7;try refine cR ?_
 apply a09 (a5m (act:=3) (kH.stay f7) yq)
 .rfl
 rintro r s9 ⟨x9,rfl,f9,jI,id9,e9,z9⟩;have h9:=h7.call f9;have lZ:a2G s x9.de:=a7k e9 z9 h7.fr.1;have lJ:=jI.aw;have r9:=h9.r;try refine zW (V4 r9 lJ @a1p) ?_
 exact⟨.inr trivial,_,h9.res rfl,h9.fin jI lZ⟩
variable{names:List ByteArray}{vars:List Nat}{g N:Nat}
theorem c5G{t:List Nd}{ch:List Ch}(hm:a25 s m t ch)(ht:a2a t)(hp:Z5 s p x)(hi:a10 t ch.length p)(kP:p.names=names)(kQ:p.vars=vars){k aq to:Nat}(iW:aq<p.ah)(mK:to<p.ah)(hk:k<t.length)(hK:(nd t k).kind=11)
(hw:a0z t g k=(n,true))(hl:a0L p N)(hN:N+4*(n-k)<=900000)(hS:∀b∈(nd t k).ks,(nd t b).kind=16->∀c∈(nd t b).ks,a5w t ch.length names vars (X5 t (ch.map Ch.name) f) c/\hD t (X5 t (ch.map Ch.name) f) c)(hB:∀b∈(nd t k).ks,(nd t b).kind=16->a8D U5 146 t ch names vars f b) :
 Y4 U5 107 [.agg (Z6 m),.agg (V0 p x),.int .i64 (k:Int),.int .i64 (aq:Int),.int .i64 (to:Int)] s (fB s p (X5 t (ch.map Ch.name) (f+1) p k aq to)):=by
 have iM:=hm.tr.at (z:=(k:Int)) oJ oJ (k:=.i64);rw[an,hK]at iM;have on:=a2Y hm.tr hk;have op:=hp.aw;have om:=hm.aw;have kE:a0L p 1000000:=a3s hl oJ;have iT:=ht.node k hk;obtain⟨g',rfl,jg⟩:=a4P hw;have kx:=ht.ks hk;obtain⟨c1,c2,c3,c4⟩:=iT.cond hK;have k0:W7 1 (nd t k).dk (.int .i64 0)=some (.fp [.int .i64 ((nd t k).aE 0:Int)] 0):=a2T hm.tr ht hk (i:=0) oJ;have k1:W7 1 (nd t k).dk (.int .i64 1)=some (.fp [.int .i64 ((nd t k).aE 1:Int)] 0):=a2T hm.tr ht hk (i:=1) oJ;have m1:=a1E (x:=nd t k) (i:=1) oJ;have q0:=(kx _ (a1E (x:=nd t k) (i:=0) oJ)).2;have kT:=FI.len (hm.tr.nd hk).k;have hF:X5 t (ch.map Ch.name) (f+1) p k aq to=(let p1:=a1g t (X5 t (ch.map Ch.name) f) (p.place.put aq p.ah 4 k ((nd t k).aE 0) (-1) (-1)) ((nd t k).aE 1) p.ah to
  if(nd t k).kids.length=2 then p1.put aq to 5 k ((nd t k).aE 0) (-1) (-1)else a1g t (X5 t (ch.map Ch.name) f) (p1.place.put aq p1.ah 5 k ((nd t k).aE 0) (-1) (-1)) ((nd t k).aE 2) p1.ah to):=by simp[X5,hK]
 rw[hF];simp only;obtain⟨b1,u1,v1⟩:∃b1,a0z t g' ((nd t k).aE 1)=(b1,true)/\k+2<=(nd t k).aE 1/\(nd t k).aE 1<b1/\((nd t k).kids.length=2->b1<=n)/\((nd t k).kids.length=3->∃b2,a0z t g' ((nd t k).aE 2)=(b2,true)/\b1=(nd t k).aE 2/\(nd t k).aE 2<b2/\b2<=n):=by
  match kC:(nd t k).kids,c1,jg with
  |[z0,z1],_,jg =>
   obtain⟨e0,_,b0,_,s0,_,jg⟩:=jg.cons;obtain⟨e1,_,b1,w1,s1,_,jg⟩:=jg.cons;have:=jg.nil;have kk:(nd t k).aE 1=b0:=by simp[Nd.aE,kC,e1]
   rw[kk];exact⟨b1,w1,oJ,s1,fJ,λh=>by simp at h⟩
  |[z0,z1,z2],_,jg =>
   obtain⟨e0,_,b0,_,s0,_,jg⟩:=jg.cons;obtain⟨e1,_,b1,w1,s1,_,jg⟩:=jg.cons;obtain⟨e2,_,b2,w2,s2,_,jg⟩:=jg.cons;have:=jg.nil;have kk:(nd t k).aE 1=b0:=by simp[Nd.aE,kC,e1]
   have k2:(nd t k).aE 2=b1:=by simp[Nd.aE,kC,e2]
   rw[kk,k2];exact⟨b1,w1,oJ,s1,λh=>by simp at h,λ_=>⟨b2,w2,rfl,s2,oJ⟩⟩
 obtain⟨v1,v2,v3,v4⟩:=v1;unfold Z6 V0;refine W4 (vf:=a22) rfl ?_;unfold a22;refine zE ?_;try refine zW (V1 iM on op om) ?_
 refine a1B (Φ:=SF s m [.int .i64 11,(nd t k).dw,(nd t k).dn,(nd t k).dk,.int .i64 (nd t k).pos] (V0 p x)) ?_ ?_
 .refine⟨(((((Fr.push _).ak _).ak _).ak _).aC _ (.inr (by first|omega|(simp only[k4.aj];omega)))),by simp only[k4.aj,k4.au];omega,?_,?_,?_,?_⟩<;>(simp(disch:=(first|with_reducible assumption|omega|((repeat(first|rw[nP]|rw[nS]))<;>omega)|fail)) only[a0k,W8,Y8,a0b,k4.aj,k4.au])<;>rfl
 intro s4 h4;simp only[a0n.at,k4.aj,k4.au];apply a09 (b0j (hp.stay h4.fr) kE)
 .rfl
 rintro r s5 ⟨x5,rfl,f5,lK⟩;have h5:=h4.call f5;have mr:=lK.aw;have DB:=h5.nx;have n5:=h5.n;have m5:=h5.m;have i5:=a5X hi;have g5:=a6y p;have w5:a0L p.place (N+1):=a4f hl (a6e p) oJ;have e5:p.place.ah=p.ah+1:=rfl;try refine zW (X4 n5 on mr @a1p k0 k1) ?_
 refine a1B (Φ:=λs'=>SL s m _ _ s5.next (V0 p.place x5) s'/\Z5 s' p.place x5) ⟨SL.new h5,lK.new⟩ ?_;rintro s6 ⟨h6,kH⟩;have l6:=h6.l;have n6:=h6.sf.n;have m6:=h6.sf.m;unfold V0 at l6;unfold Z6 at m6;apply a09 (a5m (to:=p.ah) (act:=4) (expr:=((nd t k).aE 0:Nat)) kH (a3s w5 oJ))
 .rfl
 rintro r s7 ⟨x7,rfl,f7,qh,-⟩;have h7:=h6.call f7;have ub:=qh.aw;have l7:=h7.l;have n7:=h7.sf.n;have m7:=h7.sf.m;have lt7:=t3 l7;have lo7:=h7.lo;have BO:=h7.sf.nx;unfold V0 at l7;unfold Z6 at m7;have i7:=a3D (node:=k) i5 (a6A (.inl rfl) (aq:=aq) (to:=p.ah) (GK iW) (GD _) q0 c2);have g7:=g5.trans (a3F p.place aq p.ah 4 k ((nd t k).aE 0:Nat) (-1) (-1));have w7:a0L (p.place.put aq p.ah 4 k ((nd t k).aE 0:Nat) (-1) (-1)) (N+2):=a4f w5 (a3r _ _ _ _ _ _ _ _) oJ;have e7:(p.place.put aq p.ah 4 k ((nd t k).aE 0:Nat) (-1) (-1)).ah=p.ah+1:=rfl;generalize p.place.put aq p.ah 4 k ((nd t k).aE 0:Nat) (-1) (-1)=q7 at *;have sM:=qh.set (o:=some (.cells (V0 q7 x7))) l7;have h8:SL s m _ _ s5.next (V0 q7 x7) (s7.set s5.next (some (.cells (V0 q7 x7)))):=h7.gG;try refine zW (U0 l7 n7 m7 on om ub @a1p (aN k0 k1)) ?_
 refine a1B (Φ:=λs'=>SL s m _ _ s5.next (V0 q7 x7) s'/\Z5 s' q7 x7) ⟨h8,sM⟩ ?_;rintro s9 ⟨h9,jI⟩;have l9:=h9.l;have n9:=h9.sf.n;have m9:=h9.sf.m;unfold V0 at l9;unfold Z6 at m9;apply a09 (hB _ m1 c3 _ _ u1 s9 m q7 x7 p.ah to (hm.stay h9.sf.fr) jI i7 (g7.names.trans kP) (g7.vars.trans kQ) oJ oJ _ w7 oJ)
 .rfl
 rintro r sa ⟨xa,rfl,fa,pS,hza⟩;have ha:=h9.call fa;have wN:=pS.aw;have la:=ha.l;have na:=ha.sf.n;have ma:=ha.sf.m;have lta:=t3 la;have loa:=ha.lo;have nxa:=ha.sf.nx;unfold V0 at la;unfold Z6 at ma;have Cj:=a7S (b:=(nd t k).aE 1) (aq:=p.ah) (to:=to) (λc hc=>(hS _ m1 c3 c hc).1) i7 (g7.names.trans kP) (g7.vars.trans kQ) oJ oJ;have wa:a0L (a1g t (X5 t (ch.map Ch.name) f) q7 ((nd t k).aE 1) p.ah to) (N+2+(4*(b1-(nd t k).aE 1)-3)):=a4f w7 (a5S (kx _ m1).2 u1 λc hc=>(hS _ m1 c3 c hc).2) oJ;have ga:=g7.trans Cj.2;have pla:=Cj.2.ah;have ia:=Cj.1;generalize a1g t (X5 t (ch.map Ch.name) f) q7 ((nd t k).aE 1) p.ah to=qa at *;have qI:=pS.set (o:=some (.cells (V0 qa xa))) la;have hb:SL s m _ _ s5.next (V0 qa xa) (sa.set s5.next (some (.cells (V0 qa xa)))):=ha.gG;by_cases c5:(nd t k).kids.length=2
 .have pC:((nd t k).kids.length==2)=true:=by rw[c5];rfl
  have xR:(((nd t k).kids.length:Int)==2)=true:=by rw[c5];rfl
  rw[Fk c5];have v3:=v3 c5;clear v4;try refine zW (U0 la na ma on om wN @a1p (V1 k0 k1 kT xR)) ?_
  refine a1B (Φ:=λs'=>SL s m _ _ s5.next (V0 qa xa) s'/\Z5 s' qa xa) ⟨hb,qI⟩ ?_;rintro sc ⟨hc,pQ⟩;have lc:=hc.l;have nc:=hc.sf.n;unfold V0 at lc;try refine zW (W0 lc nc on wN k0) ?_
  apply a09 (a5m (to:=to) (act:=5) (expr:=((nd t k).aE 0:Nat)) pQ (a3s wa oJ))
  .rfl
  rintro r sd ⟨xd,rfl,fd,yA,id9,e9,z9⟩;have h9:=hc.sf.call fd;have lZ:a2G s xd.de:=a7k e9 z9 hc.sf.fr.1;have jI:=yA;have lJ:=jI.aw;have r9:=h9.r;try refine zW (V4 r9 lJ @a1p) ?_
  exact⟨.inr trivial,_,h9.res rfl,h9.fin jI lZ⟩
 .have c6:(nd t k).kids.length=3:=c1.resolve_left c5
  have xR:(((nd t k).kids.length:Int)==2)=false:=by rw[c6];rfl
  rw[so c5];obtain⟨b2,u2,y1,y2,y3⟩:=v4 c6;clear v4 v3;have c4:=c4 c6;have m2:=a1E (x:=nd t k) (i:=2) oJ;have k2:W7 1 (nd t k).dk (.int .i64 2)=some (.fp [.int .i64 ((nd t k).aE 2:Int)] 0):=a2T hm.tr ht hk (i:=2) oJ;try refine zW (U0 la na ma on om wN @a1p (V1 k0 k1 kT xR)) ?_
  refine a1B (Φ:=λs'=>SL s m _ _ s5.next (V0 qa xa) s'/\Z5 s' qa xa) ⟨hb,qI⟩ ?_;rintro sc ⟨hc,pQ⟩;have lc:=hc.l;unfold V0 at lc;try refine zW (aN lc wN) ?_
  apply a09 (b0j pQ (a3s wa oJ))
  .rfl
  rintro r sd ⟨xd,rfl,fd,yA⟩;have hd:=hc.call fd;have Ey:=yA.aw;have ld:=hd.l;have nd':=hd.sf.n;have md:=hd.sf.m;have ltd:=t3 ld;have lod:=hd.lo;have nxd:=hd.sf.nx;unfold V0 at ld;unfold Z6 at md;have jl:=a5X ia;have gd:=ga.trans (a6y qa);have wd:=a4f wa (a6e qa) (sm _);have Ba:=yA.set (o:=some (.cells (V0 qa.place xd))) ld;have he:SL s m _ _ s5.next (V0 qa.place xd) (sd.set s5.next (some (.cells (V0 qa.place xd)))):=hd.gG;try refine zW (U0 ld nd' md on om Ey @a1p k0) ?_
  refine a1B (Φ:=λs'=>SL s m _ _ s5.next (V0 qa.place xd) s'/\Z5 s' qa.place xd) ⟨he,Ba⟩ ?_;rintro sf ⟨hf,hpf⟩;have lf:=hf.l;have nf:=hf.sf.n;unfold V0 at lf;try refine zW (W0 lf nf on Ey k0) ?_
  apply a09 (a5m (to:=qa.ah) (act:=5) (expr:=((nd t k).aE 0:Nat)) hpf (a3s wd oJ))
  .rfl
  rintro r sg ⟨xg,rfl,fg,DQ,-⟩;have hg:=hf.call fg;have Dj:=DQ.aw;have lg:=hg.l;have ng:=hg.sf.n;have mg:=hg.sf.m;have ltg:=t3 lg;have log:=hg.lo;have nxg:=hg.sf.nx;unfold V0 at lg;unfold Z6 at mg;have ep:qa.place.ah=qa.ah+1:=rfl;have ig:=a3D (node:=k) jl (a6A (.inr rfl) (aq:=aq) (to:=qa.ah) oJ (GD _) q0 c2);have gg:=gd.trans (a3F qa.place aq qa.ah 5 k ((nd t k).aE 0:Nat) (-1) (-1));have wg:=a4f wd (a3r qa.place aq qa.ah 5 k ((nd t k).aE 0:Nat) (-1) (-1)) (sm _);have eg:(qa.place.put aq qa.ah 5 k ((nd t k).aE 0:Nat) (-1) (-1)).ah=qa.ah+1:=rfl;generalize qa.place.put aq qa.ah 5 k ((nd t k).aE 0:Nat) (-1) (-1)=qg at *;have hph:=DQ.set (o:=some (.cells (V0 qg xg))) lg;have hh:SL s m _ _ s5.next (V0 qg xg) (sg.set s5.next (some (.cells (V0 qg xg)))):=hg.gG;repeat first
   |with_reducible first|apply vA|apply vB|apply vC
   |((with_reducible apply vD);(focus rfl))
   |((with_reducible first|apply vE|apply vF|apply vG|apply vH);simp only[k6.aG,k6.get,k6.ev,List.map,Nat.reduceEqDiff,↓reduceIte,a2w,a0u])
   |((with_reducible first|apply vI|apply vJ|apply vK|apply vL|apply vM|apply vN);(focus(simp(disch:=(first|with_reducible assumption|omega|((repeat(first|rw[nP]|rw[nS]))<;>omega)|fail)) only[go_sem,k6.ev,k6.get,↓reduceIte,lg,ng,mg,on,om,Dj,a1p,k2]<;>rfl));(first|(with_reducible (first|apply vO|apply vP|apply vQ|apply vR|apply vS|apply vT|apply vU);try simp only[k6.put])|with_reducible refine(?_:WQ _ _ _ _ _ _)))
   |fail
  refine a1B (Φ:=λs'=>SL s m _ _ s5.next (V0 qg xg) s'/\Z5 s' qg xg) ⟨hh,hph⟩ ?_;rintro si ⟨jF,EX⟩;have li:=jF.l;have ni:=jF.sf.n;have mi:=jF.sf.m;unfold V0 at li;unfold Z6 at mi;try refine zW (X0 li ni mi on om Dj k2) ?_
  apply a09 (hB _ m2 c4 _ _ u2 si m qg xg qa.ah to (hm.stay jF.sf.fr) EX ig (gg.names.trans kP) (gg.vars.trans kQ) oJ oJ _ wg oJ)
  .rfl
  rintro r sj ⟨xj,rfl,fj,hpj,hzj⟩;have h9:=jF.sf.call fj;have lZ:a2G s xj.de:=hzj.mono jF.sf.fr.1;have jI:=hpj;have lJ:=jI.aw;have r9:=h9.r;try refine zW (V4 r9 lJ @a1p) ?_
  exact⟨.inr trivial,_,h9.res rfl,h9.fin jI lZ⟩
theorem c6I{t:List Nd}{ch:List Ch}(hm:a25 s m t ch)(ht:a2a t)(hp:Z5 s p x)(hi:a10 t ch.length p)(kP:p.names=names)(kQ:p.vars=vars){k aq to:Nat}(iW:aq<p.ah)(mK:to<p.ah)(hk:k<t.length)(hK:(nd t k).kind=12)
(hw:a0z t g k=(n,true))(hl:a0L p N)(hN:N+4*(n-k)<=900000)(hS:∀b∈(nd t k).ks,(nd t b).kind=16->∀c∈(nd t b).ks,a5w t ch.length names vars (X5 t (ch.map Ch.name) f) c/\hD t (X5 t (ch.map Ch.name) f) c)(hB:∀b∈(nd t k).ks,(nd t b).kind=16->a8D U5 146 t ch names vars f b) :
 Y4 U5 107 [.agg (Z6 m),.agg (V0 p x),.int .i64 (k:Int),.int .i64 (aq:Int),.int .i64 (to:Int)] s (fB s p (X5 t (ch.map Ch.name) (f+1) p k aq to)):=by
 have iM:=hm.tr.at (z:=(k:Int)) oJ oJ (k:=.i64);rw[an,hK]at iM;have on:=a2Y hm.tr hk;have op:=hp.aw;have om:=hm.aw;have kE:a0L p 1000000:=a3s hl oJ;have iT:=ht.node k hk;obtain⟨g',rfl,jg⟩:=a4P hw;have kx:=ht.ks hk;obtain⟨c1,c2,c3⟩:=iT.loop hK;have k0:W7 1 (nd t k).dk (.int .i64 0)=some (.fp [.int .i64 ((nd t k).aE 0:Int)] 0):=a2T hm.tr ht hk (i:=0) oJ;have k1:W7 1 (nd t k).dk (.int .i64 1)=some (.fp [.int .i64 ((nd t k).aE 1:Int)] 0):=a2T hm.tr ht hk (i:=1) oJ;have m1:=a1E (x:=nd t k) (i:=1) oJ;have q0:=(kx _ (a1E (x:=nd t k) (i:=0) oJ)).2;have kT:=FI.len (hm.tr.nd hk).k;have hF:X5 t (ch.map Ch.name) (f+1) p k aq to=a1g t (X5 t (ch.map Ch.name) f) ((p.place.put aq p.ah 4 k ((nd t k).aE 0) (-1) (-1)).put aq to 5 k ((nd t k).aE 0) (-1) (-1)) ((nd t k).aE 1) p.ah aq:=by simp[X5,hK]
 rw[hF];obtain⟨b1,u1,v1,v2,v3⟩:∃b1,a0z t g' ((nd t k).aE 1)=(b1,true)/\k+2<=(nd t k).aE 1/\(nd t k).aE 1<b1/\b1<=n:=by
  match kC:(nd t k).kids,c1,jg with
  |[z0,z1],_,jg =>
   obtain⟨e0,_,b0,_,s0,_,jg⟩:=jg.cons;obtain⟨e1,_,b1,w1,s1,_,jg⟩:=jg.cons;have:=jg.nil;have kk:(nd t k).aE 1=b0:=by simp[Nd.aE,kC,e1]
   rw[kk];exact⟨b1,w1,oJ,s1,oJ⟩
 unfold Z6 V0;refine W4 (vf:=a22) rfl ?_;unfold a22;refine zE ?_;try refine zW (V1 iM on op om) ?_
 refine a1B (Φ:=SF s m [.int .i64 12,(nd t k).dw,(nd t k).dn,(nd t k).dk,.int .i64 (nd t k).pos] (V0 p x)) ?_ ?_
 .refine⟨(((((Fr.push _).ak _).ak _).ak _).aC _ (.inr (by first|omega|(simp only[k4.aj];omega)))),by simp only[k4.aj,k4.au];omega,?_,?_,?_,?_⟩<;>(simp(disch:=(first|with_reducible assumption|omega|((repeat(first|rw[nP]|rw[nS]))<;>omega)|fail)) only[a0k,W8,Y8,a0b,k4.aj,k4.au])<;>rfl
 intro s4 h4;simp only[a0n.at,k4.aj,k4.au];apply a09 (b0j (hp.stay h4.fr) kE)
 .rfl
 rintro r s5 ⟨x5,rfl,f5,lK⟩;have h5:=h4.call f5;have mr:=lK.aw;have DB:=h5.nx;have n5:=h5.n;have m5:=h5.m;have i5:=a5X hi;have g5:=a6y p;have w5:a0L p.place (N+1):=a4f hl (a6e p) oJ;have e5:p.place.ah=p.ah+1:=rfl;try refine zW (X4 n5 on mr @a1p k0 k1) ?_
 refine a1B (Φ:=λs'=>SL s m _ _ s5.next (V0 p.place x5) s'/\Z5 s' p.place x5) ⟨SL.new h5,lK.new⟩ ?_;rintro s6 ⟨h6,kH⟩;have l6:=h6.l;have n6:=h6.sf.n;have m6:=h6.sf.m;unfold V0 at l6;unfold Z6 at m6;apply a09 (a5m (to:=p.ah) (act:=4) (expr:=((nd t k).aE 0:Nat)) kH (a3s w5 oJ))
 .rfl
 rintro r s7 ⟨x7,rfl,f7,qh,-⟩;have h7:=h6.call f7;have ub:=qh.aw;have l7:=h7.l;have n7:=h7.sf.n;have m7:=h7.sf.m;have lt7:=t3 l7;have lo7:=h7.lo;have BO:=h7.sf.nx;unfold V0 at l7;unfold Z6 at m7;have i7:=a3D (node:=k) i5 (a6A (.inl rfl) (aq:=aq) (to:=p.ah) (GK iW) (GD _) q0 c2);have g7:=g5.trans (a3F p.place aq p.ah 4 k ((nd t k).aE 0:Nat) (-1) (-1));have w7:a0L (p.place.put aq p.ah 4 k ((nd t k).aE 0:Nat) (-1) (-1)) (N+2):=a4f w5 (a3r _ _ _ _ _ _ _ _) oJ;have e7:(p.place.put aq p.ah 4 k ((nd t k).aE 0:Nat) (-1) (-1)).ah=p.ah+1:=rfl;generalize p.place.put aq p.ah 4 k ((nd t k).aE 0:Nat) (-1) (-1)=q7 at *;have sM:=qh.set (o:=some (.cells (V0 q7 x7))) l7;have h8:SL s m _ _ s5.next (V0 q7 x7) (s7.set s5.next (some (.cells (V0 q7 x7)))):=h7.gG;try refine zW (U0 l7 n7 m7 on om ub @a1p (aN k0 k1)) ?_
 refine a1B (Φ:=λs'=>SL s m _ _ s5.next (V0 q7 x7) s'/\Z5 s' q7 x7) ⟨h8,sM⟩ ?_;rintro s9 ⟨h9,jI⟩;have l9:=h9.l;have n9:=h9.sf.n;have m9:=h9.sf.m;unfold V0 at l9;unfold Z6 at m9;apply a09 (a5m (to:=to) (act:=5) (expr:=((nd t k).aE 0:Nat)) jI (a3s w7 oJ))
 .rfl
 rintro r sa ⟨xa,rfl,fa,pS,-⟩;have ha:=h9.call fa;have wN:=pS.aw;have la:=ha.l;have na:=ha.sf.n;have ma:=ha.sf.m;have lta:=t3 la;have loa:=ha.lo;have nxa:=ha.sf.nx;unfold V0 at la;unfold Z6 at ma;have ia:=a3D (node:=k) i7 (a6A (.inr rfl) (aq:=aq) (to:=to) oJ oJ q0 c2);have ga:=g7.trans (a3F q7 aq to 5 k ((nd t k).aE 0:Nat) (-1) (-1));have wa:a0L (q7.put aq to 5 k ((nd t k).aE 0:Nat) (-1) (-1)) (N+3):=a4f w7 (a3r _ _ _ _ _ _ _ _) oJ;have ea:(q7.put aq to 5 k ((nd t k).aE 0:Nat) (-1) (-1)).ah=p.ah+1:=e7;generalize q7.put aq to 5 k ((nd t k).aE 0:Nat) (-1) (-1)=qa at *;have qI:=pS.set (o:=some (.cells (V0 qa xa))) la;have hb:SL s m _ _ s5.next (V0 qa xa) (sa.set s5.next (some (.cells (V0 qa xa)))):=ha.gG;try refine zW (U0 la na ma on om wN @a1p (aN k0 k1)) ?_
 refine a1B (Φ:=λs'=>SL s m _ _ s5.next (V0 qa xa) s'/\Z5 s' qa xa) ⟨hb,qI⟩ ?_;rintro sc ⟨hc,pQ⟩;have lc:=hc.l;have nc:=hc.sf.n;have mc:=hc.sf.m;unfold V0 at lc;unfold Z6 at mc;try refine zW (X0 lc nc mc on om wN k1) ?_
 apply a09 (hB _ m1 c3 _ _ u1 sc m qa xa p.ah aq (hm.stay hc.sf.fr) pQ ia (ga.names.trans kP) (ga.vars.trans kQ) oJ oJ _ wa oJ)
 .rfl
 rintro r sd ⟨xd,rfl,fd,yA,hzd⟩;have h9:=hc.sf.call fd;have lZ:a2G s xd.de:=hzd.mono hc.sf.fr.1;have jI:=yA;have lJ:=jI.aw;have r9:=h9.r;try refine zW (V4 r9 lJ @a1p) ?_
 exact⟨.inr trivial,_,h9.res rfl,h9.fin jI lZ⟩
theorem c4R{t:List Nd}{ch:List Ch}(hm:a25 s m t ch)(ht:a2a t)(hp:Z5 s p x)(hi:a10 t ch.length p)(kP:p.names=names)(kQ:p.vars=vars){k aq to:Nat}(iW:aq<p.ah)(mK:to<p.ah)(hk:k<t.length)(hK:(nd t k).kind=13)
(hw:a0z t g k=(n,true))(hl:a0L p N)(hN:N+4*(n-k)<=900000)(hS:∀b∈(nd t k).ks,(nd t b).kind=16->∀c∈(nd t b).ks,a5w t ch.length names vars (X5 t (ch.map Ch.name) f) c/\hD t (X5 t (ch.map Ch.name) f) c)(hB:∀b∈(nd t k).ks,(nd t b).kind=16->a8D U5 146 t ch names vars f b) :
 Y4 U5 107 [.agg (Z6 m),.agg (V0 p x),.int .i64 (k:Int),.int .i64 (aq:Int),.int .i64 (to:Int)] s (fB s p (X5 t (ch.map Ch.name) (f+1) p k aq to)):=by
 have iM:=hm.tr.at (z:=(k:Int)) oJ oJ (k:=.i64);rw[an,hK]at iM;have on:=a2Y hm.tr hk;have op:=hp.aw;have om:=hm.aw;have kE:a0L p 1000000:=a3s hl oJ;have iT:=ht.node k hk;obtain⟨g',rfl,jg⟩:=a4P hw;have kx:=ht.ks hk;obtain⟨c1,c2⟩:=iT.atom hK;have k0:W7 1 (nd t k).dk (.int .i64 0)=some (.fp [.int .i64 ((nd t k).aE 0:Int)] 0):=a2T hm.tr ht hk (i:=0) oJ;have m0:=a1E (x:=nd t k) (i:=0) oJ;have hF:X5 t (ch.map Ch.name) (f+1) p k aq to={ a1g t (X5 t (ch.map Ch.name) f) p ((nd t k).aE 0) aq to with ai:=a3h p.ai.length to (a1g t (X5 t (ch.map Ch.name) f) p ((nd t k).aE 0) aq to).ai }:=by simp[X5,hK]
 rw[hF];obtain⟨b1,u1,v1,v2,v3⟩:∃b1,a0z t g' ((nd t k).aE 0)=(b1,true)/\k+1<=(nd t k).aE 0/\(nd t k).aE 0<b1/\b1<=n:=by
  match kC:(nd t k).kids,c1,jg with
  |[z0],_,jg =>
   obtain⟨e0,_,b0,w0,s0,_,jg⟩:=jg.cons;have:=jg.nil;grind[Nd.aE]
 have mO:=hp.e.len;rw[a6S]at mO;unfold Z6 V0;refine W4 (vf:=a22) rfl ?_;unfold a22;refine zE ?_;try refine zW (X4 iM on op om mO k0) ?_
 refine a1B (Φ:=SF s m [.int .i64 13,(nd t k).dw,(nd t k).dn,(nd t k).dk,.int .i64 (nd t k).pos] (V0 p x)) ?_ ?_
 .refine⟨(((((Fr.push _).ak _).ak _).ak _).aC _ (.inr oJ)),sJ,?_,?_,?_,?_⟩<;>(simp(disch:=(first|with_reducible assumption|omega|((repeat(first|rw[nP]|rw[nS]))<;>omega)|fail)) only[a0k,W8,Y8,a0b,k4.aj,k4.au])<;>rfl
 intro s4 h4;simp only[a0n.at,k4.aj,k4.au];apply a09 (hB _ m0 c2 _ _ u1 s4 m p x aq to (hm.stay h4.fr) (hp.stay h4.fr) hi kP kQ iW mK _ hl oJ)
 .rfl
 rintro r s5 ⟨x5,rfl,f5,lK,hz5⟩;have h5:=h4.call f5;have mr:=lK.aw;have p5:=h5.p;unfold V0 at p5;have sb:=a7S (b:=(nd t k).aE 0) (aq:=aq) (to:=to) (λc hc=>(hS _ m0 c2 c hc).1) hi kP kQ iW mK;have wb:=a4f hl (a5S (p:=p) (aq:=aq) (to:=to) (kx _ m0).2 u1 λc hc=>(hS _ m0 c2 c hc).2) (sm _);have ur:p.ai.length<=(a1g t (X5 t (ch.map Ch.name) f) p ((nd t k).aE 0) aq to).ai.length:=by
  obtain⟨l,hl⟩:=sb.2.ai;rw[hl,Fq];omega
 generalize a1g t (X5 t (ch.map Ch.name) f) p ((nd t k).aE 0) aq to=q at *;have hel5:=wb.el;have kH:Z5 (s5.set (s.next+1) (some (.cells (V0 q x5)))) q x5:=lK.set p5;have h6:SF s m _ (V0 q x5) (s5.set (s.next+1) (some (.cells (V0 q x5)))):=h5.eo;have nx4:=h4.nx;try refine zW (V4 p5 mr @a1p) ?_
 generalize hA:a3h p.ai.length to q.ai=A at *;have ui:A.length=q.ai.length:=by grind[c1S]
 refine a1l (Q:=a0u 3 _) (λn' env s'=>∃i:Nat,p.ai.length<=i/\i<=q.ai.length/\n'=q.ai.length-i/\SF s m [.int .i64 13,(nd t k).dw,(nd t k).dn,(nd t k).dk,.int .i64 (nd t k).pos] (V0 q x5) s'/\Z5 s' { q with ai:=a2X A q.ai i } x5/\(env.get 4=.int .i64 (to:Int)/\env.get 6=.ptr (s.next+1) 0/\env.get 10=.ptr (s.next+2) 0/\env.get 21=.int .i64 (i:Int))) ?_ (q.ai.length-p.ai.length) _ _ ⟨p.ai.length,sm _,ur,rfl,h6,by rw[<- hA,c5P ur];exact kH,by simp[k6.get]⟩;clear h6 kH;rintro n' env s' ⟨i,vq,sP,rfl,h6,kH,hE⟩;have p6:=h6.p;have r6:=h6.r;unfold V0 at p6;have sr:=kH.e.len;rw[a6S,b1n ui]at sr;by_cases cc:i<q.ai.length
 .have qK:((i:Int)<(q.ai.length:Int))=True:=FR oJ
  have hs:IntKind.i64.wrap ((i:Int)+1)=((i+1:Nat):Int):=by grind[Z9]
  have uc:i<(a2X A q.ai i).length:=by grind[b1n]
  obtain⟨a1,a2,a3,a4,a5⟩:=hz5;rcases kH.e with⟨h0,_⟩|⟨id,BG,hg⟩|h0
  .rw[a4]at h0;cases h0
  rotate_left
  .rw[a4]at h0;cases h0
  .have hidn:s4.next<=id:=by grind
   have jb:=h6.nx;rw[a6S,b1n ui]at BG;have xY:(a0O (a2X A q.ai i)).flatten[i*8+1]?=some (.int .i64 (q.ai[i].to:Int)):=by
    rw[c0y uc dJ,c1x ui cc];rfl
   have mA:W7 8 x5.de (.int .i64 (i:Int))=some (.ptr id (i*8)):=by
    rw[BG];simp only[W7];rw[Fk ⟨trivial,oJ,oJ⟩];simp
   have zP:A[i]'oJ={ q.ai[i]with aG:=q.ai[i].to != to&&q.ai[i].to != 1 }:=by
    subst hA;exact c9y cc vq
   have key:∀b,(q.ai[i].to != to&&q.ai[i].to != 1)=b->SF s m [.int .i64 13,(nd t k).dw,(nd t k).dn,(nd t k).dk,.int .i64 (nd t k).pos] (V0 q x5) (s'.set id (some (.cells ((a0O (a2X A q.ai i)).flatten.set (i*8+6) (.bool b)))))/\Z5 (s'.set id (some (.cells ((a0O (a2X A q.ai i)).flatten.set (i*8+6) (.bool b))))) { q with ai:=a2X A q.ai (i+1) } x5:=λb hb=>by
    refine⟨h6.cy oJ,?_⟩;have:=kH.bb (b:=b) (i:=i) BG uc;have e2:(a2X A q.ai i).set i { (a2X A q.ai i)[i]with aG:=b }=a2X A q.ai (i+1):=by
     rw[<- c6o ui cc,zP,hb,c1x ui cc]
    simp_all
   have mZ:i*8+6<(a0O (a2X A q.ai i)).flatten.length:=by rw[a8u (a7v _),a6S,b1n ui];omega
   by_cases d1:q.ai[i].to=to
   .have Bv:((q.ai[i].to:Int) != (to:Int))=false:=by rw[d1];simp
    have kk:=key false (by rw[d1];simp);repeat first
    |(refine b2H (x:=.bool false) hg mZ rfl ?_ rfl ?_;(focus(simp only[k6.ev,k6.get,Nat.reduceEqDiff,↓reduceIte])))
    |refine zW (U0 hE p6 sr mr qK mA hg (V4 xY Bv hs)) ?_
    exact⟨q.ai.length-(i+1),oJ,i+1,oJ,oJ,rfl,kk.1,kk.2,(rG hE)⟩
   .have Bv:((q.ai[i].to:Int) != (to:Int))=true:=by rw[Hm];omega
    by_cases d2:q.ai[i].to=1
    .have Ck:((q.ai[i].to:Int) != 1)=false:=by rw[d2];rfl
     have kk:=key false (by rw[d2];simp);repeat first
     |(refine b2H (x:=.bool false) hg mZ rfl ?_ rfl ?_;(focus(simp only[k6.ev,k6.get,Nat.reduceEqDiff,↓reduceIte])))
     |refine zW (U0 hE p6 sr mr qK mA hg (V1 xY Bv Ck hs)) ?_
     exact⟨q.ai.length-(i+1),oJ,i+1,oJ,oJ,rfl,kk.1,kk.2,(rG hE)⟩
    .have Ck:((q.ai[i].to:Int) != 1)=true:=by rw[Hm];omega
     have kk:=key true (by rw[Fo,Hm,Hm];exact⟨d1,d2⟩);repeat first
     |(refine b2H (x:=.bool true) hg mZ rfl ?_ rfl ?_;(focus(simp only[k6.ev,k6.get,Nat.reduceEqDiff,↓reduceIte])))
     |refine zW (U0 hE p6 sr mr qK mA hg (V1 xY Bv Ck hs)) ?_
     exact⟨q.ai.length-(i+1),oJ,i+1,oJ,oJ,rfl,kk.1,kk.2,(rG hE)⟩
 .have qK:((i:Int)<(q.ai.length:Int))=False:=FH oJ
  obtain rfl:i=q.ai.length:=oJ;rw[c5i ui]at kH;have hx:a03 env s' []=some (.aT []):=rfl;try refine zW (X0 hE p6 r6 sr mr qK @a1p) ?_
  refine⟨.inr trivial,.agg (V0 { q with ai:=A } x5),?_,?_⟩
  .exact h6.res (q:={ q with ai:=A }) (x:=x5) (by simp only[k6.get,Nat.reduceEqDiff,↓reduceIte,hE])
  .exact h6.fin (q:={ q with ai:=A }) kH (hz5.mono h4.fr.1)
theorem c8t{t:List Nd}{ch:List Ch}(hm:a25 s m t ch)(ht:a2a t)(hp:Z5 s p x)(hi:a10 t ch.length p)(kP:p.names=names)(kQ:p.vars=vars){k aq to:Nat}(iW:aq<p.ah)(mK:to<p.ah)(hk:k<t.length)(hK:(nd t k).kind=10)
(hw:a0z t g k=(n,true))(hl:a0L p N)(hN:N+4*(n-k)<=900000)(hS:∀b∈(nd t k).ks,(nd t b).kind=16->∀c∈(nd t b).ks,a5w t ch.length names vars (X5 t (ch.map Ch.name) f) c/\hD t (X5 t (ch.map Ch.name) f) c)(hB:∀b∈(nd t k).ks,(nd t b).kind=16->a8D U5 146 t ch names vars f b) :
 Y4 U5 107 [.agg (Z6 m),.agg (V0 p x),.int .i64 (k:Int),.int .i64 (aq:Int),.int .i64 (to:Int)] s (fB s p (X5 t (ch.map Ch.name) (f+1) p k aq to)):=by
 have iM:=hm.tr.at (z:=(k:Int)) oJ oJ (k:=.i64);rw[an,hK]at iM;have on:=a2Y hm.tr hk;have op:=hp.aw;have om:=hm.aw;have kE:a0L p 1000000:=a3s hl oJ;have iT:=ht.node k hk;obtain⟨g',rfl,jg⟩:=a4P hw;have kx:=ht.ks hk;obtain⟨c1,c2⟩:=iT.choose hK;have qH:(nd t k).aI.length=1:=by rw[iT.nl,hK];rfl
 have n0:W7 1 (nd t k).dn (.int .i64 0)=some (.fp [.int .i64 ((nd t k).num 0)] 0):=a6v (hm.tr.nd hk) (i:=0) oJ;have kT:=FI.len (hm.tr.nd hk).k;have jJ:=(hm.tr.nd hk).kl;have hF:X5 t (ch.map Ch.name) (f+1) p k aq to=a1X t (X5 t (ch.map Ch.name) f) aq to (p.idle aq ((nd t k).num 0)) (nd t k).ks:=by simp[X5,hK]
 rw[hF];have tQ:aq<p.rest.length:=by rw[hi.rest];exact iW
 unfold Z6 V0;refine W4 (vf:=a22) rfl ?_;unfold a22;refine zE ?_;try refine zW (W0 iM on op om n0) ?_
 refine a1B (Φ:=SF s m [.int .i64 10,(nd t k).dw,(nd t k).dn,(nd t k).dk,.int .i64 (nd t k).pos] (V0 p x)) ?_ ?_
 .refine⟨(((((Fr.push _).ak _).ak _).ak _).aC _ (.inr (by first|omega|(simp only[k4.aj];omega)))),by simp only[k4.aj,k4.au];omega,?_,?_,?_,?_⟩<;>(simp(disch:=(first|with_reducible assumption|omega|((repeat(first|rw[nP]|rw[nS]))<;>omega)|fail)) only[a0k,W8,Y8,a0b,k4.aj,k4.au])<;>rfl
 intro s4 h4;simp only[a0n.at,k4.aj,k4.au];apply a09 (b5j (hp.stay h4.fr) kE tQ)
 .rfl
 rintro r s5 ⟨x5,rfl,f5,lK⟩;have h5:=h4.call f5;have mr:=lK.aw;have p5:=h5.p;unfold V0 at p5;have kH:Z5 (s5.set (s.next+1) (some (.cells (V0 (p.idle aq ((nd t k).num 0)) x5)))) (p.idle aq ((nd t k).num 0)) x5:=lK.set p5;have h6:SF s m _ (V0 (p.idle aq ((nd t k).num 0)) x5) (s5.set (s.next+1) (some (.cells (V0 (p.idle aq ((nd t k).num 0)) x5)))):=h5.eo;have ip:=b0U p aq ((nd t k).num 0);have yq:a0L (p.idle aq ((nd t k).num 0)) N:=b5C hl;have i6:a10 t ch.length (p.idle aq ((nd t k).num 0)):=b9a hi;have g6:=b94 p aq ((nd t k).num 0);generalize p.idle aq ((nd t k).num 0)=q0 at *;try refine zW (V4 p5 mr @a1p) ?_
 refine a1l (Q:=a0u 1 _) (λn' env s'=>∃(j:Nat)(q:Pr)(x:X2)(a:Nat),j<=(nd t k).kids.length/\n'=(nd t k).kids.length-j/\SF s m [.int .i64 10,(nd t k).dw,(nd t k).dn,(nd t k).dk,.int .i64 (nd t k).pos] (V0 q x) s'/\Z5 s' q x/\a10 t ch.length q/\a3m p q/\KF t g' ((nd t k).kids.drop j) a n/\a0L q (N+4*(a-(k+1)))/\(j=0\/a2G s x.de)/\a1X t (X5 t (ch.map Ch.name) f) aq to q0 (nd t k).ks=a1X t (X5 t (ch.map Ch.name) f) aq to q (((nd t k).kids.drop j).map Int.toNat) /\
  (env.get 2=.int .i64 (k:Int)/\env.get 3=.int .i64 (aq:Int)/\env.get 4=.int .i64 (to:Int)/\env.get 5=.ptr s.next 0/\env.get 6=.ptr (s.next+1) 0/\env.get 10=.ptr (s.next+2) 0/\env.get 11=.ptr (s.next+3) 0/\env.get 12=.int .i64 (j:Int))) ?_ (nd t k).kids.length _ _ ⟨0,q0,x5,k+1,oJ,rfl,h6,kH,i6,g6,jg,a3s yq oJ,.inl rfl,rfl,by simp[k6.get]⟩
 clear h6 kH mr p5 lK h5;rintro n' env s' ⟨j,q,xq,a,hj,rfl,h6,kH,iq,gq,hkq,wq,hzq,mM,hE⟩;have p6:=h6.p;have r6:=h6.r;have n6:=h6.n;have m6:=h6.m;have nx6:=h6.nx;unfold V0 at p6;unfold Z6 at m6;have AM:=kH.aw;by_cases cc:j<(nd t k).kids.length
 .have qK:((j:Int)<((nd t k).kids.length:Int))=True:=FR oJ
  have hs:=a5K cc jJ;rw[GS cc]at hkq mM;obtain⟨ea,qa,b,wb,lb,wH,pk⟩:=hkq.cons;have hle':=pk.le;have ka:W7 1 (nd t k).dk (.int .i64 (j:Int))=some (.fp [.int .i64 (a:Int)] 0):=by
   rw[FI.idx (hm.tr.nd hk).k cc (k:=.i64),ea]
  have qy:a∈(nd t k).ks:=by
   have:=Gy (f:=Int.toNat) (Fp cc);rw[ea,an]at this;exact this
  have oY:=kx a qy;have jY:=c2 a qy;have uw:=hm.tr.at (z:=(a:Int)) oJ oJ (k:=.i64);rw[an]at uw;have CE:=a2Y hm.tr oY.2;have xE:=FI.len (hm.tr.nd oY.2).k;have gp:=gq.ah;rw[FJ,a1X,ea,an]at mM;by_cases cl:b0m t a=true
  .rw[Fk cl]at mM
   have oQ:0<(nd t a).kids.length:=by
    unfold b0m at cl;rw[<- a4H];cases tu:(nd t a).ks with
    |nil=>rw[tu]at cl;cases cl
    |cons y ys=>simp
   have k12:(nd t ((nd t a).aE 0)).kind=12:=by
    unfold b0m at cl;have:(nd t a).ks=(nd t a).aE 0::(nd t a).ks.tail:=by
     unfold Nd.ks Nd.aE;cases tu:(nd t a).kids with
     |nil=>rw[tu]at oQ;simp at oQ
     |cons y ys=>simp
    rw[this]at cl;simpa using cl
   have tz:((0:Int)<((nd t a).kids.length:Int))=True:=FR oJ;have BN:W7 1 (nd t a).dk (.int .i64 0)=some (.fp [.int .i64 ((nd t a).aE 0:Int)] 0):=a2T hm.tr ht oY.2 (i:=0) oQ;have wZ:=ht.ks oY.2 _ (a1E (x:=nd t a) (i:=0) oQ);have sY:=hm.tr.at (z:=((nd t a).aE 0:Int)) oJ oJ (k:=.i64);rw[an,k12]at sY;have CI:=a2Y hm.tr wZ.2;try refine zW (U0 hE n6 m6 p6 on om kT (U0 qK ka uw CE xE tz BN (V4 sY CI AM))) ?_
   refine a1B (Φ:=λs2=>SF s m [.int .i64 10,(nd t k).dw,(nd t k).dn,(nd t k).dk,.int .i64 (nd t k).pos] (V0 q xq) s2/\Z5 s2 q xq) ⟨(h6.call (Fr.push (ids:=[]) _)).cy oJ,kH.stay ((Fr.push (ids:=[]) _).aC _ (.inr (sm _)))⟩ ?_;rintro s2 ⟨h2,jE⟩;apply a09 (b0j jE (a3s wq oJ))
   .simp only[k6.aR,k6.ev,k6.get,Nat.reduceEqDiff,↓reduceIte,hE];rfl
   rintro r s7 ⟨x7,rfl,f7,qh⟩;have h7:=h2.call f7;have ub:=qh.aw;have p7:=h7.p;have n7:=h7.n;have BO:=h7.nx;unfold V0 at p7;have sM:Z5 (s7.set (s.next+1) (some (.cells (V0 q.place x7)))) q.place x7:=qh.set p7;have h8:SF s m [.int .i64 10,(nd t k).dw,(nd t k).dn,(nd t k).dk,.int .i64 (nd t k).pos] (V0 q.place x7) (s7.set (s.next+1) (some (.cells (V0 q.place x7)))):=h7.eo;have w8:=a4f wq (a6e q) (sm _);try refine zW (X0 hE p7 n7 ub @a1p on ka) ?_
   refine a1B (Φ:=λs2=>SF s m [.int .i64 10,(nd t k).dw,(nd t k).dn,(nd t k).dk,.int .i64 (nd t k).pos] (V0 q.place x7) s2/\Z5 s2 q.place x7) ⟨h8,sM⟩ ?_;rintro s8 ⟨h8,sM⟩;have p8:=h8.p;have n8:=h8.n;unfold V0 at p8;try refine zW (X4 hE p8 n8 ub on ka) ?_
   apply a09 (a5m (to:=q.ah) (act:=0) (node:=a) sM (a3s w8 oJ))
   .simp only[k6.aR,k6.ev,k6.get,Nat.reduceEqDiff,↓reduceIte,hE];rfl
   rintro r s9 ⟨x9,rfl,f9,jI,-⟩;have h9:=h8.call f9;have lJ:=jI.aw;have p9:=h9.p;have n9:=h9.n;have m9:=h9.m;have nx9:=h9.nx;unfold V0 at p9;unfold Z6 at m9;have w9:=a4f w8 (a3r q.place aq q.ah 0 a (-1) (-1) (-1)) (sm _);have i9:=a3D (node:=a) (a5X iq) (b1c (aq:=aq) (to:=q.ah) (GK oJ) (GD _));have g9:=(gq.trans (a6y q)).trans (a3F q.place aq q.ah 0 a (-1) (-1) (-1));have e9:(q.place.put aq q.ah 0 a (-1) (-1) (-1)).ah=q.ah+1:=rfl;have CA:Z5 (s9.set (s.next+1) (some (.cells (V0 (q.place.put aq q.ah 0 a (-1) (-1) (-1)) x9)))) (q.place.put aq q.ah 0 a (-1) (-1) (-1)) x9:=jI.set p9;have hA:SF s m [.int .i64 10,(nd t k).dw,(nd t k).dn,(nd t k).dk,.int .i64 (nd t k).pos] (V0 (q.place.put aq q.ah 0 a (-1) (-1) (-1)) x9) (s9.set (s.next+1) (some (.cells (V0 (q.place.put aq q.ah 0 a (-1) (-1) (-1)) x9)))):=h9.eo;generalize q.place.put aq q.ah 0 a (-1) (-1) (-1)=q9 at *;try refine zW (U0 hE p9 n9 m9 lJ @a1p on (aN om ka)) ?_
   refine a1B (Φ:=λs2=>SF s m [.int .i64 10,(nd t k).dw,(nd t k).dn,(nd t k).dk,.int .i64 (nd t k).pos] (V0 q9 x9) s2/\Z5 s2 q9 x9) ⟨hA,CA⟩ ?_;rintro sB ⟨yP,CC⟩;have pB:=yP.p;have nB:=yP.n;have mB:=yP.m;unfold V0 at pB;unfold Z6 at mB;try refine zW (U0 hE pB nB mB lJ on om ka) ?_
   apply a09 (hB _ qy jY _ _ wb sB m q9 x9 q.ah to (hm.stay yP.fr) CC i9 (g9.names.trans kP) (g9.vars.trans kQ) oJ oJ _ w9 oJ)
   .simp only[k6.aR,k6.ev,k6.get,Nat.reduceEqDiff,↓reduceIte,hE];rfl
   rintro r sz ⟨xz,rfl,fz,ou,hzz⟩;have hz:=yP.call fz;have yY:=ou.aw;have pz:=hz.p;unfold V0 at pz;have wF:=a7S (b:=a) (aq:=q.ah) (to:=to) (λc hc=>(hS _ qy jY c hc).1) i9 (g9.names.trans kP) (g9.vars.trans kQ) oJ oJ;have wz:=a4f w9 (a5S (p:=q9) (aq:=q.ah) (to:=to) (kx _ qy).2 wb λc hc=>(hS _ qy jY c hc).2) (sm _);have sQ:a1X t (X5 t (ch.map Ch.name) f) aq to q0 (nd t k).ks=a1X t (X5 t (ch.map Ch.name) f) aq to (a1g t (X5 t (ch.map Ch.name) f) q9 a q.ah to) (((nd t k).kids.drop (j+1)).map Int.toNat):=mM;generalize a1g t (X5 t (ch.map Ch.name) f) q9 a q.ah to=qz at *;have sT:Z5 (sz.set (s.next+1) (some (.cells (V0 qz xz)))) qz xz:=ou.set pz;have yX:SF s m _ (V0 qz xz) (sz.set (s.next+1) (some (.cells (V0 qz xz)))):=hz.eo;try refine zW (W0 hE pz yY @a1p hs) ?_
   exact⟨(nd t k).kids.length-(j+1),oJ,j+1,qz,xz,b,oJ,rfl,yX,sT,wF.1,g9.trans wF.2,pk,a3s wz oJ,.inr (hzz.mono yP.fr.1),sQ,(rG hE)⟩
  .rw[so cl]at mM
   by_cases ck:0<(nd t a).kids.length
   .have tz:((0:Int)<((nd t a).kids.length:Int))=True:=FR oJ
    have BN:W7 1 (nd t a).dk (.int .i64 0)=some (.fp [.int .i64 ((nd t a).aE 0:Int)] 0):=a2T hm.tr ht oY.2 (i:=0) ck;have wZ:=ht.ks oY.2 _ (a1E (x:=nd t a) (i:=0) ck);have sY:=hm.tr.at (z:=((nd t a).aE 0:Int)) oJ oJ (k:=.i64);rw[an]at sY;have CI:=a2Y hm.tr wZ.2;have k12:((nd t ((nd t a).aE 0)).kind==12)=false:=by
     unfold b0m at cl;have:(nd t a).ks=(nd t a).aE 0::(nd t a).ks.tail:=by
      unfold Nd.ks Nd.aE;cases tu:(nd t a).kids with
      |nil=>rw[tu]at ck;simp at ck
      |cons y ys=>simp
     rw[this]at cl;simpa using cl
    try refine zW (U0 hE n6 m6 p6 on om kT (U0 qK ka uw CE xE tz BN (V1 sY CI k12 AM))) ?_
    refine a1B (Φ:=λs2=>SF s m [.int .i64 10,(nd t k).dw,(nd t k).dn,(nd t k).dk,.int .i64 (nd t k).pos] (V0 q xq) s2/\Z5 s2 q xq) ⟨(h6.call (Fr.push (ids:=[]) _)).cy oJ,kH.stay ((Fr.push (ids:=[]) _).aC _ (.inr (sm _)))⟩ ?_;rintro s2 ⟨h2,jE⟩;apply a09 (hB _ qy jY _ _ wb s2 m q xq aq to (hm.stay h2.fr) jE iq (gq.names.trans kP) (gq.vars.trans kQ) oJ oJ _ wq oJ)
    .simp only[k6.aR,k6.ev,k6.get,Nat.reduceEqDiff,↓reduceIte,hE];rfl
    rintro r sz ⟨xz,rfl,fz,ou,hzz⟩;have hz:=h2.call fz;have yY:=ou.aw;have pz:=hz.p;unfold V0 at pz;have wF:=a7S (b:=a) (aq:=aq) (to:=to) (λc hc=>(hS _ qy jY c hc).1) iq (gq.names.trans kP) (gq.vars.trans kQ) oJ oJ;have wz:=a4f wq (a5S (p:=q) (aq:=aq) (to:=to) (kx _ qy).2 wb λc hc=>(hS _ qy jY c hc).2) (sm _);have sQ:a1X t (X5 t (ch.map Ch.name) f) aq to q0 (nd t k).ks=a1X t (X5 t (ch.map Ch.name) f) aq to (a1g t (X5 t (ch.map Ch.name) f) q a aq to) (((nd t k).kids.drop (j+1)).map Int.toNat):=mM;generalize a1g t (X5 t (ch.map Ch.name) f) q a aq to=qz at *;have sT:Z5 (sz.set (s.next+1) (some (.cells (V0 qz xz)))) qz xz:=ou.set pz;have yX:SF s m _ (V0 qz xz) (sz.set (s.next+1) (some (.cells (V0 qz xz)))):=hz.eo;try refine zW (W0 hE pz yY @a1p hs) ?_
    exact⟨(nd t k).kids.length-(j+1),oJ,j+1,qz,xz,b,oJ,rfl,yX,sT,wF.1,gq.trans wF.2,pk,a3s wz oJ,.inr (hzz.mono h2.fr.1),sQ,(rG hE)⟩
   .have tz:((0:Int)<((nd t a).kids.length:Int))=False:=FH oJ
    try refine zW (U0 hE n6 m6 p6 on om kT (X0 qK ka uw CE xE tz AM)) ?_
    refine a1B (Φ:=λs2=>SF s m [.int .i64 10,(nd t k).dw,(nd t k).dn,(nd t k).dk,.int .i64 (nd t k).pos] (V0 q xq) s2/\Z5 s2 q xq) ⟨(h6.call (Fr.push (ids:=[]) _)).cy oJ,kH.stay ((Fr.push (ids:=[]) _).aC _ (.inr (sm _)))⟩ ?_;rintro s2 ⟨h2,jE⟩;apply a09 (hB _ qy jY _ _ wb s2 m q xq aq to (hm.stay h2.fr) jE iq (gq.names.trans kP) (gq.vars.trans kQ) oJ oJ _ wq oJ)
    .simp only[k6.aR,k6.ev,k6.get,Nat.reduceEqDiff,↓reduceIte,hE];rfl
    rintro r sz ⟨xz,rfl,fz,ou,hzz⟩;have hz:=h2.call fz;have yY:=ou.aw;have pz:=hz.p;unfold V0 at pz;have wF:=a7S (b:=a) (aq:=aq) (to:=to) (λc hc=>(hS _ qy jY c hc).1) iq (gq.names.trans kP) (gq.vars.trans kQ) oJ oJ;have wz:=a4f wq (a5S (p:=q) (aq:=aq) (to:=to) (kx _ qy).2 wb λc hc=>(hS _ qy jY c hc).2) (sm _);have sQ:a1X t (X5 t (ch.map Ch.name) f) aq to q0 (nd t k).ks=a1X t (X5 t (ch.map Ch.name) f) aq to (a1g t (X5 t (ch.map Ch.name) f) q a aq to) (((nd t k).kids.drop (j+1)).map Int.toNat):=mM;generalize a1g t (X5 t (ch.map Ch.name) f) q a aq to=qz at *;have sT:Z5 (sz.set (s.next+1) (some (.cells (V0 qz xz)))) qz xz:=ou.set pz;have yX:SF s m _ (V0 qz xz) (sz.set (s.next+1) (some (.cells (V0 qz xz)))):=hz.eo;try refine zW (W0 hE pz yY @a1p hs) ?_
    exact⟨(nd t k).kids.length-(j+1),oJ,j+1,qz,xz,b,oJ,rfl,yX,sT,wF.1,gq.trans wF.2,pk,a3s wz oJ,.inr (hzz.mono h2.fr.1),sQ,(rG hE)⟩
 .have qK:((j:Int)<((nd t k).kids.length:Int))=False:=FH oJ
  rw[HG oJ]at mM;have lZ:a2G s xq.de:=by
   rcases hzq with h|h
   .omega
   .exact h
  rw[mM];try refine zW (U0 hE n6 m6 p6 r6 on om (V1 kT qK AM @a1p)) ?_
  exact⟨.inr trivial,.agg (V0 q xq),h6.res (by simp only[k6.get,Nat.reduceEqDiff,↓reduceIte,hE]),h6.fin kH lZ⟩
theorem b5E{t:List Nd}{ch:List Ch}{names:List ByteArray}{vars:List Nat}{f g node:Nat}:∀(ks:List Int)(dk:D)(a n:Nat),KF t g ks a n->FI dk ks->(∀c∈ks.map Int.toNat,b2D U5 107 t ch names vars f c/\a5w t ch.length names vars (X5 t (ch.map Ch.name) f) c/\hD t (X5 t (ch.map Ch.name) f) c) ->
 ∀(s:k4)(m:X7)(p:Pr)(x:X2)(aq to:Nat),a25 s m t ch->Z5 s p x->a10 t ch.length p->p.names=names->p.vars=vars->aq<p.ah->to<p.ah->∀N,a0L p N->N+4*(n-a)+1<=900000 ->
 Y4 U5 66 [.agg (Z6 m),.agg (V0 p x),dk,.int .i64 (node:Int),.int .i64 (aq:Int),.int .i64 (to:Int)] s (fB s p (a3C (X5 t (ch.map Ch.name) f) node p (ks.map Int.toNat) aq to))
 |[],dk,a,n,jg,rO,hS,s,m,p,x,aq,to,hm,hp,hi,kP,kQ,iW,mK,N,hl,hN=>by
  have hlen:=FI.len rO;have l0:(((([]:List Int).length:Nat):Int)==0)=true:=rfl;have op:=hp.aw;have om:=hm.aw;have kE:a0L p 1000000:=a3s hl oJ;show Y4 _ _ _ _ (fB s p (p.put aq to 0 node (-1) (-1) (-1)))
  unfold Z6 V0;refine W4 (vf:=a7Q) rfl ?_;unfold a7Q;refine zE ?_;try refine zW (V1 op om hlen l0) ?_
  refine a1B (Φ:=S3 s m (V0 p x)) ?_ ?_
  .refine⟨((Fr.push _).ak _).ak _,by simp only[k4.aj];omega,?_,?_,?_⟩<;>(simp(disch:=(first|with_reducible assumption|omega|((repeat(first|rw[nP]|rw[nS]))<;>omega)|fail)) only[a0k,W8,Y8,a0b,k4.aj,k4.au])<;>rfl
  intro s4 h4;simp only[a0n.at,k4.aj];apply a09 (a5m (act:=0) (hp.stay h4.fr) kE)
  .rfl
  rintro r s9 ⟨x9,rfl,f9,jI,id9,e9,z9⟩;have h9:=h4.call f9;have lZ:a2G s x9.de:=a7k e9 z9 h4.fr.1;have lJ:=jI.aw;have r9:=h9.r;try refine zW (V4 r9 lJ @a1p) ?_
  exact⟨.inr trivial,_,h9.res rfl,h9.fin jI lZ⟩
 |[z],dk,a,n,jg,rO,hS,s,m,p,x,aq,to,hm,hp,hi,kP,kQ,iW,mK,N,hl,hN=>by
  obtain⟨rfl,q1,b,wb,lb,wH,jg⟩:=jg.cons;obtain rfl:=jg.nil;have hlen:=FI.len rO;have l0:((([(a:Int)].length:Nat):Int)==0)=false:=rfl;have l1:((([(a:Int)].length:Nat):Int)==1)=true:=rfl;have ki:W7 1 dk (.int .i64 0)=some (.fp [.int .i64 (a:Int)] 0):=FI.idx rO (i:=0) sJ;have op:=hp.aw;have om:=hm.aw;obtain⟨jZ,-,-⟩:=hS a sJ;show Y4 _ _ _ _ (fB s p (X5 t (ch.map Ch.name) f p a aq to))
  unfold Z6 V0;refine W4 (vf:=a7Q) rfl ?_;unfold a7Q;refine zE ?_;try refine zW (X4 op om hlen l0 l1 ki) ?_
  refine a1B (Φ:=S3 s m (V0 p x)) ?_ ?_
  .refine⟨((Fr.push _).ak _).ak _,by simp only[k4.aj];omega,?_,?_,?_⟩<;>(simp(disch:=(first|with_reducible assumption|omega|((repeat(first|rw[nP]|rw[nS]))<;>omega)|fail)) only[a0k,W8,Y8,a0b,k4.aj,k4.au])<;>rfl
  intro s4 h4;simp only[a0n.at,k4.aj];apply a09 (jZ _ _ wb s4 m p x aq to (hm.stay h4.fr) (hp.stay h4.fr) hi kP kQ iW mK N hl oJ)
  .rfl
  rintro r s9 ⟨x9,rfl,f9,jI,hzz⟩;have h9:=h4.call f9;have lZ:a2G s x9.de:=hzz.mono h4.fr.1;have lJ:=jI.aw;have r9:=h9.r;try refine zW (V4 r9 lJ @a1p) ?_
  exact⟨.inr trivial,_,h9.res rfl,h9.fin jI lZ⟩
 |z::z'::zs,dk,a,n,jg,rO,hS,s,m,p,x,aq,to,hm,hp,hi,kP,kQ,iW,mK,N,hl,hN=>by
  obtain⟨rfl,q1,b,wb,lb,wH,jg⟩:=jg.cons;have hle:=jg.le;have hlen:=FI.len rO;have l0:(((((a:Int)::z'::zs).length:Nat):Int)==0)=false:=by rw[FA];simp only[Gt];omega
  have l1:(((((a:Int)::z'::zs).length:Nat):Int)==1)=false:=by rw[FA];simp only[Gt];omega
  have ki:W7 1 dk (.int .i64 0)=some (.fp [.int .i64 (a:Int)] 0):=FI.idx rO (i:=0) sJ;obtain⟨xO,sl,pj⟩:=FL.drop rO (n:=1) sJ (k:=.i64);have one:((1:Nat):Int)=1:=rfl;rw[one]at sl;have pj:FI xO (z'::zs):=pj;have op:=hp.aw;have om:=hm.aw;have kE:a0L p 1000000:=a3s hl oJ;obtain⟨jZ,Cn,uI⟩:=hS a sJ;show Y4 _ _ _ _ (fB s p (a3C (X5 t (ch.map Ch.name) f) node (X5 t (ch.map Ch.name) f p.place a aq p.ah) ((z'::zs).map Int.toNat) p.ah to))
  unfold Z6 V0;refine W4 (vf:=a7Q) rfl ?_;unfold a7Q;refine zE ?_;try refine zW (X4 op om hlen l0 l1 ki) ?_
  refine a1B (Φ:=S3 s m (V0 p x)) ?_ ?_
  .refine⟨((Fr.push _).ak _).ak _,by simp only[k4.aj];omega,?_,?_,?_⟩<;>(simp(disch:=(first|with_reducible assumption|omega|((repeat(first|rw[nP]|rw[nS]))<;>omega)|fail)) only[a0k,W8,Y8,a0b,k4.aj,k4.au])<;>rfl
  intro s4 h4;simp only[a0n.at,k4.aj];apply a09 (b0j (hp.stay h4.fr) kE)
  .rfl
  rintro r s5 ⟨x5,rfl,f5,lK⟩;have h5:=h4.call f5;have mr:=lK.aw;have p5:=h5.p;have m5:=h5.m;have DB:=h5.nx;unfold V0 at p5;unfold Z6 at m5;have kH:Z5 (s5.set (s.next+1) (some (.cells (V0 p.place x5)))) p.place x5:=lK.set p5;have h6:S3 s m (V0 p.place x5) (s5.set (s.next+1) (some (.cells (V0 p.place x5)))):=h5.eo;have w5:a0L p.place (N+1):=a4f hl (a6e p) oJ;have e5:p.place.ah=p.ah+1:=rfl;try refine zW (X4 p5 m5 mr om @a1p ki) ?_
  refine a1B (Φ:=λs'=>S3 s m (V0 p.place x5) s'/\Z5 s' p.place x5) ⟨h6,kH⟩ ?_;rintro s6 ⟨h6,kH⟩;have p6:=h6.p;have m6:=h6.m;unfold V0 at p6;unfold Z6 at m6;try refine zW (W0 p6 m6 mr om ki) ?_
  apply a09 (jZ _ _ wb s6 m p.place x5 aq p.ah (hm.stay h6.fr) kH (a5X hi) kP kQ oJ oJ _ w5 oJ)
  .rfl
  rintro r s7 ⟨x7,rfl,f7,qh,hz7⟩;have h7:=h6.call f7;have ub:=qh.aw;have p7:=h7.p;have m7:=h7.m;have BO:=h7.nx;unfold V0 at p7;unfold Z6 at m7;have Cz:=Cn p.place aq p.ah (a5X hi) kP kQ oJ oJ;have w7:=a4f w5 (uI _ _ wb p.place aq p.ah) (sm _);have g7:=(a6y p).trans Cz.2;have pl7:=Cz.2.ah;have sM:Z5 (s7.set (s.next+1) (some (.cells (V0 (X5 t (ch.map Ch.name) f p.place a aq p.ah) x7)))) (X5 t (ch.map Ch.name) f p.place a aq p.ah) x7:=qh.set p7;have h8:S3 s m (V0 (X5 t (ch.map Ch.name) f p.place a aq p.ah) x7) (s7.set (s.next+1) (some (.cells (V0 (X5 t (ch.map Ch.name) f p.place a aq p.ah) x7)))):=h7.eo;have i7:=Cz.1;generalize X5 t (ch.map Ch.name) f p.place a aq p.ah=q7 at *;try refine zW (W0 p7 m7 ub om @a1p) ?_
  refine a1B (Φ:=λs'=>S3 s m (V0 q7 x7) s'/\Z5 s' q7 x7) ⟨h8,sM⟩ ?_;rintro s8 ⟨h8,sM⟩;have p8:=h8.p;have m8:=h8.m;unfold V0 at p8;unfold Z6 at m8;repeat first
  |(refine b1U (o:=.slice _ _ _ _) (d:=xO) sl ?_)
  |refine zW (V1 p8 m8 ub om) ?_
  apply a09 (b5E (z'::zs) xO b n jg pj (λc hc=>hS c (by simp only[FJ,Fi]at hc⊢;right;exact hc)) s8 m q7 x7 p.ah to (hm.stay h8.fr) sM i7 (g7.names.trans kP) (g7.vars.trans kQ) oJ oJ _ w7 oJ)
  .rfl
  rintro r s9 ⟨x9,rfl,f9,jI,hzz⟩;have h9:=h8.call f9;have lZ:a2G s x9.de:=hzz.mono h8.fr.1;have lJ:=jI.aw;have r9:=h9.r;try refine zW (V4 r9 lJ @a1p) ?_
  exact⟨.inr trivial,_,h9.res rfl,h9.fin jI lZ⟩
theorem blk_ev{t:List Nd}(ht:a2a t){ch:List Ch}{f b:Nat}(hb:b<t.length)(hS:∀c∈(nd t b).ks,b2D U5 107 t ch names vars f c/\a5w t ch.length names vars (X5 t (ch.map Ch.name) f) c/\hD t (X5 t (ch.map Ch.name) f) c):a8D U5 146 t ch names vars f b:=by
 intro g n hw s m p x aq to hm hp hi kP kQ iW mK N hl hN;obtain⟨g',rfl,jg⟩:=a4P hw;have hle:=jg.le;have iM:=hm.tr.at (z:=(b:Int)) oJ oJ (k:=.i64);rw[an]at iM;have on:=a2Y hm.tr hb;have op:=hp.aw;have om:=hm.aw;show Y4 _ _ _ _ (fB s p (a3C (X5 t (ch.map Ch.name) f) b p ((nd t b).kids.map Int.toNat) aq to))
 unfold Z6 V0;refine W4 (vf:=b5q) rfl ?_;unfold b5q;refine zE ?_;try refine zW (V1 op om iM on) ?_
 refine a1B (Φ:=S3 s m (V0 p x)) ?_ ?_
 .refine⟨((Fr.push _).ak _).ak _,by simp only[k4.aj];omega,?_,?_,?_⟩<;>(simp(disch:=(first|with_reducible assumption|omega|((repeat(first|rw[nP]|rw[nS]))<;>omega)|fail)) only[a0k,W8,Y8,a0b,k4.aj,k4.au])<;>rfl
 intro s4 h4;simp only[a0n.at,k4.aj];apply a09 (b5E (node:=b) (nd t b).kids (nd t b).dk (b+1) n jg (hm.tr.nd hb).k hS s4 m p x aq to (hm.stay h4.fr) (hp.stay h4.fr) hi kP kQ iW mK N hl oJ)
 .rfl
 rintro r s9 ⟨x9,rfl,f9,jI,hzz⟩;have h9:=h4.call f9;have lZ:a2G s x9.de:=hzz.mono h4.fr.1;have lJ:=jI.aw;have r9:=h9.r;try refine zW (V4 r9 lJ @a1p) ?_
 exact⟨.inr trivial,_,h9.res rfl,h9.fin jI lZ⟩
theorem c2l{t:List Nd}(ht:a2a t){ch:List Ch}(uO:ch.length<=1000000){names:List ByteArray}{vars:List Nat}(nF:names.length<=1000000){P:Nat->Prop}(hc:∀j,j<t.length->P j->∀k∈(nd t j).ks,P k)(hs:∀k,P k->b1v t ch.length (ch.map Ch.name) names vars k):∀(f k:Nat),k<t.length->P k->a5M (nd t k).kind->t.length-k<f->b2D U5 107 t ch names vars f k
 |0,k,_,_,_,h=>by omega
 |f+1,k,hk,hP,jZ,hf=>by
  intro g n hw s m p x aq to hm hp hi kP kQ iW mK N hl hN;have iT:=ht.node k hk;have kx:=ht.ks hk;have CN:=hs k hP;have sub:∀b∈(nd t k).ks,(nd t b).kind=16->∀c∈(nd t b).ks,b2D U5 107 t ch names vars f c/\a5w t ch.length names vars (X5 t (ch.map Ch.name) f) c/\hD t (X5 t (ch.map Ch.name) f) c:=λb hb jY c js=>by
   have h1:=kx b hb;have h2:=ht.ks h1.2 c js;have h3:=(ht.node b h1.2).block jY c js;have Ei:=hc b h1.2 (hc k hk hP b hb) c js;exact⟨c2l ht uO nF hc hs f c h2.2 Ei h3 oJ,b2P ht hc hs f c h2.2 Ei h3 oJ,b28 ht _ f c h2.2 h3 oJ⟩
  have hS:∀b∈(nd t k).ks,(nd t b).kind=16->∀c∈(nd t b).ks,a5w t ch.length names vars (X5 t (ch.map Ch.name) f) c/\hD t (X5 t (ch.map Ch.name) f) c:=λb hb jY c hc=>(sub b hb jY c hc).2
  have hB:∀b∈(nd t k).ks,(nd t b).kind=16->a8D U5 146 t ch names vars f b:=λb hb jY=>blk_ev ht (kx b hb).2 (sub b hb jY)
  have yD:a0L p 900000:=a3s hl oJ;have lD:p.names.length=p.vars.length:=by rw[kP,kQ];exact CN.same
  have uD:p.names.length<=1000000:=by rw[kP];exact nF
  have tQ:aq<p.rest.length:=by rw[hi.rest];exact iW
  have qd:(nd t k).kind=6\/(nd t k).kind=7\/(nd t k).kind=8\/(nd t k).kind=9\/(nd t k).kind=10\/(nd t k).kind=11\/(nd t k).kind=12\/(nd t k).kind=13\/(nd t k).kind=14\/(nd t k).kind=15:=by
   unfold a5M at jZ;omega
  rcases qd with h|h|h|h|h|h|h|h|h|h
  .exact stat_6 hm ht hp yD lD (by rw[kP];exact CN.v (.inl h)) uD hk h
  .exact stat_7 hm ht hp yD uO hk h
  .exact stat_8 hm ht hp yD lD (by rw[kP];exact CN.v (.inr h)) uD uO tQ hk h
  .exact stat_9 hm ht hp yD tQ hk h
  .exact c8t hm ht hp hi kP kQ iW mK hk h hw hl hN hS hB
  .exact c5G hm ht hp hi kP kQ iW mK hk h hw hl hN hS hB
  .exact c6I hm ht hp hi kP kQ iW mK hk h hw hl hN hS hB
  .exact c4R hm ht hp hi kP kQ iW mK hk h hw hl hN hS hB
  .exact c3n hm ht hp yD hk h
  .exact c6a hm ht hp yD hk h
theorem c8Q(hT:Z0 d t)(hR:Y9 t) :
 Y4 U5 29 [d] k4.empty λr s'=>(r=.aT [.agg [.ag,.int .i64 0,.ag,.ag,.ag,.ag,.bool false],.bool false]/\∃e a:Int,eT 65 [d] (.agg [.int .i64 e,.int .i64 a])/\e≠0)\/(a3g t/\a30 t/\∃m ps,r=.aT [.agg (Z6 m),.bool true]/\b3c s' m (a20 t) ps/\m.dp≠.bu 8 (a3J ps)):=by
 have hlen:=hT.len;have hle:=hR.ok.le;have uz:=hR.ok.pos;have kx:=hR.cP.length;obtain⟨e,a,hc,hp⟩:=c3Y hT hR;obtain⟨sc,hc⟩:=hc;by_cases c0:e=0
 rotate_left
 .have rT:(e != 0)=true:=by rw[Hm];exact c0
  refine W4 (vf:=b0o) rfl ?_;unfold b0o;refine zE ?_;repeat first
  |(refine a5Y rfl (fz1 hT.fz) hc rfl rfl ?_)
  |refine zW rT ?_
  exact⟨.inr trivial,_,rR,.inl ⟨rfl,e,a,⟨sc,hc⟩,c0⟩⟩
 subst c0;have rT:((0:Int) != 0)=false:=rfl;have h0:=hT.at (z:=0) oJ oJ (k:=.i64);have x0:=hT.nd (i:=0) oJ;have z0:(0:Int).toNat=0:=rfl;rw[z0]at h0;have o1:=FL.one x0.w;have o2:=FL.one x0.n;have o3:=FL.one x0.k;have jJ:=FI.len x0.k;have od:=FL.one hT.fl;refine W4 (vf:=b0o) rfl ?_;unfold b0o;refine zE ?_;repeat first
 |(refine a5Y rfl (fz1 hT.fz) hc rfl rfl ?_)
 |refine zW (aN rT od) ?_
 refine a7X (P:=λenv s=>∃(dc dv ds:D)(Ec Ev Es:Hs),
  Rp dc 5 (a2Q (W5 t).ch) Ec/\Rp dv 3 (a18 (W5 t).vs) Ev/\Rp ds 1 (a0i (W5 t).sf) Es /\
  Hp s ((0,[.ag,.int .i64 0,.ag,.ag,.ag,.ag,.bool false])::(2,[d,.int .i64 0,dc,dv,.ag,ds,.bool (W5 t).dead])::(Ec++(Ev++Es))) []/\(env.get 0=d/\env.get 2=.ptr 0 0/\env.get 5=.ptr 2 0)) ?_ ?_
 .refine a1l (Q:=a0u 0 _) (λn env s=>∃(i:Nat)(dc dv ds:D)(Ec Ev Es:Hs),i<=(nd t 0).kids.length/\n=(nd t 0).kids.length-i /\
   Rp dc 5 (a2Q (a1i t ((nd t 0).ks.take i)).ch) Ec/\Rp dv 3 (a18 (a1i t ((nd t 0).ks.take i)).vs) Ev/\Rp ds 1 (a0i (a1i t ((nd t 0).ks.take i)).sf) Es /\
   Hp s ((0,[.ag,.int .i64 0,.ag,.ag,.ag,.ag,.bool false])::(2,[d,.int .i64 0,dc,dv,.ag,ds,.bool (a1i t ((nd t 0).ks.take i)).dead])::(Ec++(Ev++Es))) []/\(env.get 0=d/\env.get 2=.ptr 0 0/\env.get 5=.ptr 2 0/\env.get 6=.int .i64 (i:Int))) ?_ (nd t 0).kids.length _ _ ?_
  rotate_left
  .refine⟨0,.ag,.ag,.ag,[],[],[],oJ,rfl,.inl ⟨rfl,rfl,rfl⟩,.inl ⟨rfl,rfl,rfl⟩,.inl ⟨rfl,rfl,rfl⟩,?_,by simp[k6.get,a0n.at];rfl⟩
   refine⟨sJ,sJ,?_,by simp[Y2]⟩;intro x hx;simp only[Fl,Fi,FW,Hg]at hx;rcases hx with rfl|rfl<;>rfl
  .rintro n env s ⟨i,dc,dv,ds,Ec,Ev,Es,hi,rfl,rc,rv,rs,hh,hE⟩
   have hb:=b3j t ((nd t 0).ks.take i);have lG:((nd t 0).ks.take i).length<=i:=by simp;omega
   have hM:=Hp.get (A:=[(0,_)]) hh;have oX:=t3 hM;by_cases c1:i<(nd t 0).kids.length
   .have iU:((i:Int)<((nd t 0).kids.length:Int))=True:=FR oJ
    have hs:IntKind.i64.wrap ((i:Int)+1)=((i+1:Nat):Int):=by rw[Z9 oJ oJ];omega
    have kK:=a2T hT hR.ok (k:=0) oJ c1;have mE:=a1E c1;have uv:=b4l c1;generalize(nd t 0).aE i=K at *;obtain⟨K1,K2,-⟩:=hR.item mE;have iM:=hT.at (z:=(K:Int)) oJ oJ (k:=.i64);rw[an]at iM;have on:=a2Y hT K2;have iT:=hR.ok.node K K2;have hpr:=hR.ok.node 0 oJ;have hw:=a6m hT K2 (i:=0);have n0:=a5U hT K2 (i:=0);have n1:=a5U hT K2 (i:=1);have n2:=a5U hT K2 (i:=2);have n3:=a5U hT K2 (i:=3);have k0:=a2T hT hR.ok K2 (i:=0);have e0:((0:Nat):Int)=0:=rfl;have e1:((1:Nat):Int)=1:=rfl;have e2:((2:Nat):Int)=2:=rfl;have e3:((3:Nat):Int)=3:=rfl;rw[iT.wl,e0]at hw;rw[iT.nl]at n0 n1 n2 n3;rw[e0]at n0 k0;rw[e1]at n1;rw[e2]at n2;rw[e3]at n3;have jL:a1i t ((nd t 0).ks.take (i+1))=bo t (a1i t ((nd t 0).ks.take i)) K:=by rw[uv,c4T]
    generalize hA:a1i t ((nd t 0).ks.take i)=a at *;have fr:∀z o,Fr [] s ((s.push z).set s.next (some o)):=λz o=>(Fr.push _).aC _ (.inr (sm _))
    by_cases q1:(nd t K).kind=1
    .rw[q1]at hw n0 n1 n2 n3
     have hw:=hw dJ;have n0:=n0 dJ;have n1:=n1 dJ;have n2:=n2 dJ;have n3:=n3 dJ;have yF:((nd t K).kind==1)=true:=by rw[q1];rfl
     have e:bo t a K={ a with ch:=a.ch++[a7p (nd t K)] }:=by unfold bo;rw[Fk q1]
     rw[e]at jL;try refine zW (U0 hE hM o1 o2 o3 h0 jJ (U0 iU kK iM on yF rc.one rv.one (X0 rs.one od hw n0 n1 n2 n3))) ?_
     refine a4z (Rp.app (A:=[(0,_),(2,_)]) (B:=Ev++Es) rc (hh.fr ((fr _ _).ak _)) (W8 rfl) rfl (b6C _) dJ qJ) rfl rfl ?_;rintro d' s' ⟨E',DP,hh',mz⟩;have nY:=DP.one;simp only[Fj,Fx,Fv]at hh';have uS:=Hp.get (A:=[(0,_)]) hh';have yV:=t3 uS;simp only[k4.aj,k4.au]at mz;try refine zW (X0 uS nY rv.one rs.one od hE hs) ?_
     refine⟨(nd t 0).kids.length-(i+1),oJ,i+1,d',dv,ds,E',Ev,Es,oJ,rfl,?_,?_,?_,?_,(rG hE)⟩
     .rw[jL];show Rp d' 5 (a2Q (a.ch++[a7p (nd t K)])) E';rw[<- c6d];exact DP
     .rw[jL];exact rv
     .rw[jL];exact rs
     .rw[jL]
      exact Hp.set (A:=[(0,_)]) hh' [d,.int .i64 0,d',dv,.ag,ds,.bool a.dead]
    have yF:((nd t K).kind==1)=false:=by rw[FA];exact q1
    by_cases q2:(nd t K).kind=2
    .rw[q2]at hw n0 n1
     have hw:=hw dJ;have n0:=n0 dJ;have n1:=n1 dJ;have tj:((nd t K).kind==2)=true:=by rw[q2];rfl
     have e:bo t a K={ a with vs:=a.vs++[a4G (nd t K)] }:=by unfold bo;rw[so q1,Fk q2]
     rw[e]at jL;try refine zW (U0 hE hM o1 o2 o3 h0 jJ (U0 iU kK iM on yF tj rc.one (X4 rv.one rs.one od hw n0 n1))) ?_
     refine a4z (Rp.app (A:=[(0,_),(2,_)]++Ec) (B:=Es) rv (by simpa only[Fj,Fx,Fv]using(hh.fr ((fr _ _).ak _))) (W8 rfl) rfl (b2O _) dJ qJ) rfl rfl ?_;rintro d' s' ⟨E',Ah,hh',mz⟩;have nY:=Ah.one;simp only[Fj,Fx,Fv]at hh';have uS:=Hp.get (A:=[(0,_)]) hh';have yV:=t3 uS;simp only[k4.aj,k4.au]at mz;try refine zW (X0 uS rc.one nY rs.one od hE hs) ?_
     refine⟨(nd t 0).kids.length-(i+1),oJ,i+1,dc,d',ds,Ec,E',Es,oJ,rfl,?_,?_,?_,?_,(rG hE)⟩
     .rw[jL];exact rc
     .rw[jL];show Rp d' 3 (a18 (a.vs++[a4G (nd t K)])) E';rw[<- b71];exact Ah
     .rw[jL];exact rs
     .rw[jL]
      exact Hp.set (A:=[(0,_)]) hh' [d,.int .i64 0,dc,d',.ag,ds,.bool a.dead]
    have tj:((nd t K).kind==2)=false:=by rw[FA];exact q2
    by_cases q4:(nd t K).kind=4
    .have jN:=iT.one (.inl q4)
     have k0:=k0 oJ;have AV:((nd t K).kind==4)=true:=by rw[q4];rfl
     have e:bo t a K={ a with sf:=a.sf++[(nd t K).aE 0] }:=by unfold bo;rw[so q1,so q2,Fk q4]
     rw[e]at jL;try refine zW (U0 hE hM o1 o2 o3 h0 jJ (U0 iU kK iM on yF tj AV (W0 rc.one rv.one rs.one od k0))) ?_
     refine a4z (Rp.app (A:=[(0,_),(2,_)]++Ec++Ev) (B:=[]) rs (by simpa only[Fj,Fx,Fv,Fl]using(hh.fr ((fr _ _).ak _))) (W8 rfl) rfl (a4M _) dJ qJ) rfl rfl ?_;rintro d' s' ⟨E',Ef,hh',mz⟩;have nY:=Ef.one;simp only[Fj,Fx,Fv,Fl]at hh';have uS:=Hp.get (A:=[(0,_)]) hh';have yV:=t3 uS;simp only[k4.aj,k4.au]at mz;try refine zW (X0 uS rc.one rv.one nY od hE hs) ?_
     refine⟨(nd t 0).kids.length-(i+1),oJ,i+1,dc,dv,d',Ec,Ev,E',oJ,rfl,?_,?_,?_,?_,(rG hE)⟩
     .rw[jL];exact rc
     .rw[jL];exact rv
     .rw[jL];show Rp d' 1 (a0i (a.sf++[(nd t K).aE 0])) E';rw[<- b2d];exact Ef
     .rw[jL]
      exact Hp.set (A:=[(0,_)]) hh' [d,.int .i64 0,dc,dv,.ag,d',.bool a.dead]
    have AV:((nd t K).kind==4)=false:=by rw[FA];exact q4
    by_cases q5:(nd t K).kind=5
    .have Cm:((nd t K).kind==5)=true:=by rw[q5];rfl
     have e:bo t a K={ a with dead:=true }:=by unfold bo;rw[so q1,so q2,so q4,Fk q5]
     rw[e]at jL;try refine zW (U0 hE hM o1 o2 o3 h0 jJ (U0 iU kK iM on yF tj AV (X4 Cm rc.one rv.one rs.one od hs))) ?_
     refine⟨(nd t 0).kids.length-(i+1),oJ,i+1,dc,dv,ds,Ec,Ev,Es,oJ,rfl,?_,?_,?_,?_,(rG hE)⟩
     .rw[jL];exact rc
     .rw[jL];exact rv
     .rw[jL];exact rs
     .rw[jL]
      exact Hp.set (A:=[(0,_)]) (hh.fr (fr _ _)) [d,.int .i64 0,dc,dv,.ag,ds,.bool true]
    .have Cm:((nd t K).kind==5)=false:=by rw[FA];exact q5
     have e:bo t a K=a:=by unfold bo;rw[so q1,so q2,so q4,so q5]
     rw[e]at jL;try refine zW (U0 hE hM o1 o2 o3 h0 jJ (U0 iU kK iM on yF tj AV (X4 Cm rc.one rv.one rs.one od hs))) ?_
     refine⟨(nd t 0).kids.length-(i+1),oJ,i+1,dc,dv,ds,Ec,Ev,Es,oJ,rfl,?_,?_,?_,?_,(rG hE)⟩
     .rw[jL];exact rc
     .rw[jL];exact rv
     .rw[jL];exact rs
     .rw[jL]
      exact hh.fr (fr _ _)
   .have iU:((i:Int)<((nd t 0).kids.length:Int))=False:=FH oJ
    obtain rfl:i=(nd t 0).kids.length:=oJ;have iR:(nd t 0).ks.take (nd t 0).kids.length=(nd t 0).ks:=by rw[<- a4H,Gf]
    rw[iR]at rc rv rs hh hM;try refine zW (U0 hE hM o1 o2 o3 h0 jJ (aN iU od)) ?_
    exact⟨trivial,dc,dv,ds,Ec,Ev,Es,rc,rv,rs,hh,(rG hE)⟩
 rintro env s ⟨dc,dv,ds,Ec,Ev,Es,rc,rv,rs,hh,hE⟩;have mh:=rv.len;rw[b5G]at mh;have oc:=rc.one;have ov:=rv.one;have os:=rs.one;have hM:=Hp.get (A:=[(0,_)]) hh;have oX:=t3 hM;simp only[a2w];try refine zW (X0 hE hM od oc ov os mh) ?_
 have xe:=b3j t (nd t 0).ks;rw[a4H]at xe;have kU:(W5 t).ch.length<=800:=by unfold W5;omega
 have nQ:(W5 t).vs.length<=800:=by unfold W5;omega
 have pN:=Hp.freeze (W':=(0,[.ag,.int .i64 0,.ag,.ag,.ag,.ag,.bool false])::(2,[d,.int .i64 (((W5 t).vs.length:Nat):Int),dc,dv,.ag,ds,.bool (W5 t).dead])::(Ev++[])) (F:=Ec++Es) (Hp.set (A:=[(0,_)]) hh [d,.int .i64 (((W5 t).vs.length:Nat):Int),dc,dv,.ag,ds,.bool (W5 t).dead]) (by
  simp only[Fl,Fx,Fv];refine .cons _ (.cons _ ?_);rw[<- Fj,<- Fj];exact List.perm_append_comm.append_right _)
 have fc:InR (λs=>SN s 5 dc (a2Q (W5 t).ch)) (Ec++Es):=λs hs=>rc.sn hs.left
 have fs:InR (λs=>SN s 1 ds (a0i (W5 t).sf)) (Ec++Es):=λs hs=>rs.sn hs.right
 rw[Fl,Fl]at pN;generalize Ec++Es=R0 at *;refine a7X (P:=λenv s=>∃(dv dp:D)(Ev Ep R:Hs)(ps:List (Pr×X2)),MkI s d dc ds (((W5 t).vs.length:Nat):Int) (W5 t).dead [.ag,.int .i64 0,.ag,.ag,.ag,.ag,.bool false] R0 (eX t).vs (eX t).ps dv dp Ev Ep R ps/\(env.get 0=d/\env.get 2=.ptr 0 0/\env.get 5=.ptr 2 0)) ?_ ?_;rotate_left
 .clear hE
  rintro env s ⟨dv,dp,Ev,Ep,R,ps,hI,hE⟩;have ov:=hI.v.one;have op:=hI.p.one;have hM:=Hp.get (A:=[(0,_)]) hI.h;have hZ:=Hp.get (A:=[]) hI.h;have oX:=t3 hM;have hZl:=t3 hZ;simp only[a2w];try refine zW (U0 hE hM hZ od oc ov os op) ?_
  have hf:=Hp.set (A:=[]) hI.h [d,.int .i64 (((W5 t).vs.length:Nat):Int),dc,dv,dp,ds,.bool (W5 t).dead];have kY:∀x∈R0,x∈R:=hI.sub;refine⟨.inr trivial,_,?_,.inr ⟨(hp rfl).1,(hp rfl).2,⟨d,dc,dv,dp,ds,(((W5 t).vs.length:Nat):Int),(W5 t).dead⟩,ps,rfl,?_,by rcases hI.p with⟨e,_⟩|⟨id,e,_⟩<;>simp[e]⟩⟩
  .simp only[a03,a08,a1t,k6.get,Nat.reduceEqDiff,↓reduceIte,hE,a0b hZl]
   rfl
  .refine⟨hT,fc _ λx hx=>hf.r x (kY x hx),hI.v.sn λx hx=>hf.w x (by simp[hx]),hI.p.sn λx hx=>hf.w x (by simp[hx]),hI.eq,λq hq=>hI.aF q hq _ hf.r,fs _ λx hx=>hf.r x (kY x hx),rfl,rfl⟩
 refine a1l (Q:=a0u 3 _) (λn env s=>∃(i:Nat)(dv dp:D)(Ev Ep R:Hs)(ps:List (Pr×X2)),i<=(nd t 0).kids.length/\n=(nd t 0).kids.length-i /\
  MkI s d dc ds (((W5 t).vs.length:Nat):Int) (W5 t).dead [.ag,.int .i64 0,.ag,.ag,.ag,.ag,.bool false] R0 (a2e t (bx t) (W5 t).vs ((nd t 0).ks.take i)).vs (a2e t (bx t) (W5 t).vs ((nd t 0).ks.take i)).ps dv dp Ev Ep R ps/\(a2e t (bx t) (W5 t).vs ((nd t 0).ks.take i)).vs.length<=800+3200*i/\ps.length<=4*i /\
  (env.get 0=d/\env.get 2=.ptr 0 0/\env.get 5=.ptr 2 0/\env.get 8=.int .i64 ((a2e t (bx t) (W5 t).vs ((nd t 0).ks.take i)).seen:Int)/\env.get 9=.int .i64 (i:Int))) ?_ (nd t 0).kids.length _ _ ?_
 rotate_left
 .refine⟨0,dv,.ag,Ev,[],R0,[],oJ,rfl,⟨rv,.inl ⟨rfl,rfl,rfl⟩,rfl,sJ,λ_ h=>h,by rw[Fl];exact pN⟩,?_,sJ,by simp[k6.get,hE];rfl⟩
  show(W5 t).vs.length<=_
  omega
 clear pN hE hM oX rv ov mh hh;rintro n env s ⟨i,dv,dp,Ev,Ep,R,ps,hi,rfl,hI,px,qI,hE⟩;have ov:=hI.v.one;have op:=hI.p.one;have hM:=Hp.get (A:=[(0,_)]) hI.h;have oX:=t3 hM;by_cases c1:i<(nd t 0).kids.length
 rotate_left
 .have iU:((i:Int)<((nd t 0).kids.length:Int))=False:=FH oJ
  obtain rfl:i=(nd t 0).kids.length:=oJ;have iR:(nd t 0).ks.take (nd t 0).kids.length=(nd t 0).ks:=by rw[<- a4H,Gf]
  rw[iR]at hI;try refine zW (U0 hE hM o1 o2 o3 h0 jJ (aN iU od)) ?_
  exact⟨trivial,dv,dp,Ev,Ep,R,ps,hI,(rG hE)⟩
 have iU:((i:Int)<((nd t 0).kids.length:Int))=True:=FR oJ;have hs:IntKind.i64.wrap ((i:Int)+1)=((i+1:Nat):Int):=by rw[Z9 oJ oJ];omega
 have kK:=a2T hT hR.ok (k:=0) oJ c1;have mE:=a1E c1;have uv:=b4l c1;have hkg:=a8j (x:=nd t 0) (i:=i) (by rw[a4H];exact c1);generalize hK:(nd t 0).aE i=K at *;obtain⟨K1,K2,bK,bw,bl,bl2,bkf⟩:=hR.item mE;have iM:=hT.at (z:=(K:Int)) oJ oJ (k:=.i64);rw[an]at iM;have on:=a2Y hT K2;have iT:=hR.ok.node K K2;have jL:a2e t (bx t) (W5 t).vs ((nd t 0).ks.take (i+1))=a3j t (bx t) (a2e t (bx t) (W5 t).vs ((nd t 0).ks.take i)) K:=by rw[uv,b6v]
 obtain⟨tk1,tk2,tk3⟩:=b7c t (bx t) i;generalize a2e t (bx t) (W5 t).vs ((nd t 0).ks.take i)=b at *;have hN:=hI.h.newR (.cells [.int .i64 0,.ag,.ag,.ag,.int .i64 0]) [.int .i64 (nd t K).kind,(nd t K).dw,(nd t K).dn,(nd t K).dk,.int .i64 (nd t K).pos];have hIn:MkI ((s.push (.cells [.int .i64 0,.ag,.ag,.ag,.int .i64 0])).set s.next (some (.cells [.int .i64 (nd t K).kind,(nd t K).dw,(nd t K).dn,(nd t K).dk,.int .i64 (nd t K).pos]))) d dc ds (((W5 t).vs.length:Nat):Int) (W5 t).dead [.ag,.int .i64 0,.ag,.ag,.ag,.ag,.bool false] R0 b.vs b.ps dv dp Ev Ep ((s.next,[.int .i64 (nd t K).kind,(nd t K).dw,(nd t K).dn,(nd t K).dk,.int .i64 (nd t K).pos])::R) ps :=
  ⟨hI.v,hI.p,hI.eq,λq hq=>(hI.aF q hq).mono λx hx=>by simp[hx],λx hx=>by simp[hI.sub x hx],hN⟩
 by_cases q3:(nd t K).kind=3
 rotate_left
 .have zc:((nd t K).kind==3)=false:=by rw[FA];exact q3
  by_cases q2:(nd t K).kind=2
  .have tj:((nd t K).kind==2)=true:=by rw[q2];rfl
   have mq:IntKind.i64.wrap ((b.seen:Int)+1)=((b.seen+1:Nat):Int):=by rw[Z9 oJ oJ];omega
   have e:a3j t (bx t) b K=⟨b.seen+1,b.vs,b.ps⟩:=by unfold a3j;rw[so q3,Fk q2]
   rw[e]at jL;try refine zW (U0 hE hM o1 o2 o3 h0 jJ (X0 iU kK iM on tj od mq)) ?_
   refine b4K ?_;try refine zW (V4 zc hE hs) ?_
   exact⟨(nd t 0).kids.length-(i+1),oJ,i+1,dv,dp,Ev,Ep,_,ps,oJ,rfl,by rw[jL];exact hIn,by rw[jL];show b.vs.length<=_;omega,oJ,by simp only[k6.get,Nat.reduceEqDiff,↓reduceIte,hE,jL,HN]⟩
  .have tj:((nd t K).kind==2)=false:=by rw[FA];exact q2
   have e:a3j t (bx t) b K=b:=by unfold a3j;rw[so q3,so q2]
   rw[e]at jL;try refine zW (U0 hE hM o1 o2 o3 h0 jJ (X4 iU kK iM on tj od)) ?_
   refine b4K ?_;try refine zW (V4 zc hE hs) ?_
   exact⟨(nd t 0).kids.length-(i+1),oJ,i+1,dv,dp,Ev,Ep,_,ps,oJ,rfl,by rw[jL];exact hIn,by rw[jL];omega,oJ,by simp only[k6.get,Nat.reduceEqDiff,↓reduceIte,hE,jL,HN]⟩
 have zc:((nd t K).kind==3)=true:=by rw[q3];rfl
 have tj:((nd t K).kind==2)=false:=by rw[q3];rfl
 have e:a3j t (bx t) b K=⟨b.seen,(a05 t (bx t) K b.seen ((nd t K).num 0).toNat (b.vs,b.ps)).1,(a05 t (bx t) K b.seen ((nd t K).num 0).toNat (b.vs,b.ps)).2⟩:=by unfold a3j;rw[Fk q3]
 rw[e]at jL;have hcop:=b5o hR (hp rfl).2 mE q3;try refine zW (U0 hE hM o1 o2 o3 h0 jJ (X4 iU kK iM on tj od)) ?_
 generalize hB0:s.next=B0 at *;generalize(s.push (.cells [.int .i64 0,.ag,.ag,.ag,.int .i64 0])).set B0 (some (.cells [.int .i64 (nd t K).kind,(nd t K).dw,(nd t K).dn,(nd t K).dk,.int .i64 (nd t K).pos]))=s1 at *;have kj:(B0,[D.int .i64 (nd t K).kind,(nd t K).dw,(nd t K).dn,(nd t K).dk,.int .i64 (nd t K).pos])∈(B0,[D.int .i64 (nd t K).kind,(nd t K).dw,(nd t K).dn,(nd t K).dk,.int .i64 (nd t K).pos])::R:=sJ;generalize(B0,[D.int .i64 (nd t K).kind,(nd t K).dw,(nd t K).dn,(nd t K).dk,.int .i64 (nd t K).pos])::R=R1 at *;have hw:=a6m hT K2 (i:=0);have n0:=a5U hT K2 (i:=0);have z0:((0:Nat):Int)=0:=rfl;rw[iT.wl,z0,q3]at hw;rw[iT.nl,z0,q3]at n0;have hw:=hw dJ;have n0:=n0 dJ;refine a7X (P:=λenv s=>∃(dv dp:D)(Ev Ep R:Hs)(ps:List (Pr×X2)),MkI s d dc ds (((W5 t).vs.length:Nat):Int) (W5 t).dead [.ag,.int .i64 0,.ag,.ag,.ag,.ag,.bool false] R0 (a05 t (bx t) K b.seen ((nd t K).num 0).toNat (b.vs,b.ps)).1 (a05 t (bx t) K b.seen ((nd t K).num 0).toNat (b.vs,b.ps)).2 dv dp Ev Ep R ps/\(a05 t (bx t) K b.seen ((nd t K).num 0).toNat (b.vs,b.ps)).1.length<=800+3200*(i+1)/\ps.length<=4*(i+1)/\(env.get 0=d/\env.get 2=.ptr 0 0/\env.get 5=.ptr 2 0/\env.get 8=.int .i64 (b.seen:Int)/\env.get 9=.int .i64 (i:Int))) ?_ ?_;rotate_left
 .clear hE
  rintro env s ⟨dv,dp,Ev,Ep,R,ps,hI,l1,l2,hE⟩;simp only[a2w,a0u];try refine zW (aN hE hs) ?_
  exact⟨(nd t 0).kids.length-(i+1),oJ,i+1,dv,dp,Ev,Ep,R,ps,oJ,rfl,by rw[jL];exact hI,by rw[jL];exact l1,l2,by simp only[k6.get,Nat.reduceEqDiff,↓reduceIte,hE,jL,HN]⟩
 refine a1l (Q:=a0u 5 _) (λn env s=>∃(c:Nat)(dv dp:D)(Ev Ep R:Hs)(ps:List (Pr×X2)),(c:Int)<=(nd t K).num 0/\n=((nd t K).num 0).toNat-c /\
  MkI s d dc ds (((W5 t).vs.length:Nat):Int) (W5 t).dead [.ag,.int .i64 0,.ag,.ag,.ag,.ag,.bool false] R0 (a05 t (bx t) K b.seen c (b.vs,b.ps)).1 (a05 t (bx t) K b.seen c (b.vs,b.ps)).2 dv dp Ev Ep R ps /\
  (B0,[D.int .i64 (nd t K).kind,(nd t K).dw,(nd t K).dn,(nd t K).dk,.int .i64 (nd t K).pos])∈R/\(a05 t (bx t) K b.seen c (b.vs,b.ps)).1.length<=800+3200*i+800*c/\ps.length<=4*i+c /\
  (env.get 0=d/\env.get 2=.ptr 0 0/\env.get 5=.ptr 2 0/\env.get 8=.int .i64 (b.seen:Int)/\env.get 9=.int .i64 (i:Int)/\env.get 10=.ptr B0 0/\env.get 11=.int .i64 (c:Int))) ?_ ((nd t K).num 0).toNat _ _ ?_
 rotate_left
 .exact⟨0,dv,dp,Ev,Ep,R1,ps,oJ,rfl,hIn,kj,by simpa[a05]using px,oJ,by simp[k6.get,hE,a0n.at]⟩
 clear hE hM oX hIn hI kj hN ov op;rintro n env s ⟨c,dv,dp,Ev,Ep,R,ps,uW,rfl,hI,kj,px,qI,hE⟩;have ov:=hI.v.one;have op:=hI.p.one;have hM:=Hp.get (A:=[(0,_)]) hI.h;have oX:=t3 hM;have hB:=hI.h.r _ kj;have yK:=t3 hB;simp only at hB yK;by_cases c2:(c:Int)<(nd t K).num 0
 rotate_left
 .have km:((c:Int)<(nd t K).num 0)=False:=FH c2
  have e:c=((nd t K).num 0).toNat:=oJ;try refine zW (X4 hE hB zc n0 km on) ?_
  rw[e]at hI px;exact⟨trivial,dv,dp,Ev,Ep,R,ps,hI,oJ,oJ,(rG hE)⟩
 have km:((c:Int)<(nd t K).num 0)=True:=FR c2;have qF:IntKind.i64.wrap ((c:Int)+1)=((c+1:Nat):Int):=by rw[Z9 oJ oJ];omega
 obtain⟨Du,uQ⟩:=b7Y (t:=t) (ch:=bx t) (k:=K) (c:=c) (a:=(b.vs,b.ps)) tk2;simp only at Du uQ;have zB:(a05 t (bx t) K b.seen (c+1) (b.vs,b.ps)).1=(a05 t (bx t) K b.seen c (b.vs,b.ps)).1++(a1q t (nd t K)).map a4G:=rfl;have hcn2:(a05 t (bx t) K b.seen (c+1) (b.vs,b.ps)).2=(a05 t (bx t) K b.seen c (b.vs,b.ps)).2++[a8b t (bx t) K b.seen c (a05 t (bx t) K b.seen c (b.vs,b.ps)).1]:=rfl;generalize a05 t (bx t) K b.seen c (b.vs,b.ps)=a at *;try refine zW (X0 hE hB zc n0 km on hw) ?_
 have hW:=(hI.h.pushR [.bool false,.bool true]).dU (.cells [.str (bs []),.int .i64 0,.ag,.int .i64 0,.ag,.ag,.ag,.ag]) [.str ((nd t K).word 0),.int .i64 (c:Int),.ag,.int .i64 2,.arr s.next 0 2 1,.ag,.ag,.ag];simp only[k4.aj]at hW;generalize mq:((s.push (.cells [.bool false,.bool true])).push (.cells [.str (bs []),.int .i64 0,.ag,.int .i64 0,.ag,.ag,.ag,.ag])).set (s.next+1) (some (.cells [.str ((nd t K).word 0),.int .i64 (c:Int),.ag,.int .i64 2,.arr s.next 0 2 1,.ag,.ag,.ag]))=s2 at *;have nT:∀x∈R,x∈(s.next,[D.bool false,.bool true])::R:=λx hx=>by simp[hx]
 have lU:(s.next,[D.bool false,.bool true])∈(s.next,[D.bool false,.bool true])::R:=sJ;generalize(s.next,[D.bool false,.bool true])::R=R2 at *;have wM:=hI.sub;have hatI:=hI.aF;have heqI:=hI.eq;have rv:=hI.v;have rp:=hI.p;clear hI hM oX hB yK mq;refine a7X (P:=λenv s'=>∃(dn dx:D)(En Ex:Hs),Rp dn 1 (a1M ((a.1.take b.seen).map Vr.name)) En/\Rp dx 1 (a0i (List.range b.seen)) Ex /\
  Hp s' ((s.next+1,[.str ((nd t K).word 0),.int .i64 (c:Int),.ag,.int .i64 2,.arr s.next 0 2 1,.ag,dn,dx])::(0,[.ag,.int .i64 0,.ag,.ag,.ag,.ag,.bool false])::(2,[d,.int .i64 (((W5 t).vs.length:Nat):Int),dc,dv,dp,ds,.bool (W5 t).dead])::(Ev++(Ep++(En++Ex)))) R2 /\
  (env.get 0=d/\env.get 2=.ptr 0 0/\env.get 5=.ptr 2 0/\env.get 8=.int .i64 (b.seen:Int)/\env.get 9=.int .i64 (i:Int)/\env.get 10=.ptr B0 0/\env.get 11=.int .i64 (c:Int)/\env.get 12=.ptr (s.next+1) 0)) ?_ ?_
 .refine a1l (Q:=a0u 7 _) (λn env s'=>∃(v:Nat)(dn dx:D)(En Ex:Hs),v<=b.seen/\n=b.seen-v/\Rp dn 1 (a1M ((a.1.take v).map Vr.name)) En/\Rp dx 1 (a0i (List.range v)) Ex /\
   Hp s' ((s.next+1,[.str ((nd t K).word 0),.int .i64 (c:Int),.ag,.int .i64 2,.arr s.next 0 2 1,.ag,dn,dx])::(0,[.ag,.int .i64 0,.ag,.ag,.ag,.ag,.bool false])::(2,[d,.int .i64 (((W5 t).vs.length:Nat):Int),dc,dv,dp,ds,.bool (W5 t).dead])::(Ev++(Ep++(En++Ex)))) R2 /\
   (env.get 0=d/\env.get 2=.ptr 0 0/\env.get 5=.ptr 2 0/\env.get 8=.int .i64 (b.seen:Int)/\env.get 9=.int .i64 (i:Int)/\env.get 10=.ptr B0 0/\env.get 11=.int .i64 (c:Int)/\env.get 12=.ptr (s.next+1) 0/\env.get 13=.int .i64 (v:Int))) ?_ b.seen _ _ ?_
  rotate_left
  .exact⟨0,.ag,.ag,[],[],oJ,rfl,.inl ⟨rfl,rfl,rfl⟩,.inl ⟨rfl,rfl,rfl⟩,by simpa only[Fl]using hW,by simp[k6.get,hE,a0n.at]⟩
  clear hE hW;rintro n env s' ⟨v,dn,dx,En,Ex,hv,rfl,rn,rx,hh,hE⟩;by_cases c3:v<b.seen
  rotate_left
  .have jm:((v:Int)<(b.seen:Int))=False:=FH oJ
   obtain rfl:v=b.seen:=oJ;try refine zW (aN hE jm) ?_
   exact⟨trivial,dn,dx,En,Ex,rn,rx,hh,(rG hE)⟩
  have jm:((v:Int)<(b.seen:Int))=True:=FR oJ;have hsv:IntKind.i64.wrap ((v:Int)+1)=((v+1:Nat):Int):=by rw[Z9 oJ oJ];omega
  have hP:=Hp.get (A:=[]) hh;have hM:=Hp.get (A:=[(s.next+1,_),(0,_)]) hh;have tK:=t3 hP;have oX:=t3 hM;have o5:=rn.one;have o6:=rx.one;have CL:v<a.1.length:=oJ;obtain⟨CH,rfl,rfl⟩:=rv.arr qJ;have hV:=hh.w (CH,(a18 a.1).flatten) sJ;simp only at hV;have hVl:=t3 hV;have mZ:=c3k CL;have tQ:v<(a18 a.1).length:=sU CL;have hmn:2≠s.next+1:=by
   have:=hh.nd;simp only[FJ,Hf,Fi]at this;omega
  try refine zW (U0 hE jm hP hM hV o5 o6 (W0 op oc os od mZ)) ?_
  refine a4z (Rp.app (row:=[.str a.1[v].name]) (A:=[(s.next+1,_),(0,_),(2,_)]++[(CH,(a18 a.1).flatten)]++Ep) (B:=Ex) rn (by simpa only[Fj,Fx,Fv]using(hh.push _)) (W8 rfl) rfl (b1D _) dJ qJ) rfl rfl ?_;rintro d' s'' ⟨E',zD,hh',mz⟩;have nY:=zD.one;simp only[Fj,Fx,Fv]at hh';have yu:=Hp.get (A:=[]) hh';have zh:=t3 yu;have pN:=Hp.set (A:=[]) hh' [.str ((nd t K).word 0),.int .i64 (c:Int),.ag,.int .i64 2,.arr s.next 0 2 1,.ag,d',dx];try refine zW (V1 hE yu nY o6) ?_
  refine a4z (Rp.app (row:=[.int .i64 (v:Int)]) (A:=[(s.next+1,_),(0,_),(2,_)]++[(CH,(a18 a.1).flatten)]++Ep++E') (B:=[]) rx (by simpa only[Fj,Fx,Fv,Fl]using(pN.push _)) (W8 rfl) rfl (a4M _) dJ qJ) rfl rfl ?_;clear yu zh hh';rintro d2 s3 ⟨E2,Ai,hh',hn''⟩;have AU:=Ai.one;simp only[Fj,Fx,Fv,Fl]at hh';have yu:=Hp.get (A:=[]) hh';have zh:=t3 yu;try refine zW (W0 hE yu nY AU hsv) ?_
  have Bi:=Hp.set (A:=[]) hh' [.str ((nd t K).word 0),.int .i64 (c:Int),.ag,.int .i64 2,.arr s.next 0 2 1,.ag,d',d2];refine⟨b.seen-(v+1),oJ,v+1,d',d2,E',E2,oJ,rfl,?_,?_,Bi,(rG hE)⟩
  .rw[c2v CL,<- b65];exact zD
  .rw[Gv,<- b2d];exact Ai
 clear hE hW;rintro env s3 ⟨dn,dx,En,Ex,rn,rx,hh,hE⟩;simp only[a2w];have kC:=FI.len (hT.nd K2).k;have hkl2:=bkf.length;have nJ:=a8N t (nd t K);rw[a4H]at nJ;try refine zW hE ?_
 refine a7X (P:=λenv s'=>∃(dl dn dx dv:D)(El En Ex Ev:Hs),Rp dl 1 (a0i ((List.range (Y5 t (nd t K))).map (a.1.length+·))) El/\Rp dn 1 (a1M ((a.1.take b.seen).map Vr.name++((a1q t (nd t K)).take (Y5 t (nd t K))).map λy=>y.word 0)) En/\Rp dx 1 (a0i (List.range b.seen++(List.range (Y5 t (nd t K))).map (a.1.length+·))) Ex/\Rp dv 3 (a18 (a.1++((a1q t (nd t K)).take (Y5 t (nd t K))).map a4G)) Ev /\
  Hp s' ((s.next+1,[.str ((nd t K).word 0),.int .i64 (c:Int),dl,.int .i64 2,.arr s.next 0 2 1,.ag,dn,dx])::(0,[.ag,.int .i64 0,.ag,.ag,.ag,.ag,.bool false])::(2,[d,.int .i64 (((W5 t).vs.length:Nat):Int),dc,dv,dp,ds,.bool (W5 t).dead])::(Ev++(Ep++(El++(En++Ex))))) R2 /\
  (env.get 0=d/\env.get 2=.ptr 0 0/\env.get 5=.ptr 2 0/\env.get 8=.int .i64 (b.seen:Int)/\env.get 9=.int .i64 (i:Int)/\env.get 10=.ptr B0 0/\env.get 11=.int .i64 (c:Int)/\env.get 12=.ptr (s.next+1) 0/\env.get 14=.int .i64 (((Y5 t (nd t K)):Nat):Int))) ?_ ?_
 .refine a1l (Q:=a0u 9 _) (λn env s'=>∃(k:Nat)(dl dn dx dv:D)(El En Ex Ev:Hs),k<=Y5 t (nd t K)/\n=Y5 t (nd t K)-k/\Rp dl 1 (a0i ((List.range k).map (a.1.length+·))) El/\Rp dn 1 (a1M ((a.1.take b.seen).map Vr.name++((a1q t (nd t K)).take k).map λy=>y.word 0)) En/\Rp dx 1 (a0i (List.range b.seen++(List.range k).map (a.1.length+·))) Ex/\Rp dv 3 (a18 (a.1++((a1q t (nd t K)).take k).map a4G)) Ev /\
   Hp s' ((s.next+1,[.str ((nd t K).word 0),.int .i64 (c:Int),dl,.int .i64 2,.arr s.next 0 2 1,.ag,dn,dx])::(0,[.ag,.int .i64 0,.ag,.ag,.ag,.ag,.bool false])::(2,[d,.int .i64 (((W5 t).vs.length:Nat):Int),dc,dv,dp,ds,.bool (W5 t).dead])::(Ev++(Ep++(El++(En++Ex))))) R2 /\
   (env.get 0=d/\env.get 2=.ptr 0 0/\env.get 5=.ptr 2 0/\env.get 8=.int .i64 (b.seen:Int)/\env.get 9=.int .i64 (i:Int)/\env.get 10=.ptr B0 0/\env.get 11=.int .i64 (c:Int)/\env.get 12=.ptr (s.next+1) 0/\env.get 14=.int .i64 ((k:Nat):Int))) ?_ (Y5 t (nd t K)) _ _ ?_
  rotate_left
  .exact⟨0,.ag,dn,dx,dv,[],En,Ex,Ev,oJ,rfl,.inl ⟨rfl,rfl,rfl⟩,sU rn,sU rx,sU rv,hh,by simp[k6.get,hE]⟩
  clear hE hh rn rx rv ov;clear Ev dv dn dx En Ex;rintro n env s' ⟨k,dl,dn,dx,dv,El,En,Ex,Ev,hk,rfl,rl,rn,rx,rv,hh,hE⟩;have hB:=hh.r _ (nT _ kj);have yK:=t3 hB;simp only at hB yK;by_cases c3:k<Y5 t (nd t K)
  rotate_left
  .obtain rfl:k=Y5 t (nd t K):=oJ
   by_cases c4:Y5 t (nd t K)<(nd t K).kids.length
   .have kD:((Y5 t (nd t K):Int)<((nd t K).kids.length:Int))=True:=FR oJ
    have xS:=a2T hT hR.ok K2 c4;have ye:=a1E c4;have hJ:=hR.ok.ks K2 _ ye;have wO:(nd t ((nd t K).aE (Y5 t (nd t K)))).kind≠2:=by
     have h1:Y5 t (nd t K)<(nd t K).ks.length:=by rw[a4H];exact c4
     have:=b6O h1;rw[a8j h1]at this;exact this
    generalize(nd t K).aE (Y5 t (nd t K))=J at *;have pK:=hT.at (z:=(J:Int)) oJ oJ (k:=.i64);rw[an]at pK;have wU:((nd t J).kind==2)=false:=by rw[FA];exact wO
    try refine zW (U0 hE hB kC kD xS pK wU on) ?_
    exact⟨trivial,dl,dn,dx,dv,El,En,Ex,Ev,rl,rn,rx,rv,hh,(rG hE)⟩
   .have kD:((Y5 t (nd t K):Int)<((nd t K).kids.length:Int))=False:=FH oJ
    try refine zW (W0 hE hB kC kD on) ?_
    exact⟨trivial,dl,dn,dx,dv,El,En,Ex,Ev,rl,rn,rx,rv,hh,(rG hE)⟩
  have c4:k<(nd t K).kids.length:=oJ;have kD:((k:Int)<((nd t K).kids.length:Int))=True:=FR oJ;have xS:=a2T hT hR.ok K2 c4;have ye:=a1E c4;have hJ:=hR.ok.ks K2 _ ye;have wO:(nd t ((nd t K).aE k)).kind=2:=by
   have h1:k<(nd t K).ks.length:=by rw[a4H];exact c4
   have:=b1d c3 h1;rw[a8j h1]at this;exact this
  have kT:=c6B c3;generalize(nd t K).aE k=J at *;have pK:=hT.at (z:=(J:Int)) oJ oJ (k:=.i64);rw[an]at pK;have wU:((nd t J).kind==2)=true:=by rw[wO];rfl
  have CD:=a2Y hT hJ.2;have CS:=hR.ok.node J hJ.2;have Aq:=a6m hT hJ.2 (i:=0);have Bc:=a5U hT hJ.2 (i:=0);have AH:=a5U hT hJ.2 (i:=1);have e1:((1:Nat):Int)=1:=rfl;rw[CS.wl,z0,wO]at Aq;rw[CS.nl,z0,wO]at Bc;rw[CS.nl,e1,wO]at AH;have Aq:=Aq dJ;have Bc:=Bc dJ;have AH:=AH dJ;have hsk:IntKind.i64.wrap ((k:Int)+1)=((k+1:Nat):Int):=by rw[Z9 oJ oJ];omega
  have hP:=Hp.get (A:=[]) hh;have hM:=Hp.get (A:=[(s.next+1,_),(0,_)]) hh;have tK:=t3 hP;have oX:=t3 hM;have ov:=rv.one;have mh:=rv.len;have jq:((a1q t (nd t K)).take k).length=k:=by rw[GO,a6g];omega
  rw[b5G,Fq,FT,jq]at mh;have o5:=rn.one;have o6:=rx.one;have o7:=rl.one;have hmn:2≠s.next+1:=by
   have:=hh.nd;simp only[FJ,Hf,Fi]at this;omega
  have Bb:=hh.newR (.cells [.int .i64 0,.ag,.ag,.ag,.int .i64 0]) [.int .i64 (nd t J).kind,(nd t J).dw,(nd t J).dn,(nd t J).dk,.int .i64 (nd t J).pos];try refine zW (U0 hE hB kC kD xS pK wU (U0 on CD hP hM o5 o6 o7 (X4 od oc ov op os mh))) ?_
  refine a4z (Rp.app (row:=[.int .i64 ((a.1.length+k:Nat):Int)]) (A:=[(s.next+1,_),(0,_),(2,_)]++Ev++Ep) (B:=En++Ex) rl (by simpa only[Fj,Fx,Fv,Fl]using(Bb.push _)) (W8 rfl) rfl (a4M _) dJ qJ) rfl rfl ?_;rintro d1 s1 ⟨E1,Dn,pN,pP⟩;clear hh Bb hP tK hM oX;have Cb:=Dn.one;simp only[Fj,Fx,Fv,Fl]at pN;have hP:=Hp.get (A:=[]) pN;have tK:=t3 hP;have hX:=pN.r _ (Ia);have zJ:=t3 hX;simp only at hX zJ;have hPX:s.next+1≠s'.next:=pN.ap _ (Ia) _ (Ia);have Bi:=Hp.set (A:=[]) pN [.str ((nd t K).word 0),.int .i64 (c:Int),d1,.int .i64 2,.arr s.next 0 2 1,.ag,dn,dx];try refine zW (U0 hE hP hX CD Aq Cb o5 o6) ?_
  refine a4z (Rp.app (row:=[.str ((nd t J).word 0)]) (A:=[(s.next+1,_),(0,_),(2,_)]++Ev++Ep++E1) (B:=Ex) rn (by simpa only[Fj,Fx,Fv,Fl]using(Bi.push _)) (W8 rfl) rfl (b1D _) dJ qJ) rfl rfl ?_;rintro d2 s2 ⟨E2,zD,hh4,nz⟩;clear pN Bi hP tK hX zJ;have AU:=zD.one;simp only[Fj,Fx,Fv,Fl]at hh4;have hP:=Hp.get (A:=[]) hh4;have hM:=Hp.get (A:=[(s.next+1,_),(0,_)]) hh4;have tK:=t3 hP;have oX:=t3 hM;have yE:=Hp.set (A:=[]) hh4 [.str ((nd t K).word 0),.int .i64 (c:Int),d1,.int .i64 2,.arr s.next 0 2 1,.ag,d2,dx];try refine zW (U0 hE hP hM Cb AU o6 od (W0 oc ov op os mh)) ?_
  refine a4z (Rp.app (row:=[.int .i64 ((a.1.length+k:Nat):Int)]) (A:=[(s.next+1,_),(0,_),(2,_)]++Ev++Ep++E1++E2) (B:=[]) rx (by simpa only[Fj,Fx,Fv,Fl]using(yE.push _)) (W8 rfl) rfl (a4M _) dJ qJ) rfl rfl ?_;rintro d3 s3 ⟨E3,Ai,vi,qZ⟩;clear hh4 yE hP tK hM oX;have od3:=Ai.one;simp only[Fj,Fx,Fv,Fl]at vi;have hP:=Hp.get (A:=[]) vi;have tK:=t3 hP;have AJ:=Hp.set (A:=[]) vi [.str ((nd t K).word 0),.int .i64 (c:Int),d1,.int .i64 2,.arr s.next 0 2 1,.ag,d2,d3];have hM:=Hp.get (A:=[(s.next+1,_),(0,_)]) vi;have oX:=t3 hM;have hX:=vi.r _ (Ia);have zJ:=t3 hX;simp only at hX zJ;try refine zW (U0 hE hP hM hX CD Aq Bc (U0 AH Cb AU od3 od oc ov (V4 op os mh))) ?_
  refine a4z (Rp.app (row:=(a4G (nd t J)).row) (A:=[(s.next+1,_),(0,_),(2,_)]) (B:=Ep++(E1++(E2++E3))) rv (by simpa only[Fj,Fx,Fv,Fl]using(AJ.push _)) (W8 rfl) rfl (b2O _) dJ qJ) rfl rfl ?_;rintro d4 s4 ⟨E4,Ah,hh8,hn4⟩;clear vi AJ hP tK hM oX hX zJ;have od4:=Ah.one;simp only[Fj,Fx,Fv,Fl]at hh8;have hM:=Hp.get (A:=[(s.next+1,_),(0,_)]) hh8;have oX:=t3 hM;have Bf:=Hp.set (A:=[(s.next+1,_),(0,_)]) hh8 [d,.int .i64 (((W5 t).vs.length:Nat):Int),dc,d4,dp,ds,.bool (W5 t).dead];try refine zW (U0 hE hM od oc od4 op os hsk) ?_
  refine⟨Y5 t (nd t K)-(k+1),oJ,k+1,d1,d2,d3,d4,E1,E2,E3,E4,oJ,rfl,?_,?_,?_,?_,?_,(rG hE)⟩
  .rw[b87,<- b2d];exact Dn
  .rw[kT,FK,<- Fj,Iv,<- b65];exact zD
  .rw[b87,<- Fj,<- b2d];exact Ai
  .rw[kT,FK,<- Fj,Iv,<- b71];exact Ah
  .exact Bf.sub (Ib _) λx hx=>by simp[hx]
 clear hE hh rn rx rv ov;clear Ev dv dn dx En Ex;rintro env s3 ⟨dl,dn,dx,dv,El,En,Ex,Ev,rl,rn,rx,rv,hh,hE⟩;have jq:(a1q t (nd t K)).take (Y5 t (nd t K))=a1q t (nd t K):=by rw[<- a6g,Gf]
 rw[jq]at rn rv;have hB:=hh.r _ (nT _ kj);have yK:=t3 hB;simp only at hB yK;have zU:=hh.r _ lU;simp only at zU;have hP:=Hp.get (A:=[]) hh;have hM:=Hp.get (A:=[(s.next+1,_),(0,_)]) hh;have tK:=t3 hP;have oX:=t3 hM;have ov:=rv.one;have o5:=rn.one;have o6:=rx.one;have o7:=rl.one;obtain⟨xO,mG,pj⟩:=FL.drop (hT.nd K2).k (n:=Y5 t (nd t K)) (sU nJ) (k:=.i64);rw[<- Ir]at pj;have pj:FI xO ((nd t K).kids.drop (Y5 t (nd t K))):=pj;obtain⟨b',lG,pk⟩:=bkf.drop (Y5 t (nd t K));have jo:=(a6I 19 K2 bw).1;have uI:=c1n hR (hp rfl).1 (i:=i) (by rw[a4H];exact c1) hkg q3 jo (seen:=b.seen) (c:=c) (vs:=a.1) (by rw[Du,tk1]) oJ;have pQ:=a9h (iT.proc q3);have oF:∀j,j<t.length->(K<=j/\j<bK)->∀k∈(nd t j).ks,K<=k/\k<bK:=λj _ hj k hk=>by
  obtain⟨z,hz,rfl⟩:=Fs.1 hk;have:=jo.down j hj.1 hj.2 z hz;omega
 have BV:Z5 s3 (eW (nd t K) c b.seen a.1 (a1q t (nd t K))) ⟨dl,.arr s.next 0 2 1,.ag,dn,dx⟩:=by
  refine⟨?_,?_,.inl ⟨rfl,rfl⟩,?_,?_⟩
  .show SN s3 1 dl (a0i ((List.range (a1q t (nd t K)).length).map (a.1.length+·)))
   rw[a6g];exact rl.sn λx hx=>hh.w x (by simp[hx])
  .exact SN.of (rows:=a0o [false,true]) zU rfl
  .exact rn.sn λx hx=>hh.w x (by simp[hx])
  .show SN s3 1 dx (a0i (List.range b.seen++(List.range (a1q t (nd t K)).length).map (a.1.length+·)))
   rw[a6g];exact rx.sn λx hx=>hh.w x (by simp[hx])
 have hmd:a25 s3 ⟨d,dc,dv,dp,ds,(((W5 t).vs.length:Nat):Int),(W5 t).dead⟩ t (W5 t).ch:=⟨hT,fc _ λx hx=>hh.r x (nT x (wM x hx)),ov,op,os⟩
 have nX:=b5E (t:=t) (ch:=(W5 t).ch) (names:=(eW (nd t K) c b.seen a.1 (a1q t (nd t K))).names) (vars:=(eW (nd t K) c b.seen a.1 (a1q t (nd t K))).vars) (f:=t.length+1) (node:=K) _ xO b' bK pk pj (λk hk=>by
  rw[Ir]at hk;have jZ:=pQ.1 k hk;have mE:=Gz hk;have kC:=hR.ok.ks K2 k mE;have Bp:=oF K K2 ⟨sm _,bl⟩ k mE;exact⟨c2l hR.ok oJ (by simp[eW];omega) oF uI (t.length+1) k kC.2 Bp jZ oJ,b2P hR.ok oF uI (t.length+1) k kC.2 Bp jZ oJ,b28 hR.ok _ (t.length+1) k kC.2 jZ oJ⟩)
  s3 _ _ _ 0 1 hmd BV ⟨by simp[eW],by simp[eW],by simp[eW]⟩ rfl rfl (by simp[eW]) (by simp[eW]) 2 ⟨by simp[eW],by simp[eW],by simp[eW]⟩ oJ
 simp only[a2w];repeat first
 |(refine b1U (o:=.slice _ _ _ _) (d:=xO) mG ?_)
 |refine zW (U0 hE hP hM hB on od oc (U0 ov op os o1 o2 o3 o5 (V1 o6 o7 h0 kK))) ?_
 apply a09 nX
 .rfl
 have hq:a3C (X5 t ((W5 t).ch.map Ch.name) (t.length+1)) K (eW (nd t K) c b.seen a.1 (a1q t (nd t K))) (((nd t K).kids.drop (Y5 t (nd t K))).map Int.toNat) 0 1=a8b t (bx t) K b.seen c a.1:=by
  unfold a8b Nd.ks;rw[Ir];rfl
 rw[hq];clear nX hq;generalize a8b t (bx t) K b.seen c a.1=q at *;rintro r s9 ⟨x9,rfl,f9,jI,lZ⟩;have Bf:=hh.fr f9;have Be:=Hp.get (A:=[]) Bf;have hPl9:=t3 Be;have lJ:=jI.aw;have hp10:Z5 (s9.set (s.next+1) (some (.cells (V0 q x9)))) q x9:=jI.set Be;have zb:=Hp.set (A:=[]) Bf (V0 q x9);obtain⟨E,hE1,hE2,pO⟩:=hp10.parts;have wP:=(zb.sub (W':=(s.next+1,V0 q x9)::(0,[.ag,.int .i64 0,.ag,.ag,.ag,.ag,.bool false])::(2,[d,.int .i64 (((W5 t).vs.length:Nat):Int),dc,dv,dp,ds,.bool (W5 t).dead])::(Ev++Ep)) (R':=R2) (.cons_cons _ (.cons_cons _ (.cons_cons _ (Jw (Jz _ _) _)))) λ_ hx=>hx).eV hE1 (by
  intro w hw x hx;have mG:=hE2 x hx;simp only[Fi,Fm]at hw;rcases hw with rfl|rfl|rfl|hw|hw
  .exact mG.ne_si
  .exact mG.ne_nil
  .exact mG.ne_box hT
  .obtain⟨a,k,n,rest,e⟩:=rv.si (c8D _) w hw
   rw[e];exact mG.ne_si
  .obtain⟨a,k,n,rest,e⟩:=rp.si (c2C _) w hw
   rw[e];exact mG.ne_si)
 clear zb hP tK hM oX hh;have hM:=Hp.get (A:=[(s.next+1,_),(0,_)]) wP;unfold V0 at Be;have oX:=t3 hM;repeat first
  |with_reducible first|apply vA|apply vB|apply vC
  |((with_reducible apply vD);(focus rfl))
  |((with_reducible first|apply vE|apply vF|apply vG|apply vH);simp only[k6.aG,k6.get,k6.ev,List.map,Nat.reduceEqDiff,↓reduceIte,a2w,a0u])
  |((with_reducible first|apply vI|apply vJ|apply vK|apply vL|apply vM|apply vN);(focus(simp(disch:=(first|with_reducible assumption|omega|((repeat(first|rw[nP]|rw[nS]))<;>omega)|fail)) only[go_sem,k6.ev,k6.get,↓reduceIte,Be,hE,lJ,V0]<;>rfl));(first|(with_reducible (first|apply vO|apply vP|apply vQ|apply vR|apply vS|apply vT|apply vU);try simp only[k6.put])|with_reducible refine(?_:WQ _ _ _ _ _ _)))
  |fail
 refine a1B (Φ:=λs'=>s'=s9.set (s.next+1) (some (.cells (V0 q x9)))) rfl ?_;rintro oj rfl;generalize s9.set (s.next+1) (some (.cells (V0 q x9)))=oj at *;have hP:=Hp.get (A:=[]) wP;unfold V0 at hP;try refine zW (U0 hE hP hM lJ od oc ov (aN op os)) ?_
 refine a4z (Rp.app (sz:=8) (bytes:=152) (row:=V0 q x9) (A:=[(s.next+1,_),(0,_),(2,_)]++Ev) (B:=[]) rp (by simpa only[Fj,Fx,Fv,Fl]using(wP.push _)) (W8 rfl) rfl (b9F _) dJ qJ) rfl rfl ?_;rintro d5 s5 ⟨E5,EK,hh12,yx⟩;have od5:=EK.one;simp only[Fj,Fx,Fv,Fl]at hh12;have Fe:=Hp.get (A:=[(s.next+1,_),(0,_)]) hh12;have hMl5:=t3 Fe;have hh13:=Hp.set (A:=[(s.next+1,_),(0,_)]) hh12 [d,.int .i64 (((W5 t).vs.length:Nat):Int),dc,dv,d5,ds,.bool (W5 t).dead];try refine zW (U0 hE Fe od5 od oc ov op (aN os qF)) ?_
 refine⟨((nd t K).num 0).toNat-(c+1),oJ,c+1,dv,d5,Ev,E5,E++R2,ps++[(q,x9)],oJ,rfl,⟨by rw[zB];exact rv,by rw[<- c6S];exact EK,by rw[hcn2,FK,heqI];rfl,?_,λx hx=>Hz _ (nT x (wM x hx)),?_⟩,Hz _ (nT _ kj),?_,?_,(rG hE)⟩
 .intro y hy
  rcases Fm.1 hy with hy|hy
  .exact(hatI y hy).mono λx hx=>Hz _ (nT x hx)
  .simp only[Fu]at hy
   subst hy;exact pO.mono λx hx=>HP _ hx
 .exact hh13.sub (IC _ _) λ_ hx=>hx
 .rw[zB];simp only[Fq,FT,a6g];omega
 .simp only[Fq,Hy];omega
theorem c2S(hT:Z0 d t)(hR:Y9 t) :
 Y4 U5 29 [d] k4.empty λr s'=>r=.aT [.agg [.ag,.int .i64 0,.ag,.ag,.ag,.ag,.bool false],.bool false]\/(a3g t/\a30 t/\∃m ps,r=.aT [.agg (Z6 m),.bool true]/\b3c s' m (a20 t) ps/\m.dp≠.bu 8 (a3J ps)):=(c8Q hT hR).mono λr s' h=>h.imp And.left id
def b93(t:List Nd)(r:D):Prop:=r=.aT [.agg [.ag,.int .i64 0,.ag,.ag,.ag,.ag,.bool false],.bool false]\/∃m ps,r=.aT [.agg (Z6 m),.bool true]/\Y9 t/\a3g t/\a30 t/\Z4 m (a20 t) ps
theorem makeI(hT:Z0 d t)(hR:Y9 t):∃r s1 d',Ev U5 29 [d] k4.empty r s1/\V.aK s1.get 20 r=some d'/\b93 t d':=by
 obtain⟨r,s1,h1,h2⟩:=c2S hT hR;rcases h2 with rfl|⟨hS,hY,m,ps,rfl,hm,hn⟩
 .exact⟨_,s1,_,h1,rfl,.inl rfl⟩
 .obtain⟨m',rq,h3,h4⟩:=hm.dI hn true
  exact⟨_,s1,_,h1,h3,.inr ⟨m',rq,rfl,hR,hS,hY,h4⟩⟩
theorem a9f{n:Int}(h:n<32):eT 176 [.int .i64 n] (.int .u32 (a14 n:Int)):=by
 refine a56 ?_;by_cases c:n<0
 .have c':(n<0)=True:=FR c
  refine W4 (vf:=b0R) rfl ?_;unfold b0R;refine zE ?_;try refine zW c' ?_
  exact⟨.inr trivial,_,rR,by simp[a14,c]⟩
 .obtain⟨k,rfl⟩:=Iy (by omega:0<=n)
  have c':((k:Int)<0)=False:=FH c;have hs:=b3Q (n:=k) oJ;refine W4 (vf:=b0R) rfl ?_;unfold b0R;refine zE ?_;try refine zW (aN c' hs) ?_
  exact⟨.inr trivial,_,rR,by rw[a66]⟩
theorem c8i{p:Pr}{Cd:Nat}(hp:gH p x)(hg:s.get Cd=some (.cells (V0 p x)))(hs:p.names.length=p.vars.length)(hv:∀v∈p.vars,v<32)(hl:p.names.length<=1000){w:ByteArray}:Ev U5 175 [.str w,.ptr Cd 0] s (.int .u32 (bD p.names p.vars w:Int)) s:=by
 have op:=hp.aw;have hlen:=hp.lenN;unfold V0 at hg;refine b0p (vf:=b5h) rfl ?_;unfold b5h;refine zE ?_;try refine zW (V4 hg op hlen) ?_
 refine a1l (Q:=a0u 0 _) (λn env s'=>∃i:Nat,i<=p.names.length/\n=p.names.length-i/\s'=s/\(∀j(hj:j<p.names.length),j<i->p.names[j]≠w)/\(env.get 0=.str w/\env.get 1=.ptr Cd 0/\env.get 7=x.dn/\env.get 8=.int .i64 (p.names.length:Int)/\env.get 9=.int .i64 (i:Int))) ?_ p.names.length _ _ ⟨0,oJ,rfl,rfl,λj _ h=>by omega,by simp[k6.get]⟩;rintro n env s' ⟨i,hi,rfl,rfl,iR,hE⟩;by_cases c3:i<p.names.length
 .have jm:((i:Int)<(p.names.length:Int))=True:=FR oJ
  have kR:IntKind.i64.wrap ((i:Int)+1)=((i+1:Nat):Int):=by rw[Z9 oJ oJ];omega
  have iM:=FLS.idx hp.n c3 (k:=.i64);by_cases c4:p.names[i]=w
  .have kD:decide (p.names[i]=w)=true:=by simp[c4]
   have sD:i<p.vars.length:=oJ;have sS:=FLN.idx hp.v sD (k:=.i64);have hb:=a9f (n:=(p.vars[i]:Int)) (by have:=hv _ (Fp sD);omega);have e:bD p.names p.vars w=a14 (p.vars[i]:Int):=by
    unfold bD;rw[a7Y c3 c4 iR,Fk c3,a66];simp[List.getD,sD]
   rw[e];repeat first
   |(apply V2 hb rfl;(focus(simp only[k6.aR,k6.ev,k6.get,Nat.reduceEqDiff,↓reduceIte,hE]));(focus rfl))
   |refine zW (X0 hE hg op jm iM kD sS) ?_
   exact⟨.inr trivial,trivial,rR⟩
  .have kD:decide (p.names[i]=w)=false:=by simp[c4]
   try refine zW (X0 hE hg op jm iM kD kR) ?_
   refine⟨p.names.length-(i+1),oJ,i+1,oJ,rfl,trivial,λj hj hji=>?_,(rG hE)⟩;by_cases ej:j=i
   .subst ej;exact c4
   .exact iR j hj oJ
 .have jm:((i:Int)<(p.names.length:Int))=False:=FH oJ
  have e:bD p.names p.vars w=0:=by
   unfold bD;rw[so (a88 λj hj=>iR j hj oJ)]
  rw[e];try refine zW (aN hE jm) ?_
  exact⟨.inr trivial,trivial,rR⟩
theorem c5V(h:i<1000000000):IntKind.i64.wrap ((i:Int)+1)=((i+1:Nat):Int):=by rw[Z9 oJ oJ];omega
variable{op:Nat}
theorem doR{a b:Int}(jU:op<5)(me:1<=w)(wi:w<=16)(ha:-65536<=a)(ha':a<=65536)(hb:-65536<=b)(qG:b<=65536) :
 Ev U5 92 [.int .i64 (op:Int),.int .i64 a,.int .i64 b,.int .i64 (w:Int)] s (.int .i64 (fD op a b w)) s:=by
 have hwn:(w:Int)=min (max (w:Int) 1) 16:=oJ;have hT:∀x:Int,-9223372036854775808<=x->x<9223372036854775808->Ev U5 34 [.int .i64 x,.int .i64 (w:Int)] k4.empty (.int .i64 (W3 x w)) k4.empty:=λx h1 h2=>b9u hwn ⟨h1,h2⟩
 refine b0p (vf:=vf92) rfl ?_;unfold vf92;refine zE ?_;have h3:op=0\/op=1\/op=2\/(3<=op):=oJ;rcases h3 with h3|h3|h3|h3
 .have n0:((op:Int)==0)=true:=by rw[h3];rfl
  have n1:((op:Int)==1)=false:=by rw[h3];rfl
  have n2:((op:Int)==2)=false:=by rw[h3];rfl
  have hd:fD op a b w=W3 (a+b) w:=by rw[h3];rfl
  rw[hd];have e:=Z9 (n:=a+b) oJ oJ;have hT:=hT (a+b) oJ oJ;repeat first
  |(apply a5D hT rfl;(focus(simp only[k6.aR,k6.ev,k6.get,Nat.reduceEqDiff,↓reduceIte];rfl));(focus rfl))
  |refine zW (V1 e n0 n1 n2) ?_
  exact⟨.inr trivial,trivial,rR⟩
 .have n0:((op:Int)==0)=false:=by rw[h3];rfl
  have n1:((op:Int)==1)=true:=by rw[h3];rfl
  have n2:((op:Int)==2)=false:=by rw[h3];rfl
  have hd:fD op a b w=W3 (a-b) w:=by rw[h3];rfl
  rw[hd];have e:=Z9 (n:=a-b) oJ oJ;have hT:=hT (a-b) oJ oJ;repeat first
  |(apply a5D hT rfl;(focus(simp only[k6.aR,k6.ev,k6.get,Nat.reduceEqDiff,↓reduceIte];rfl));(focus rfl))
  |refine zW (V1 e n0 n1 n2) ?_
  exact⟨.inr trivial,trivial,rR⟩
 .have n0:((op:Int)==0)=false:=by rw[h3];rfl
  have n1:((op:Int)==1)=false:=by rw[h3];rfl
  have n2:((op:Int)==2)=true:=by rw[h3];rfl
  have hd:fD op a b w=W3 (a*b) w:=by rw[h3];rfl
  rw[hd];have hm:-4294967296<=a*b/\a*b<=4294967296:=by
   have h1:(a*b).natAbs<=65536*65536:=by
    rw[Int.natAbs_mul];exact GI oJ oJ
   omega
  have e:=Z9 (n:=a*b) oJ oJ;have hT:=hT (a*b) oJ oJ;repeat first
  |(apply a5D hT rfl;(focus(simp only[k6.aR,k6.ev,k6.get,Nat.reduceEqDiff,↓reduceIte];rfl));(focus rfl))
  |refine zW (V1 e n0 n1 n2) ?_
  exact⟨.inr trivial,trivial,rR⟩
 .have n0:((op:Int)==0)=false:=by simp;omega
  have n1:((op:Int)==1)=false:=by simp;omega
  have n2:((op:Int)==2)=false:=by simp;omega
  by_cases pU:b=0
  .subst pU
   have hd:fD op a 0 w=0:=by
    match op,h3 with
    |3,_=>rfl
    |n+4,_=>rfl
   rw[hd];try refine zW (V4 n0 n1 n2) ?_
   exact⟨.inr trivial,trivial,rR⟩
  .have c0:(b==0)=false:=by simpa using pU
   have qI:0<b.natAbs:=oJ;try refine zW (V1 n0 n1 n2 c0) ?_
   refine WP.mono (Q:=λe env s1=>e=.normal/\s1=s/\(env.get 0=.int .i64 (op:Int)/\env.get 1=.int .i64 a/\env.get 2=.int .i64 b/\env.get 3=.int .i64 (w:Int)/\env.get 9=.int .i64 (a.natAbs:Int)/\env.get 10=.int .i64 b)) ?_ ?_
   .by_cases h:a<0
    .have b1:(a<0)=True:=FR h
     have e1:IntKind.i64.wrap (0-a)=(a.natAbs:Int):=by rw[Z9 oJ oJ];omega
     try refine zW (aN b1 e1) ?_
     exact⟨trivial,trivial,by simp[k6.get]⟩
    .have b1:(a<0)=False:=FH h
     have e1:a=(a.natAbs:Int):=oJ;try refine zW b1 ?_
     exact⟨trivial,trivial,by simp[k6.get,<- e1]⟩
   rintro e env s1 ⟨rfl,rfl,hE⟩;simp only[a2w];try refine zW hE ?_
   refine WP.mono (Q:=λe env s2=>e=.normal/\s2=s1/\(env.get 0=.int .i64 (op:Int)/\env.get 1=.int .i64 a/\env.get 2=.int .i64 b/\env.get 3=.int .i64 (w:Int)/\env.get 9=.int .i64 (a.natAbs:Int)/\env.get 10=.int .i64 (b.natAbs:Int))) ?_ ?_
   .by_cases h:b<0
    .have b1:(b<0)=True:=FR h
     have e1:IntKind.i64.wrap (0-b)=(b.natAbs:Int):=by rw[Z9 oJ oJ];omega
     try refine zW (V4 hE b1 e1) ?_
     exact⟨trivial,trivial,by simp[k6.get,hE]⟩
    .have b1:(b<0)=False:=FH h
     have e1:b=(b.natAbs:Int):=oJ;try refine zW (aN hE b1) ?_
     exact⟨trivial,trivial,by simp[k6.get,hE,<- e1]⟩
   clear hE;rintro e env s2 ⟨rfl,rfl,hE⟩;simp only[a2w];try refine zW hE ?_
   have oY:a.natAbs<=65536:=oJ;have uN:b.natAbs<=65536:=oJ;have ta:a.tdiv b=if(decide (a<0) != decide (b<0))=true then -((a.natAbs/b.natAbs:Nat):Int)else((a.natAbs/b.natAbs:Nat):Int):=by
    have key:((a.natAbs/b.natAbs:Nat):Int)=((a.natAbs:Nat):Int).tdiv (b.natAbs:Nat):=rfl;rw[key];by_cases h1:a<0<;>by_cases h2:b<0
    .rw[FN h1,FN h2,so dJ,Gl oJ,Gl oJ,JR,JS];omega
    .rw[FN h1,FP h2,Fk dJ,Gl oJ,Hr oJ,JR];omega
    .rw[FP h1,FN h2,Fk dJ,Hr oJ,Gl oJ,JS];omega
    .rw[FP h1,FP h2,so dJ,Hr oJ,Hr oJ]
   have tm:a.tmod b=if a<0 then -((a.natAbs%b.natAbs:Nat):Int)else((a.natAbs%b.natAbs:Nat):Int):=by
    have key:((a.natAbs%b.natAbs:Nat):Int)=((a.natAbs:Nat):Int).tmod (b.natAbs:Nat):=rfl;have kb:∀x:Int,x.tmod (b.natAbs:Int)=x.tmod b:=λx=>by
     rcases Int.natAbs_eq b with hb|hb
     .rw[<- hb]
     .have:x.tmod b=x.tmod (-b):=by rw[Int.tmod_neg]
      rw[this];congr 1;omega
    rw[key,kb];by_cases h1:a<0
    .rw[Fk h1,Gl oJ,KA];omega
    .rw[so h1,Hr oJ]
   generalize a.natAbs=p at *;generalize b.natAbs=r at *;refine a1l (λk env s3=>∃(q t:Nat),p=q*r+t/\k=t/\s3=s2/\(env.get 0=.int .i64 (op:Int)/\env.get 1=.int .i64 a/\env.get 2=.int .i64 b/\env.get 3=.int .i64 (w:Int)/\env.get 10=.int .i64 (r:Int)/\env.get 11=.int .i64 (q:Int)/\env.get 12=.int .i64 (t:Int))) ?_ p _ _
    ⟨0,p,oJ,rfl,rfl,by simp[k6.get,hE]⟩
   clear hE;rintro k env s3 ⟨q,t,hp,rfl,rfl,hE⟩;have Co:q<=p:=by
    have:q*1<=q*r:=Ip q qI;omega
   by_cases hc:r<=k
   .have c1:((r:Int)<=(k:Int))=True:=FR oJ
    have e1:IntKind.i64.wrap ((k:Int)-(r:Int))=((k-r:Nat):Int):=by rw[Z9 oJ oJ];omega
    have e2:=c5V (i:=q) oJ;try refine zW (V1 hE c1 e1 e2) ?_
    exact⟨k-r,oJ,q+1,k-r,by rw[HO];omega,rfl,trivial,(rG hE)⟩
   .have c1:((r:Int)<=(k:Int))=False:=FH oJ
    have dq:p/r=q:=by
     rw[hp,Kw,Nat.mul_add_div qI,HV oJ,GN]
    have dm:p%r=k:=by
     rw[hp,Kw,Nat.mul_add_mod,HA oJ]
    rw[dq]at ta;rw[dm]at tm;have hop':op=3\/op=4:=oJ;rcases hop' with rfl|rfl
    .have hd:fD 3 a b w=W3 (a.tdiv b) w:=by simp only[fD];rw[so pU]
     have n3:((3:Nat):Int)=3:=rfl;rw[hd];by_cases hx:(decide (a<0) != decide (b<0))=true
     .rw[Fk hx]at ta
      rw[ta];have e1:IntKind.i64.wrap (0-(q:Int))=-(q:Int):=by rw[Z9 oJ oJ];omega
      have lM:(!(decide (a<0)==decide (b<0)))=true:=hx;have hT:=hT (-(q:Int)) oJ oJ;repeat first
      |(apply a5D hT rfl;(focus(simp only[k6.aR,k6.ev,k6.get,Nat.reduceEqDiff,↓reduceIte,hE];rfl));(focus rfl))
      |refine zW (W0 hE c1 n3 lM e1) ?_
      exact⟨.inr trivial,trivial,rR⟩
     .rw[so hx]at ta
      rw[ta];have lM:(!(decide (a<0)==decide (b<0)))=false:=sU hx;have hT:=hT (q:Int) oJ oJ;repeat first
      |(apply a5D hT rfl;(focus(simp only[k6.aR,k6.ev,k6.get,Nat.reduceEqDiff,↓reduceIte,hE];rfl));(focus rfl))
      |refine zW (V1 hE c1 n3 lM) ?_
      exact⟨.inr trivial,trivial,rR⟩
    .have hd:fD 4 a b w=W3 (a.tmod b) w:=by simp only[fD];rw[so pU]
     have n3:(((4:Nat):Int)==3)=false:=rfl;rw[hd];by_cases hx:a<0
     .rw[Fk hx]at tm
      rw[tm];have e1:IntKind.i64.wrap (0-(k:Int))=-(k:Int):=by rw[Z9 oJ oJ];omega
      have lM:(a<0)=True:=FR hx;have hT:=hT (-(k:Int)) oJ oJ;repeat first
      |(apply a5D hT rfl;(focus(simp only[k6.aR,k6.ev,k6.get,Nat.reduceEqDiff,↓reduceIte,hE];rfl));(focus rfl))
      |refine zW (W0 hE c1 n3 lM e1) ?_
      exact⟨.inr trivial,trivial,rR⟩
     .rw[so hx]at tm
      rw[tm];have lM:(a<0)=False:=FH hx;have hT:=hT (k:Int) oJ oJ;repeat first
      |(apply a5D hT rfl;(focus(simp only[k6.aR,k6.ev,k6.get,Nat.reduceEqDiff,↓reduceIte,hE];rfl));(focus rfl))
      |refine zW (V1 hE c1 n3 lM) ?_
      exact⟨.inr trivial,trivial,rR⟩
theorem do8(jU:op<5){a b:Int}(ha:I8 a)(hb:I8 b):eT 92 [.int .i64 (op:Int),.int .i64 a,.int .i64 b,.int .i64 8] (.int .i64 (fD op a b 8)):=by
 obtain⟨a1,a2⟩:=ha;obtain⟨b1,b2⟩:=hb;exact⟨_,doR (w:=8) jU dJ dJ oJ oJ oJ oJ⟩
theorem one_ok{b:Bool}:eT 91 [.bool b] (.int .i64 (V6 b)):=by
 refine a56 ?_;cases b
 .refine W4 (vf:=b1q) rfl ?_
  unfold b1q;refine zE ?_;try refine cR ?_
  exact⟨.inr trivial,_,rR,rfl⟩
 .refine W4 (vf:=b1q) rfl ?_
  unfold b1q;refine zE ?_;try refine cR ?_
  exact⟨.inr trivial,_,rR,rfl⟩
variable{p:Nat}{mo:Mo}{ps:List (Pr×X2)}
theorem c5a(hm:Z4 m mo ps)(ho:Z3 mo)(hp:p<mo.procs.length){w:ByteArray}:eT 90 [.agg (Z6 m),.int .i64 (p:Int),.str w] (.int .i64 (a4Z (a0s mo.procs[p] w))):=by
 refine a56 ?_;have om:=hm.aw;have jh:=ho.pr _ (Fp hp);obtain⟨x,hx,ua⟩:=hm.proc hp;have ua:=ua .i64;have ow:=hm.eY;have ox:=hx.aw;have jw:=hx.lenN;have qH:=jh.nl;have lD:=ho.nv;have AK:=jh.same;have p1:((0:Int)<=(p:Int))=True:=FR oJ;have p2:((p:Int)<(mo.procs.length:Int))=True:=FR oJ;generalize mo.procs[p]=P at *;unfold V0 at ua;unfold Z6;refine W4 (vf:=vf90) rfl ?_;unfold vf90;refine zE ?_;try refine zW (X4 om ow ua ox p1 p2) ?_
 refine a1l (Q:=a0u 0 _) (λn env s=>∃i:Nat,i<=P.names.length/\n=P.names.length-i/\s.get 1=some (.cells [.str P.name,.int .i64 (P.copy:Int),x.dl,.int .i64 (P.ah:Int),x.dr,x.de,x.dn,x.dv])/\(∀j(hj:j<P.names.length),j<i->P.names[j]≠w)/\(env.get 2=.str w/\env.get 7=.ptr 1 0/\env.get 8=.int .i64 (i:Int))) ?_ P.names.length _ _ ⟨0,oJ,rfl,rfl,λj _ h=>by omega,by simp[k6.get,a0n.at];rfl⟩;rintro n env s ⟨i,hi,rfl,hg,iR,hE⟩;by_cases c3:i<P.names.length
 .have jm:((i:Int)<(P.names.length:Int))=True:=FR oJ
  have kR:IntKind.i64.wrap ((i:Int)+1)=((i+1:Nat):Int):=by rw[Z9 oJ oJ];omega
  have iM:=FLS.idx hx.n c3 (k:=.i64);by_cases c4:P.names[i]=w
  .have kD:decide (P.names[i]=w)=true:=by simp[c4]
   have sD:i<P.vars.length:=oJ;have sS:=FLN.idx hx.v sD (k:=.i64);have e:a4Z (a0s P w)=(P.vars[i]:Int):=by
    unfold a0s;rw[a7Y c3 c4 iR,Fk c3];simp[a4Z,List.getD,sD]
   rw[e];try refine zW (U0 hE hg ox jw jm iM kD sS) ?_
   exact⟨.inr trivial,_,rR,rfl⟩
  .have kD:decide (P.names[i]=w)=false:=by simp[c4]
   try refine zW (U0 hE hg ox jw jm iM kD kR) ?_
   refine⟨P.names.length-(i+1),oJ,i+1,oJ,rfl,hg,λj hj hji=>?_,(rG hE)⟩;by_cases ej:j=i
   .subst ej;exact c4
   .exact iR j hj oJ
 .have jm:((i:Int)<(P.names.length:Int))=False:=FH oJ
  have e:a4Z (a0s P w)=-1:=by
   unfold a0s;rw[so (a88 λj hj=>iR j hj oJ)];rfl
  rw[e];try refine zW (W0 hE hg ox jw jm) ?_
  exact⟨.inr trivial,_,rR,rfl⟩
theorem c1g{m:X7}{mo:Mo}{ps:List (Pr×X2)}(hm:Z4 m mo ps)(ho:Z3 mo){vb:ByteArray->Nat}(px:∀w,vb w<4294967296){yj idf:Nat}{iX:List D}:∀(n k:Nat),k<mo.tree.length->mo.tree.length-k<n->a3O (nd mo.tree k).kind ->
 ∀(s:k4)(f:Ft),s.get idf=some (.cells f.row)->f.Ok->(∀s',Fr [idf] s s'->∀w,Ev U5 yj (.str w::iX) s' (.int .u32 (vb w:Int)) s') ->
 Y4 U5 174 [.agg (Z6 m),.int .i64 (k:Int),.ptr idf 0,.fn yj iX] s λr s'=>r=.aT []/\s'.get idf=some (.cells (a2x mo.tree (mo.ae.map Ch.name) vb n k f).row)/\Fr [idf] s s'/\(a2x mo.tree (mo.ae.map Ch.name) vb n k f).Ok
 |0,k,_,h,_=>by omega
 |n+1,k,hk,hn,hex=>by
  intro s f hf jy hv;have om:=hm.aw;have hle:=ho.tree.le;have iT:=ho.tree.node k hk;have iM:=hm.tr.at (z:=(k:Int)) oJ oJ (k:=.i64);rw[an]at iM;have on:=a2Y hm.tr hk;have mZ:=t3 hf;have hw:=a6m hm.tr hk (i:=0);have n0:=a5U hm.tr hk (i:=0);have z0:((0:Nat):Int)=0:=rfl;rw[iT.wl,z0]at hw;rw[iT.nl,z0]at n0;have kC:=FI.len (hm.tr.nd hk).k;show Y4 _ _ _ _ λr s'=>r=.aT []/\s'.get idf=some (.cells ((nd mo.tree k).ks.foldl (λf c=>a2x mo.tree (mo.ae.map Ch.name) vb n c f) (a0S (mo.ae.map Ch.name) vb (nd mo.tree k) f)).row)/\Fr [idf] s s'/\((nd mo.tree k).ks.foldl (λf c=>a2x mo.tree (mo.ae.map Ch.name) vb n c f) (a0S (mo.ae.map Ch.name) vb (nd mo.tree k) f)).Ok
  have ji:=c1Q (x:=nd mo.tree k) jy (ch:=mo.ae.map Ch.name) (sU ho.nc) px;unfold Z6;refine W4 (vf:=b4D) rfl ?_;unfold b4D;refine zE ?_;try refine zW (V4 om iM on) ?_
  have je:Fr [] s (((s.push (.cells [m.dt,.int .i64 m.g,m.dc,m.dv,m.dp,m.ds,.bool m.b])).push (.cells [.int .i64 0,.ag,.ag,.ag,.int .i64 0])).set (s.next+1) (some (.cells [.int .i64 (nd mo.tree k).kind,(nd mo.tree k).dw,(nd mo.tree k).dn,(nd mo.tree k).dk,.int .i64 (nd mo.tree k).pos]))):=((Fr.push _).ak _).aC _ (.inr oJ);have b2:(((s.push (.cells [m.dt,.int .i64 m.g,m.dc,m.dv,m.dp,m.ds,.bool m.b])).push (.cells [.int .i64 0,.ag,.ag,.ag,.int .i64 0])).set (s.next+1) (some (.cells [.int .i64 (nd mo.tree k).kind,(nd mo.tree k).dw,(nd mo.tree k).dn,(nd mo.tree k).dk,.int .i64 (nd mo.tree k).pos]))).get s.next=some (.cells [m.dt,.int .i64 m.g,m.dc,m.dv,m.dp,m.ds,.bool m.b]):=by(simp(disch:=(first|with_reducible assumption|omega|((repeat(first|rw[nP]|rw[nS]))<;>omega)|fail)) only[a0k,W8,Y8,a0b,k4.aj,k4.au])
  have c2:(((s.push (.cells [m.dt,.int .i64 m.g,m.dc,m.dv,m.dp,m.ds,.bool m.b])).push (.cells [.int .i64 0,.ag,.ag,.ag,.int .i64 0])).set (s.next+1) (some (.cells [.int .i64 (nd mo.tree k).kind,(nd mo.tree k).dw,(nd mo.tree k).dn,(nd mo.tree k).dk,.int .i64 (nd mo.tree k).pos]))).get (s.next+1)=some (.cells [.int .i64 (nd mo.tree k).kind,(nd mo.tree k).dw,(nd mo.tree k).dn,(nd mo.tree k).dk,.int .i64 (nd mo.tree k).pos]):=by(simp(disch:=(first|with_reducible assumption|omega|((repeat(first|rw[nP]|rw[nS]))<;>omega)|fail)) only[a0k,W8,Y8,a0b,k4.aj,k4.au])
  have f2:=(je.2 idf mZ sJ).trans hf;unfold Ft.row at f2;generalize(((s.push (.cells [m.dt,.int .i64 m.g,m.dc,m.dv,m.dp,m.ds,.bool m.b])).push (.cells [.int .i64 0,.ag,.ag,.ag,.int .i64 0])).set (s.next+1) (some (.cells [.int .i64 (nd mo.tree k).kind,(nd mo.tree k).dw,(nd mo.tree k).dn,(nd mo.tree k).dk,.int .i64 (nd mo.tree k).pos])))=s2 at *;have l2:=t3 c2;have tx:=t3 f2;have AT:=hv s2 (je.weaken sJ);refine a7X (P:=λenv s'=>s'.get idf=some (.cells (a0S (mo.ae.map Ch.name) vb (nd mo.tree k) f).row)/\Fr [idf] s s'/\s'.get s.next=some (.cells [m.dt,.int .i64 m.g,m.dc,m.dv,m.dp,m.ds,.bool m.b])/\s'.get (s.next+1)=some (.cells [.int .i64 (nd mo.tree k).kind,(nd mo.tree k).dw,(nd mo.tree k).dn,(nd mo.tree k).dk,.int .i64 (nd mo.tree k).pos])/\(env.get 2=.ptr idf 0/\env.get 3=.fn yj iX/\env.get 4=.ptr s.next 0/\env.get 8=.ptr (s.next+1) 0)) ?_ ?_
  .by_cases kF:(nd mo.tree k).kind=18
   .have qf:((nd mo.tree k).kind==18)=true:=by rw[kF];rfl
    rw[kF]at hw;have hw:=hw dJ;have kU:=AT ((nd mo.tree k).word 0);have sW:=a9A jy.r (px ((nd mo.tree k).word 0));have e:a0S (mo.ae.map Ch.name) vb (nd mo.tree k) f={ f with reads:=f.reads ||| vb ((nd mo.tree k).word 0) }:=by unfold a0S;rw[Fk kF]
    rw[e];repeat first
    |((with_reducible apply c3v);(focus rfl);(focus exact kU))
    |refine zW (X4 f2 c2 on qf hw sW) ?_
    refine⟨trivial,?_,?_,?_,?_,by simp[k6.get,a0n.at]⟩
    .rw[a0b tx];rfl
    .exact(je.weaken sJ).aC _ (.inl sJ)
    .rw[Y8 oJ,b2]
    .rw[Y8 oJ,c2]
   have qf:((nd mo.tree k).kind==18)=false:=by rw[FA];exact kF
   by_cases kX:(nd mo.tree k).kind=19
   .have rB:((nd mo.tree k).kind==19)=true:=by rw[kX];rfl
    rw[kX]at hw;have hw:=hw dJ;have e:a0S (mo.ae.map Ch.name) vb (nd mo.tree k) f={ f with aX:=f.aX ||| iH (mo.ae.map Ch.name) ((nd mo.tree k).word 0) }:=by unfold a0S;rw[so kF,Fk kX]
    have ly:=hm.iC;have nN:=ho.nc;try refine zW (U0 f2 b2 c2 on om qf rB ly) ?_
    refine a7X (P:=λenv s'=>s'.get idf=some (.cells (a0S (mo.ae.map Ch.name) vb (nd mo.tree k) f).row)/\Fr [idf] s s'/\s'.get s.next=some (.cells [m.dt,.int .i64 m.g,m.dc,m.dv,m.dp,m.ds,.bool m.b])/\s'.get (s.next+1)=some (.cells [.int .i64 (nd mo.tree k).kind,(nd mo.tree k).dw,(nd mo.tree k).dn,(nd mo.tree k).dk,.int .i64 (nd mo.tree k).pos])/\(env.get 2=.ptr idf 0/\env.get 3=.fn yj iX/\env.get 4=.ptr s.next 0/\env.get 8=.ptr (s.next+1) 0)) ?_ ?_;rotate_left
    .rintro env s' ⟨a1,a2,a3,a4,a5⟩
     exact⟨rfl,a1,a2,a3,a4,a5⟩
    refine a1l (Q:=a0u 1 _) (λn env s'=>∃i:Nat,i<=mo.ae.length/\n=mo.ae.length-i/\Fr [] s2 s'/\(∀j(hj:j<mo.ae.length),j<i->mo.ae[j].name≠(nd mo.tree k).word 0)/\(env.get 2=.ptr idf 0/\env.get 3=.fn yj iX/\env.get 4=.ptr s.next 0/\env.get 8=.ptr (s.next+1) 0/\env.get 38=m.dc/\env.get 39=.int .i64 (mo.ae.length:Int)/\env.get 40=.int .i64 (i:Int))) ?_ mo.ae.length _ _ ⟨0,oJ,rfl,Fr.refl _ _,λj _ h=>by omega,by simp[k6.get,a0n.at]⟩;rintro n env s' ⟨i,hi,rfl,iY,iR,hE⟩;have f3:=(iY.2 idf tx sJ).trans f2;have b3:=(iY.2 s.next oJ sJ).trans b2;have c3:=(iY.2 (s.next+1) l2 sJ).trans c2;have l3:=t3 c3;have Cv:=t3 f3;by_cases ci:i<mo.ae.length
    .have jn:((i:Int)<(mo.ae.length:Int))=True:=FR oJ
     have kR:IntKind.i64.wrap ((i:Int)+1)=((i+1:Nat):Int):=by rw[Z9 oJ oJ];omega
     have my:=FLC.idx hm.c ci (k:=.i64);unfold Ch.row at my;have jG:∀z o,Fr [] s' ((s'.push z).set s'.next (some o)):=λz o=>(Fr.push _).aC _ (.inr (sm _))
     by_cases ce:mo.ae[i].name=(nd mo.tree k).word 0
     .have rD:decide (mo.ae[i].name=(nd mo.tree k).word 0)=true:=by simp[ce]
      have hb:=a9f (n:=(i:Int)) oJ;have eb:iH (mo.ae.map Ch.name) ((nd mo.tree k).word 0)=a14 (i:Int):=by
       unfold iH;have nD:i<(mo.ae.map Ch.name).length:=sU ci;rw[a7Y nD (sU ce) (λj hj hji=>by simpa using iR j (by simpa using hj) hji),Fk nD,a66]
      have sW:=a9A jy.z (b00 (n:=(i:Int)) oJ);rw[e,eb];repeat first
      |(apply V2 hb rfl;(focus(simp only[k6.aR,k6.ev,k6.get,Nat.reduceEqDiff,↓reduceIte,hE]));(focus rfl))
      |refine zW (U0 hE f3 c3 on jn my rD (aN hw sW)) ?_
      have jO:=(jG (.cells [.str (bs []),.int .i64 0,.int .i64 0,.bool false,.bool false]) (.cells [.str mo.ae[i].name,.int .i64 mo.ae[i].room,.int .i64 mo.ae[i].width,.bool mo.ae[i].bC,.bool mo.ae[i].aS]))
      refine⟨trivial,?_,?_,?_,?_,by simp[k6.get,hE]⟩
      .rw[a0b (Gq Cv jO.1)];rfl
      .exact(((je.trans iY sJ).trans jO sJ).weaken sJ).aC _ (.inl sJ)
      .rw[Y8 oJ,jO.2 _ oJ sJ,b3]
      .rw[Y8 oJ,jO.2 _ oJ sJ,c3]
     .have rD:decide (mo.ae[i].name=(nd mo.tree k).word 0)=false:=by simp[ce]
      try refine zW (U0 hE f3 c3 on jn my rD (aN hw kR)) ?_
      refine⟨mo.ae.length-(i+1),oJ,i+1,oJ,rfl,iY.trans (jG _ _) sJ,λj hj hji=>?_,(rG hE)⟩;by_cases ej:j=i
      .subst ej;exact ce
      .exact iR j hj oJ
    .have jn:((i:Int)<(mo.ae.length:Int))=False:=FH oJ
     have eb:iH (mo.ae.map Ch.name) ((nd mo.tree k).word 0)=0:=by
      unfold iH;rw[so (a88 λj hj=>by simpa using iR j (by simpa using hj) (by simp at hj;omega))]
     rw[e,eb,Jo];try refine zW (aN hE jn) ?_
     exact⟨trivial,f3,(je.trans iY sJ).weaken sJ,b3,c3,(rG hE)⟩
   have rB:((nd mo.tree k).kind==19)=false:=by rw[FA];exact kX
   by_cases lT:(nd mo.tree k).kind=22
   .have tB:((nd mo.tree k).kind==22)=true:=by rw[lT];rfl
    rw[lT]at n0;have n0:=n0 dJ;by_cases q7:(nd mo.tree k).num 0=7
    .have AI:((nd mo.tree k).num 0==7)=true:=by rw[q7];rfl
     have e:a0S (mo.ae.map Ch.name) vb (nd mo.tree k) f={ f with part:=true }:=by unfold a0S;rw[so kF,so kX,Fk ⟨lT,.inl q7⟩]
     rw[e];try refine zW (U0 f2 c2 on qf rB tB n0 AI) ?_
     refine⟨trivial,?_,?_,?_,?_,by simp[k6.get,a0n.at]⟩
     .rw[a0b tx];rfl
     .exact(je.weaken sJ).aC _ (.inl sJ)
     .rw[Y8 oJ,b2]
     .rw[Y8 oJ,c2]
    have AI:((nd mo.tree k).num 0==7)=false:=by rw[FA];exact q7
    by_cases q8:(nd mo.tree k).num 0=8
    .have BU:((nd mo.tree k).num 0==8)=true:=by rw[q8];rfl
     have e:a0S (mo.ae.map Ch.name) vb (nd mo.tree k) f={ f with part:=true }:=by unfold a0S;rw[so kF,so kX,Fk ⟨lT,.inr q8⟩]
     rw[e];try refine zW (U0 f2 c2 on qf rB tB n0 (aN AI BU)) ?_
     refine⟨trivial,?_,?_,?_,?_,by simp[k6.get,a0n.at]⟩
     .rw[a0b tx];rfl
     .exact(je.weaken sJ).aC _ (.inl sJ)
     .rw[Y8 oJ,b2]
     .rw[Y8 oJ,c2]
    have BU:((nd mo.tree k).num 0==8)=false:=by rw[FA];exact q8
    have e:a0S (mo.ae.map Ch.name) vb (nd mo.tree k) f=f:=by unfold a0S;rw[so kF,so kX,so oJ]
    rw[e];try refine zW (U0 f2 c2 on qf rB tB n0 (aN AI BU)) ?_
    exact⟨trivial,f2,je.weaken sJ,b2,c2,by simp[k6.get,a0n.at]⟩
   have tB:((nd mo.tree k).kind==22)=false:=by rw[FA];exact lT
   have e:a0S (mo.ae.map Ch.name) vb (nd mo.tree k) f=f:=by unfold a0S;rw[so kF,so kX,so oJ]
   rw[e];try refine zW (X4 f2 c2 on qf rB tB) ?_
   exact⟨trivial,f2,je.weaken sJ,b2,c2,by simp[k6.get,a0n.at]⟩
  clear f2 c2 b2 l2 tx je AT;clear s2;rintro env s2 ⟨f2,je,b2,c2,hE⟩;obtain⟨jJ,uy⟩:=b1T iT hex;simp only[a2w];try refine zW (V1 hE c2 on kC) ?_
  generalize a0S (mo.ae.map Ch.name) vb (nd mo.tree k) f=f1 at *;refine a1l (Q:=a0u 3 _) (λj env s'=>∃i:Nat,i<=(nd mo.tree k).kids.length/\j=(nd mo.tree k).kids.length-i/\s'.get idf=some (.cells (((nd mo.tree k).ks.take i).foldl (λf c=>a2x mo.tree (mo.ae.map Ch.name) vb n c f) f1).row)/\Fr [idf] s s'/\(((nd mo.tree k).ks.take i).foldl (λf c=>a2x mo.tree (mo.ae.map Ch.name) vb n c f) f1).Ok/\s'.get s.next=some (.cells [m.dt,.int .i64 m.g,m.dc,m.dv,m.dp,m.ds,.bool m.b])/\s.next≠idf/\(env.get 2=.ptr idf 0/\env.get 3=.fn yj iX/\env.get 4=.ptr s.next 0/\env.get 80=(nd mo.tree k).dk/\env.get 81=.int .i64 ((nd mo.tree k).kids.length:Int)/\env.get 82=.int .i64 (i:Int))) ?_ (nd mo.tree k).kids.length _ _ ⟨0,oJ,rfl,f2,je,ji,b2,oJ,by simp[k6.get,hE]⟩;clear hE b2 c2 f2 je;rintro j env s' ⟨i,hi,rfl,f2,je,tL,b2,jt,hE⟩;have lb:=t3 b2;by_cases c1:i<(nd mo.tree k).kids.length
  .have iU:((i:Int)<((nd mo.tree k).kids.length:Int))=True:=FR oJ
   have kR:IntKind.i64.wrap ((i:Int)+1)=((i+1:Nat):Int):=by rw[Z9 oJ oJ];omega
   have kK:=a2T hm.tr ho.tree hk c1;have mE:=a1E c1;have uv:=b4l c1;have Ak:=ho.tree.ks hk _ mE;have hcx:=uy i c1;generalize(nd mo.tree k).aE i=K at *;have nX:=c1g hm ho px n K Ak.2 oJ hcx s' _ f2 tL (λs3 h3=>hv s3 (je.trans h3 sJ));unfold Z6 at nX;try refine zW (W0 hE iU kK b2 om) ?_
   apply a09 nX
   .simp only[k6.aR,k6.ev,k6.get,Nat.reduceEqDiff,↓reduceIte,hE]
   rintro r s3 ⟨rfl,f3,iY,o3⟩;have b3:=(iY.2 s.next lb (sU jt)).trans b2;try refine zW (aN hE kR) ?_
   refine⟨(nd mo.tree k).kids.length-(i+1),oJ,i+1,oJ,rfl,?_,je.trans iY sJ,?_,b3,jt,(rG hE)⟩
   .rw[uv,Jp];exact f3
   .rw[uv,Jp];exact o3
  .have iU:((i:Int)<((nd mo.tree k).kids.length:Int))=False:=FH oJ
   obtain rfl:i=(nd mo.tree k).kids.length:=oJ;have iR:(nd mo.tree k).ks.take (nd mo.tree k).kids.length=(nd mo.tree k).ks:=by rw[<- a4H,Gf]
   rw[iR]at f2 tL;try refine zW (aN hE iU) ?_
   exact⟨.inl trivial,_,rfl,rfl,f2,je,tL⟩
theorem c68(hm:Z4 m mo ps)(ho:Z3 mo)(hp:p<mo.procs.length)(hi:i<mo.procs[p].ai.length) :
 eT 152 [.agg (Z6 m),.int .i64 (p:Int),.int .i64 (i:Int)] (.aT [.agg (Z8 mo mo.procs[p] mo.procs[p].ai[i]).row,.bool true])/\(Z8 mo mo.procs[p] mo.procs[p].ai[i]).Ok:=by
 suffices h:Y4 U5 152 [.agg (Z6 m),.int .i64 (p:Int),.int .i64 (i:Int)] k4.empty λr _=>r=.aT [.agg (Z8 mo mo.procs[p] mo.procs[p].ai[i]).row,.bool true]/\(Z8 mo mo.procs[p] mo.procs[p].ai[i]).Ok by
  obtain⟨r,s,h1,rfl,h2⟩:=h;exact⟨⟨s,h1⟩,h2⟩
 have om:=hm.aw;have lD:=ho.nv;have jh:=ho.pr _ (Fp hp);obtain⟨x,hx,ua⟩:=hm.proc hp;have ua:=ua .i64;have ow:=hm.eY;have ox:=hx.aw;have hle:=hx.lenE;have EB:=FLE.idx hx.e hi (k:=.i64);have jx:=jh.inv.ed _ (Fp hi);generalize mo.procs[p].ai[i]=e at *;have p1:((p:Int)<0)=False:=FH oJ;have p2:((mo.procs.length:Int)<=(p:Int))=False:=FH oJ;have i1:((i:Int)<0)=False:=FH oJ;have i2:((mo.procs[p].ai.length:Int)<=(i:Int))=False:=FH oJ;generalize mo.procs[p]=P at *;have px:∀w,bD P.names P.vars w<4294967296:=λw=>by
  unfold bD;split
  .rename_i hw
   rw[jh.same]at hw;refine a6P ?_;have:=jh.var _ (Fp hw);simp only[List.getD,GY hw,Ho];omega
  .decide
 have lM:=hx;unfold V0 at ua;unfold Ed.row at EB;unfold Z6;generalize wo:(if 0<=e.expr then a2x mo.tree (mo.ae.map Ch.name) (bD P.names P.vars) (mo.tree.length+1) e.expr.toNat ⟨0,0,0,0,0,false⟩else⟨0,0,0,0,0,false⟩)=f1;have hE:Z8 mo P e=(if e.act=1 then{ f1 with writes:=a14 e.var }else if e.act=2 then{ f1 with aW:=a14 e.chan }else if e.act=3 then{ f1 with writes:=a14 e.var,aY:=a14 e.chan }else f1):=by unfold Z8;rw[wo]
 rw[hE];refine W4 (vf:=b4W) rfl ?_;unfold b4W;refine zE ?_;try refine zW (U0 om ow ua ox hle p1 p2 (V4 i1 i2 EB)) ?_
 simp only[a0n.at,k4.aj,k4.au,b8Z,Nat.reduceAdd];refine wp_gen (Φ:=λs=>s.get 0=some (.cells [m.dt,.int .i64 m.g,m.dc,m.dv,m.dp,m.ds,.bool m.b])/\s.get 1=some (.cells [.int .u32 0,.int .u32 0,.int .u32 0,.int .u32 0,.int .u32 0,.bool false])/\s.get 2=some (.cells [.str P.name,.int .i64 (P.copy:Int),x.dl,.int .i64 (P.ah:Int),x.dr,x.de,x.dn,x.dv])/\s.get 3=some (.cells [.int .i64 (e.aq:Int),.int .i64 (e.to:Int),.int .i64 (e.act:Int),.int .i64 e.expr,.int .i64 e.var,.int .i64 e.chan,.bool e.aG,.int .i64 (e.node:Int)])/\s.get 4=some (.cells [.int .u32 0,.int .u32 0,.int .u32 0,.int .u32 0,.int .u32 0,.bool false])) ?_ ?_
 .have ne:=b8Z
  refine⟨?_,?_,?_,?_,?_⟩<;>(simp(disch:=(first|with_reducible assumption|omega|((repeat(first|rw[nP]|rw[nS]))<;>omega)|fail)) only[a0k,W8,Y8,a0b,k4.aj,k4.au])
 rintro s ⟨g0,g1,g2,g3,g4⟩;have l0:=t3 g0;have l1:=t3 g1;have l2:=t3 g2;have l3:=t3 g3;have l4:=t3 g4;refine WP.mono (Q:=λe' env s=>e'=.normal/\s.get 4=some (.cells f1.row)/\f1.Ok/\s.get 1=some (.cells [.int .u32 0,.int .u32 0,.int .u32 0,.int .u32 0,.int .u32 0,.bool false])/\s.get 3=some (.cells [.int .i64 (e.aq:Int),.int .i64 (e.to:Int),.int .i64 (e.act:Int),.int .i64 e.expr,.int .i64 e.var,.int .i64 e.chan,.bool e.aG,.int .i64 (e.node:Int)])/\(env.get 6=.ptr 1 0/\env.get 9=.ptr 3 0/\env.get 10=.ptr 4 0)) ?_ ?_
 .by_cases ce:0<=e.expr
  .have rD:((0:Int)<=e.expr)=True:=FR ce
   have ha:=jx.act;have hac:e.act=1\/e.act=2\/e.act=4\/e.act=5:=by
    have h0:=jx.gZ;omega
   obtain⟨k,hk,jJ,uy⟩:=jx.eQ hac;rw[Fk ce,hk,an]at wo;subst wo;have kU:∀s',Fr [4] s s'->∀w,Ev U5 175 (.str w::[.ptr 2 0]) s' (.int .u32 (bD P.names P.vars w:Int)) s':=λs' hf w =>
    c8i hx (by rw[hf.2 2 l2 sJ,g2];rfl) jh.same (λv hv=>by have:=jh.var v hv;omega) (by
     have:=jh.nl;omega)
   have nX:=c1g hm ho px (mo.tree.length+1) k jJ oJ uy s ⟨0,0,0,0,0,false⟩ g4 b4O kU;rw[<- hk]at nX;unfold Z6 at nX;try refine zW (V1 rD g0 g3 om) ?_
   apply a09 nX
   .rfl
   rintro r s' ⟨rfl,f3,iY,o3⟩;try refine cR ?_
   exact⟨trivial,f3,o3,by rw[iY.2 1 l1 sJ,g1],by rw[iY.2 3 l3 sJ,g3,hk],by simp[k6.get]⟩
  .have rD:((0:Int)<=e.expr)=False:=FH ce
   rw[so ce]at wo;subst wo;try refine zW rD ?_
   exact⟨trivial,g4,b4O,g1,g3,by simp[k6.get]⟩
 clear g0 g1 g2 g3 g4 l0 l1 l2 l3 l4;rintro e' env s ⟨rfl,g4,jy,g1,g3,rE⟩;have l1:=t3 g1;have l4:=t3 g4;unfold Ft.row at g4;simp only[a2w];have kI:e.act=1\/e.act=3->e.var<32:=λh=>by
  obtain⟨n,hn,e1⟩:=jx.v1 h;have:=jh.var n hn;omega
 have qi:e.act=2\/e.act=3->e.chan<32:=λh=>by
  obtain⟨n,e1,hn⟩:=jx.c1 h;have:=ho.nc;omega
 by_cases a1:e.act=1
 .have Al:((e.act:Int)==1)=true:=by rw[a1];rfl
  have hb:=a9f (kI (.inl a1));have yJ:=b00 (kI (.inl a1));rw[Fk a1];repeat first
  |(apply V2 hb rfl;(focus(simp only[k6.aR,k6.ev,k6.get,Nat.reduceEqDiff,↓reduceIte,rE]));(focus rfl))
  |refine zW (W0 rE g3 g4 g1 Al) ?_
  refine⟨.inr trivial,_,?_,rfl,⟨jy.r,yJ,jy.s,jy.v,jy.z⟩⟩
  .simp only[a03,a08,a1t,k6.get,Nat.reduceEqDiff,↓reduceIte,rE,a0b (i:=1) (s:=s.set 4 _) (by simp only[k4.au];exact l1)]
   rfl
 have Al:((e.act:Int)==1)=false:=by rw[FA];omega
 rw[so a1];by_cases a2:e.act=2
 .have Bw:((e.act:Int)==2)=true:=by rw[a2];rfl
  have hb:=a9f (qi (.inl a2));have yJ:=b00 (qi (.inl a2));rw[Fk a2];repeat first
  |(apply V2 hb rfl;(focus(simp only[k6.aR,k6.ev,k6.get,Nat.reduceEqDiff,↓reduceIte,rE]));(focus rfl))
  |refine zW (X4 rE g3 g4 g1 Al Bw) ?_
  refine⟨.inr trivial,_,?_,rfl,⟨jy.r,jy.w,yJ,jy.v,jy.z⟩⟩
  .simp only[a03,a08,a1t,k6.get,Nat.reduceEqDiff,↓reduceIte,rE,a0b (i:=1) (s:=s.set 4 _) (by simp only[k4.au];exact l1)]
   rfl
 have Bw:((e.act:Int)==2)=false:=by rw[FA];omega
 rw[so a2];by_cases a3:e.act=3
 .have Cw:((e.act:Int)==3)=true:=by rw[a3];rfl
  have hb:=a9f (kI (.inr a3));have yJ:=b00 (kI (.inr a3));have jr:=a9f (qi (.inr a3));have hbl2:=b00 (qi (.inr a3));rw[Fk a3];repeat first
  |(apply V2 hb rfl;(focus(simp only[k6.aR,k6.ev,k6.get,Nat.reduceEqDiff,↓reduceIte,rE]));(focus rfl))
  |(apply V2 jr rfl;(focus(simp only[k6.aR,k6.ev,k6.get,Nat.reduceEqDiff,↓reduceIte,rE]));(focus rfl))
  |refine zW (X0 rE g3 g4 g1 Al Bw Cw) ?_
  refine⟨.inr trivial,_,?_,rfl,⟨jy.r,yJ,jy.s,hbl2,jy.z⟩⟩
  .simp only[a03,a08,a1t,k6.get,Nat.reduceEqDiff,↓reduceIte,rE,a0b (i:=1) (s:=(s.set 4 _).set 4 _) (by simp only[k4.au];exact l1)]
   rfl
 have Cw:((e.act:Int)==3)=false:=by rw[FA];omega
 rw[so a3];try refine zW (X0 rE g3 g4 g1 Al Bw Cw) ?_
 refine⟨.inr trivial,_,?_,rfl,jy⟩;simp only[a03,a08,a1t,k6.get,Nat.reduceEqDiff,↓reduceIte,rE,a0b (i:=1) (s:=s) l1];rfl
theorem c5H:∃s',Ev U5 5 [] k4.empty (.bool true) s':=c9s (n:=400) (by kernel_rfl)
end Go.Proofs.YtigbmclkjknnjaaGreat
