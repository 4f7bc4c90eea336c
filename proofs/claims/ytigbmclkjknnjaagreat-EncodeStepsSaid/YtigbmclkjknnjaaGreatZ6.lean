/- Texts one behind the other. -/
import Derived.Test.YtigbmclkjknnjaaGreatZ5
import Derived.Test.YtigbmclkjknnjaaGreatZ3
import Derived.Test.YtigbmclkjknnjaaGreatZ4
set_option linter.all false
set_option maxRecDepth 100000
set_option maxHeartbeats 8000000
namespace Go.Proofs.YtigbmclkjknnjaaGreat
open Go.V
variable{s s':k4}{n:Int}{y:Int×Bool}
theorem VL.of{d:D}{q:Bool}(h:VB s' d (bL n 8))(f:Fr [] s s')(e:y.2=q)(hn:I8 n)(hv:q=true->n=y.1):VL s (.aT [d,.int .i64 (V6 q)]) s' y:=by
 subst e;exact⟨d,n,rfl,h.one,hn,h,hv,f⟩
variable{v:Nat}
theorem name_b(hv:0<v)(hn:W3 n v=n):U1 (λi=>aB (bL n v) (min i ((bL n v).length-1))) 8=bL n 8:=by
 have h:=b4Q (n:=n) hv (w:=8) oJ;rw[hn]at h;rw[<- h];refine a4I λi _=>?_
 rw[a1r];exact b5O oJ
variable{g:Nat}
theorem a9I{b:Nat}{p q r:Bool}(hg:GB s g)(hb:s.get b=some (.cells [.int .i64 (V6 p),.int .i64 (V6 q),.int .i64 (V6 r)])):CB U5 56 [.ptr g 0,.arr b 0 3 1] s (p&&q&&r):=by
 have h:=c1k hg (VB.bk (A:=λi=>if i=0 then p else if i=1 then q else r) (w:=3) hb) oJ;have e:a4N (λi=>if i=0 then p else if i=1 then q else r) 3=(p&&q&&r):=by simp[a4N]
 rwa [e]at h
theorem b6Y{v g:Nat}{m:X7}{mo:Mo}{ps:List (Pr×X2)}{st:U6}{x:gM}(hm:Z4 m mo ps)(ho:Z3 mo)(jB:a0P mo)(h8:fW st)(iQ:a6V mo st){look:ByteArray->Option Nat}(mI:∀w v,look w=some v->v<mo.vars.length):∀(n k:Nat),k<mo.tree.length->mo.tree.length-k<n->a3O (nd mo.tree k).kind->∀(s:k4)(fo:D),GB s g->Ve s v g m mo st x->a9s U5 s fo look ->
 Y4 U5 83 [.ptr v 0,fo,.int .i64 (k:Int)] s λr s'=>VL s r s' (a06 mo.tree mo.ch look st n k)
 |0,k,_,h,_,_,_,_,_,_=>by omega
 |n+1,k,hk,hn,hex,s,fo,hg,hv,jy=>by
  have oU:=jy.1;have gv:=hv.get;have lv:=t3 gv;have oo:=hv.aw;have om:=hm.aw;have iT:=ho.tree.node k hk;have iM:=hm.tr.at (z:=(k:Int)) oJ oJ (k:=.i64);rw[an]at iM;have on:=a2Y hm.tr hk;have hw:=a6m hm.tr hk (i:=0);have n0:=a5U hm.tr hk (i:=0);have z0:((0:Nat):Int)=0:=rfl;have z1:((1:Nat):Int)=1:=rfl;rw[iT.wl,z0]at hw;rw[iT.nl,z0]at n0;obtain⟨jJ,uy⟩:=b1T iT hex;have f0:Fr [] s ((s.push (.cells [.int .i64 0,.ag,.ag,.ag,.int .i64 0])).set s.next (some (.cells [.int .i64 (nd mo.tree k).kind,(nd mo.tree k).dw,(nd mo.tree k).dn,(nd mo.tree k).dk,.int .i64 (nd mo.tree k).pos]))):=a1Q;have gb:((s.push (.cells [.int .i64 0,.ag,.ag,.ag,.int .i64 0])).set s.next (some (.cells [.int .i64 (nd mo.tree k).kind,(nd mo.tree k).dw,(nd mo.tree k).dn,(nd mo.tree k).dk,.int .i64 (nd mo.tree k).pos]))).get s.next=some (.cells [.int .i64 (nd mo.tree k).kind,(nd mo.tree k).dw,(nd mo.tree k).dn,(nd mo.tree k).dk,.int .i64 (nd mo.tree k).pos]):=a0b sJ;have ih:∀i,i<(nd mo.tree k).kids.length->∀s1,Fr [] s s1->Y4 U5 83 [.ptr v 0,fo,.int .i64 (((nd mo.tree k).aE i:Nat):Int)] s1 λr s'=>VL s1 r s' (a06 mo.tree mo.ch look st n ((nd mo.tree k).aE i)):=λi hi s1 f1=>by
   have h1:=ho.tree.ks hk _ (a1E hi);exact b6Y hm ho jB h8 iQ mI n _ h1.2 oJ (uy i hi) _ _ (hg.fr f1) (hv.fr f1) (jy.fr f1)
  have k0:=a2T hm.tr ho.tree hk (i:=0);have k1:=a2T hm.tr ho.tree hk (i:=1);rw[z0]at k0;rw[z1]at k1;obtain⟨d0,Ac,mf⟩:=c1B 0 (w:=8) oJ oJ;have Ac:bz U5 122 [.int .i64 0,.int .i64 8] d0:=a0l Ac;unfold a06;simp only;by_cases rK:(nd mo.tree k).kind=17
  .rw[Fk rK]
   rw[rK]at n0;have n0:=n0 dJ;obtain⟨d,hd,hz⟩:=c1B ((nd mo.tree k).num 0) (w:=8) oJ oJ;have hd:bz U5 122 [.int .i64 ((nd mo.tree k).num 0),.int .i64 8] d:=a0l hd;rw[rK]at f0 iM;rw[<- a9B]at hz;refine Y0 (vf:=a5k) rfl ?_;unfold a5k;refine zF ?_;refine zY (U0 gv oU om oo iM on n0 hd) ?_;exact VL.z (b:=true) hz f0 rfl (a7g _) λ_=>rfl
  rw[so rK];by_cases kF:(nd mo.tree k).kind=18
  .rw[Fk kF]
   rw[kF]at hw;have hw:=hw dJ;rw[kF]at f0 gb iM;obtain⟨_,of,iX,rfl,nu⟩:=jy;refine Y0 (vf:=a5k) rfl ?_;unfold a5k;refine zF ?_;refine zY (X0 gv oU om oo iM on hw) ?_;refine b3d rfl (nu _ f0 ((nd mo.tree k).word 0)) rfl ?_;rintro r s2 ⟨rfl,f2⟩;have je:=f0.trans f2 sJ;cases tH:look ((nd mo.tree k).word 0)with
   |none =>
    simp(disch:=(first|exact Rf.mk rfl|with_reducible assumption|omega|((repeat(first|rw[nP]|rw[nS]|rw[Y3]))<;>omega)|decide)) only[go_sem,↓reduceIte,a4Z,Ac];exact VL.z (b:=false) mf je rfl I8.zero λh=>by cases h
   |some i =>
    have mh:=mI _ _ tH;obtain⟨q,y,i1,i2,oy,hy⟩:=(hv.fr je).vr mh (k:=.i64);have kG:=(hv.fr je).get;have c0:(0:Int)<=(i:Int):=oJ;simp(disch:=(first|exact Rf.mk rfl|with_reducible assumption|omega|((repeat(first|rw[nP]|rw[nS]|rw[Y3]))<;>omega)|decide)) only[go_sem,↓reduceIte,a4Z,c0,kG,oo,om,i1,i2,oy];have rz:=jB.vr _ (Fp mh);have mG:i<st.vars.length:=by rw[iQ.vars];exact mh
    have lX:=iQ.vr i mG mh;have e:mo.cE st i=bL (X9 st.vars i) (mo.vars[i].width.toNat):=by unfold Mo.cE;rw[a3x mh]
    rw[e]at hy;rw[<- a26 mG]at lX;refine xv (a9R (w:=8) hy (by rw[a1r];omega) (by rw[a1r];omega) oJ oJ) λb s3 hb g3 f3=>?_
    refine V9 ?_;exact VL.a (q:=true) g3 (je.trans f3 sJ) rfl (name_b oJ lX) (h8.v _ (by rw[a26 mG];exact Fp mG)) λ_=>rfl
  rw[so kF];by_cases kX:(nd mo.tree k).kind=19
  .rw[Fk kX]
   rw[kX]at hw;have hw:=hw dJ;have ly:=hm.iC;have nN:=ho.nc;have mM:mo.ch.length=mo.ae.length:=by simp[Mo.ch]
   rw[kX]at f0 gb iM;refine Y0 (vf:=a5k) rfl ?_;unfold a5k;refine zF ?_;refine zY (U0 gv oU om oo iM on hw ly) ?_;refine W6 [0,1,2,8,9,13,14,15,16,17,18,19,20,21,22,32,33,40,49,58,64,65,90,110,131] 0 mo.ae.length (λi f s'=>f 66=.int .i64 (i:Int)/\Fr [] s s'/\s'.get s.next=some (.cells [.int .i64 19,(nd mo.tree k).dw,(nd mo.tree k).dn,(nd mo.tree k).dk,.int .i64 (nd mo.tree k).pos])/\∀j(hj:j<mo.ae.length),j<i->mo.ae[j].name≠(nd mo.tree k).word 0) (.mk rfl) oJ ⟨rfl,f0,gb,λj _ h=>by omega⟩ ?_;clear f0 gb;rintro i f s1 hi ⟨h,f1,gb,iR⟩;have lb:=t3 gb;by_cases ci:i<mo.ae.length
   .have my:=FLC.idx hm.c ci (k:=.i64)
    unfold Ch.row at my;have vw:=(hv.fr f1).get;have Dz:=t3 vw;have f2:∀a b,Fr [] s ((s1.push a).set s1.next (some b)):=λa b=>f1.trans a1Q sJ
    have mQ:∀a b,((s1.push a).set s1.next (some b)).get s.next=some (.cells [.int .i64 19,(nd mo.tree k).dw,(nd mo.tree k).dn,(nd mo.tree k).dk,.int .i64 (nd mo.tree k).pos]):=λa b=>by
     rw[Y8 oJ,a0k lb];exact gb
    by_cases ce:mo.ae[i].name=(nd mo.tree k).word 0
    .have nD:i<mo.ch.length:=oJ
     have eb:=a7Y (l:=mo.ch) (w:=(nd mo.tree k).word 0) nD (by simpa[Mo.ch]using ce) (λj hj hji=>by simpa[Mo.ch]using iR j oJ hji);have qF:i<st.ae.length:=by have:=iQ.ae;omega
     simp only[eb,Fk nD];have m1:(64:Int)<=2^47:=dJ;have m2:(8:Int)<2^62:=dJ;have hz:=a2c 8;have rD:decide (mo.ae[i].name=(nd mo.tree k).word 0)=true:=by simp[ce]
     obtain⟨q,y,i1,i2,oy,hy⟩:=(hv.fr f1).sz ci (k:=.i64);have fS:∀a b c,Fr [] s1 (((s1.push a).set s1.next (some b)).push c):=λa b c=>a1Q.ak _
     have i3:=λa b c=>a7j i2 (fS a b c)
     have kU:=iQ.cl i ci;refine zY (U0 h ci my gb vw om oo (U0 on hw rD m1 m2 hz i1 (aN i3 oy))) ?_;refine xcopy (c6L (b:=s1.next+1) (hy.fr (fS _ _ _)) (W8 sJ) oJ) ?_;refine V9 ?_;refine VL.a (q:=true) (a0b sJ) ((f1.trans (fS _ _ _) sJ).st ?_ _) rfl rfl (by unfold I8;omega) λ_=>rfl
     have:=f1.1;omega
    .have rD:decide (mo.ae[i].name=(nd mo.tree k).word 0)=false:=by simp[ce]
     refine zY (X0 h ci my gb on hw rD) ?_;refine⟨f2 _ _,λj hj hji=>?_⟩;by_cases ej:j=i
     .subst ej;exact ce
     .exact iR j hj oJ
   .have eb:=a88 (l:=mo.ch) (w:=(nd mo.tree k).word 0) (λj hj=>by simpa[Mo.ch]using iR j oJ oJ)
    simp only[so eb];refine zY (V4 h ci Ac) ?_;exact VL.z (b:=false) mf f1 rfl I8.zero λh=>by cases h
  rw[so kX];by_cases uh:(nd mo.tree k).kind=20
  .rw[Fk uh]
   have h1:=iT.one oJ;have k0:=k0 oJ;rw[uh]at f0 gb iM;refine Y0 (vf:=a5k) rfl ?_;unfold a5k;refine zF ?_;refine zY (X0 gv oU om oo iM on k0) ?_;refine a0M (ih 0 oJ _ f0) rfl ?_;generalize a06 mo.tree mo.ch look st n ((nd mo.tree k).aE 0)=y0 at *;rintro r s2 ⟨da,na,rfl,oa,ia,ha,va,f2⟩;have je:=f0.trans f2 sJ;have kG:=(hv.fr je).get;have rQ:=t3 kG;have hs:=b8n (A:=W1 0) (B:=W1 na) (w:=8) (hg.fr je) (mf.vb s2) ha oJ oJ;refine zY (W0 oa kG om oo Ac) ?_;refine a28 (xv hs λb s3 hb g3 f3=>?_);refine V9 ?_;refine VL.a (q:=y0.2) g3 (je.trans f3 sJ) rfl (b9h I8.zero ia) (a7g _) λh=>?_
   rw[va h,Int.zero_sub]
  rw[so uh];by_cases tE:(nd mo.tree k).kind=21
  .rw[Fk tE]
   have h1:=iT.one oJ;have k0:=k0 oJ;rw[tE]at f0 gb iM;refine Y0 (vf:=a5k) rfl ?_;unfold a5k;refine zF ?_;refine zY (X0 gv oU om oo iM on k0) ?_;refine a0M (ih 0 oJ _ f0) rfl ?_;generalize a06 mo.tree mo.ch look st n ((nd mo.tree k).aE 0)=y0 at *;rintro r s2 ⟨da,na,rfl,oa,ia,ha,va,f2⟩;have je:=f0.trans f2 sJ;have kG:=(hv.fr je).get;have rQ:=t3 kG;have hs:=b0H (A:=W1 na) (w:=8) (hg.fr je) ha oJ oJ;rw[a8i ia]at hs;have xF:=a3a (decide (na≠0));obtain⟨d,hd,hz⟩:=b0I (!decide (na≠0));have hd:=a0l hd;refine zY (V1 oa kG om oo) ?_;refine xb hs λs3 f3=>?_
   refine zY (aN xF hd) ?_;refine VL.z hz (je.trans f3 sJ) rfl (I8.one _) λh=>?_
   rw[va h,h];simp
  rw[so tE];have lT:(nd mo.tree k).kind=22:=by have:=hex.1;have:=hex.2;omega
  rw[Fk lT];obtain⟨l2,_,_,p0,p8⟩:=iT.bin lT;have k0:=k0 oJ;have k1:=k1 oJ;rw[lT]at n0;have n0:=n0 dJ;rw[lT]at f0 gb iM;refine Y0 (vf:=a5k) rfl ?_;unfold a5k;refine zF ?_;refine zY (X0 gv oU om oo iM on k0) ?_;refine a0M (ih 0 oJ _ f0) rfl ?_;rintro r s2 ⟨da,na,rfl,oa,ia,ha,va,f2⟩;have je:=f0.trans f2 sJ;have mQ:=f2.kp gb;have wH:=t3 mQ;refine zY (V1 oa mQ on k1) ?_;refine a0M (ih 1 oJ _ je) rfl ?_;rintro r s3 ⟨db,nb,rfl,ob,ib,hb,vb,f3⟩;have iY:=je.trans f3 sJ;have pf:=f3.kp mQ;have At:=t3 pf;refine zY (V1 ob pf on n0) ?_;refine a0M (c88 hm (hg.fr iY) (hv.fr iY) (ha.fr f3) hb ia ib p0 p8) rfl ?_;rintro r s4 ⟨dc,nc,rfl,oc,ic,hc,vc,f4⟩;have jG:=iY.trans f4 sJ;have rJ:=(hv.fr jG).get;have zM:=t3 rJ;refine zY (V1 oc rJ om oo) ?_;refine xb (a9I (hg.fr (jG.ak _)) (W8 rfl)) λs5 f5=>?_
  refine V9 ?_;have f6:Fr [] s4 s5:=Fr.trans (Fr.push _) f5 sJ;refine VL.of (hc.fr f6) (jG.trans f6 sJ) ?_ ic λh=>?_
  .generalize a06 mo.tree mo.ch look st n ((nd mo.tree k).aE 0)=y0 at *
   generalize a06 mo.tree mo.ch look st n ((nd mo.tree k).aE 1)=y1 at *;obtain⟨z0',b0⟩:=y0;obtain⟨z1',b1⟩:=y1;simp only at va vb⊢;cases b0<;>cases b1<;>simp_all
  .simp only[Fo]at h
   obtain⟨⟨h0,h1⟩,h2⟩:=h;rw[vc h2,va h0,vb h1,h0,h1];rfl
variable{p:Nat}{m:X7}{mo:Mo}{ps:List (Pr×X2)}{st:U6}{x:gM}
theorem a8S(hm:Z4 m mo ps)(ho:Z3 mo)(jB:a0P mo)(h8:fW st)(iQ:a6V mo st)(hp:p<mo.procs.length){k:Nat}(hk:k<mo.tree.length)(he:a3O (nd mo.tree k).kind)(hg:GB s g)(hv:Ve s v g m mo st x){fo:D}(hf:a9s U5 s fo (a0s (k7 mo.procs p))) :
 Y4 U5 83 [.ptr v 0,fo,.int .i64 (k:Int)] s λr s'=>VL s r s' (mo.val (a0s (k7 mo.procs p)) st k):=by
 refine b6Y hm ho jB h8 iQ (λw u hu=>?_) _ k hk oJ he s fo hg hv hf;rw[a12 hp]at hu;have jh:=ho.pr _ (Fp hp);exact jh.var u (c1Y jh.same hu)
theorem VL.num{r:D}(h:VL s r s' y):∃d n,r=.aT [d,.int .i64 (V6 y.2)]/\V5 d=true/\I8 n/\VB s' d (bL n 8)/\(y.2&&decide (n≠0))=(y.2&&decide (y.1≠0))/\(y.2&&!decide (n≠0))=(y.2&&decide (y.1=0))/\Fr [] s s':=by
 obtain⟨d,n,h1,h2,h3,h4,h5,h6⟩:=h;refine⟨d,n,h1,h2,h3,h4,?_,?_,h6⟩
 .obtain⟨a,b⟩:=y
  cases b
  .rfl
  .rw[h5 rfl]
 .obtain⟨a,b⟩:=y
  cases b
  .rfl
  .rw[h5 rfl];simp
theorem any2{n:Nat}(h:n<=3):a0U (W1 (n:Int)) 2=decide (0<n):=by
 have e:n=0\/n=1\/n=2\/n=3:=oJ;rcases e with rfl|rfl|rfl|rfl<;>rfl
theorem b7S(hm:Z4 m mo ps)(ho:Z3 mo)(jB:a0P mo)(h8:fW st)(iQ:a6V mo st)(hg:GB s g)(hv:Ve s v g m mo st x)(hp:p<mo.procs.length){e:Ed}(he:a6z mo.tree mo.ae.length (k7 mo.procs p).ah (k7 mo.procs p).vars e):CB U5 78 [.ptr v 0,.int .i64 (p:Int),.agg [.int .i64 (e.aq:Int),.int .i64 (e.to:Int),.int .i64 (e.act:Int),.int .i64 e.expr,.int .i64 e.var,.int .i64 e.chan,.bool e.aG,.int .i64 (e.node:Int)]] s (mo.can st p (k7 mo.procs p) e):=by
 have gv:=hv.get;have lv:=t3 gv;have oo:=hv.aw;have om:=hm.aw;have jh:=ho.pr _ (Fp hp);have f0:Fr [] s (s.push (.cells [.int .i64 (e.aq:Int),.int .i64 (e.to:Int),.int .i64 (e.act:Int),.int .i64 e.expr,.int .i64 e.var,.int .i64 e.chan,.bool e.aG,.int .i64 (e.node:Int)])):=Fr.push _;have gb:(s.push (.cells [.int .i64 (e.aq:Int),.int .i64 (e.to:Int),.int .i64 (e.act:Int),.int .i64 e.expr,.int .i64 e.var,.int .i64 e.chan,.bool e.aG,.int .i64 (e.node:Int)])).get s.next=some (.cells [.int .i64 (e.aq:Int),.int .i64 (e.to:Int),.int .i64 (e.act:Int),.int .i64 e.expr,.int .i64 e.var,.int .i64 e.chan,.bool e.aG,.int .i64 (e.node:Int)]):=W8 rfl;have iW:e.aq<=100000:=by have:=he.f;have:=jh.pl;rw[a12 hp]at *;omega
 unfold Mo.can Mo.ex CB;have h6:e.act=0\/e.act=1\/e.act=2\/e.act=3\/e.act=4\/e.act=5:=by have:=he.act;omega
 rcases h6 with ha|ha|ha|ha|ha|ha
 .have hex:=he.gZ oJ
  rw[hex]at f0 gb⊢;refine Y0 (vf:=a5c) rfl ?_;unfold a5c;refine zF ?_;refine zY (V4 gv om oo) ?_;refine xb (a65 hm ho (hg.fr f0) (hv.fr f0) iQ hp iW) λs1 f1=>?_
  have lP:=f0.trans f1 sJ;have lE:=f1.kp gb;refine zY (aN lE ha) ?_;refine⟨?_,lP⟩;simp
 .obtain⟨k,ke,nR,oL⟩:=he.eQ oJ
  rw[ke]at f0 gb⊢;simp only[Hd,FG,an];refine Y0 (vf:=a5c) rfl ?_;unfold a5c;refine zF ?_;refine zY (V4 gv om oo) ?_;refine xb (a65 hm ho (hg.fr f0) (hv.fr f0) iQ hp iW) λs1 f1=>?_
  have lP:=f0.trans f1 sJ;have lE:=f1.kp gb;have sR:=t3 lE;refine zY (aN lE ha) ?_;refine xxm (a9b hm ho (hv.fr lP) hp) (λd s' h=>h.2) sJ λfo s2 E jy hE=>?_
  obtain⟨jy,f2⟩:=jy;have oU:=jy.1;have je:=lP.trans f2 sJ;have mQ:=f2.kp lE;have wH:=t3 mQ;have hn:a1K s.next E:=a4V hE sR;refine zY (V4 mQ hn oU) ?_;refine a28 (a0M (a8S hm ho jB h8 iQ hp nR oL (hg.fr je) (hv.fr je) jy) rfl ?_);rintro r s3 mh;obtain⟨d,n,rfl,od,hn,hd,e1,e2,f3⟩:=VL.num mh;generalize mo.val (a0s (k7 mo.procs p)) st k=y at *;have iY:=je.trans f3 sJ;have pf:=f3.kp mQ;have At:=t3 pf;refine zY (V4 pf od ha) ?_;refine xb (a1A (hg.fr iY) _ _) λs4 f4=>?_
  refine V9 ?_;refine⟨?_,iY.trans f4 sJ⟩;simp
 .obtain⟨k,ke,nR,oL⟩:=he.eQ oJ
  obtain⟨q,oE,hq2⟩:=he.c1 oJ;rw[ke,oE]at f0 gb⊢;simp only[Hd,FG,an];refine Y0 (vf:=a5c) rfl ?_;unfold a5c;refine zF ?_;refine zY (V4 gv om oo) ?_;refine xb (a65 hm ho (hg.fr f0) (hv.fr f0) iQ hp iW) λs1 f1=>?_
  have lP:=f0.trans f1 sJ;have lE:=f1.kp gb;have sR:=t3 lE;refine zY (aN lE ha) ?_;refine xxm (a9b hm ho (hv.fr lP) hp) (λd s' h=>h.2) sJ λfo s2 E jy hE=>?_
  obtain⟨jy,f2⟩:=jy;have oU:=jy.1;have je:=lP.trans f2 sJ;have mQ:=f2.kp lE;have wH:=t3 mQ;have hn:a1K s.next E:=a4V hE sR;refine zY (V4 mQ hn oU) ?_;refine a28 (a0M (a8S hm ho jB h8 iQ hp nR oL (hg.fr je) (hv.fr je) jy) rfl ?_);rintro r s3 mh;obtain⟨d,n,rfl,od,hn,hd,e1,e2,f3⟩:=VL.num mh;generalize mo.val (a0s (k7 mo.procs p)) st k=y at *;have iY:=je.trans f3 sJ;have pf:=f3.kp mQ;have At:=t3 pf;refine zY (V4 pf od ha) ?_;refine xb (c19 hm ho jB (hg.fr iY) (hv.fr iY) iQ hq2) λs4 f4=>?_
  have jG:=iY.trans f4 sJ;refine V9 ?_;refine xb (a9I (hg.fr (jG.ak _)) (W8 rfl)) λs5 f5=>?_
  refine V9 ?_;refine⟨?_,(jG.ak _).trans f5 sJ⟩;simp[HW]
 .have hex:=he.gZ oJ
  obtain⟨q,oE,hq2⟩:=he.c1 oJ;rw[hex,oE]at f0 gb⊢;refine Y0 (vf:=a5c) rfl ?_;unfold a5c;refine zF ?_;refine zY (V4 gv om oo) ?_;refine xb (a65 hm ho (hg.fr f0) (hv.fr f0) iQ hp iW) λs1 f1=>?_
  have lP:=f0.trans f1 sJ;have lE:=f1.kp gb;have sR:=t3 lE;have vw:=f1.kp (f0.kp gv);obtain⟨u,y,i1,i2,oy,hy⟩:=(hv.fr lP).sz hq2 (k:=.i64);have qF:q<st.ae.length:=by rw[iQ.ae];exact hq2
  have kU:=iQ.cl q hq2;have vh:=a6u (A:=W1 ((U8 st.ae q).length:Int)) (w:=2) (hg.fr lP) hy oJ;rw[any2 oJ]at vh;refine zY (U0 lE ha vw om oo i1 i2 oy) ?_;refine xb vh λs2 f2=>?_
  have je:=lP.trans f2 sJ;refine V9 ?_;refine xb (a1A (hg.fr je) _ _) λs3 f3=>?_
  refine V9 ?_;refine⟨?_,je.trans f3 sJ⟩;simp
 .obtain⟨k,ke,nR,oL⟩:=he.eQ oJ
  rw[ke]at f0 gb⊢;simp only[Hd,FG,an];refine Y0 (vf:=a5c) rfl ?_;unfold a5c;refine zF ?_;refine zY (V4 gv om oo) ?_;refine xb (a65 hm ho (hg.fr f0) (hv.fr f0) iQ hp iW) λs1 f1=>?_
  have lP:=f0.trans f1 sJ;have lE:=f1.kp gb;have sR:=t3 lE;refine zY (aN lE ha) ?_;refine xxm (a9b hm ho (hv.fr lP) hp) (λd s' h=>h.2) sJ λfo s2 E jy hE=>?_
  obtain⟨jy,f2⟩:=jy;have oU:=jy.1;have je:=lP.trans f2 sJ;have mQ:=f2.kp lE;have wH:=t3 mQ;have hn:a1K s.next E:=a4V hE sR;refine zY (V4 mQ hn oU) ?_;refine a28 (a0M (a8S hm ho jB h8 iQ hp nR oL (hg.fr je) (hv.fr je) jy) rfl ?_);rintro r s3 mh;obtain⟨d,n,rfl,od,hn,hd,e1,e2,f3⟩:=VL.num mh;generalize mo.val (a0s (k7 mo.procs p)) st k=y at *;have iY:=je.trans f3 sJ;have pf:=f3.kp mQ;have At:=t3 pf;refine zY (V4 pf od ha) ?_;have hs:=b0H (A:=W1 n) (w:=8) (hg.fr iY) hd oJ oJ;rw[a8i hn]at hs;refine xb hs λs4 f4=>?_
  have jG:=iY.trans f4 sJ;refine V9 ?_;refine xb (a9I (hg.fr (jG.ak _)) (W8 rfl)) λs5 f5=>?_
  refine V9 ?_;refine⟨?_,(jG.ak _).trans f5 sJ⟩;rw[HW,e1];simp[HW]
 .obtain⟨k,ke,nR,oL⟩:=he.eQ oJ
  rw[ke]at f0 gb⊢;simp only[Hd,FG,an];refine Y0 (vf:=a5c) rfl ?_;unfold a5c;refine zF ?_;refine zY (V4 gv om oo) ?_;refine xb (a65 hm ho (hg.fr f0) (hv.fr f0) iQ hp iW) λs1 f1=>?_
  have lP:=f0.trans f1 sJ;have lE:=f1.kp gb;have sR:=t3 lE;refine zY (aN lE ha) ?_;refine xxm (a9b hm ho (hv.fr lP) hp) (λd s' h=>h.2) sJ λfo s2 E jy hE=>?_
  obtain⟨jy,f2⟩:=jy;have oU:=jy.1;have je:=lP.trans f2 sJ;have mQ:=f2.kp lE;have wH:=t3 mQ;have hn:a1K s.next E:=a4V hE sR;refine zY (V4 mQ hn oU) ?_;refine a28 (a0M (a8S hm ho jB h8 iQ hp nR oL (hg.fr je) (hv.fr je) jy) rfl ?_);rintro r s3 mh;obtain⟨d,n,rfl,od,hn,hd,e1,e2,f3⟩:=VL.num mh;generalize mo.val (a0s (k7 mo.procs p)) st k=y at *;have iY:=je.trans f3 sJ;have pf:=f3.kp mQ;have At:=t3 pf;refine zY (V4 pf od ha) ?_;have hs:=b0H (A:=W1 n) (w:=8) (hg.fr iY) hd oJ oJ;rw[a8i hn]at hs;have xF:=a3a (decide (n≠0));refine xb hs λs4 f4=>?_
  have jG:=iY.trans f4 sJ;refine zY xF ?_;refine xb (a9I (hg.fr (jG.ak _)) (W8 rfl)) λs5 f5=>?_
  refine V9 ?_;refine⟨?_,(jG.ak _).trans f5 sJ⟩;rw[HW,e2];simp[HW]
end Go.Proofs.YtigbmclkjknnjaaGreat
namespace Go.V
structure a2D(p:Pr):Prop where
 two:2<=p.ah
 ed:∀e∈p.ai,e.aq≠1
theorem a2D.put{p:Pr}(h:a2D p){aq to act node:Nat}{x v c:Int}(hf:aq≠1):a2D (p.put aq to act node x v c) :=
 ⟨h.two,λe he=>by
  simp only[Pr.put,Fm,Fu]at he;rcases he with he|rfl
  .exact h.ed e he
  .exact hf⟩
theorem a2D.place{p:Pr}(h:a2D p):a2D p.place:=⟨Nat.le_succ_of_le h.two,h.ed⟩
theorem a2D.idle{p:Pr}(h:a2D p)(n:Nat)(i:Int):a2D (p.idle n i):=by
 unfold Pr.idle;split
 .exact⟨h.two,h.ed⟩
 .exact h
variable{p:Pr}
theorem a2D.mark(h:a2D p)(n to:Nat):a2D { p with ai:=a3h n to p.ai } :=
 ⟨h.two,λe he=>by
  simp only[a3h,Fm,Fs]at he;rcases he with he|⟨e',he,rfl⟩
  .exact h.ed e (Gh he)
  .exact h.ed e' (Gz he)⟩
def StN(st:Pr->Nat->Nat->Nat->Pr):Prop:=∀p k aq to,a2D p->aq≠1->a2D (st p k aq to)
theorem b6t{st:Pr->Nat->Nat->Nat->Pr}(hs:StN st){node:Nat}:∀{ks:List Nat}{p:Pr}{aq to:Nat},a2D p->aq≠1->a2D (a3C st node p ks aq to)
 |[],p,aq,to,h,hf=>h.put hf
 |[k],p,aq,to,h,hf=>hs p k aq to h hf
 |k::k'::ks,p,aq,to,h,hf=>b6t hs (ks:=k'::ks) (hs _ k aq _ h.place hf) (by have:=h.two;omega)
variable{t:List Nd}
theorem a9e{st:Pr->Nat->Nat->Nat->Pr}(hs:StN st){b aq to:Nat}(h:a2D p)(hf:aq≠1):a2D (a1g t st p b aq to):=b6t hs h hf
theorem c0D{t:List Nd}{st:Pr->Nat->Nat->Nat->Pr}(hs:StN st){aq to:Nat}(hf:aq≠1):∀{ks:List Nat}{p:Pr},a2D p->a2D (a1X t st aq to p ks)
 |[],p,h=>h
 |k::ks,p,h=>by
  unfold a1X;refine c0D hs hf ?_;split
  .exact a9e hs (h.place.put hf) (by have:=h.two;omega)
  .grind[a9e]
theorem b7g(t:List Nd)(ch:List ByteArray):∀f,StN (X5 t ch f)
 |0=>λp k aq to h _=>h
 |f+1=>by
  have hs:=b7g t ch f;intro p k aq to h hf;have h2:=h.two;have jT:∀{act node:Nat}{x v c:Int},a2D (a1g t (X5 t ch f) (p.place.put aq p.ah act node x v c) ((nd t k).aE 1) p.ah to):=a9e hs (h.place.put hf) oJ;unfold X5;simp only;repeat' split
  all_goals first
   |exact h.put hf
   |exact(h.idle _ _).put hf
   |exact c0D hs hf (h.idle _ _)
   |exact jT.put hf
   |exact(a9e hs h hf).mark _ _
   |exact a9e hs ((h.place.put hf).put hf) oJ
   |exact a9e hs (jT.place.put hf) (by have:=(jT (act:=4) (node:=k) (x:=((nd t k).aE 0:Nat)) (v:=-1) (c:=-1)).two;omega)
theorem c8B(t:List Nd)(o:fC):a2D (a2S t o):=b6t (b7g t _ _) ⟨sm _,λe he=>by simp[cW]at he⟩ dJ
structure b3e(t:List Nd)(a:Gc):Prop where
 pw:a.l.Pairwise λo o'=>o.nv+Y5 t (nd t o.k)<=o'.nv
 le:∀o∈a.l,o.nv+Y5 t (nd t o.k)<=a.nv
theorem c8d{a:Gc}{k:Nat}(h:b3e t a):b3e t (a5R t a k):=by
 unfold a5R;split
 .refine⟨HD.2 ⟨h.pw,?_,λo ho o' Dc=>?_⟩,λo ho=>?_⟩
  .unfold a6k
   rw[IE];refine List.Pairwise.imp ?_ JV;intro c c' hc;have:(c+1)*Y5 t (nd t k)<=c'*Y5 t (nd t k):=GR _ hc;grind
  .obtain⟨c,hc,rfl⟩:=Fs.1 Dc
   have:=h.le o ho;simp only;omega
  .rcases Fm.1 ho with ho|ho
   .have:=h.le o ho
    simp only;omega
   .obtain⟨c,hc,rfl⟩:=Fs.1 ho
    rw[FU]at hc;have:(c+1)*Y5 t (nd t k)<=((nd t k).num 0).toNat*Y5 t (nd t k):=GR _ hc;grind
 .split
  .exact⟨h.pw,h.le⟩
  .exact h
theorem c5S(t:List Nd):(a0W t).Pairwise λo o'=>o.nv+Y5 t (nd t o.k)<=o'.nv:=by
 have:b3e t (a2A t (nd t 0).ks):=by
  unfold a2A;exact a9v (P:=b3e t) ⟨List.Pairwise.nil,λo ho=>by simp at ho⟩ λa k _ ha=>c8d ha
 exact this.pw
theorem c2I{t:List Nd}:∀o∈a0W t,o.seen<=(W5 t).vs.length/\(W5 t).vs.length<=o.nv:=λo ho=>by
 obtain⟨_,_,_,h1,_⟩:=a9L ho;exact⟨h1,(a6D ho).lo⟩
structure MoQ(mo:Mo):Prop where
 one:∀i,i<mo.procs.length->∀e∈(k7 mo.procs i).ai,e.aq≠1
 own:∀i j,i<mo.procs.length->j<mo.procs.length->i≠j->∀v∈(k7 mo.procs i).locals,v∉(k7 mo.procs j).vars
 ll:∀i,i<mo.procs.length->(k7 mo.procs i).locals.length<=mo.vars.length
theorem c4E(h:Y9 t)(hS:a3g t):MoQ (a20 t):=by
 have e:(a20 t).procs=(a0W t).map (a2S t):=(a7T t).1;have el:(a20 t).procs.length=(a0W t).length:=by grind
 have ep:∀i(hi:i<(a0W t).length),k7 (a20 t).procs i=a2S t (a0W t)[i]:=λi hi=>by
  grind[a12]
 refine⟨λi hi ed nt=>?_,λi j hi hj Am v hv hv'=>?_,λi hi=>?_⟩
 .rw[ep i oJ]at nt
  exact(c8B t _).ed ed nt
 .rw[el]at hi hj
  rw[ep i hi]at hv;rw[ep j hj]at hv';have g1:=(a7a h hS (Fp hi)).2;have g2:=(a7a h hS (Fp hj)).2;rw[g1.locals]at hv;rw[g2.vars]at hv';have lo:=c2I (t:=t);simp only[cW,Fs,FU,Fm]at hv hv';obtain⟨a,ha,rfl⟩:=hv;grind[List.pairwise_iff_getElem,c5S]
 .rw[el]at hi
  rw[ep i hi,(a7a h hS (Fp hi)).2.locals];have h1:=(a6D (Fp hi)).hi;have h2:(a20 t).vars.length=(eX t).vs.length:=rfl;grind[cW]
def a9x(p:Pr)(f:Ft):Bool:=(List.range 32).all λb=>!((f.reads ||| f.writes).testBit b)||p.locals.contains b
variable{mo:Mo}
def a2z(mo:Mo)(p:Pr)(e:Ed):Bool :=
 !e.aG&&!(Z8 mo p e).part&&decide ((Z8 mo p e).aW=0)&&decide ((Z8 mo p e).aY=0)&&decide ((Z8 mo p e).aX=0)&&a9x p (Z8 mo p e)&&(decide (e.to=1)||decide (e.aq<e.to))
def fR(p:Pr)(k:Nat):List Ed:=p.ai.filter λe=>decide (e.aq=k)
def a6l(l:List Ed):Bool:=l.all (λe=>decide (e.act<=1))&&decide (0<l.length)
def dO(l:List Ed):Bool:=decide (l.length=2)&&decide ((V3 l 0).act=4)&&decide ((V3 l 1).act=5)&&decide ((V3 l 0).expr=(V3 l 1).expr)
def Mo.quiet(mo:Mo)(i k:Nat):Bool:=decide (i<mo.procs.length)&&((fR (k7 mo.procs i) k).all (a2z mo (k7 mo.procs i))&&(a6l (fR (k7 mo.procs i) k)||dO (fR (k7 mo.procs i) k)))
structure QE(mo:Mo)(p:Pr)(e:Ed):Prop where
 aG:e.aG=false
 part:(Z8 mo p e).part=false
 s0:(Z8 mo p e).aW=0
 r0:(Z8 mo p e).aY=0
 z0:(Z8 mo p e).aX=0
 rd:∀b,(Z8 mo p e).reads.testBit b=true->b∈p.locals
 wr:∀b,(Z8 mo p e).writes.testBit b=true->b∈p.locals
 to:e.to=1\/e.aq<e.to
theorem c5N(ho:Z3 mo)(hp:a7b mo p){e:Ed}(he:e∈p.ai)(h:a2z mo p e=true):QE mo p e:=by
 unfold a2z a9x at h;simp only[Fo,Js,Fy,FZ,FU,Gg,IH]at h;obtain⟨⟨⟨⟨⟨⟨h1,h2⟩,h3⟩,h4⟩,h5⟩,h6⟩,h7⟩:=h;have lF:=c2g ho hp he;have hv:=ho.nv;refine⟨h1,h2,h3,h4,h5,λb hb=>?_,λb hb=>?_,h7⟩
 .have:=hp.var b (lF.reads b hb)
  grind
 .have:=hp.var b (lF.writes b hb)
  grind
theorem a55.refl(f:Ft)(st:U6):a55 f st st:=⟨λ_ _=>rfl,λ_ _=>rfl⟩
variable{st:U6}{i:Nat}
theorem c1w(ho:Z3 mo)(hp:a7b mo p){e:Ed}(he:e∈p.ai)(z:Int):mo.can { st with hold:=z } i p e=mo.can st i p e:=by
 have h:=c7k ho hp he ((a55.refl (Z8 mo p e) st).hold z) 0;unfold Mo.can;rw[<- h]
variable{v:Mv}
theorem b0y:v∈mo.aA st↔(v.kind=0/\v.chan=0/\v.proc<mo.procs.length/\v.bb<(k7 mo.procs v.proc).ai.length/\mo.can st v.proc (k7 mo.procs v.proc) (V3 (k7 mo.procs v.proc).ai v.bb)=true/\¬(0<=st.hold/\st.hold≠(v.proc:Int)))\/(st.hold<0/\v.chan<mo.ae.length/\v∈mo.bE st v.chan):=by
 unfold Mo.aA;rw[Fm];constructor
 .rintro(h|h)
  .obtain⟨i,hi,hv⟩:=HI.1 h
   obtain⟨h1,h2⟩:=b7X hv;grind[Mo.hU]
  .split at h
   .rename_i hh
    obtain⟨c,hc,hv⟩:=HI.1 h;obtain⟨_,rfl,_⟩:=b92 hv;grind
   .cases h
 .rintro(⟨a,b,c,d,e,f⟩|⟨a,b,c⟩)
  .refine .inl (HI.2 ⟨v.proc,FU.2 c,?_⟩)
   rw[Mo.cD,so f];unfold Mo.hU;refine Fs.2 ⟨v.bb,Gu.2 ⟨FU.2 d,e⟩,?_⟩;cases v;simp only at a b;subst a b;rfl
  grind
def Mo.bP(mo:Mo)(st:U6):Option Nat:=(List.range mo.procs.length).find? λi=>mo.quiet i (W2 st.aF i)
def Mo.aJ(mo:Mo)(st:U6):List Mv:=if st.hold<0 then match mo.bP st with
    |some i=>(mo.aA st).filter λv=>decide (v.kind=0)&&decide (v.proc=i)
    |none=>mo.aA st
 else mo.aA st
theorem b5n(h:v∈mo.aJ st):v∈mo.aA st:=by
 grind[Mo.aJ]
section
variable{τ:Nat->Nat}
def mapM(τ:Nat->Nat)(v:Mv):Mv:=if v.kind=0 then{ v with proc:=τ v.proc }else v
end
variable{s:U6}{c:Nat}
theorem b0k(h:v∈mo.bE s c):v.kind=1\/v.kind=2:=by
 grind[Mo.bE]
theorem b91{l r:List Vr}(h:i<l.length):bh (l++r) i=bh l i:=by
 rw[a3x h,a3x qJ,GZ h]
theorem vAt_right{l r:List Vr}(h:i<r.length):bh (l++r) (l.length+i)=bh r i:=by
 grind[a3x]
def b0E(t:List Nd)(k i:Nat):Vr:=a4G ((a1q t (nd t k)).getD i default)
theorem b6u{t:List Nd}{ch:List ByteArray}{k seen:Nat}{a:List Vr×List Pr}:∀c,(a05 t ch k seen c a).1.length=a.1.length+c*Y5 t (nd t k)
 |0=>by simp[a05]
 |c+1=>by
  simp only[a05,Fq,FT,a6g,b6u c];rw[HO];omega
theorem b95{t:List Nd}{ch:List ByteArray}{k seen:Nat}{a:List Vr×List Pr}:∀c,∀j,j<c->∀i,i<Y5 t (nd t k)->bh (a05 t ch k seen c a).1 (a.1.length+j*Y5 t (nd t k)+i)=b0E t k i
 |0,j,h,_,_=>by omega
 |c+1,j,h,i,hi=>by
  have hl:=b6u (t:=t) (ch:=ch) (k:=k) (seen:=seen) (a:=a) c;simp only[a05];by_cases e:j=c
  .simp_all[a3x,b0E]
  .have h2:(j+1)*Y5 t (nd t k)<=c*Y5 t (nd t k):=GR _ oJ
   rw[HO]at h2;rw[b91 oJ];exact b95 c j oJ i hi
theorem c1V(t:List Nd):∀n,n<=(nd t 0).ks.length->∀o∈(a2A t ((nd t 0).ks.take n)).l,o.nv+Y5 t (nd t o.k)<=(a2e t (bx t) (W5 t).vs ((nd t 0).ks.take n)).vs.length/\∀i,i<Y5 t (nd t o.k)->bh (a2e t (bx t) (W5 t).vs ((nd t 0).ks.take n)).vs (o.nv+i)=b0E t o.k i
 |0,_,o,ho=>by simp[a2A]at ho
 |n+1,hn,o,ho=>by
  have ih:=c1V t n oJ;have hg:=b2U t n oJ;have e:(nd t 0).ks.take (n+1)=(nd t 0).ks.take n++[(nd t 0).ks[n]]:=FO oJ;rw[e,b5i]at ho;rw[e,b6v];generalize(nd t 0).ks[n]=k at *;generalize a2e t (bx t) (W5 t).vs ((nd t 0).ks.take n)=b at *;generalize a2A t ((nd t 0).ks.take n)=a at *;have lD:=hg.nv;obtain⟨m,hm⟩:=c0Z t (bx t) b k;have bO:o∈a.l->o.nv+Y5 t (nd t o.k)<=(a3j t (bx t) b k).vs.length/\∀i,i<Y5 t (nd t o.k)->bh (a3j t (bx t) b k).vs (o.nv+i)=b0E t o.k i:=λh=>by
   obtain⟨h1,h2⟩:=ih o h;rw[hm];refine⟨by rw[Fq];omega,λi hi=>?_⟩;rw[b91 oJ];exact h2 i hi
  unfold a5R at ho;by_cases c3:(nd t k).kind=3
  .rw[Fk c3]at ho
   rcases Fm.1 ho with h|h
   .exact bO h
   .unfold a6k at h
    obtain⟨c,hc,rfl⟩:=Fs.1 h;rw[FU]at hc;unfold a3j;rw[Fk c3];simp only;have hl:=b6u (t:=t) (ch:=bx t) (k:=k) (seen:=b.seen) (a:=(b.vs,b.ps)) ((nd t k).num 0).toNat;have h2:(c+1)*Y5 t (nd t k)<=((nd t k).num 0).toNat*Y5 t (nd t k):=GR _ oJ;rw[HO]at h2;simp only at hl;rw[<- lD];refine⟨oJ,λi hi=>?_⟩;exact b95 (a:=(b.vs,b.ps)) _ c hc i hi
  grind
theorem c0C{o:fC}(ho:o∈a0W t):∀i,i<Y5 t (nd t o.k)->bh (eX t).vs (o.nv+i)=b0E t o.k i:=by
 have h:=c1V t (nd t 0).ks.length (sm _) o;rw[Gf]at h;exact(h ho).2
structure Cop(mo:Mo)(q n lo:Nat):Prop where
 lt:q+1<mo.procs.length
 gl:mo.globals<=lo
 hi:lo+n+n<=mo.vars.length
 l0:(k7 mo.procs q).locals=(List.range n).map (lo+·)
 l1:(k7 mo.procs (q+1)).locals=(List.range n).map (lo+n+·)
 vr:∀v∈(k7 mo.procs q).vars,v<mo.globals\/v∈(k7 mo.procs q).locals
 re:k7 mo.procs (q+1)=eI (a8A mo.globals n) (k7 mo.procs (q+1)).locals (k7 mo.procs (q+1)).copy (k7 mo.procs q)
 w:∀i,i<n->bh mo.vars (lo+n+i)=bh mo.vars (lo+i)
theorem c4Q(h:Y9 t)(hS:a3g t){p:Nat}(hp:p<(a20 t).procs.length)(hc:0<(k7 (a20 t).procs p).copy):∃q n lo,p=q+1/\Cop (a20 t) q n lo:=by
 have e:(a20 t).procs=(a0W t).map (a2S t):=(a7T t).1;have ky:p<(a0W t).length:=by grind
 have ep:∀i(hi:i<(a0W t).length),k7 (a20 t).procs i=a2S t (a0W t)[i]:=λi hi=>by
  grind[a12]
 have tT:=Fp ky;have ec:=c8e t _ h hS tT;rw[ep p ky,ec]at hc;obtain⟨q,hq,rfl,h1,h2,h3,h4⟩:=c5c t p ky hc;have Ad:=Fp hq;have g0:=(a7a h hS Ad).2;have g1:=(a7a h hS tT).2;have ok0:=a6D Ad;have ok1:=a6D tT;have l0:(a2S t (a0W t)[q]).locals=(List.range (Y5 t (nd t (a0W t)[q].k))).map ((a0W t)[q].nv+·):=by rw[g0.locals];rfl
 have l1:(a2S t (a0W t)[q+1]).locals=(List.range (Y5 t (nd t (a0W t)[q+1].k))).map ((a0W t)[q+1].nv+·):=by rw[g1.locals];rfl
 have v0:=c0C Ad;have v1:=c0C tT;have hr:=c5D h hS Ad (o':=(a0W t)[q+1]) h1.symm h2.symm oJ;have tH:=ok0.lo;have Bg:=ok1.hi;have lD:(a0W t)[q+1].nv=(a0W t)[q].nv+Y5 t (nd t (a0W t)[q].k):=by rw[h1];omega
 refine⟨q,Y5 t (nd t (a0W t)[q].k),(a0W t)[q].nv,rfl,oJ,tH,?_,?_,?_,?_,?_,?_⟩
 .rw[<- h1,lD]at Bg;exact Bg
 .grind
 .grind
 .rw[ep q hq]
  obtain⟨vs,w1,w2,w3,w4⟩:=a9L Ad;rw[g0.vars,g0.locals];intro v hv;simp only[cW,Fm,FU,Fs]at hv⊢;rcases hv with hv|hv
  .exact .inl (by show v<(W5 t).vs.length;omega)
  .exact .inr hv
 .rw[ep _ ky,ep q hq]
  have hd:(a0W t)[q+1].nv-(a0W t)[q].nv=Y5 t (nd t (a0W t)[q].k):=oJ;rw[hd]at hr;rw[g1.locals,g1.copy];exact hr
 .intro i hi
  have a:=v0 i hi;have b:=v1 i oJ;rw[lD,<- h1]at b;show bh (eX t).vs _=bh (eX t).vs _
  rw[a,b]
def b1m(p:Pr):Bool:=p.ai.all λe=>decide (e.to≠0)
def Mo.aP(mo:Mo)(st:U6)(i:Nat):Bool:=decide (0<(k7 mo.procs i).copy)&&b1m (k7 mo.procs i)&&decide (W2 st.aF i=0)&&decide (W2 st.aF (i-1)=0)
def Mo.aZ(mo:Mo)(st:U6)(v:Mv):Bool:=!(decide (v.kind=0)&&mo.aP st v.proc)
def Mo.eh(mo:Mo)(am:Bool)(st:U6):List Mv:=(if am then mo.aJ st else mo.aA st).filter (mo.aZ st)
structure MoC(mo:Mo):Prop where
 tw:∀p,p<mo.procs.length->0<(k7 mo.procs p).copy->∃q n lo,p=q+1/\Cop mo q n lo
theorem c2Q(h:Y9 t)(hS:a3g t):MoC (a20 t):=⟨λ_ hp hc=>c4Q h hS hp hc⟩
theorem c42{am:Bool}(h:v∈mo.eh am s):v∈mo.aA s:=by
 grind[Mo.eh,b5n]
def alE(i j:Nat):List Mv:=(List.range j).map λj=>⟨0,i,j,0⟩
def Mo.gN(mo:Mo)(i:Nat):List Mv:=(List.range i).flatMap λp=>alE p (k7 mo.procs p).ai.length
def Mo.alc(mo:Mo)(c:Nat):List Mv:=(if(U7 mo.ae c).bC then[⟨1,0,0,c⟩]else[])++(if(U7 mo.ae c).aS then[⟨2,0,0,c⟩]else[])
def Mo.gP(mo:Mo)(i:Nat):List Mv:=(List.range i).flatMap mo.alc
def Mo.allM(mo:Mo):List Mv:=mo.gN mo.procs.length++mo.gP mo.ae.length
theorem b6P{j:Nat}:alE i (j+1)=alE i j++[⟨0,i,j,0⟩]:=by simp[alE,Gv]
theorem Mo.eL:mo.gN (i+1)=mo.gN i++alE i (k7 mo.procs i).ai.length:=by simp[Mo.gN,Gv]
theorem Mo.eM:mo.gP (i+1)=mo.gP i++mo.alc i:=by simp[Mo.gP,Gv]
@[simp] theorem b5R{j:Nat}:(alE i j).length=j:=by simp[alE]
theorem Mo.cZ(ho:Z3 mo):∀{i:Nat},i<=mo.procs.length->(mo.gN i).length<=i*4000
 |0,_=>by simp[Mo.gN]
 |i+1,h=>by
  have:=Mo.cZ ho (i:=i) oJ;have mO:=(ho.pr _ (a1S (i:=i) oJ)).el;grind[Mo.eL,b5R]
theorem Mo.eB:∀{i:Nat},(mo.gP i).length<=i*2
 |0=>by simp[Mo.gP]
 |i+1=>by
  have:=Mo.eB (i:=i);grind[Mo.alc,Mo.eM]
theorem c1r(ho:Z3 mo):mo.allM.length<=16006:=by
 have h1:=Mo.cZ ho (sm _);have h2:=Mo.eB (mo:=mo) (i:=mo.ae.length);have:=ho.np;have:=ho.nc;grind[Mo.allM]
def a8a(mo:Mo)(v:Mv):Prop:=(v.kind=0/\v.proc<mo.procs.length/\v.bb<(k7 mo.procs v.proc).ai.length)\/((v.kind=1\/v.kind=2)/\v.chan<mo.ae.length)
theorem b3r:v∈mo.allM↔(v.kind=0/\v.chan=0/\v.proc<mo.procs.length/\v.bb<(k7 mo.procs v.proc).ai.length)\/(v.chan<mo.ae.length/\v∈mo.alc v.chan):=by
 unfold Mo.allM Mo.gN Mo.gP;rw[Fm,HI,HI];constructor
 .rintro(⟨i,hi,h⟩|⟨c,hc,h⟩)
  .obtain⟨j,hj,rfl⟩:=Fs.1 h
   exact .inl ⟨rfl,rfl,FU.1 hi,FU.1 hj⟩
  grind[Mo.alc]
 .rintro(⟨a,b,c,d⟩|⟨a,b⟩)
  .refine .inl ⟨v.proc,FU.2 c,Fs.2 ⟨v.bb,FU.2 d,?_⟩⟩
   obtain⟨k,p,e,ch⟩:=v;simp only at a b;subst a b;rfl
  grind
theorem b3M(h:v∈mo.alc c):(v=⟨1,0,0,c⟩/\(U7 mo.ae c).bC=true)\/(v=⟨2,0,0,c⟩/\(U7 mo.ae c).aS=true):=by
 grind[Mo.alc]
theorem b8R(h:v∈mo.allM):a8a mo v:=by
 rcases b3r.1 h with⟨a,_,b,c⟩|⟨a,b⟩
 .exact .inl ⟨a,b,c⟩
 .rcases b3M b with⟨e,_⟩|⟨e,_⟩
  .exact .inr ⟨.inl (by rw[e]),a⟩
  .exact .inr ⟨.inr (by rw[e]),a⟩
def Mo.fI(mo:Mo)(st:U6)(tn:Nat->Bool)(vY:Bool)(v:Mv):Bool :=
 if v.kind=0 then tn v.proc&&mo.can st v.proc (k7 mo.procs v.proc) (V3 (k7 mo.procs v.proc).ai v.bb)
 else if v.kind=1 then vY&&decide (0<(U8 st.ae v.chan).length)
 else vY&&(decide (0<(U8 st.ae v.chan).length)&&decide (((U8 st.ae v.chan).length:Int)<(U7 mo.ae v.chan).room))
def aQ(iZ qu:Bool)(Q:Nat->Bool)(i:Nat):Bool:=iZ&&!(qu&&a0U Q i)
def bX(iZ qu:Bool)(Q:Nat->Bool)(i:Nat):Bool:=qu&&(aQ iZ qu Q i&&Q i)
def df(iZ qu ba:Bool)(Q B H:Nat->Bool)(n i:Nat):Bool:=(bX iZ qu Q i||aQ iZ qu Q n||H i)&&!(ba&&B i)
variable{iZ:Bool}{Q:Nat->Bool}
theorem c7I:aQ iZ true Q (i+1)=(aQ iZ true Q i&&!Q i):=by
 simp[aQ,a0U,HW]
theorem b3V:aQ iZ false Q i=iZ:=by simp[aQ]
theorem c04:bX iZ false Q i=false:=by simp[bX]
theorem c8I(h:v∈mo.allM):mo.fI st (λp=>decide (st.hold<0)||decide (st.hold=(p:Int))) (decide (st.hold<0)) v=true↔v∈mo.aA st:=by
 rw[b0y];rcases b3r.1 h with⟨a,b,c,d⟩|⟨a,b⟩
 .unfold Mo.fI
  rw[Fk a];constructor
  .grind
  .rintro(⟨_,_,_,_,h1,h2⟩|⟨_,_,h⟩)
   .simp only[Fo,Gg,Fy]
    exact⟨oJ,h1⟩
   grind[b0k]
 .rcases b3M b with⟨e,h1⟩|⟨e,h1⟩
  .generalize v.chan=ch at *
   subst e;unfold Mo.fI Mo.bE;simp[h1,a]
  grind[Mo.fI,Mo.bE]
theorem any_aB{l:List Bool}:a0U (aB l) l.length=l.any id:=by
 rw[FV,a5B,Ht];constructor
 .rintro⟨i,h1,h2⟩
  refine⟨l[i],Fp h1,?_⟩;grind[aB]
 .rintro⟨b,h1,h2⟩
  obtain⟨i,h3,rfl⟩:=FQ h1;exact⟨i,h3,by grind[aB]⟩
end Go.V
namespace Go.Proofs.YtigbmclkjknnjaaGreat
open Go.V
variable{m:X7}{mo:Mo}{ps:List (Pr×X2)}
theorem b4c(hm:Z4 m mo ps)(ho:Z3 mo):a5u U5 7 [.agg [m.dt,.int .i64 m.g,m.dc,m.dv,m.dp,m.ds,.bool m.b]] λd=>FL 4 d (a00 mo.allM):=by
 have om:=hm.aw;have ow:=hm.eY;have ly:=hm.iC;have mY:=ho.np;have nN:=ho.nc;have lL:=hm.c;have xQ:=hm.p;have jV:Hp (k4.empty.push (.cells [m.dt,.int .i64 m.g,m.dc,m.dv,m.dp,m.ds,.bool m.b])) [] [(0,[m.dt,.int .i64 m.g,m.dc,m.dv,m.dp,m.ds,.bool m.b])]:=⟨sJ,sJ,by simp[Y2],λy hy=>by
  simp only[Fu]at hy;subst hy;exact W8 rfl⟩
 generalize hR:[(0,[m.dt,.int .i64 m.g,m.dc,m.dv,m.dp,m.ds,.bool m.b])]=R at jV;have hg:∀{s E},Hp s E R->s.get 0=some (.cells [m.dt,.int .i64 m.g,m.dc,m.dv,m.dp,m.ds,.bool m.b]):=λh=>by
  subst hR;exact h.r (0,_) sJ
 refine a5n (vf:=vf7) rfl ?_;unfold vf7;refine zF ?_;refine zY (aN om ow) ?_;refine a1d [0,1,2,6,9,33,34,35,42,53] (λf s=>∃E,Rp (f 3) 4 (a00 (mo.gN mo.procs.length)) E/\Hp s E R) ?_ ?_
 .refine W6 [0,1,2,6,9,33,34,35,42,53] 0 mo.procs.length (λi f s=>f 10=.int .i64 (i:Int)/\∃E,Rp (f 3) 4 (a00 (mo.gN i)) E/\Hp s E R) (.mk rfl) oJ ⟨rfl,[],.inl ⟨rfl,rfl,rfl⟩,jV⟩ ?_
  rintro i f s hi ⟨h,E,hr,hp⟩;have g0:=hg hp;have ji:=hr.one;by_cases ci:i<mo.procs.length
  rotate_left
  .obtain rfl:i=mo.procs.length:=oJ
   refine zY (aN h ci) ?_;exact⟨E,hr,hp⟩
  have mO:=(ho.pr _ (a1S ci)).el;have uc:=Mo.cZ ho hi;obtain⟨x,hx,iM⟩:=hm.proc ci;have iM:=iM .i64;rw[<- a12 ci]at hx iM;unfold V0 at iM;have ox:=hx.aw;have hle:a0x false x.de=some (.int .i64 ((k7 mo.procs i).ai.length:Int)):=by rw[hx.e.len];simp[a0O]
  refine zY (X0 h ci g0 om iM ox hle) ?_;refine W6 [0,1,2,4,6,9,10,11,19,33,34,35,42,53] 0 (k7 mo.procs i).ai.length (λj f s=>f 20=.int .i64 (j:Int)/\∃E,Rp (f 3) 4 (a00 (mo.gN i++alE i j)) E/\Hp s E R) (.mk rfl) oJ ⟨rfl,E,by rw[show alE i 0=[]from rfl,Fl];exact hr,hp⟩ ?_;clear hr hp g0 h ji;rintro j f s hj ⟨h,E,hr,hp⟩;have ji:=hr.one;by_cases cj:j<(k7 mo.procs i).ai.length
  .refine zY (V1 h ci cj ji) ?_
   refine a3p ⟨0,i,j,0⟩ rfl hr hp dJ (by rw[Fq,b5R];omega) ?_;intro d' s' E' hr' nG;have ji:=hr'.one;refine zY ji ?_;refine⟨cj,E',?_,nG⟩;rw[b6P,<- Fj];exact hr'
  .obtain rfl:j=(k7 mo.procs i).ai.length:=oJ
   refine zY (aN h ci) ?_;rw[Mo.eL];exact⟨E,hr,hp⟩
 rintro f s ⟨E,hr,hp⟩;have g0:=hg hp;have ji:=hr.one;have uc:=Mo.cZ ho (sm _);refine zY (V1 g0 om ly ji) ?_;refine a1d [0,1,2,4,5,9,10,11,19,20,21,33] (λf s=>∃E,Rp (f 3) 4 (a00 mo.allM) E/\Hp s E R) ?_ ?_
 .refine W6 [0,1,2,4,5,9,10,11,19,20,21,33] 0 mo.ae.length (λi f s=>f 34=.int .i64 (i:Int)/\∃E,Rp (f 3) 4 (a00 (mo.gN mo.procs.length++mo.gP i)) E/\Hp s E R) (.mk rfl) oJ ⟨rfl,E,by rw[show mo.gP 0=[]from rfl,Fl];exact hr,hp⟩ ?_
  clear hr hp g0 ji;rintro i f s hi ⟨h,E,hr,hp⟩;have g0:=hg hp;have ji:=hr.one;by_cases ci:i<mo.ae.length
  .have my:=FLC.idx lL ci (k:=.i64)
   rw[<- a2W ci]at my;unfold Ch.row at my;have hlen:=Mo.eB (mo:=mo) (i:=i);have e1:mo.gP (i+1)=mo.gP i++mo.alc i:=Mo.eM;unfold Mo.alc at e1;cases l1:(U7 mo.ae i).bC<;>cases l2:(U7 mo.ae i).aS<;>rw[l1,l2]at e1<;>simp only[Fw,FG,FF,Fl,Fv,Fx]at e1<;>simp(disch:=(first|exact Rf.mk rfl|with_reducible assumption|omega|((repeat(first|rw[nP]|rw[nS]|rw[Y3]))<;>omega)|decide)) only[go_sem,↓reduceIte,h,ci,g0,om,my,l1,l2,ji]
   all_goals try(first|refine a3p ⟨1,0,0,i⟩ rfl hr hp dJ (by rw[Fq];omega) ?_|refine a3p ⟨2,0,0,i⟩ rfl hr hp dJ (by rw[Fq];omega) ?_)<;>rintro d1 s1 E1 hr hp<;>have k0:=hg hp<;>have ji:=hr.one<;>simp(disch:=(first|exact Rf.mk rfl|with_reducible assumption|omega|((repeat(first|rw[nP]|rw[nS]|rw[Y3]))<;>omega)|decide)) only[go_sem,↓reduceIte,h,ci,k0,om,my,l1,l2,ji]
   all_goals try(refine a3p ⟨2,0,0,i⟩ rfl hr hp dJ (by rw[Fq,Fq];simp only[Gt,IS];omega) ?_)<;>rintro d1 s1 E1 hr hp<;>have ji:=hr.one<;>simp(disch:=(first|exact Rf.mk rfl|with_reducible assumption|omega|((repeat(first|rw[nP]|rw[nS]|rw[Y3]))<;>omega)|decide)) only[go_sem,↓reduceIte,h,ji]
   all_goals
    rw[e1];try simp only[Fj,Fx,Fv]at hr⊢
    first|exact⟨_,hr,hp⟩|exact⟨ci,_,hr,hp⟩
  .obtain rfl:i=mo.ae.length:=oJ
   refine zY (aN h ci) ?_;exact⟨E,hr,hp⟩
 rintro f s ⟨E,hr,hp⟩;obtain⟨d',h1,h2⟩:=a7y hr hp (λe h=>h) (a9z _) (a8P _);have ji:=hr.one;refine zY (aN h1 ji) ?_;exact⟨_,rfl,h2⟩
variable{s:k4}{g b:Nat}
theorem any3{p q r:Bool}(hg:GB s g)(hb:s.get b=some (.cells [.int .i64 (V6 p),.int .i64 (V6 q),.int .i64 (V6 r)])):CB U5 47 [.ptr g 0,.arr b 0 3 1] s (p||q||r):=by
 have h:=a6u hg (VB.bk (A:=λi=>if i=0 then p else if i=1 then q else r) (w:=3) hb) oJ;have e:a0U (λi=>if i=0 then p else if i=1 then q else r) 3=(p||q||r):=by simp[a0U]
 rwa [e]at h
def a23(T2 T1:Nat->Bool)(i j:Nat):Bool:=if j<i then T2 j else T1 j
variable{v:Nat}{st:U6}{x:gM}
theorem c0s(hg:GB s g)(hv:Vs s v g m mo st x)(iQ:Fit mo st)(hn:mo.procs.length<=4)(k:Nat)(hk:k<=1000):CB U5 43 [.ptr g 0,x.h,.int .i64 (k:Int)] s (decide (st.hold+1=(k:Int))):=by
 have h1:=iQ.hold;obtain⟨H,hH⟩:∃H:Nat,st.hold+1=(H:Int):=⟨(st.hold+1).toNat,oJ⟩
 have hd:=hv.fY;rw[hH]at hd⊢;have h:=b2G (k:=k) hg hd oJ oJ oJ;have e:decide ((H:Int)=(k:Int))=decide (H=k):=by congr 1;apply propext;omega
 rwa [e]
variable{d:D}
theorem c5q(hm:Z4 m mo ps)(ho:Z3 mo)(jB:a0P mo)(h8:fW st)(iQ:Fit mo st)(hg:GB s g)(hv:Vs s v g m mo st x){ls:List Mv}(hl:FL 4 d (a00 ls))(jD:∀v∈ls,a8a mo v)(nJ:ls.length<=100000)(qu ba:Bool){Q B:Nat->Bool}
 (hQ:qu=true->∀p,p<mo.procs.length->∀s',Fr [] s s'->CB U5 76 [.ptr v 0,.int .i64 (p:Int)] s' (Q p))
 (hB:ba=true->∀p,p<mo.procs.length->∀s',Fr [] s s'->CB U5 77 [.ptr v 0,.int .i64 (p:Int)] s' (B p)) :
 CV U5 42 [.ptr v 0,d,.bool qu,.bool ba] s (λi=>mo.fI st (df (decide (st.hold<0)) qu ba Q B (λp=>decide (st.hold=(p:Int))) mo.procs.length) (aQ (decide (st.hold<0)) qu Q mo.procs.length) (X3 ls i)) ls.length:=by
 have gv:=hv.get;have lv:=t3 gv;have oo:=hv.aw;have om:=hm.aw;have ow:=hm.eY;have mY:=ho.np;have od:=hl.one;have fY:a0x false d=some (.int .i64 (ls.length:Int)):=by rw[hl.len];simp
 have lL:=hm.c;have xQ:=hm.p;have e0:decide (st.hold+1=((0:Nat):Int))=decide (st.hold<0):=by have:=iQ.hold;congr 1;apply propext;omega
 have Ci:=c0s hg hv iQ mY 0 oJ;rw[e0]at Ci;generalize xW:decide (st.hold<0)=iZ at *;generalize hH:(λp:Nat=>decide (st.hold=(p:Int)))=H at *;unfold CV;refine Y0 (vf:=vf42) rfl ?_;unfold vf42;refine zF ?_;refine zY (V1 gv om oo od) ?_;refine xb Ci λs1 f1=>?_
 have vw:=f1.kp gv;have Dz:=t3 vw;have m1:=fu (w:=mo.procs.length) oJ;have m2:=eK (w:=mo.procs.length) oJ;have hz:=a2c mo.procs.length;rw[a3Q (bX iZ qu Q)]at hz;refine zY (X0 vw om oo ow m1 m2 hz) ?_;obtain⟨gb,f0⟩:=iE (s:=s1) (A:=bX iZ qu Q) (w:=mo.procs.length);generalize s1.push (.cells (U3 (U1 (Y1 (bX iZ qu Q) 0) mo.procs.length)))=s2 at *;have nI:s.next<=s1.next:=f1.1;have f0:=f1.trans f0 sJ;generalize s1.next=tb at *;clear f1 vw Dz;refine a1d [0,1,2,3,8,9,10,12,15,16,17,18,38,60,61,62,83,101,102,103,104,109,131,161] (λf s'=>f 11=.int .i64 (V6 (aQ iZ qu Q mo.procs.length))/\s'.get tb=some (.cells (U3 (U1 (bX iZ qu Q) mo.procs.length)))/\Fr [] s s') ?_ ?_
 .refine W6 [0,1,2,3,8,9,10,12,15,16,17,18,38,60,61,62,83,101,102,103,104,109,131,161] 0 mo.procs.length (λi f s'=>f 39=.int .i64 (i:Int)/\f 11=.int .i64 (V6 (aQ iZ qu Q i))/\s'.get tb=some (.cells (U3 (U1 (Y1 (bX iZ qu Q) i) mo.procs.length)))/\Fr [] s s') (.mk rfl) oJ ⟨rfl,(by rw[show aQ iZ qu Q 0=iZ by simp[aQ,a0U]];rfl),gb,f0⟩ ?_
  clear gb f0 hz m1 m2;rintro i f s2 hi ⟨h,oW,gb,fr⟩;by_cases ci:i<mo.procs.length
  rotate_left
  .obtain rfl:i=mo.procs.length:=oJ
   rw[a3w]at gb;refine zY (V4 h oW ci) ?_;exact⟨gb,fr⟩
  have lb:=t3 gb;cases qu
  .have e:Y1 (bX iZ false Q) (i+1)=Y1 (bX iZ false Q) i:=by
    funext j
    simp[Y1,c04]
   refine zY (V4 h oW ci) ?_;rw[b3V,b3V,e];exact⟨rfl,gb,fr⟩
  .have kG:=(hv.fr fr).get
   refine zY (V4 h oW ci) ?_;refine xb (hQ rfl i ci _ fr) λs3 f3=>?_
   have iY:=fr.trans f3 sJ;refine V9 ?_;refine xb (a1A (hg.fr iY) _ _) λs4 f4=>?_
   have jG:=iY.trans f4 sJ;have yC:=f4.kp (f3.kp gb);have BQ:=t3 yC;have hw:=a3d (A:=bX iZ true Q) ci;have hs:=a5E (A:=bX iZ true Q) (b:=aQ iZ true Q i&&Q i) ci (by simp[bX]);have hnq:=a3a (Q i);refine zY (V1 yC hw hs hnq) ?_;have jO:=jG.st nI (some (.cells (U3 (U1 (Y1 (bX iZ true Q) (i+1)) mo.procs.length))));refine xb (a1A (hg.fr jO) _ _) λs6 f6=>?_
   refine V9 ?_;rw[c7I];refine⟨ci,rfl,f6.kp (a0b BQ),jO.trans f6 sJ⟩
 rintro f s2 ⟨oW,gb,fr⟩;have wW:U3 (U1 (bX iZ qu Q) mo.procs.length)=U3 (U1 (a23 (df iZ qu ba Q B H mo.procs.length) (bX iZ qu Q) 0) mo.procs.length):=by
  congr 1
 rw[wW]at gb;refine zY oW ?_;refine a1d [0,1,2,3,8,9,10,11,12,13,14,16,17,18,38,39,40,42,60,101,102,103,104,109,131,161] (λf s'=>s'.get tb=some (.cells (U3 (U1 (df iZ qu ba Q B H mo.procs.length) mo.procs.length)))/\Fr [] s s') ?_ ?_
 .refine W6 [0,1,2,3,8,9,10,11,12,13,14,16,17,18,38,39,40,42,60,101,102,103,104,109,131,161] 0 mo.procs.length (λi f s'=>f 61=.int .i64 (i:Int)/\s'.get tb=some (.cells (U3 (U1 (a23 (df iZ qu ba Q B H mo.procs.length) (bX iZ qu Q) i) mo.procs.length)))/\Fr [] s s') (.mk rfl) oJ ⟨rfl,gb,fr⟩ ?_
  clear gb fr;rintro i f s2 hi ⟨h,gb,fr⟩;by_cases ci:i<mo.procs.length
  rotate_left
  .obtain rfl:i=mo.procs.length:=oJ
   have e:U3 (U1 (a23 (df iZ qu ba Q B H mo.procs.length) (bX iZ qu Q) mo.procs.length) mo.procs.length)=U3 (U1 (df iZ qu ba Q B H mo.procs.length) mo.procs.length):=by
    congr 1
    exact a4I λj hj=>by simp[a23,hj]
   rw[e]at gb;refine zY (aN h ci) ?_;exact⟨gb,fr⟩
  have lb:=t3 gb;have kG:=(hv.fr fr).get;have rQ:=t3 kG;have yr:=a2F (A:=a23 (df iZ qu ba Q B H mo.procs.length) (bX iZ qu Q) i) ci;rw[show a23 (df iZ qu ba Q B H mo.procs.length) (bX iZ qu Q) i i=bX iZ qu Q i by simp[a23]]at yr;have hh:=c0s (hg.fr fr) (hv.fr fr) iQ mY (i+1) oJ;rw[show decide (st.hold+1=((i+1:Nat):Int))=H i by rw[<- hH];simp only[JH];omega]at hh;refine zY (X0 h ci gb kG om oo yr) ?_;have Fc:=fr.1;refine iJ hh qJ λs3 E f3 hE=>?_
  have iY:=fr.trans f3 sJ;refine V9 ?_;refine a28 (xb (any3 (hg.fr (iY.ak _)) (W8 rfl)) λs4 f4=>?_);have EF:Fr [] s2 s4:=(f3.ak _).trans f4 sJ;have jG:=fr.trans EF sJ;have yC:=EF.kp gb;have BQ:=t3 yC;have hw:=a6R (A:=a23 (df iZ qu ba Q B H mo.procs.length) (bX iZ qu Q) i) ci;cases ba
  .have hs:=a6G (A:=a23 (df iZ qu false Q B H mo.procs.length) (bX iZ qu Q) i) (B:=a23 (df iZ qu false Q B H mo.procs.length) (bX iZ qu Q) (i+1)) (b:=bX iZ qu Q i||aQ iZ qu Q mo.procs.length||H i) ci λj _=>by
    unfold a23;by_cases c:j=i
    .subst c;simp[df]
    .rw[so c]
     by_cases c2:j<i
     .rw[Fk c2,Fk oJ]
     .rw[so c2,so oJ]
   refine zY (V4 yC hw hs) ?_;exact⟨ci,jG.st nI _⟩
  .have hs:=a6G (A:=a23 (df iZ qu true Q B H mo.procs.length) (bX iZ qu Q) i) (B:=λj=>if j=i then(bX iZ qu Q i||aQ iZ qu Q mo.procs.length||H i)else a23 (df iZ qu true Q B H mo.procs.length) (bX iZ qu Q) i j) (b:=bX iZ qu Q i||aQ iZ qu Q mo.procs.length||H i) ci λj _=>rfl
   have tf:=a2F (A:=λj=>if j=i then(bX iZ qu Q i||aQ iZ qu Q mo.procs.length||H i)else a23 (df iZ qu true Q B H mo.procs.length) (bX iZ qu Q) i j) ci;rw[Fk rfl]at tf;refine zY (V1 yC hw hs tf) ?_;have jO:=jG.st nI (some (.cells (U3 (U1 (λj=>if j=i then(bX iZ qu Q i||aQ iZ qu Q mo.procs.length||H i)else a23 (df iZ qu true Q B H mo.procs.length) (bX iZ qu Q) i j) mo.procs.length))));have uX:(s4.set tb (some (.cells (U3 (U1 (λj=>if j=i then(bX iZ qu Q i||aQ iZ qu Q mo.procs.length||H i)else a23 (df iZ qu true Q B H mo.procs.length) (bX iZ qu Q) i j) mo.procs.length))))).get tb=_:=a0b BQ;generalize s4.set tb (some (.cells (U3 (U1 (λj=>if j=i then(bX iZ qu Q i||aQ iZ qu Q mo.procs.length||H i)else a23 (df iZ qu true Q B H mo.procs.length) (bX iZ qu Q) i j) mo.procs.length))))=s5 at *;have lb5:=t3 uX;refine iJ (hB rfl i ci _ jO) qJ λs6 E6 f6 oZ=>?_
   have jP:=jO.trans f6 sJ;have nF:=a3a (B i);refine zY nF ?_;refine a28 (xb (a1A (hg.fr jP) _ _) λs7 f7=>?_);have mC:=jP.trans f7 sJ;have xx:=f7.kp (f6.kp uX);have lb7:=t3 xx;have zu:=a6R (A:=λj=>if j=i then(bX iZ qu Q i||aQ iZ qu Q mo.procs.length||H i)else a23 (df iZ qu true Q B H mo.procs.length) (bX iZ qu Q) i j) ci;have hs7:=a6G (A:=λj=>if j=i then(bX iZ qu Q i||aQ iZ qu Q mo.procs.length||H i)else a23 (df iZ qu true Q B H mo.procs.length) (bX iZ qu Q) i j) (B:=a23 (df iZ qu true Q B H mo.procs.length) (bX iZ qu Q) (i+1)) (b:=(bX iZ qu Q i||aQ iZ qu Q mo.procs.length||H i)&&!B i) ci λj _=>by
    unfold a23;by_cases c:j=i
    .subst c;simp[df]
    .rw[so c,so c]
     by_cases c2:j<i
     .rw[Fk c2,Fk oJ]
     .rw[so c2,so oJ]
   refine zY (V4 xx zu hs7) ?_;exact⟨ci,mC.st nI _⟩
 rintro f s2 ⟨gb,fr⟩;have m1:=fu (w:=ls.length) oJ;have m2:=eK (w:=ls.length) oJ;have hz:=a2c ls.length;generalize hA:(λi=>mo.fI st (df iZ qu ba Q B H mo.procs.length) (aQ iZ qu Q mo.procs.length) (X3 ls i))=A at *;rw[a3Q A]at hz;refine zY (W0 od fY m1 m2 hz) ?_;obtain⟨ga,f0⟩:=iE (s:=s2) (A:=A) (w:=ls.length);have Bh:=f0.kp gb;have f0:=fr.trans f0 sJ;have rC:s.next<=s2.next:=fr.1;have jt:tb≠s2.next:=by have:=t3 gb;omega
 generalize s2.push (.cells (U3 (U1 (Y1 A 0) ls.length)))=s3 at *;generalize s2.next=ob at *;refine W6 [0,1,2,3,8,9,10,11,12,13,14,15,16,38,39,40,42,60,61,62,83,101,102] 0 ls.length (λi f s'=>f 103=.int .i64 (i:Int)/\s'.get ob=some (.cells (U3 (U1 (Y1 A i) ls.length)))/\s'.get tb=some (.cells (U3 (U1 (df iZ qu ba Q B H mo.procs.length) mo.procs.length)))/\Fr [] s s') (.mk rfl) oJ ⟨rfl,ga,Bh,f0⟩ ?_;clear ga Bh f0 gb fr hz m1 m2 Ci;rintro i f s3 hi ⟨h,ga,gb,fr⟩;by_cases ci:i<ls.length
 rotate_left
 .obtain rfl:i=ls.length:=oJ
  rw[a3w]at ga;refine zY (aN h ci) ?_;exact⟨_,rfl,rC,ga,fr⟩
 have kh:=jD _ (a71 ci);have mA:=b0N hl ci (k:=.i64);have zP:A i=mo.fI st (df iZ qu ba Q B H mo.procs.length) (aQ iZ qu Q mo.procs.length) (X3 ls i):=by rw[<- hA]
 generalize X3 ls i=w at *;obtain⟨wk,wp,we,wc⟩:=w;unfold a8a at kh;simp only at kh mA;have pX:s.next<=s3.next:=fr.1;have hw:=a3d (A:=A) ci;rcases kh with⟨rfl,hp,he⟩|⟨hk,hc⟩
 .obtain⟨y,hy,iM⟩:=hm.proc hp
  have iM:=iM .i64;rw[<- a12 hp]at hy iM;unfold V0 at iM;have oy:=hy.aw;have qw:=a6B (k:=.i64) hy.e he;have nt:=(ho.pr _ (a1S hp)).inv.ed _ (a3U he);have yr:=a2F (A:=df iZ qu ba Q B H mo.procs.length) hp;have lN:Fr [] s3 ((s3.push (.cells [.int .i64 0,.int .i64 0,.int .i64 0,.int .i64 0])).set s3.next (some (.cells [.int .i64 0,.int .i64 (wp:Int),.int .i64 (we:Int),.int .i64 (wc:Int)]))):=a1Q;have gS:((s3.push (.cells [.int .i64 0,.int .i64 0,.int .i64 0,.int .i64 0])).set s3.next (some (.cells [.int .i64 0,.int .i64 (wp:Int),.int .i64 (we:Int),.int .i64 (wc:Int)]))).get s3.next=some (.cells [.int .i64 0,.int .i64 (wp:Int),.int .i64 (we:Int),.int .i64 (wc:Int)]):=a0b sJ;have uL:=lN.kp gb;have vt:=lN.kp ga;have lN:=fr.trans lN sJ;have pY:=(hv.fr lN).get;refine zY (U0 h ci mA uL pY om oo (V1 yr iM oy qw)) ?_;generalize((s3.push (.cells [.int .i64 0,.int .i64 0,.int .i64 0,.int .i64 0])).set s3.next (some (.cells [.int .i64 0,.int .i64 (wp:Int),.int .i64 (we:Int),.int .i64 (wc:Int)])))=s4 at *;have lS:=t3 gS;have Et:=t3 uL;have Df:=t3 vt;have Dv:=t3 pY;refine iJ (b7S hm ho jB h8 (iQ.e ho jB) (hg.fr lN) (hv.fr lN).e hp nt) qJ λs5 E5 f5 hE5=>?_
  have jO:=lN.trans f5 sJ;refine V9 ?_;refine a28 (xb (a1A (hg.fr jO) _ _) λs6 f6=>?_);have jP:=jO.trans f6 sJ;have wx:=f6.kp (f5.kp vt);have tA:=f6.kp (f5.kp uL);have la6:=t3 wx;have hs:=a5E (A:=A) ci zP;unfold Mo.fI at hs;simp only[FG]at hs;refine zY (V4 wx hw hs) ?_;exact⟨ci,tA,jP.st rC _⟩
 .have qF:wc<st.ae.length:=by rw[iQ.ae];exact hc
  have kU:=iQ.cl wc qF hc;have Dw:=(jB.ch _ (Fp hc)).2.1;rw[<- a3X qF]at kU;rcases hk with rfl|rfl
  .have lN:Fr [] s3 ((s3.push (.cells [.int .i64 0,.int .i64 0,.int .i64 0,.int .i64 0])).set s3.next (some (.cells [.int .i64 1,.int .i64 (wp:Int),.int .i64 (we:Int),.int .i64 (wc:Int)]))):=a1Q
   have gS:((s3.push (.cells [.int .i64 0,.int .i64 0,.int .i64 0,.int .i64 0])).set s3.next (some (.cells [.int .i64 1,.int .i64 (wp:Int),.int .i64 (we:Int),.int .i64 (wc:Int)]))).get s3.next=some (.cells [.int .i64 1,.int .i64 (wp:Int),.int .i64 (we:Int),.int .i64 (wc:Int)]):=a0b sJ;have uL:=lN.kp gb;have vt:=lN.kp ga;have lN:=fr.trans lN sJ;have pY:=(hv.fr lN).get;obtain⟨u,y,i1,i2,oy,hy⟩:=(hv.fr lN).sz hc (k:=.i64);have vh:=a6u (A:=W1 ((U8 st.ae wc).length:Int)) (w:=2) (hg.fr lN) hy oJ;rw[any2 oJ]at vh;refine zY (U0 h ci mA pY om oo i1 (aN i2 oy)) ?_;generalize((s3.push (.cells [.int .i64 0,.int .i64 0,.int .i64 0,.int .i64 0])).set s3.next (some (.cells [.int .i64 1,.int .i64 (wp:Int),.int .i64 (we:Int),.int .i64 (wc:Int)])))=s4 at *;have lS:=t3 gS;have Et:=t3 uL;have Df:=t3 vt;have Dv:=t3 pY;refine xb vh λs5 f5=>?_
   have jO:=lN.trans f5 sJ;refine V9 ?_;refine xb (a1A (hg.fr jO) _ _) λs6 f6=>?_
   have jP:=jO.trans f6 sJ;have wx:=f6.kp (f5.kp vt);have tA:=f6.kp (f5.kp uL);have la6:=t3 wx;have hs:=a5E (A:=A) ci zP;unfold Mo.fI at hs;simp only[Nat.succ_ne_zero,FF,FG]at hs;refine zY (V4 wx hw hs) ?_;exact⟨ci,tA,jP.st rC _⟩
  .have lN:Fr [] s3 ((s3.push (.cells [.int .i64 0,.int .i64 0,.int .i64 0,.int .i64 0])).set s3.next (some (.cells [.int .i64 2,.int .i64 (wp:Int),.int .i64 (we:Int),.int .i64 (wc:Int)]))):=a1Q
   have gS:((s3.push (.cells [.int .i64 0,.int .i64 0,.int .i64 0,.int .i64 0])).set s3.next (some (.cells [.int .i64 2,.int .i64 (wp:Int),.int .i64 (we:Int),.int .i64 (wc:Int)]))).get s3.next=some (.cells [.int .i64 2,.int .i64 (wp:Int),.int .i64 (we:Int),.int .i64 (wc:Int)]):=a0b sJ;have uL:=lN.kp gb;have vt:=lN.kp ga;have lN:=fr.trans lN sJ;have pY:=(hv.fr lN).get;obtain⟨u,y,i1,i2,oy,hy⟩:=(hv.fr lN).sz hc (k:=.i64);have vh:=a6u (A:=W1 ((U8 st.ae wc).length:Int)) (w:=2) (hg.fr lN) hy oJ;rw[any2 oJ]at vh;refine zY (U0 h ci mA pY om oo i1 (aN i2 oy)) ?_;generalize((s3.push (.cells [.int .i64 0,.int .i64 0,.int .i64 0,.int .i64 0])).set s3.next (some (.cells [.int .i64 2,.int .i64 (wp:Int),.int .i64 (we:Int),.int .i64 (wc:Int)])))=s4 at *;have lS:=t3 gS;have Et:=t3 uL;have Df:=t3 vt;have Dv:=t3 pY;refine bd_o i2 (λid=>by simp[a2l,a1n]) ?_ λid jb=>?_
   all_goals
    refine V9 ?_;refine iJ vh sJ λs5 E5 f5 hE5=>?_
    have jO:=lN.trans f5 sJ;have DF:=f5.kp gS;have lS5:=t3 DF;have hn:a1K s3.next E5:=a4V hE5 lS;refine zY (aN DF hn) ?_;refine a28 (xb (c19 hm ho jB (hg.fr jO) (hv.fr jO).e (iQ.e ho jB) hc) λs6 f6=>?_);have jP:=jO.trans f6 sJ;refine V9 ?_;refine xb (a9I (hg.fr (jP.ak _)) (W8 rfl)) λs7 f7=>?_
    have f7:Fr [] s6 s7:=Fr.trans (Fr.push _) f7 sJ;have mC:=jP.trans f7 sJ;have De:=f7.kp (f6.kp (f5.kp vt));have xx:=f7.kp (f6.kp (f5.kp uL));have la7:=t3 De;have hs:=a5E (A:=A) ci zP;unfold Mo.fI at hs;simp only[Nat.succ_ne_zero,FF,show¬(2=1) by decide]at hs;rw[<- HW]at hs;refine zY (V4 De hw hs) ?_;exact⟨ci,xx,mC.st rC _⟩
theorem a8K(hg:GB s g){l:List Bool}(hd:VB s d l)(hl:l.length<=100000):CB U5 47 [.ptr g 0,d] s (l.any id):=by
 have h:=a6u hg (A:=aB l) (w:=l.length) (hd.fh (a5r l).symm) hl;rwa [any_aB]at h
variable{r:D}{l:List D}{f:Nat}
theorem iso_c(h:eT f l r)(hs:a2i r=true):a46 U5 f l r:=by
 obtain⟨s1,h⟩:=h;exact⟨r,s1,h,b35 hs 19⟩
theorem a6t(h:eT f l r)(hs:a2i r=true):bz U5 f l r:=a0l (iso_c h hs)
theorem b67{x:Int}(h1:-4294967296<=x)(h2:x<=4294967296):bz U5 34 [.int .i64 x,.int .i64 8] (.int .i64 (W3 x 8)):=a6t (b1z (x:=x) (n:=8) (w:=8) dJ ⟨oJ,oJ⟩) rfl
theorem a7h{b:Bool}:bz U5 91 [.bool b] (.int .i64 (V6 b)):=a6t one_ok rfl
theorem pzm(h:Z4 m mo ps):PZ (.agg (Z6 m)):=a7R λd hd=>by
 simp only[Z6,Fi,FW,Hg]at hd;rcases hd with rfl|rfl|rfl|rfl|rfl|rfl|rfl
 .exact⟨FL.pure h.tr.fl,FL.ic h.tr.fl⟩
 .exact⟨rfl,λ_ _=>rfl⟩
 .exact⟨h.c.pure,FL.ic h.c⟩
 .exact⟨h.v.pure,FL.ic h.v⟩
 .exact⟨h.p.pure,FL.ic h.p⟩
 .exact⟨h.sf.pure,FL.ic h.sf⟩
 .exact⟨rfl,λ_ _=>rfl⟩
variable{x:bH}
theorem pzs{st:U6}(h:eR x st):PZ (.agg (b06 x st)):=a7R λd hd=>by
 obtain⟨ds,h1,_⟩:=h.c;simp only[b06,Fi,FW,Hg]at hd;rcases hd with rfl|rfl|rfl|rfl
 .exact⟨h.a.pure,FL.ic h.a⟩
 .exact⟨FL.pure h.v,FL.ic h.v⟩
 .exact⟨h1.pure,FL.ic h1⟩
 .exact⟨rfl,λ_ _=>rfl⟩
theorem b0L{op:Nat}(jU:op<5){a b:Int}(ha:I8 a)(hb:I8 b):bz U5 92 [.int .i64 (op:Int),.int .i64 a,.int .i64 b,.int .i64 8] (.int .i64 (fD op a b 8)):=a6t (do8 jU ha hb) rfl
theorem b7B{m:X7}{mo:Mo}{ps:List (Pr×X2)}(hm:Z4 m mo ps)(ho:Z3 mo){x:bH}{st:U6}(hx:eR x st)(h8:fW st)(kU:st.ae.length=mo.ae.length){pr:Int}{look:ByteArray->Option Nat}
 (kT:∀w,eT 90 [.agg (Z6 m),.int .i64 pr,.str w] (.int .i64 (a4Z (look w))))(mI:∀w v,look w=some v->v<st.vars.length):∀(n k:Nat),k<mo.tree.length->mo.tree.length-k<n->a3O (nd mo.tree k).kind ->
 a46 U5 50 [.agg (Z6 m),.int .i64 pr,.agg (b06 x st),.int .i64 (k:Int)] (.aT [.int .i64 (a06 mo.tree mo.ch look st n k).1,.bool (a06 mo.tree mo.ch look st n k).2])
 |0,k,_,h,_=>by omega
 |n+1,k,hk,hn,hex=>by
  have om:=hm.aw;have ox:=hx.aw;have fm:=pzm hm;have fx:=pzs hx;have iT:=ho.tree.node k hk;have iM:=hm.tr.at (z:=(k:Int)) oJ oJ (k:=.i64);rw[an]at iM;have on:=a2Y hm.tr hk;have hw:=a6m hm.tr hk (i:=0);have n0:=a5U hm.tr hk (i:=0);have z0:((0:Nat):Int)=0:=rfl;have z1:((1:Nat):Int)=1:=rfl;rw[iT.wl,z0]at hw;rw[iT.nl,z0]at n0;obtain⟨jJ,uy⟩:=b1T iT hex;have ih:∀i,i<(nd mo.tree k).kids.length->a46 U5 50 [.agg (Z6 m),.int .i64 pr,.agg (b06 x st),.int .i64 (((nd mo.tree k).aE i:Nat):Int)] (.aT [.int .i64 (a06 mo.tree mo.ch look st n ((nd mo.tree k).aE i)).1,.bool (a06 mo.tree mo.ch look st n ((nd mo.tree k).aE i)).2]):=λi hi=>by
   have h1:=ho.tree.ks hk _ (a1E hi);exact b7B hm ho hx h8 kU kT mI n _ h1.2 oJ (uy i hi)
  have i8:∀i,I8 (a06 mo.tree mo.ch look st n ((nd mo.tree k).aE i)).1:=λi=>b1k h8 n _
  have k0:=a2T hm.tr ho.tree hk (i:=0);have k1:=a2T hm.tr ho.tree hk (i:=1);rw[z0]at k0;rw[z1]at k1;unfold a06;simp only;unfold Z6 at ih fm kT⊢;unfold b06 at ih fx⊢;by_cases rK:(nd mo.tree k).kind=17
  .rw[Fk rK]
   rw[rK]at n0;have n0:=n0 dJ;have hl:=iT.lit rK;refine a0A (vf:=a3V) rfl ?_;unfold a3V;refine zF ?_;exact zZ (X0 om ox iM on rK n0 @b67)
  rw[so rK];by_cases kF:(nd mo.tree k).kind=18
  .rw[Fk kF]
   rw[kF]at hw;have hw:=hw dJ;have hv:=kT ((nd mo.tree k).word 0);cases tH:look ((nd mo.tree k).word 0)with
   |none =>
    rw[tH]at hv;refine a0A (vf:=a3V) rfl ?_;unfold a3V;refine zF ?_;simp(disch:=(first|exact Rf.mk rfl|with_reducible assumption|omega|((repeat(first|rw[nP]|rw[nS]|rw[Y3]))<;>omega)|decide)) only[go_sem,↓reduceIte,om,ox,iM,on,kF,hw,a4Z,a6t hv rfl]
   |some v =>
    rw[tH]at hv;have mh:=mI _ _ tH;have sD:=FI.idx hx.v mh (k:=.i64);have c0:((v:Int)<0)=False:=FH oJ;have e:=a26 mh;simp only[e];refine a0A (vf:=a3V) rfl ?_;unfold a3V;refine zF ?_;simp(disch:=(first|exact Rf.mk rfl|with_reducible assumption|omega|((repeat(first|rw[nP]|rw[nS]|rw[Y3]))<;>omega)|decide)) only[go_sem,↓reduceIte,om,ox,iM,on,kF,hw,a4Z,c0,sD,a6t hv rfl]
  rw[so kF];by_cases kX:(nd mo.tree k).kind=19
  .rw[Fk kX]
   rw[kX]at hw;have hw:=hw dJ;have ly:=hm.iC;have nN:=ho.nc;have mM:mo.ch.length=mo.ae.length:=by simp[Mo.ch]
   refine a0A (vf:=a3V) rfl ?_;unfold a3V;refine zF ?_;refine zY (W0 om ox iM on kX) ?_;refine W6 [0,1,2,3,4,6,10,11,13,14,15,16,17,18,19,20,27,28,35,45,51,77,94,114,154,158,159,168,177,183] 0 mo.ae.length (λi f s=>s.get 0=some (.cells [m.dt,.int .i64 m.g,m.dc,m.dv,m.dp,m.ds,.bool m.b])/\s.get 1=some (.cells [x.da,x.dv,x.dc,.int .i64 st.hold])/\s.get 2=some (.cells [.int .i64 19,(nd mo.tree k).dw,(nd mo.tree k).dn,(nd mo.tree k).dk,.int .i64 (nd mo.tree k).pos])/\(∀j(hj:j<mo.ae.length),j<i->mo.ae[j].name≠(nd mo.tree k).word 0)/\f 12=.int .i64 (i:Int)) (.mk rfl) oJ ⟨?_,?_,?_,λj _ h=>by omega,rfl⟩ ?_
   .exact bB
   .exact bB
   .exact bB
   rintro i f s hi ⟨g0,g1,g2,iR,hE⟩;by_cases ci:i<mo.ae.length
   .have kR:IntKind.i64.wrap ((i:Int)+1)=((i+1:Nat):Int):=by rw[Z9 oJ oJ];omega
    have jn:((i:Int)<(mo.ae.length:Int))=True:=FR oJ;have my:=FLC.idx hm.c ci (k:=.i64);unfold Ch.row at my;by_cases ce:mo.ae[i].name=(nd mo.tree k).word 0
    .have nD:i<mo.ch.length:=oJ
     have eb:=a7Y (l:=mo.ch) (w:=(nd mo.tree k).word 0) nD (by simpa[Mo.ch]using ce) (λj hj hji=>by simpa[Mo.ch]using iR j oJ hji);have qF:i<st.ae.length:=oJ;obtain⟨dq,hq,As⟩:=hx.chan qF;have As:=As .i64;have oq:=FL.one hq;have Co:=FI.len hq;have e:=a3X qF;simp only[eb,Fk nD,e];exact zZ (U0 hE g0 g1 g2 om ox on (U0 ly jn my ce hw As oq Co))
    .have rD:decide (mo.ae[i].name=(nd mo.tree k).word 0)=false:=by simp[ce]
     refine zY (U0 hE g0 g1 g2 om on ly (W0 jn my rD hw kR)) ?_;refine⟨oJ,λj hj hji=>?_⟩;by_cases ej:j=i
     .subst ej;exact ce
     .exact iR j hj oJ
   .have jn:((i:Int)<(mo.ae.length:Int))=False:=FH oJ
    have eb:=a88 (l:=mo.ch) (w:=(nd mo.tree k).word 0) (λj hj=>by simpa[Mo.ch]using iR j oJ oJ);simp only[so eb];exact zZ (W0 hE g0 om ly jn)
  rw[so kX];by_cases uh:(nd mo.tree k).kind=20
  .rw[Fk uh]
   have h1:=iT.one oJ;have k0:=k0 oJ;have h0:=a0l (ih 0 oJ);obtain⟨b1,b2⟩:=i8 0;have e1:IntKind.i64.wrap (0-(a06 mo.tree mo.ch look st n ((nd mo.tree k).aE 0)).1)=-(a06 mo.tree mo.ch look st n ((nd mo.tree k).aE 0)).1:=by rw[Z9 oJ oJ];omega
   refine a0A (vf:=a3V) rfl ?_;unfold a3V;refine zF ?_;exact zZ (U0 om ox iM on uh k0 e1 (aN h0 @b67))
  rw[so uh];by_cases tE:(nd mo.tree k).kind=21
  .rw[Fk tE]
   have h1:=iT.one oJ;have k0:=k0 oJ;have h0:=a0l (ih 0 oJ);generalize a06 mo.tree mo.ch look st n ((nd mo.tree k).aE 0)=y0 at *;obtain⟨v0,b0⟩:=y0;simp only at h0⊢;have eb:(v0==0)=decide (v0=0):=rfl;cases b0
   .refine a0A (vf:=a3V) rfl ?_
    unfold a3V;refine zF ?_;simp(disch:=(first|exact Rf.mk rfl|with_reducible assumption|omega|((repeat(first|rw[nP]|rw[nS]|rw[Y3]))<;>omega)|decide)) only[go_sem,↓reduceIte,om,ox,iM,on,tE,k0,h0,a7h,FY]
   .refine a0A (vf:=a3V) rfl ?_
    unfold a3V;refine zF ?_;exact zZ (U0 om ox iM on tE k0 h0 (aN @a7h eb))
  rw[so tE];have lT:(nd mo.tree k).kind=22:=by have:=hex.1;have:=hex.2;omega
  rw[Fk lT];obtain⟨l2,_,_,o0,o8⟩:=iT.bin lT;have k0:=k0 oJ;have k1:=k1 oJ;rw[lT]at n0;have n0:=n0 dJ;have g0:=a0l (ih 0 oJ);have g1:=a0l (ih 1 oJ);have i0:=i8 0;have i1:=i8 1;generalize a06 mo.tree mo.ch look st n ((nd mo.tree k).aE 0)=y0 at *;generalize a06 mo.tree mo.ch look st n ((nd mo.tree k).aE 1)=y1 at *;obtain⟨v0,b0⟩:=y0;obtain⟨v1,b1⟩:=y1;simp only at g0 g1 i0 i1⊢;have e0:(v0 != 0)=decide (v0≠0):=by by_cases c:v0=0<;>simp[c]
  have e1:(v1 != 0)=decide (v1≠0):=by by_cases c:v1=0<;>simp[c]
  have e2:(v0==v1)=decide (v0=v1):=rfl;have qd:(nd mo.tree k).num 0=0\/(nd mo.tree k).num 0=1\/(nd mo.tree k).num 0=2\/(nd mo.tree k).num 0=3\/(nd mo.tree k).num 0=4\/(nd mo.tree k).num 0=5\/(nd mo.tree k).num 0=6\/(nd mo.tree k).num 0=7\/(nd mo.tree k).num 0=8:=oJ;generalize(nd mo.tree k).num 0=op at *;refine a0A (vf:=a3V) rfl ?_;unfold a3V;refine zF ?_;refine zY (U0 om ox iM on lT k0 k1 (V4 n0 g0 g1)) ?_;cases b0
  .simp(disch:=(first|exact Rf.mk rfl|with_reducible assumption|omega|((repeat(first|rw[nP]|rw[nS]|rw[Y3]))<;>omega)|decide)) only[go_sem,↓reduceIte,FY,FF]
  cases b1
  .simp(disch:=(first|exact Rf.mk rfl|with_reducible assumption|omega|((repeat(first|rw[nP]|rw[nS]|rw[Y3]))<;>omega)|decide)) only[go_sem,↓reduceIte,Gs,FF]
  simp only[GC,FG];have d0:bz U5 92 [.int .i64 0,.int .i64 v0,.int .i64 v1,.int .i64 8] _:=b0L (op:=0) dJ i0 i1;have d1:bz U5 92 [.int .i64 1,.int .i64 v0,.int .i64 v1,.int .i64 8] _:=b0L (op:=1) dJ i0 i1;have d2:bz U5 92 [.int .i64 2,.int .i64 v0,.int .i64 v1,.int .i64 8] _:=b0L (op:=2) dJ i0 i1;have d3:bz U5 92 [.int .i64 3,.int .i64 v0,.int .i64 v1,.int .i64 8] _:=b0L (op:=3) dJ i0 i1;have d4:bz U5 92 [.int .i64 4,.int .i64 v0,.int .i64 v1,.int .i64 8] _:=b0L (op:=4) dJ i0 i1;rcases qd with rfl|rfl|rfl|rfl|rfl|rfl|rfl|rfl|rfl
  .by_cases a0:v0=0
   .have c0:(v0 != 0)=false:=by simp[a0]
    refine zY (X0 om ox on n0 c0 e1 @a7h) ?_;simp[a1e,a0]
   .have c0:(v0 != 0)=true:=by simp[a0]
    refine zY (X4 om ox on n0 c0 @a7h) ?_;simp[a1e,a0]
  .by_cases a0:v0=0
   .have c0:(v0 != 0)=false:=by simp[a0]
    refine zY (X0 om ox on n0 c0 e1 @a7h) ?_;simp[a1e,a0]
   .have c0:(v0 != 0)=true:=by simp[a0]
    refine zY (X0 om ox on n0 c0 e1 @a7h) ?_;simp[a1e,a0]
  .refine zY (X4 om ox on n0 e2 @a7h) ?_
   simp[a1e]
  .refine zY (W0 om ox on n0 @a7h) ?_
   simp[a1e]
  .refine zY (X4 om ox on n0 @Z9 d0) ?_
   simp[a1e]
  .refine zY (X4 om ox on n0 @Z9 d1) ?_
   simp[a1e]
  .refine zY (X4 om ox on n0 @Z9 d2) ?_
   simp[a1e]
  .by_cases a1:v1=0
   .refine zY (W0 om ox on n0 a1) ?_
    simp[a1e,a1]
   .have c1:(v1==0)=false:=by simp[a1]
    refine zY (X0 om ox on n0 c1 @Z9 d3) ?_;simp[a1e,a1]
  .by_cases a1:v1=0
   .refine zY (W0 om ox on n0 a1) ?_
    simp[a1e,a1]
   .have c1:(v1==0)=false:=by simp[a1]
    refine zY (X0 om ox on n0 c1 @Z9 d4) ?_;simp[a1e,a1]
structure a2Z(mo:Mo)(x:bH)(st:U6):Prop where
 f:eR x st
 e:fW st
 fit:Fit mo st
variable{p:Nat}
theorem a7s(hm:Z4 m mo ps)(ho:Z3 mo)(hx:a2Z mo x st)(hp:p<mo.procs.length){k:Nat}(hk:k<mo.tree.length)(he:a3O (nd mo.tree k).kind) :
 bz U5 50 [.agg [m.dt,.int .i64 m.g,m.dc,m.dv,m.dp,m.ds,.bool m.b],.int .i64 (p:Int),.agg [x.da,x.dv,x.dc,.int .i64 st.hold],.int .i64 (k:Int)] (.aT [.int .i64 (mo.val (a0s (k7 mo.procs p)) st k).1,.bool (mo.val (a0s (k7 mo.procs p)) st k).2]):=by
 rw[a12 hp];exact a0l (b7B hm ho hx.f hx.e hx.fit.ae (λw=>c5a hm ho hp) (λw v hv=>by
  have jh:=ho.pr _ (Fp hp);have:=jh.var v (c1Y jh.same hv);rw[hx.fit.vars];exact this) _ k hk oJ he)
theorem can_ok(hm:Z4 m mo ps)(ho:Z3 mo)(hx:a2Z mo x st)(hp:p<mo.procs.length){e:Ed}(he:a6z mo.tree mo.ae.length (k7 mo.procs p).ah (k7 mo.procs p).vars e) :
 bz U5 72 [.agg [m.dt,.int .i64 m.g,m.dc,m.dv,m.dp,m.ds,.bool m.b],.agg [x.da,x.dv,x.dc,.int .i64 st.hold],.int .i64 (p:Int),.agg [.int .i64 (e.aq:Int),.int .i64 (e.to:Int),.int .i64 (e.act:Int),.int .i64 e.expr,.int .i64 e.var,.int .i64 e.chan,.bool e.aG,.int .i64 (e.node:Int)]] (.bool (mo.can st p (k7 mo.procs p) e)):=by
 refine a0l ?_;have fm:=a3R hm;have fx:=a6n hx.f;have om:=hm.aw;have ox:=hx.f.aw;have zN:=hx.f;have yM:=zN.a;have lL:=hm.c;have pS:p<st.aF.length:=by rw[hx.fit.aF];exact hp
 have kU:=hx.fit.ae;unfold Mo.can Mo.ex;have h6:e.act=0\/e.act=1\/e.act=2\/e.act=3\/e.act=4\/e.act=5:=by have:=he.act;omega
 rcases h6 with ha|ha|ha|ha|ha|ha
 .have hex:=he.gZ oJ
  rw[hex];refine a0A (vf:=a5x) rfl ?_;unfold a5x;refine zF ?_;refine zY (V4 om ox ha) ?_;repeat' (first|(refine a4j (λc=>?_) (λc=>?_)<;>(try simp only[a4d,a4a,a4i,a37]at c)<;>simp(disch:=(first|exact Rf.mk rfl|with_reducible assumption|omega|((repeat(first|rw[nP]|rw[nS]|rw[Y3]))<;>omega)|decide)) only[go_sem,↓reduceIte,om,ox,ha,c])|(refine a4o (λc=>?_) (λc=>?_)<;>(try simp only[a4d,a4a,a4i,a37]at c)<;>simp(disch:=(first|exact Rf.mk rfl|with_reducible assumption|omega|((repeat(first|rw[nP]|rw[nS]|rw[Y3]))<;>omega)|decide)) only[go_sem,↓reduceIte,om,ox,ha,c]))
  all_goals simp_all
 .obtain⟨k,ke,nR,oL⟩:=he.eQ oJ
  have hv:=a7s hm ho hx hp nR oL;rw[ke];simp only[Hd,FG,an];generalize mo.val (a0s (k7 mo.procs p)) st k=v at *;refine a0A (vf:=a5x) rfl ?_;unfold a5x;refine zF ?_;refine zY (V1 om ox ha hv) ?_;repeat' (first|(refine a4j (λc=>?_) (λc=>?_)<;>(try simp only[a4d,a4a,a4i,a37]at c)<;>simp(disch:=(first|exact Rf.mk rfl|with_reducible assumption|omega|((repeat(first|rw[nP]|rw[nS]|rw[Y3]))<;>omega)|decide)) only[go_sem,↓reduceIte,om,ox,ha,hv,c])|(refine a4o (λc=>?_) (λc=>?_)<;>(try simp only[a4d,a4a,a4i,a37]at c)<;>simp(disch:=(first|exact Rf.mk rfl|with_reducible assumption|omega|((repeat(first|rw[nP]|rw[nS]|rw[Y3]))<;>omega)|decide)) only[go_sem,↓reduceIte,om,ox,ha,hv,c]))
  all_goals simp_all
 .obtain⟨k,ke,nR,oL⟩:=he.eQ oJ
  obtain⟨q,oE,hq2⟩:=he.c1 oJ;have hv:=a7s hm ho hx hp nR oL;rw[ke,oE];simp only[Hd,FG,an];generalize mo.val (a0s (k7 mo.procs p)) st k=v at *;refine a0A (vf:=a5x) rfl ?_;unfold a5x;refine zF ?_;refine zY (V1 om ox ha hv) ?_;repeat' (first|(refine a4j (λc=>?_) (λc=>?_)<;>(try simp only[a4d,a4a,a4i,a37]at c)<;>simp(disch:=(first|exact Rf.mk rfl|with_reducible assumption|omega|((repeat(first|rw[nP]|rw[nS]|rw[Y3]))<;>omega)|decide)) only[go_sem,↓reduceIte,om,ox,ha,hv,c])|(refine a4o (λc=>?_) (λc=>?_)<;>(try simp only[a4d,a4a,a4i,a37]at c)<;>simp(disch:=(first|exact Rf.mk rfl|with_reducible assumption|omega|((repeat(first|rw[nP]|rw[nS]|rw[Y3]))<;>omega)|decide)) only[go_sem,↓reduceIte,om,ox,ha,hv,c]))
  all_goals simp_all
 .have hex:=he.gZ oJ
  obtain⟨q,oE,hq2⟩:=he.c1 oJ;rw[hex,oE];refine a0A (vf:=a5x) rfl ?_;unfold a5x;refine zF ?_;refine zY (V4 om ox ha) ?_;repeat' (first|(refine a4j (λc=>?_) (λc=>?_)<;>(try simp only[a4d,a4a,a4i,a37]at c)<;>simp(disch:=(first|exact Rf.mk rfl|with_reducible assumption|omega|((repeat(first|rw[nP]|rw[nS]|rw[Y3]))<;>omega)|decide)) only[go_sem,↓reduceIte,om,ox,ha,c])|(refine a4o (λc=>?_) (λc=>?_)<;>(try simp only[a4d,a4a,a4i,a37]at c)<;>simp(disch:=(first|exact Rf.mk rfl|with_reducible assumption|omega|((repeat(first|rw[nP]|rw[nS]|rw[Y3]))<;>omega)|decide)) only[go_sem,↓reduceIte,om,ox,ha,c]))
  all_goals simp_all
 .obtain⟨k,ke,nR,oL⟩:=he.eQ oJ
  have hv:=a7s hm ho hx hp nR oL;rw[ke];simp only[Hd,FG,an];generalize mo.val (a0s (k7 mo.procs p)) st k=v at *;refine a0A (vf:=a5x) rfl ?_;unfold a5x;refine zF ?_;refine zY (V1 om ox ha hv) ?_;repeat' (first|(refine a4j (λc=>?_) (λc=>?_)<;>(try simp only[a4d,a4a,a4i,a37]at c)<;>simp(disch:=(first|exact Rf.mk rfl|with_reducible assumption|omega|((repeat(first|rw[nP]|rw[nS]|rw[Y3]))<;>omega)|decide)) only[go_sem,↓reduceIte,om,ox,ha,hv,c])|(refine a4o (λc=>?_) (λc=>?_)<;>(try simp only[a4d,a4a,a4i,a37]at c)<;>simp(disch:=(first|exact Rf.mk rfl|with_reducible assumption|omega|((repeat(first|rw[nP]|rw[nS]|rw[Y3]))<;>omega)|decide)) only[go_sem,↓reduceIte,om,ox,ha,hv,c]))
  all_goals simp_all
 .obtain⟨k,ke,nR,oL⟩:=he.eQ oJ
  have hv:=a7s hm ho hx hp nR oL;rw[ke];simp only[Hd,FG,an];generalize mo.val (a0s (k7 mo.procs p)) st k=v at *;refine a0A (vf:=a5x) rfl ?_;unfold a5x;refine zF ?_;refine zY (V1 om ox ha hv) ?_;repeat' (first|(refine a4j (λc=>?_) (λc=>?_)<;>(try simp only[a4d,a4a,a4i,a37]at c)<;>simp(disch:=(first|exact Rf.mk rfl|with_reducible assumption|omega|((repeat(first|rw[nP]|rw[nS]|rw[Y3]))<;>omega)|decide)) only[go_sem,↓reduceIte,om,ox,ha,hv,c])|(refine a4o (λc=>?_) (λc=>?_)<;>(try simp only[a4d,a4a,a4i,a37]at c)<;>simp(disch:=(first|exact Rf.mk rfl|with_reducible assumption|omega|((repeat(first|rw[nP]|rw[nS]|rw[Y3]))<;>omega)|decide)) only[go_sem,↓reduceIte,om,ox,ha,hv,c]))
  all_goals simp_all
theorem b8G(hm:Z4 m mo ps)(ho:Z3 mo)(hx:a2Z mo x st)(hp:p<mo.procs.length){j:Nat}(hj:j<(k7 mo.procs p).ai.length) :
 bz U5 72 [.agg [m.dt,.int .i64 m.g,m.dc,m.dv,m.dp,m.ds,.bool m.b],.agg [x.da,x.dv,x.dc,.int .i64 st.hold],.int .i64 (p:Int),.agg [.int .i64 ((V3 (k7 mo.procs p).ai j).aq:Int),.int .i64 ((V3 (k7 mo.procs p).ai j).to:Int),.int .i64 ((V3 (k7 mo.procs p).ai j).act:Int),.int .i64 (V3 (k7 mo.procs p).ai j).expr,.int .i64 (V3 (k7 mo.procs p).ai j).var,.int .i64 (V3 (k7 mo.procs p).ai j).chan,.bool (V3 (k7 mo.procs p).ai j).aG,.int .i64 ((V3 (k7 mo.procs p).ai j).node:Int)]] (.bool (mo.can st p (k7 mo.procs p) (V3 (k7 mo.procs p).ai j))) :=
 can_ok hm ho hx hp ((ho.pr _ (a1S hp)).inv.ed _ (a3U hj))
theorem a7Z(hm:Z4 m mo ps)(ho:Z3 mo)(hx:a2Z mo x st)(hp:p<mo.procs.length):bz U5 51 [.agg [m.dt,.int .i64 m.g,m.dc,m.dv,m.dp,m.ds,.bool m.b],.agg [x.da,x.dv,x.dc,.int .i64 st.hold],.int .i64 (p:Int)] (.bool (mo.cL st p (k7 mo.procs p))):=by
 refine a0l ?_;have fm:=a3R hm;have fx:=a6n hx.f;have om:=hm.aw;have ox:=hx.f.aw;have jh:=ho.pr _ (a1S hp);have mO:=jh.el;refine a0A (vf:=vf51) rfl ?_;unfold vf51;refine zF ?_;refine zY (aN om ox) ?_;refine W6 [0,1,2,3,4] 0 (k7 mo.procs p).ai.length (λi f s=>f 7=.int .i64 (i:Int)/\s.get 0=some (.cells [m.dt,.int .i64 m.g,m.dc,m.dv,m.dp,m.ds,.bool m.b])/\s.get 1=some (.cells [x.da,x.dv,x.dc,.int .i64 st.hold])/\∀j,j<i->mo.can st p (k7 mo.procs p) (V3 (k7 mo.procs p).ai j)=false) (.mk rfl) oJ ⟨rfl,?_,?_,λj h=>by omega⟩ ?_
 .exact bB
 .exact bB
 rintro i f s hi ⟨hE,g0,g1,iR⟩;by_cases ci:i<(k7 mo.procs p).ai.length
 .have hc:=b8G hm ho hx hp ci
  have fe:=b6p (e:=V3 (k7 mo.procs p).ai i);refine zY (X0 hE ci g0 g1 om ox hc) ?_;repeat' (first|(refine a4j (λc=>?_) (λc=>?_)<;>(try simp only[a4d,a4a,a4i,a37]at c)<;>simp(disch:=(first|exact Rf.mk rfl|with_reducible assumption|omega|((repeat(first|rw[nP]|rw[nS]|rw[Y3]))<;>omega)|decide)) only[go_sem,↓reduceIte,hE,ci,g0,g1,om,ox,hc,c])|(refine a4o (λc=>?_) (λc=>?_)<;>(try simp only[a4d,a4a,a4i,a37]at c)<;>simp(disch:=(first|exact Rf.mk rfl|with_reducible assumption|omega|((repeat(first|rw[nP]|rw[nS]|rw[Y3]))<;>omega)|decide)) only[go_sem,↓reduceIte,hE,ci,g0,g1,om,ox,hc,c]))
  .exact(c2Y ci c).symm
  .intro j hj
   by_cases ej:j=i
   .subst ej;exact c
   .exact iR j oJ
 .refine zY (V1 hE ci g0 om) ?_
  exact(c27 λj hj=>iR j oJ).symm
theorem b97(hm:Z4 m mo ps)(ho:Z3 mo)(hx:a2Z mo x st):a5u U5 36 [.agg [m.dt,.int .i64 m.g,m.dc,m.dv,m.dp,m.ds,.bool m.b],.agg [x.da,x.dv,x.dc,.int .i64 st.hold]] λd=>FL 4 d (a00 (mo.aA st)):=by
 have fm:=a3R hm;have fx:=a6n hx.f;have om:=hm.aw;have ox:=hx.f.aw;have zN:=hx.f;have lL:=hm.c;have kU:=hx.fit.ae;have mY:=ho.np;have nN:=ho.nc;refine a5n (vf:=vf36) rfl ?_;unfold vf36;refine zF ?_;refine zY (aN om ox) ?_;have jV:Hp ((k4.empty.push (.cells [m.dt,.int .i64 m.g,m.dc,m.dv,m.dp,m.ds,.bool m.b])).push (.cells [x.da,x.dv,x.dc,.int .i64 st.hold])) [] [(0,[m.dt,.int .i64 m.g,m.dc,m.dv,m.dp,m.ds,.bool m.b]),(1,[x.da,x.dv,x.dc,.int .i64 st.hold])]:=⟨Hk,sJ,by simp[Y2],by
  intro y hy;simp only[Fi,FW,Hg]at hy;rcases hy with rfl|rfl
  .exact bB
  .simp(disch:=(first|exact Rf.mk rfl|with_reducible assumption|omega|((repeat(first|rw[nP]|rw[nS]|rw[Y3]))<;>omega)|decide)) only[go_sem,↓reduceIte]⟩
 generalize hR:[(0,[m.dt,.int .i64 m.g,m.dc,m.dv,m.dp,m.ds,.bool m.b]),(1,[x.da,x.dv,x.dc,.int .i64 st.hold])]=R at jV;have hg:∀{s E},Hp s E R->s.get 0=some (.cells [m.dt,.int .i64 m.g,m.dc,m.dv,m.dp,m.ds,.bool m.b])/\s.get 1=some (.cells [x.da,x.dv,x.dc,.int .i64 st.hold]):=λh=>by
  subst hR;exact⟨h.r (0,_) sJ,h.r (1,_) sJ⟩
 refine a1d [0,1,2,3,4,8,9,65,83,108] (λf s=>∃E,Rp (f 5) 4 (a00 (mo.iI st mo.procs.length)) E/\Hp s E R) ?_ ?_
 .refine W6 [0,1,2,3,4,8,9,65,83,108] 0 mo.procs.length (λi f s=>f 6=.int .i64 (i:Int)/\∃E,Rp (f 5) 4 (a00 (mo.iI st i)) E/\Hp s E R) (.mk rfl) oJ ⟨rfl,[],.inl ⟨rfl,rfl,rfl⟩,jV⟩ ?_
  rintro i f s hi ⟨hE,E,hr,hp⟩;obtain⟨g0,g1⟩:=hg hp;by_cases ci:i<mo.procs.length
  .by_cases ch:0<=st.hold/\st.hold≠(i:Int)
   .have e:mo.cX st i=[]:=by rw[Mo.cD,Fk ch]
    have h1:=ch.1;have h2:=ch.2;refine zY (U0 hE ci g0 g1 om ox h1 h2) ?_;rw[Mo.eJ,e,Fl];exact⟨E,hr,hp⟩
   .have e:mo.cX st i=mo.hU st i (k7 mo.procs i).ai.length:=by rw[Mo.cD,so ch]
    have mO:=(ho.pr _ (a1S ci)).el;have h2:0<=st.hold->(st.hold=(i:Int))=True:=λh=>FR oJ
    have uc:(mo.iI st i).length<=16000:=FE (Mo.eA ho hi) oJ;by_cases h1:0<=st.hold<;>simp(disch:=(first|exact Rf.mk rfl|with_reducible assumption|omega|((repeat(first|rw[nP]|rw[nS]|rw[Y3]))<;>omega)|decide)) only[go_sem,↓reduceIte,hE,ci,g0,g1,om,ox,h1,h2]
    all_goals
     refine W6 [0,1,2,3,4,6,8,9,14,25,65,83,108] 0 (k7 mo.procs i).ai.length (λj f s=>f 7=.int .i64 (j:Int)/\∃E,Rp (f 5) 4 (a00 (mo.iI st i++mo.hU st i j)) E/\Hp s E R) (.mk rfl) oJ ⟨rfl,E,by rw[show mo.hU st i 0=[]from rfl,Fl];exact hr,hp⟩ ?_;rintro j f s hj ⟨hE,E,hr,hp⟩;obtain⟨g0,g1⟩:=hg hp;by_cases cj:j<(k7 mo.procs i).ai.length
     .have hc:=b8G hm ho hx ci cj
      have fe:=b6p (e:=V3 (k7 mo.procs i).ai j);refine zY (U0 hE ci cj g0 g1 om ox hc) ?_;refine a4j (λc=>?_) (λc=>?_)
      .refine zY (X0 hE ci cj g0 g1 om ox) ?_
       have:=Mo.ie (mo:=mo) (st:=st) (i:=i) (j:=j);refine a3p ⟨0,i,j,0⟩ rfl hr hp dJ qJ ?_;intro d' s' E' hr' nG;refine zY hE ?_;refine⟨cj,E',?_,nG⟩;rw[Mo.fO,c,Fk rfl,<- Fj];exact hr'
      .refine zY hE ?_
       refine⟨cj,E,?_,hp⟩;rw[Mo.fO,c,so sJ,Fl];exact hr
     .obtain rfl:j=(k7 mo.procs i).ai.length:=oJ
      refine zY (X4 hE ci g0 g1 om ox) ?_;rw[Mo.eJ,e];exact⟨E,hr,hp⟩
  .obtain rfl:i=mo.procs.length:=oJ
   refine zY (X4 hE ci g0 g1 om ox) ?_;exact⟨E,hr,hp⟩
 .rintro f s ⟨E,hr,hp⟩
  obtain⟨g0,g1⟩:=hg hp;refine V9 ?_;refine a1d [0,1,2,3,4,6,7,14,25,34,49] (λf s=>∃E,Rp (f 5) 4 (a00 (mo.aA st)) E/\Hp s E R) ?_ ?_
  .have uc:(mo.iI st mo.procs.length).length<=16000:=FE (Mo.eA ho (sm _)) oJ
   refine W6 [0,1,2,3,4,6,7,14,25,34,49] 0 mo.ae.length (λi f s=>f 8=.int .i64 (i:Int)/\∃E,Rp (f 5) 4 (a00 (mo.iI st mo.procs.length++if st.hold<0 then mo.mvC st i else[])) E/\Hp s E R) (.mk rfl) oJ ⟨rfl,E,?_,hp⟩ ?_
   .rw[show mo.mvC st 0=[]from rfl,JD,Fl];exact hr
   clear hr hp;rintro i f s hi ⟨hE,E,hr,hp⟩;obtain⟨g0,g1⟩:=hg hp;by_cases ch:st.hold<0
   .by_cases ci:i<mo.ae.length
    .have jn:i<st.ae.length:=oJ
     rw[Fk ch]at hr;have hmc':=Mo.fE (mo:=mo) (st:=st) (i:=i);have e1:mo.mvC st (i+1)=mo.mvC st i++mo.bE st i:=Mo.fP;unfold Mo.bE at e1;by_cases l1:(U7 mo.ae i).bC=true<;>by_cases l0:0<(U8 st.ae i).length<;>by_cases l2:(U7 mo.ae i).aS=true<;>by_cases l3:((U8 st.ae i).length:Int)<(U7 mo.ae i).room<;>simp only[l1,l0,l2,l3,Iz,decide_false,HR,Gs,FY,Gd,Fw,FG,FF,Fl,Fv,Fx]at e1<;>simp(disch:=(first|exact Rf.mk rfl|with_reducible assumption|omega|((repeat(first|rw[nP]|rw[nS]|rw[Y3]))<;>omega)|decide)) only[go_sem,↓reduceIte,hE,ch,ci,g0,g1,om,ox,l1,l0,l2,l3]
     all_goals try(first|refine a3p ⟨1,0,0,i⟩ rfl hr hp dJ qJ ?_|refine a3p ⟨2,0,0,i⟩ rfl hr hp dJ qJ ?_)<;>rintro d1 s1 E1 hr hp<;>obtain⟨k0,k1⟩:=hg hp<;>simp(disch:=(first|exact Rf.mk rfl|with_reducible assumption|omega|((repeat(first|rw[nP]|rw[nS]|rw[Y3]))<;>omega)|decide)) only[go_sem,↓reduceIte,hE,ch,ci,k0,k1,om,ox,l1,l0,l2,l3]
     all_goals try(refine a3p ⟨2,0,0,i⟩ rfl hr hp dJ qJ ?_)<;>rintro d1 s1 E1 hr hp<;>simp(disch:=(first|exact Rf.mk rfl|with_reducible assumption|omega|((repeat(first|rw[nP]|rw[nS]|rw[Y3]))<;>omega)|decide)) only[go_sem,↓reduceIte,hE]
     all_goals
      rw[e1];try simp only[Fj,Fx,Fv]at hr⊢
      first|exact⟨_,hr,hp⟩|exact⟨ci,_,hr,hp⟩
    .obtain rfl:i=mo.ae.length:=oJ
     refine zY (X0 hE ch ci g0 g1 om ox) ?_;rw[Mo.dL];exact⟨E,hr,hp⟩
   .rw[so ch]at hr
    by_cases ci:i<mo.ae.length
    .refine zY (X0 hE ch ci g0 g1 om ox) ?_
     rw[Mo.dL,so ch];exact⟨E,hr,hp⟩
    .refine zY (X0 hE ch ci g0 g1 om ox) ?_
     rw[Mo.dL,so ch];exact⟨E,hr,hp⟩
  .rintro f s ⟨E,hr,hp⟩
   obtain⟨d',h1,h2⟩:=a7y hr hp (λe h=>h) (a9z _) (a8P _);refine zY h1 ?_;exact⟨_,rfl,h2⟩
theorem c2A(hx:eR x st)(kU:st.ae.length<=3)(h8:fW st)(ha:st.aF.length<=1000)(hv:st.vars.length<=1000):Y4 U5 49 [.agg [x.da,x.dv,x.dc,.int .i64 st.hold]] s λr s'=>OutM s' s.next r st/\Fr [] s s':=by
 have ox:=hx.aw;have ly:=b7t hx;refine Y0 (vf:=vf49) rfl ?_;unfold vf49;refine zF ?_;refine zY ox ?_;have jV:Hp ((s.push (.cells [x.da,x.dv,x.dc,.int .i64 st.hold])).push (.cells [.ag,.ag,.ag,.int .i64 0])) [(s.next+1,[.ag,.ag,.ag,.int .i64 0])] [(s.next,[x.da,x.dv,x.dc,.int .i64 st.hold])] :=
  Hp.dF (W:=[]) ⟨Hk,sJ,by simp[Y2],by simp[Y2,W8]⟩ _
 refine b6B (s:=(s.push (.cells [x.da,x.dv,x.dc,.int .i64 st.hold])).push (.cells [.ag,.ag,.ag,.int .i64 0])) hx.a (a4M _) jV dJ qJ bB ?_;rintro a s1 jT l1 a1 u1;have g0:=jT.r (s.next,[x.da,x.dv,x.dc,.int .i64 st.hold]) sJ;simp only[k4.aj]at l1 a1 u1 g0;rw[a68]at jT;have f1:Fr [] s s1:=⟨oJ,λj hj _=>by rw[u1 j oJ,a0k qJ,a0k hj]⟩
 refine zY (V4 g0 ox @a63) ?_;refine b6B (s:=s1) hx.v (a8y _) jT dJ qJ bB ?_;rintro v s2 jE l2 a2 u2;have g0:=jE.r (s.next,[x.da,x.dv,x.dc,.int .i64 st.hold]) sJ;rw[show(List.map (λn=>[D.int IntKind.i64 n]) st.vars)=a1o st.vars from rfl,a8v]at jE;have f2:Fr [] s s2:=f1.thenS oJ u2;simp(disch:=(first|exact Rf.mk rfl|with_reducible assumption|omega|((repeat(first|rw[nP]|rw[nS]|rw[Y3]))<;>omega)|decide)) only[go_sem,↓reduceIte,g0,ox,FT];have tS:=jE.dU (.cells [.ag,.ag,.ag,.int .i64 0]) [.arr a 0 st.aF.length 1,.arr v 0 st.vars.length 1,.ag,.int .i64 st.hold];have f3:Fr [] s ((s2.push (.cells [.ag,.ag,.ag,.int .i64 0])).set s2.next (some (.cells [.arr a 0 st.aF.length 1,.arr v 0 st.vars.length 1,.ag,.int .i64 st.hold]))):=f2.thenS sJ λj hj=>by rw[Y8 oJ,a0k hj]
 have hq:s2.next<((s2.push (.cells [.ag,.ag,.ag,.int .i64 0])).set s2.next (some (.cells [.arr a 0 st.aF.length 1,.arr v 0 st.vars.length 1,.ag,.int .i64 st.hold]))).next:=sJ;generalize((s2.push (.cells [.ag,.ag,.ag,.int .i64 0])).set s2.next (some (.cells [.arr a 0 st.aF.length 1,.arr v 0 st.vars.length 1,.ag,.int .i64 st.hold])))=s3 at *;generalize s2.next=p at *;clear jV jT jE u1 u2 g0;refine W6 [0,1,2,3] 0 st.ae.length (λi f s'=>f 4=.int .i64 (i:Int)/\∃dC ids EC,ids.length=i/\Rp dC 1 (a24 ids st.ae) EC/\Hp s' ((p,[.arr a 0 st.aF.length 1,.arr v 0 st.vars.length 1,dC,.int .i64 st.hold])::(v,a0w st.vars)::(a,a1f st.aF)::(s.next+1,[.ag,.ag,.ag,.int .i64 0])::(EC++a35 ids st.ae)) [(s.next,[x.da,x.dv,x.dc,.int .i64 st.hold])]/\(∀w∈EC++a35 ids st.ae,s.next+2<=w.1)/\Fr [] s s') (.mk rfl) oJ ⟨rfl,.ag,[],[],rfl,.inl ⟨rfl,rfl,rfl⟩,?_,by simp[a35],f3⟩ ?_
 .simpa only[a35,List.zipWith_nil_left,Fl]using tS
 rintro i f s4 hi ⟨hE,dC,ids,EC,nD,hr,hp,hw,fr⟩;have gp:=hp.hd;have g0:=hp.rh;have g1:=hp.tl.tl.tl.hd;have oc:=hr.one;by_cases ci:i<st.ae.length
 .have mM:=b0e hx ci
  refine zY (X0 hE ci gp g0 g1 ox oc) ?_;have lp:=t3 gp;refine b6B (s:=s4) (rows:=a1o (U8 st.ae i)) mM (a8y _) hp dJ (by have:=(h8.c _ (a8O ci)).1;simp;omega) bB ?_;rintro q s5 lK l5 a5 u5;rw[a8v]at lK;have gp:=lK.tl.hd;refine zY (aN gp @a8X) ?_;refine c0a (A:=[(q,a0w (U8 st.ae i)),(p,[.arr a 0 st.aF.length 1,.arr v 0 st.vars.length 1,dC,.int .i64 st.hold]),(v,a0w st.vars),(a,a1f st.aF),(s.next+1,[.ag,.ag,.ag,.int .i64 0])]) (B:=a35 ids st.ae) (E:=EC) (sz:=1) hr (sU lK) rfl ?_ dJ ?_ bB ?_
  .exact c16
  .have:=b23 (ids:=ids) (l:=st.ae) oJ
   omega
  rintro s6 hr6 kH l6 u6;have gp:=kH.tl.hd;refine zY (V4 hE ci gp) ?_;have e1:=c3g (q:=q) (ids:=ids) (l:=st.ae) oJ;have e2:=c64 (q:=q) (ids:=ids) (l:=st.ae) oJ;have e3:=b23 (ids:=ids) (l:=st.ae) oJ;rw[nD]at e1 e2;have Dh:=t3 g1;refine⟨.arr (s5.next+1) 0 ((a24 ids st.ae).length+1) 1,ids++[q],[(s5.next+1,(a24 ids st.ae++[[D.arr q 0 (U8 st.ae i).length 1]]).flatten)],by simp[nD],?_,?_,?_,?_⟩
  .rw[e1];exact hr6
  .rw[e2]
   have h1:=Hp.set (A:=[(q,a0w (U8 st.ae i))]) (id:=p) kH [.arr a 0 st.aF.length 1,.arr v 0 st.vars.length 1,.arr (s5.next+1) 0 ((a24 ids st.ae).length+1) 1,.int .i64 st.hold];refine h1.perm ?_;exact(List.perm_append_singleton (q,a0w (U8 st.ae i)) ((p,[.arr a 0 st.aF.length 1,.arr v 0 st.vars.length 1,.arr (s5.next+1) 0 ((a24 ids st.ae).length+1) 1,.int .i64 st.hold])::(v,a0w st.vars)::(a,a1f st.aF)::(s.next+1,[.ag,.ag,.ag,.int .i64 0])::(s5.next+1,(a24 ids st.ae++[[D.arr q 0 (U8 st.ae i).length 1]]).flatten)::a35 ids st.ae))
  .rw[e2]
   intro w me;simp only[Fx,Fv,Fi,Fm,FW,Hg]at me;rcases me with rfl|me|rfl
   .simp only;omega
   .exact hw w (by simp[me])
   .simp only;omega
  .have f5:=fr.thenS oJ u5
   have f6:Fr [] s s6:=⟨by have:=f5.1;omega,λj hj hn=>by
    have h1:=f5.1;rw[u6 j oJ λe he hc=>by have:=hw e (by simp[he]);omega,f5.2 j hj hn]⟩
   exact f6.aC _ (.inr oJ)
 .have l1:=t3 g1
  refine zY (X0 hE ci gp g0 g1 ox oc) ?_;obtain rfl:i=st.ae.length:=oJ;refine a1I ?_;refine⟨⟨a,v,dC,ids,EC,rfl,nD,hr,?_,?_⟩,?_⟩
  .have h1:Hp s4 ((s.next+1,[.ag,.ag,.ag,.int .i64 0])::(a,a1f st.aF)::(v,a0w st.vars)::(EC++a35 ids st.ae)) []:=(hp.tl.rt).perm (by
    refine(List.Perm.swap _ _ _).trans ?_;refine(List.Perm.cons _ (List.Perm.swap _ _ _)).trans ?_;exact List.Perm.swap _ _ _)
   exact(Hp.set (A:=[]) h1 [.arr a 0 st.aF.length 1,.arr v 0 st.vars.length 1,dC,.int .i64 st.hold]).tl
  .intro w me
   simp only[Fi]at me;rcases me with rfl|rfl|me
   .simp only;omega
   .simp only;omega
   .have:=hw w me;omega
  .exact fr.aC _ (.inr oJ)
theorem b2N{raw:List Int}(hd:FI d raw)(hr:∀n∈raw,a2C n){k n:Nat}(hn:0<n)(nz:n<=1000000)(hk:k<=1000000):∃z:Nat,z<n/\bz U5 33 [d,.int .i64 (k:Int),.int .i64 (n:Int)] (.int .i64 (z:Int)):=by
 by_cases h0:raw.length=0
 .refine⟨0,hn,a0l ?_⟩
  refine a0A (vf:=a7V) rfl ?_;unfold a7V;refine zF ?_;exact zZ h0
 .have mE:(k:Int).tmod (raw.length:Int)=((k%raw.length:Nat):Int):=rfl
  have jJ:k%raw.length<raw.length:=Ja _ oJ;have hz:=hr _ (a7z jJ);have n0:¬n=0:=oJ;have n1:¬(n:Int)=0:=oJ;have n2:¬(raw.length:Int)=0:=oJ;by_cases c:(X9 raw (k%raw.length)).tmod (n:Int)<0
  .have h1:-(n:Int)<(X9 raw (k%raw.length)).tmod (n:Int):=Int.lt_tmod_of_pos _ oJ
   have e:(X9 raw (k%raw.length)).tmod (n:Int)+(n:Int)=(((X9 raw (k%raw.length)).tmod (n:Int)+(n:Int)).toNat:Int):=oJ;refine⟨((X9 raw (k%raw.length)).tmod (n:Int)+(n:Int)).toNat,oJ,a0l ?_⟩;refine a0A (vf:=a7V) rfl ?_;unfold a7V;refine zF ?_;refine zY (X4 h0 n0 n1 n2 mE c) ?_;exact e
  .have h1:(X9 raw (k%raw.length)).tmod (n:Int)<(n:Int):=Je _ oJ
   refine⟨((X9 raw (k%raw.length)).tmod (n:Int)).toNat,oJ,a0l ?_⟩;refine a0A (vf:=a7V) rfl ?_;unfold a7V;refine zF ?_;refine zY (X4 h0 n0 n1 n2 mE c) ?_;omega
def FstM(mo:Mo)(s:k4)(n:Nat)(r:D):Prop:=∃dA dV dC EA EV EC,r=.agg [dA,dV,dC,.int .i64 (-1)]/\Rp dA 1 (a0i (List.replicate mo.procs.length 0)) EA/\Rp dV 1 (a1o mo.eZ) EV/\Rp dC 1 (a4W mo.ae.length) EC/\Hp s (EA++EV++EC) []/\∀w∈EA++EV++EC,n<=w.1
theorem c5K(hm:Z4 m mo ps)(ho:Z3 mo):Y4 U5 23 [.agg [m.dt,.int .i64 m.g,m.dc,m.dv,m.dp,m.ds,.bool m.b]] s λr s'=>FstM mo s' s.next r/\Fr [] s s':=by
 have om:=hm.aw;have kh:=hm.v;have lL:=hm.c;have mY:=ho.np;have lD:=ho.nv;have nN:=ho.nc;have mh:mo.eZ.length=mo.vars.length:=by simp[Mo.eZ]
 refine Y0 (vf:=vf23) rfl ?_;unfold vf23;refine zF ?_;refine zY om ?_;have jV:Hp ((s.push (.cells [m.dt,.int .i64 m.g,m.dc,m.dv,m.dp,m.ds,.bool m.b])).push (.cells [.ag,.ag,.ag,.int .i64 0])) [(s.next+1,[.ag,.ag,.ag,.int .i64 0])] [(s.next,[m.dt,.int .i64 m.g,m.dc,m.dv,m.dp,m.ds,.bool m.b])]:=by
  have:=Hp.dF (s:=s.push (.cells [m.dt,.int .i64 m.g,m.dc,m.dv,m.dp,m.ds,.bool m.b])) (W:=[]) (R:=[(s.next,[m.dt,.int .i64 m.g,m.dc,m.dv,m.dp,m.ds,.bool m.b])]) ⟨Hk,sJ,by simp[Y2],by simp[Y2,W8]⟩ [.ag,.ag,.ag,.int .i64 0];simpa using this
 have jT:=jV.dU (.cells [.ag,.ag,.ag,.int .i64 0]) [.ag,.ag,.ag,.int .i64 (-1)];simp only[k4.aj]at jT;have lP:Fr [] s ((((s.push (.cells [m.dt,.int .i64 m.g,m.dc,m.dv,m.dp,m.ds,.bool m.b])).push (.cells [.ag,.ag,.ag,.int .i64 0])).push (.cells [.ag,.ag,.ag,.int .i64 0])).set (s.next+1+1) (some (.cells [.ag,.ag,.ag,.int .i64 (-1)]))):=(((Fr.push _).ak _).ak _).aC _ (.inr oJ);generalize(((s.push (.cells [m.dt,.int .i64 m.g,m.dc,m.dv,m.dp,m.ds,.bool m.b])).push (.cells [.ag,.ag,.ag,.int .i64 0])).push (.cells [.ag,.ag,.ag,.int .i64 0])).set (s.next+1+1) (some (.cells [.ag,.ag,.ag,.int .i64 (-1)]))=s1 at *;generalize hp:s.next+1+1=p at *;generalize hq:s.next+1=q at *;refine a1d [0,1,2,3,5,6,24,42] (λf s'=>∃dA EA,Rp dA 1 (a0i (List.replicate mo.procs.length 0)) EA/\Hp s' ((p,[dA,.ag,.ag,.int .i64 (-1)])::(q,[.ag,.ag,.ag,.int .i64 0])::EA) [(s.next,[m.dt,.int .i64 m.g,m.dc,m.dv,m.dp,m.ds,.bool m.b])]/\(∀w∈EA,s.next<=w.1)/\Fr [] s s') ?_ ?_
 .refine W6 [0,1,2,3,5,6,24,42] 0 mo.procs.length (λi f s'=>f 4=.int .i64 (i:Int)/\∃dA EA,Rp dA 1 (a0i (List.replicate i 0)) EA/\Hp s' ((p,[dA,.ag,.ag,.int .i64 (-1)])::(q,[.ag,.ag,.ag,.int .i64 0])::EA) [(s.next,[m.dt,.int .i64 m.g,m.dc,m.dv,m.dp,m.ds,.bool m.b])]/\(∀w∈EA,s.next<=w.1)/\Fr [] s s') (.mk rfl) oJ ⟨rfl,.ag,[],.inl ⟨rfl,rfl,rfl⟩,jT,sJ,lP⟩ ?_
  rintro i f s2 hi ⟨hE,dA,EA,hr,jE,hw,fr⟩;have g0:=jE.rh;have gp:=jE.hd;have o1:=hr.one;have lp:=t3 gp;by_cases ci:i<mo.procs.length
  .refine zY (X4 hE ci g0 gp om o1) ?_
   refine a9y (A:=[(p,[dA,.ag,.ag,.int .i64 (-1)]),(q,[.ag,.ag,.ag,.int .i64 0])]) (B:=[]) hr (sU jE) rfl (a4M _) dJ qJ ?_;rintro s3 yh tS l3 u3;have gp:=tS.hd;refine zY (aN hE gp) ?_;refine⟨ci,_,_,by rw[<- c7B];exact yh,Hp.set (A:=[]) tS _,by simp;omega,?_⟩;have f3:Fr [] s s3:=⟨by have:=fr.1;omega,λj hj hn=>by
    have:=fr.1;rw[u3 j oJ λe he hc=>by have:=hw e he;omega,fr.2 j hj hn]⟩
   exact f3.aC _ (.inr oJ)
  .obtain rfl:i=mo.procs.length:=oJ
   refine zY (X4 hE ci g0 gp om o1) ?_;exact⟨_,_,hr,jE,hw,fr⟩
 .rintro f s2 ⟨dA,EA,tR,jE,hwA,je⟩
  refine V9 ?_;refine a1d [0,1,2,3,4,6,12,42] (λf s'=>∃dV EV,Rp dV 1 (a1o mo.eZ) EV/\Hp s' ((p,[dA,dV,.ag,.int .i64 (-1)])::(q,[.ag,.ag,.ag,.int .i64 0])::(EA++EV)) [(s.next,[m.dt,.int .i64 m.g,m.dc,m.dv,m.dp,m.ds,.bool m.b])]/\(∀w∈EA++EV,s.next<=w.1)/\Fr [] s s') ?_ ?_
  .refine W6 [0,1,2,3,4,6,12,42] 0 mo.vars.length (λi f s'=>f 5=.int .i64 (i:Int)/\∃dV EV,Rp dV 1 (a1o (mo.eZ.take i)) EV/\Hp s' ((p,[dA,dV,.ag,.int .i64 (-1)])::(q,[.ag,.ag,.ag,.int .i64 0])::(EA++EV)) [(s.next,[m.dt,.int .i64 m.g,m.dc,m.dv,m.dp,m.ds,.bool m.b])]/\(∀w∈EA++EV,s.next<=w.1)/\Fr [] s s') (.mk rfl) oJ ⟨rfl,.ag,[],.inl ⟨rfl,rfl,rfl⟩,sU jE,sU hwA,je⟩ ?_
   rintro i f s2 hi ⟨hE,dV,EV,hr,jE,hw,fr⟩;have g0:=jE.rh;have gp:=jE.hd;have o1:=hr.one;have o2:=tR.one;have lp:=t3 gp;by_cases ci:i<mo.vars.length
   .refine zY (X0 hE ci g0 gp om o1 o2) ?_
    refine a9y (A:=(p,[dA,dV,.ag,.int .i64 (-1)])::(q,[.ag,.ag,.ag,.int .i64 0])::EA) (B:=[]) hr (sU jE) rfl (a8y _) dJ qJ ?_;rintro s3 yh tS l3 u3;have gp:=tS.hd;refine zY (V4 hE gp o2) ?_;have f3:Fr [] s s3:=⟨by have:=fr.1;omega,λj hj hn=>by
     have:=fr.1;rw[u3 j oJ λe he hc=>by have:=hw e (by simp[he]);omega,fr.2 j hj hn]⟩
    refine⟨ci,_,_,by rw[<- c8s oJ,b8w ci];exact yh,by simpa using Hp.set (A:=[]) tS _,?_,f3.aC _ (.inr oJ)⟩;intro w me;rcases Fm.1 me with h|h
    .exact hw w (by simp[h])
    .simp only[Fu]at h;subst h;have:=fr.1;simp only;omega
   .obtain rfl:i=mo.vars.length:=oJ
    refine zY (X0 hE ci g0 gp om o1 o2) ?_;rw[<- mh,Gf]at hr;exact⟨_,_,hr,jE,hw,fr⟩
  .rintro f s2 ⟨dV,EV,sI,jE,hwV,je⟩
   refine V9 ?_;refine a1d [0,1,2,3,4,5,12,24] (λf s'=>∃dC EC,Rp dC 1 (a4W mo.ae.length) EC/\Hp s' ((p,[dA,dV,dC,.int .i64 (-1)])::(q,[.ag,.ag,.ag,.int .i64 0])::(EA++EV++EC)) [(s.next,[m.dt,.int .i64 m.g,m.dc,m.dv,m.dp,m.ds,.bool m.b])]/\(∀w∈EA++EV++EC,s.next<=w.1)/\Fr [] s s') ?_ ?_
   .refine W6 [0,1,2,3,4,5,12,24] 0 mo.ae.length (λi f s'=>f 6=.int .i64 (i:Int)/\∃dC EC,Rp dC 1 (a4W i) EC/\Hp s' ((p,[dA,dV,dC,.int .i64 (-1)])::(q,[.ag,.ag,.ag,.int .i64 0])::(EA++EV++EC)) [(s.next,[m.dt,.int .i64 m.g,m.dc,m.dv,m.dp,m.ds,.bool m.b])]/\(∀w∈EA++EV++EC,s.next<=w.1)/\Fr [] s s') (.mk rfl) oJ ⟨rfl,.ag,[],.inl ⟨rfl,rfl,rfl⟩,sU jE,sU hwV,je⟩ ?_
    rintro i f s2 hi ⟨hE,dC,EC,hr,jE,hw,fr⟩;have g0:=jE.rh;have gp:=jE.hd;have o1:=hr.one;have o2:=tR.one;have o3:=sI.one;have lp:=t3 gp;by_cases ci:i<mo.ae.length
    .refine zY (U0 hE ci g0 gp om o1 o2 o3) ?_
     refine a9y (A:=(p,[dA,dV,dC,.int .i64 (-1)])::(q,[.ag,.ag,.ag,.int .i64 0])::(EA++EV)) (B:=[]) hr (sU jE) rfl (c8x _) dJ (by simp[a4W];omega) ?_;rintro s3 yh tS l3 u3;have gp:=tS.hd;refine zY (V1 hE gp o2 o3) ?_;have f3:Fr [] s s3:=⟨by have:=fr.1;omega,λj hj hn=>by
      have:=fr.1;rw[u3 j oJ λe he hc=>by have:=hw e (by simp[he]);omega,fr.2 j hj hn]⟩
     refine⟨ci,_,_,by rw[<- c6x];exact yh,by simpa using Hp.set (A:=[]) tS _,?_,f3.aC _ (.inr oJ)⟩;intro w me;rcases Fm.1 me with h|h
     .exact hw w (HP _ h)
     .simp only[Fu]at h;subst h;have:=fr.1;simp only;omega
    .obtain rfl:i=mo.ae.length:=oJ
     refine zY (U0 hE ci g0 gp om o1 o2 o3) ?_;exact⟨_,_,hr,jE,hw,fr⟩
   .rintro f s2 ⟨dC,EC,tM,jE,hwC,je⟩
    have gp:=jE.hd;have gq:=jE.tl.hd;have o1:=tM.one;have o2:=tR.one;have o3:=sI.one;have lq:=t3 gq;have lp:=t3 gp;refine zY (W0 gp gq o1 o2 o3) ?_;refine a1I ⟨⟨dA,dV,dC,EA,EV,EC,rfl,tR,sI,tM,?_,hwC⟩,je.aC _ (.inr oJ)⟩;exact(Hp.set (A:=[]) jE.tl.rt _).tl
variable{x:Int}
theorem b8V{w:Int}(h1:-4294967296<=x)(h2:x<=4294967296)(h3:1<=w)(h4:w<=8):bz U5 34 [.int .i64 x,.int .i64 w] (.int .i64 (W3 x w.toNat)):=a6t (b1z (x:=x) (n:=w) (w:=w.toNat) oJ ⟨oJ,oJ⟩) rfl
theorem c6U(hm:Z4 m mo ps)(ho:Z3 mo)(hf:a0P mo){raw:List Int}(hd:FI d raw)(pt:∀n∈raw,a2C n):Y4 U5 12 [.agg [m.dt,.int .i64 m.g,m.dc,m.dv,m.dp,m.ds,.bool m.b],d] k4.empty λr s=>∃cs st,r=.agg cs/\a4t s cs st/\Fit mo st/\st.hold=-1:=by
 have om:=hm.aw;have kh:=hm.v;have lL:=hm.c;have mY:=ho.np;have lD:=ho.nv;have nN:=ho.nc;have pd:=pz_i hd;refine Y0 (vf:=vf12) rfl ?_;unfold vf12;refine zF ?_;refine zY om ?_;refine a0M (c5K hm ho) bB ?_;rintro r s1 ⟨⟨dA,dV,dC,EA,EV,EC,rfl,tR,sI,tM,hp,hw⟩,fr⟩;have l1:=fr.1;simp only[k4.aj,Y3,Nat.reduceAdd]at l1 hw;have g0:s1.get 0=some (.cells [m.dt,.int .i64 m.g,m.dc,m.dv,m.dp,m.ds,.bool m.b]):=by rw[fr.2 0 (by simp[Y3]) sJ];exact bB
 have g1:s1.get 1=some (.cells [.ag,.ag,.ag,.int .i64 0]):=by rw[fr.2 1 (by simp[Y3]) sJ];exact bB
 have jT:=((hp.addR1 g0 λw h=>by have:=hw w h;omega).addW g1 (λw h=>by have:=hw w h;omega) sJ).dU (.cells [.ag,.ag,.ag,.int .i64 0]) [dA,dV,dC,.int .i64 (-1)];have o1:=tR.one;have o2:=sI.one;have o3:=tM.one;refine zY (V4 o1 o2 o3) ?_;generalize hS:(s1.push (.cells [.ag,.ag,.ag,.int .i64 0])).set s1.next (some (.cells [dA,dV,dC,.int .i64 (-1)]))=s2 at *;generalize s1.next=p at *;clear hp hw g0 g1 hS fr;refine a1d [0,1,2,4,5,8,9,10,11,40,63,80] (λf s'=>f 6=.int .i64 (mo.procs.length:Int)/\∃A EA,A.length=mo.procs.length/\(∀j,j<mo.procs.length->W2 A j<(k7 mo.procs j).ah)/\Rp dA 1 (a0i A) EA/\Hp s' ((p,[dA,dV,dC,.int .i64 (-1)])::(1,[.ag,.ag,.ag,.int .i64 0])::(EA++EV++EC)) [(0,[m.dt,.int .i64 m.g,m.dc,m.dv,m.dp,m.ds,.bool m.b])]) ?_ ?_
 .refine W6 [0,1,2,4,5,8,9,10,11,40,63,80] 0 mo.procs.length (λi f s'=>f 7=.int .i64 (i:Int)/\f 6=.int .i64 (i:Int)/\∃A EA,A.length=mo.procs.length/\(∀j,j<mo.procs.length->W2 A j<(k7 mo.procs j).ah)/\Rp dA 1 (a0i A) EA/\Hp s' ((p,[dA,dV,dC,.int .i64 (-1)])::(1,[.ag,.ag,.ag,.int .i64 0])::(EA++EV++EC)) [(0,[m.dt,.int .i64 m.g,m.dc,m.dv,m.dp,m.ds,.bool m.b])]) (.mk rfl) oJ ⟨rfl,rfl,_,EA,sJ,λj hj=>?_,tR,jT⟩ ?_
  .have:=(ho.pr _ (a1S hj)).inv.two
   rw[a4e (sU hj),JT];omega
  rintro i f s3 hi ⟨Bn,oZ,A,EA,hA,iQ,hr,hp⟩;have g0:=hp.rh;have gp:=hp.hd;have lA:=hr.len;rw[a63,hA]at lA;by_cases ci:i<mo.procs.length
  .obtain⟨a,e1,e2⟩:=b5L hr (by rw[a63];omega)
   rw[a63,hA]at e1;rw[a68]at e2;subst e2;have ga:=hp.tl.tl.hd;have pa:p≠a:=Hp.ne (A:=[]) (B:=[(1,[.ag,.ag,.ag,.int .i64 0])]) (b:=(a,a1f A)) hp;have ky:=(ho.pr _ (a1S ci)).inv.two;have hpl2:=(ho.pr _ (a1S ci)).pl;obtain⟨z,hz,yc⟩:=b2N hd pt (k:=i) (n:=(k7 mo.procs i).ah) oJ oJ oJ;have iA:i<A.length:=oJ;rw[e1]at gp hp hr o1⊢;refine zY (U0 Bn oZ ci g0 gp om o2 (V1 o3 ga yc iA)) ?_;have pX:0<(a0i (A.set i z)).length:=by simp;omega
   have mH:=b7R (a:=a) pX;rw[a63,IT,hA,a68]at mH;refine⟨A.set i z,_,by simp[hA],λj hj=>?_,mH,Hp.set (A:=[(p,_),(1,[.ag,.ag,.ag,.int .i64 0])]) hp (a1f (A.set i z))⟩;rw[b1A iA];split
   .rename_i e;subst e;exact hz
   .exact iQ j hj
  .obtain rfl:i=mo.procs.length:=oJ
   refine zY (U0 Bn oZ ci g0 gp om o1 (V4 o2 o3 lA)) ?_;exact⟨A,EA,hA,iQ,hr,hp⟩
 .rintro f s3 ⟨oZ,A,EA,hA,iQ,tR,hp⟩
  refine zY oZ ?_;refine a1d [0,1,2,4,5,7,9,10,11,18,63,80] (λf s'=>f 6=.int .i64 ((mo.procs.length+mo.vars.length:Nat):Int)/\∃V EV,V.length=mo.vars.length/\(∀j,j<mo.vars.length->W3 (X9 V j) (bh mo.vars j).width.toNat=X9 V j)/\Rp dV 1 (a1o V) EV/\Hp s' ((p,[dA,dV,dC,.int .i64 (-1)])::(1,[.ag,.ag,.ag,.int .i64 0])::(EA++EV++EC)) [(0,[m.dt,.int .i64 m.g,m.dc,m.dv,m.dp,m.ds,.bool m.b])]) ?_ ?_
  .refine W6 [0,1,2,4,5,7,9,10,11,18,63,80] 0 mo.vars.length (λi f s'=>f 8=.int .i64 (i:Int)/\f 6=.int .i64 ((mo.procs.length+i:Nat):Int)/\∃V EV,V.length=mo.vars.length/\(∀j,j<mo.vars.length->W3 (X9 V j) (bh mo.vars j).width.toNat=X9 V j)/\Rp dV 1 (a1o V) EV/\Hp s' ((p,[dA,dV,dC,.int .i64 (-1)])::(1,[.ag,.ag,.ag,.int .i64 0])::(EA++EV++EC)) [(0,[m.dt,.int .i64 m.g,m.dc,m.dv,m.dp,m.ds,.bool m.b])]) (.mk rfl) oJ ⟨rfl,rfl,mo.eZ,EV,by simp[Mo.eZ],λj hj=>?_,sI,hp⟩ ?_
   .rw[b8w hj];exact(hf.vr _ (a4C hj)).2.2
   clear sI hp;rintro i f s4 hi ⟨nM,oZ,V,EV,hV,qL,hr,hp⟩;have g0:=hp.rh;have gp:=hp.hd;have lV:=hr.len;rw[a8X,hV]at lV;by_cases ci:i<mo.vars.length
   .obtain⟨a,e1,e2⟩:=b5L hr (by rw[a8X];omega)
    rw[a8X,hV]at e1;rw[a8v]at e2;subst e2;have nG:Hp s4 ((p,[dA,dV,dC,.int .i64 (-1)])::((1,[.ag,.ag,.ag,.int .i64 0])::EA)++(a,a0w V)::EC) [(0,[m.dt,.int .i64 m.g,m.dc,m.dv,m.dp,m.ds,.bool m.b])]:=sU hp;have ga:=nG.w (a,a0w V) sJ;have pa:p≠a:=Hp.ne (A:=[]) (B:=(1,[.ag,.ag,.ag,.int .i64 0])::EA) (b:=(a,a0w V)) nG;obtain⟨z,hz,yc⟩:=b2N hd pt (k:=mo.procs.length+i) (n:=256) oJ oJ oJ;have yc:bz U5 33 [d,.int .i64 ((mo.procs.length+i:Nat):Int),.int .i64 256] (.int .i64 (z:Int)):=yc;have iV:i<V.length:=oJ;have hw:=hf.vr _ (a4C ci);have th:=b8V (x:=(z:Int)) (w:=(bh mo.vars i).width) oJ oJ hw.1 hw.2.1;rw[e1]at gp hp nG hr o2⊢;refine zY (U0 nM oZ ci g0 gp om o1 (W0 o3 ga yc iV th)) ?_;have pX:0<(a1o (V.set i (W3 (z:Int) (bh mo.vars i).width.toNat))).length:=by simp;omega
    have mH:=b7R (a:=a) pX;rw[a8X,IT,hV,a8v]at mH;refine⟨by rw[Hu],V.set i (W3 (z:Int) (bh mo.vars i).width.toNat),_,by simp[hV],λj hj=>?_,mH,?_⟩
    .rw[b1V iV]
     split
     .rename_i e;subst e;exact b1B oJ
     .exact qL j hj
    .have:=Hp.set (A:=(p,[dA,.arr a 0 mo.vars.length 1,dC,.int .i64 (-1)])::(1,[.ag,.ag,.ag,.int .i64 0])::EA) (B:=EC) nG (a0w (V.set i (W3 (z:Int) (bh mo.vars i).width.toNat)))
     simpa using this
   .obtain rfl:i=mo.vars.length:=oJ
    refine zY (U0 nM oZ ci g0 gp om o1 (V4 o2 o3 lV)) ?_;exact⟨V,EV,hV,qL,hr,hp⟩
  .clear sI hp
   rintro f s4 ⟨oZ,V,EV,hV,qL,sI,hp⟩;refine zY oZ ?_;refine a1d [0,1,2,4,5,7,8,18,40] (λf s'=>∃W st,Hp s' ((p,[dA,dV,dC,.int .i64 (-1)])::(1,[.ag,.ag,.ag,.int .i64 0])::W) [(0,[m.dt,.int .i64 m.g,m.dc,m.dv,m.dp,m.ds,.bool m.b])]/\(∀s,Y2 s W->a4t s [dA,dV,dC,.int .i64 (-1)] st)/\Fit mo st/\st.hold=-1) ?_ ?_;rotate_left
   .rintro f s5 ⟨W,st,hp,hS,hF,hh⟩
    have gp:=hp.hd;have g1:=hp.tl.hd;have l1:=t3 g1;refine zY (W0 gp g1 o1 o2 o3) ?_;refine a1I ⟨_,st,rfl,hS _ ?_,hF,hh⟩;exact(Hp.set (A:=[]) hp.tl [dA,dV,dC,.int .i64 (-1)]).tl.w
   have uR:∀L:List (List Int),L.length=mo.ae.length->(∀j,j<mo.ae.length->((U8 L j).length:Int)<=(U7 mo.ae j).room/\∀n∈U8 L j,W3 n (U7 mo.ae j).width.toNat=n)->Fit mo ⟨A,V,L,-1⟩:=λL hL h=>a15.1 ⟨hA,hV,hL,iQ,qL,λj hj=>(h j hj).1,λj hj=>(h j hj).2,by simp only;omega⟩
   by_cases h0:mo.ae.length=0
   .have g0:=hp.rh
    have gp:=hp.hd;have e1:a4W mo.ae.length=[]:=by rw[h0];rfl
    rw[e1]at tM;have lC:=tM.len;refine W6 [0,1,2,4,5,7,8,18,40] 0 0 (λi f s'=>f 9=.int .i64 (i:Int)/\s'=s4) (.mk rfl) oJ ⟨rfl,rfl⟩ ?_;rintro i f s5 hi ⟨uG,rfl⟩;obtain rfl:i=0:=oJ;refine zY (U0 uG g0 gp om o1 o2 o3 lC) ?_;refine⟨EA++EV++EC,⟨A,V,[],-1⟩,hp,λs hs=>?_,uR [] (by simp[h0]) λj hj=>by omega,rfl⟩;exact a4t.mk (st:=⟨A,V,[],-1⟩) [] (tR.sn λe he=>hs e (by simp[he])) (sI.sn λe he=>hs e (by simp[he])) (tM.sn λe he=>hs e (by simp[he])) (.inl rfl) rfl λj hj=>by simp at hj
   .have lC:=tM.len
    obtain⟨c,e1,e2⟩:=b5L tM (by simp[a4W];omega);rw[c2s]at e2;rw[show(a4W mo.ae.length).length=mo.ae.length by simp[a4W]]at e1 lC;subst e2 e1;clear tM lC;refine W6 [0,1,2,4,5,7,8,18,40] 0 mo.ae.length (λi f s'=>f 9=.int .i64 (i:Int)/\∃(k:Nat)(L:List (List Int))(qs:List D)(ED:Hs),f 6=.int .i64 (k:Int)/\k<=20+4*i/\L.length=mo.ae.length/\qs.length=mo.ae.length/\(∀j,j<mo.ae.length->i<=j->iD qs j=.ag/\U8 L j=[])/\(∀j,j<mo.ae.length->∃E,Rp (iD qs j) 1 (a1o (U8 L j)) E/\∀e∈E,e∈ED)/\(∀j,j<mo.ae.length->((U8 L j).length:Int)<=(U7 mo.ae j).room/\∀n∈U8 L j,W3 n (U7 mo.ae j).width.toNat=n)/\Hp s' ((p,[dA,dV,.arr c 0 mo.ae.length 1,.int .i64 (-1)])::(1,[.ag,.ag,.ag,.int .i64 0])::(EA++EV++(c,qs)::ED)) [(0,[m.dt,.int .i64 m.g,m.dc,m.dv,m.dp,m.ds,.bool m.b])]) (.mk rfl) oJ ⟨rfl,_,List.replicate mo.ae.length [],List.replicate mo.ae.length .ag,[],rfl,oJ,sJ,sJ,λj hj _=>⟨c0M hj,b4a⟩,λj hj=>⟨[],by rw[c0M hj,b4a];exact .inl ⟨rfl,rfl,rfl⟩,sJ⟩,λj hj=>by
     rw[b4a];have:=hf.ch _ (a3S hj);exact⟨by simp;omega,sJ⟩,hp⟩ ?_
    clear hp;rintro i f s5 hi ⟨uG,k,L,qs,ED,oZ,hk,hL,hq,zw,mH,mZ,hp⟩;have g0:=hp.rh;have gp:=hp.hd;have nG:Hp s5 ((p,[dA,dV,.arr c 0 mo.ae.length 1,.int .i64 (-1)])::((1,[.ag,.ag,.ag,.int .i64 0])::(EA++EV))++(c,qs)::ED) [(0,[m.dt,.int .i64 m.g,m.dc,m.dv,m.dp,m.ds,.bool m.b])]:=sU hp;have gc:=nG.w (c,qs) sJ;by_cases ci:i<mo.ae.length
    .have hw:=hf.ch _ (a3S ci)
     have AN:∃r:Nat,(U7 mo.ae i).room=(r:Int):=⟨(U7 mo.ae i).room.toNat,oJ⟩
     obtain⟨r,hr⟩:=AN;obtain⟨z,hz,yc⟩:=b2N hd pt (k:=k) (n:=r+1) oJ oJ oJ;obtain⟨pP,nz⟩:=zw i ci (sm _);refine zY (U0 uG oZ ci g0 gp om o1 (V4 o2 hr yc)) ?_;have iq:i<qs.length:=oJ;have iL:i<L.length:=oJ;refine W6 [0,1,2,4,5,7,8,9,10,18,40,63] 0 z (λj f s'=>f 11=.int .i64 (j:Int)/\f 6=.int .i64 ((k+1+j:Nat):Int)/\∃(l:List Int)(q:D)(E:Hs),l.length=j/\(∀n∈l,W3 n (U7 mo.ae i).width.toNat=n)/\Rp q 1 (a1o l) E/\Hp s' ((p,[dA,dV,.arr c 0 mo.ae.length 1,.int .i64 (-1)])::(1,[.ag,.ag,.ag,.int .i64 0])::(EA++EV++(c,qs.set i q)::(E++ED))) [(0,[m.dt,.int .i64 m.g,m.dc,m.dv,m.dp,m.ds,.bool m.b])]) (.mk rfl) oJ ⟨rfl,rfl,[],.ag,[],rfl,sJ,.inl ⟨rfl,rfl,rfl⟩,?_⟩ ?_
     .have e:qs.set i .ag=qs:=by
       rw[<- pP,b0W iq];simp
      rw[e];exact hp
     rintro j f s6 hj ⟨sE,oZ,l,q,E,hl,lX,ji,hp⟩;clear nG gc;have g0:=hp.rh;have gp:=hp.hd;have nG:Hp s6 ((p,[dA,dV,.arr c 0 mo.ae.length 1,.int .i64 (-1)])::((1,[.ag,.ag,.ag,.int .i64 0])::(EA++EV))++(c,qs.set i q)::(E++ED)) [(0,[m.dt,.int .i64 m.g,m.dc,m.dv,m.dp,m.ds,.bool m.b])]:=sU hp;have gc:=nG.w (c,qs.set i q) sJ;have pc:p≠c:=Hp.ne (A:=[]) (B:=(1,[.ag,.ag,.ag,.int .i64 0])::(EA++EV)) (b:=(c,qs.set i q)) nG;have lp:=t3 gp;have lc:=t3 gc;have oq:=ji.one;by_cases cj:j<z
     .obtain⟨y,hy,Cr⟩:=b2N hd pt (k:=k+1+j) (n:=256) oJ oJ oJ
      have Cr:bz U5 33 [d,.int .i64 ((k+1+j:Nat):Int),.int .i64 256] (.int .i64 (y:Int)):=Cr;have th:=b8V (x:=(y:Int)) (w:=(U7 mo.ae i).width) oJ oJ hw.2.2.1 hw.2.2.2;have iq2:i<(qs.set i q).length:=sU iq;have eq1:(qs.set i q)[i]?=some q:=by simp[iq]
      have eq2:i+1<=qs.length:=oJ;have nE:∀w∈(1,[.ag,.ag,.ag,.int .i64 0])::(EA++EV)++(c,qs.set i q)::(E++ED),w.1≠p:=Hp.neAll nG;have nEp:a1K p (E.map Prod.fst):=Hp.dh λe he=>nE e (by simp[he])
      have nEc:a1K c (E.map Prod.fst):=Hp.dh λe he=>by
       have h1:Hp s6 ((c,qs.set i q)::(E++ED)) [(0,[m.dt,.int .i64 m.g,m.dc,m.dv,m.dp,m.ds,.bool m.b])]:=nG.sub (Jl _ _) λ_ h=>h
       exact h1.neAll e (by simp[he])
      refine zY (U0 uG sE oZ ci cj g0 gp (U0 gc om o1 o2 oq hq eq1 (aN Cr th))) ?_;have jE:Hp s6 (((p,[dA,dV,.arr c 0 mo.ae.length 1,.int .i64 (-1)])::(1,[.ag,.ag,.ag,.int .i64 0])::(EA++EV++[(c,qs.set i q)]))++E++ED) [(0,[m.dt,.int .i64 m.g,m.dc,m.dv,m.dp,m.ds,.bool m.b])]:=sU hp;refine c0a (E:=E) ji jE rfl (a8y _) dJ qJ (zZ (aN nEp nEc)) ?_;rintro s7 Aj qh l7 u7;have gp:=qh.hd;have gc:=qh.w (c,qs.set i q) sJ;simp(disch:=(first|exact Rf.mk rfl|with_reducible assumption|omega|((repeat(first|rw[nP]|rw[nS]|rw[Y3]))<;>omega)|decide)) only[go_sem,↓reduceIte,uG,sE,oZ,ci,cj,gp,gc,hq,IT,a8H,List.set_set];refine⟨by rw[Hu],l++[W3 (y:Int) (U7 mo.ae i).width.toNat],_,_,by simp[hl],λn hn=>?_,by simpa[a1o]using Aj,?_⟩
      .rcases Fm.1 hn with h|h
       .exact lX n h
       .simp only[Fu]at h;subst h;exact b1B oJ
      .have h7:Hp s7 (((p,[dA,dV,.arr c 0 mo.ae.length 1,.int .i64 (-1)])::(1,[.ag,.ag,.ag,.int .i64 0])::(EA++EV))++(c,qs.set i q)::((s6.next+1,(a1o l++[[D.int IntKind.i64 (W3 (y:Int) (U7 mo.ae i).width.toNat)]]).flatten)::ED)) [(0,[m.dt,.int .i64 m.g,m.dc,m.dv,m.dp,m.ds,.bool m.b])]:=by simpa using qh
       have:=h7.set (qs.set i (.arr (s6.next+1) 0 (l.length+1) 1));simpa[a1o]using this
     .obtain rfl:j=z:=oJ
      refine zY (W0 uG sE oZ ci cj) ?_;refine⟨_,L.set i l,qs.set i q,E++ED,rfl,oJ,by simp[hL],by simp[hq],λb hb Ap=>?_,λb hb=>?_,λb hb=>?_,hp⟩
      .rw[b5A iq,a4R iL,so oJ,so oJ]
       exact zw b hb oJ
      .rw[b5A iq,a4R iL]
       by_cases rH:b=i
       .rw[Fk rH,Fk rH]
        exact⟨E,ji,λe he=>by simp[he]⟩
       .rw[so rH,so rH]
        obtain⟨E2,h1,h2⟩:=mH b hb;exact⟨E2,h1,λe he=>by simp[h2 e he]⟩
      .rw[a4R iL]
       by_cases rH:b=i
       .rw[Fk rH]
        subst rH;exact⟨oJ,lX⟩
       .rw[so rH]
        exact mZ b hb
    .obtain rfl:i=mo.ae.length:=oJ
     refine zY (U0 uG oZ ci g0 gp om o1 o2) ?_;refine⟨EA++EV++(c,qs)::ED,⟨A,V,L,-1⟩,hp,λs hs=>?_,uR L hL mZ,rfl⟩;refine a4t.mk (st:=⟨A,V,L,-1⟩) qs (tR.sn λe he=>hs e (by simp[he])) (sI.sn λe he=>hs e (by simp[he])) (.inr (.inl ⟨c,by simp[hq],?_⟩)) (.inr ⟨c,by simp[hq]⟩) (by simp[hq,hL]) λj hj=>?_
     .rw[b2B];exact hs (c,qs) sJ
     .obtain⟨E,h1,h2⟩:=mH j oJ
      exact h1.chr λe he=>hs e (by simp[h2 e he])
variable{w:Nat}
theorem b2i(h:w<=16):(2:Int)^w<=65536/\(1:Int)<=2^w:=by
 have h1:2^w<=2^16:=HQ oJ h;have h2:0<2^w:=Nat.two_pow_pos w;have:=c4V w;omega
theorem b5t{k:IntKind}(h:w<=16):a48 .shl .i64 1 (w:Int)=some (.int .i64 (2^w)):=by
 have:=b2i h;unfold a48;rw[so oJ];simp only[an];rw[show min w IntKind.i64.bits=w by rw[show IntKind.i64.bits=64 from rfl];omega,Int.one_mul,Z9 oJ oJ]
variable{n:Int}
theorem b1H:bz U5 32 [.int .i64 n] (.int .i64 (wid n:Int)):=by
 refine a0l ?_;refine a0A (vf:=vf32) rfl ?_;unfold vf32;refine zF ?_;refine V9 ?_;refine W6 [0,2] 0 15 (λi f s=>f 3=.int .i64 ((i+1:Nat):Int)/\a44 n (15-i) (i+1)=wid n) (.mk rfl) oJ ⟨rfl,rfl⟩ ?_;rintro i f s hi ⟨hE,hw⟩;have hs:=b5t (w:=i+1) (k:=.u64) oJ;have hu:IntKind.u64.wrap ((i+1:Nat):Int)=((i+1:Nat):Int):=by
  rw[IL];omega
 have wX:(((i+1:Nat):Int)<16)=(i<15):=by apply propext;omega
 by_cases ci:i<15
 .have e:15-i=(15-(i+1))+1:=oJ
  rw[e,a44]at hw;by_cases cn:(2:Int)^(i+1)<n
  .rw[Fk ⟨oJ,cn⟩]at hw
   refine zY (X4 hE hs hu wX ci cn) ?_;exact hw
  .rw[so oJ]at hw
   refine zY (X4 hE hs hu wX ci cn) ?_;exact hw
 .obtain rfl:i=15:=oJ
  have hw:15+1=wid n:=hw;refine zY (W0 hE hs hu wX ci) ?_;rw[<- hw];rfl
theorem b6W(hn:a2C n):bz U5 11 [.int .i64 n] (.int .i64 (wid n:Int)):=by
 refine a0l ?_;refine a0A (vf:=vf11) rfl ?_;unfold vf11;refine zF ?_;refine V9 ?_;refine W6 [0,2] 0 15 (λi f s=>f 3=.int .i64 ((i+1:Nat):Int)/\f 4=.int .i64 (2^(i+1))/\a44 n (15-i) (i+1)=wid n) (.mk rfl) oJ ⟨rfl,rfl,rfl⟩ ?_;rintro i f s hi ⟨hE,AW,hw⟩;have wX:(((i+1:Nat):Int)<16)=(i<15):=by apply propext;omega
 have hp:=b2i (w:=i+1) oJ;have hm:IntKind.i64.wrap ((2:Int)^(i+1)*2)=2^(i+1+1):=by rw[Z9 oJ oJ,IX 2 (i+1)]
 by_cases cn:(2:Int)^(i+1)<n
 .by_cases ci:i<15
  .have e:15-i=(15-(i+1))+1:=oJ
   rw[e,a44,Fk ⟨oJ,cn⟩]at hw;refine zY (X4 hE AW hm wX ci cn) ?_;exact hw
  .obtain rfl:i=15:=oJ
   have hw:15+1=wid n:=hw;refine zY (X4 hE AW hm wX ci cn) ?_;rw[<- hw];rfl
 .have hw:i+1=wid n:=by
   by_cases ci:i<15
   .have e:15-i=(15-(i+1))+1:=oJ
    rw[e,a44,so oJ]at hw;exact hw
   .obtain rfl:i=15:=oJ
    exact hw
  refine zY (W0 hE AW hm wX cn) ?_;exact hw
theorem b7P(h1:1<=n)(h2:n<=16):bz U5 118 [.int .i64 n] (.int .i64 n):=by
 have e1:max n 1=n:=oJ;have e2:min n 16=n:=oJ;refine a0l ?_;refine a0A (vf:=a9V) rfl ?_;unfold a9V;refine zF ?_;exact zZ (aN e1 e2)
theorem c5Y(hx:a2C x)(h1:1<=w)(h2:w<=16):bz U5 148 [.int .i64 x,.int .i64 (w:Int)] (.int .i64 (W3 x w)):=by
 have hb:=b7P (n:=(w:Int)) oJ oJ;have s1:=b5t (w:=w) (k:=.i64) h2;have s2:=b5t (w:=w-1) (k:=.i64) oJ;have p1:=b2i h2;have p2:=b2i (w:=w-1) oJ;have ew:IntKind.i64.wrap ((w:Int)-1)=((w-1:Nat):Int):=by rw[Z9 oJ oJ];omega
 have e1:IntKind.i64.wrap ((2:Int)^w-1)=2^w-1:=Z9 oJ oJ;have hm:=c3Z (n:=x) h2;have h3:=Is x (b:=2^w) oJ;have h4:=Iu x (a6b w);have e2:IntKind.i64.wrap (x%2^w-2^w)=x%2^w-2^w:=Z9 oJ oJ;refine a0l ?_;refine a0A (vf:=b6m) rfl ?_;unfold b6m;refine zF ?_;by_cases hc:2^(w-1)<=x%2^w
 .rw[b3u h1,Fk hc]
  exact zZ (U0 hb s1 s2 ew e1 hm hc e2)
 .rw[b3u h1,so hc]
  exact zZ (X0 hb s1 s2 ew e1 hm hc)
theorem c14(hx:a2C x)(h1:1<=w)(h2:w<=16):bz U5 115 [.int .i64 x,.int .i64 (w:Int)] (.bool (decide (W3 x w=x))):=by
 have ht:=c5Y hx h1 h2;refine a0l ?_;refine a0A (vf:=b4b) rfl ?_;unfold b4b;refine zF ?_;exact zZ ht
theorem c6J(hx:-65536<=x/\x<=65536)(hw:w<=16):a5u U5 48 [.int .i64 x,.int .i64 (w:Int)] λd=>FL 1 d (a0o (bL x w)):=by
 refine a5n (vf:=vf48) rfl ?_;unfold vf48;refine zF ?_;refine V9 ?_;refine W6 [1,4] 0 w (λi f s=>f 6=.int .i64 (i:Int)/\f 0=.int .i64 (x/2^i)/\∃E,ft k4.empty s [] [] [] [] (f 5) (bL x i) E) (.mk rfl) oJ ⟨rfl,by rw[Int.pow_zero,Int.ediv_one];rfl,[],⟨.inl ⟨rfl,rfl,rfl⟩,⟨Hk,sJ,by simp[Y2],by simp[Y2]⟩,Fr.refl _ _,sJ⟩⟩ ?_;rintro i f s hi ⟨hE,yR,E,hg⟩;have on:=hg.rp.one;have hd:=c2b hx i;by_cases ci:i<w
 .have hs:=c3X (x/2^i)
  have hb:W1 x i=decide (x/2^i%2=1):=rfl;have nC:=b9k x i;generalize x/2^i=n at *;rcases hs with⟨a1,a2,a3⟩|⟨a1,a2,a3⟩|⟨a1,a2,a3⟩
  .have hb:W1 x i=false:=by rw[hb];simp;omega
   have e1:IntKind.i64.wrap (n/2)=n/2:=Z9 oJ oJ;refine zY (V1 hE yR ci a1) ?_;refine b2S (b:=false) hg qJ ?_;intro d' s' E' hg';refine zY (X4 hE yR ci a1 a3 e1) ?_;exact⟨nC.symm,E',by rw[a9o,hb];exact hg'⟩
  .have hb:W1 x i=true:=by rw[hb];simp;omega
   have e1:IntKind.i64.wrap (n/2)=n/2:=Z9 oJ oJ;refine zY (V1 hE yR ci a1) ?_;refine b2S (b:=true) hg qJ ?_;intro d' s' E' hg';refine zY (X4 hE yR ci a1 a3 e1) ?_;exact⟨nC.symm,E',by rw[a9o,hb];exact hg'⟩
  .have hb:W1 x i=true:=by rw[hb];simp;omega
   have e1:IntKind.i64.wrap (n/2)=n/2:=Z9 oJ oJ;have e2:IntKind.i64.wrap (n-1)=n-1:=Z9 oJ oJ;refine zY (V1 hE yR ci a1) ?_;refine b2S (b:=true) hg qJ ?_;intro d' s' E' hg';refine zY (X0 hE yR ci a1 a3 e1 e2) ?_;exact⟨nC.symm,E',by rw[a9o,hb];exact hg'⟩
 .obtain rfl:i=w:=oJ
  obtain⟨d',h1,h2⟩:=hg.dI;refine zY (V4 hE ci h1) ?_;exact⟨_,rfl,h2⟩
theorem b8r{i:Nat}(h:i<=16):a48 .shr .i64 x (i:Int)=some (.int .i64 (x/2^i)):=by
 have p:=a6b i;unfold a48;rw[so oJ];simp only[an];rw[show min i IntKind.i64.bits=i by rw[show IntKind.i64.bits=64 from rfl];omega,Jf _ oJ]
theorem b5w{l:List Bool}{A B R E:Hs}{n:Nat}(hr:Rp d 1 (a0o l) E)(hp:Hp s (A++E++B) R)(hw:w<=16)(hl:l.length<=100000) :
 Y4 U5 70 [d,.int .i64 (n:Int),.int .i64 (w:Int)] s λr s'=>(∃E',ft s s' (E.map Prod.fst) A B R r (l++bL (n:Int) w) E')/\Fr (E.map Prod.fst) s s':=by
 refine Y0 (vf:=vf70) rfl ?_;unfold vf70;refine zF ?_;refine V9 ?_;refine W6 [1,2,6,8] 0 w (λi f s'=>f 9=.int .i64 (i:Int)/\∃E',ft s s' (E.map Prod.fst) A B R (f 0) (l++bL (n:Int) i) E') (.mk rfl) oJ ⟨rfl,E,by rw[show bL (n:Int) 0=[]from rfl,Fl];exact ft.mk0 hr hp⟩ ?_;rintro i f s1 hi ⟨hE,E1,hg⟩;have on:=hg.rp.one;by_cases ci:i<w
 .have lH:=b8r (x:=(n:Int)) (i:=i) oJ
  have hu:IntKind.u64.wrap (i:Int)=(i:Int):=by rw[IL];omega
  have ha:=a8m (x:=(n:Int)/2^i);have hb:W1 (n:Int) i=decide ((n:Int)/2^i%2=1):=rfl;refine zY (W0 hE ci lH hu ha) ?_;refine b2S (b:=W1 (n:Int) i) hg qJ ?_;intro d' s' E' hg';refine zY (aN hE ci) ?_;exact⟨E',by rw[a9o,<- Fj];exact hg'⟩
 .obtain rfl:i=w:=oJ
  refine zY (V4 hE ci on) ?_;exact⟨⟨E1,hg⟩,hg.fr⟩
theorem c6W(h1:1<=w)(h2:w<=16):a5u U5 71 [.int .i64 x,.int .i64 (w:Int)] λd=>FL 1 d (a0o (bL x w)):=by
 have hb:=b7P (n:=(w:Int)) oJ oJ;have a2:(1*(w:Int)<=2^47/\(w:Int)<2^62)=True:=FR oJ;have hz:=c65 w;refine a5n (vf:=vf71) rfl ?_;unfold vf71;refine zF ?_;refine zY (V4 hb a2 hz) ?_;refine W6 [0,1,4,5,11] 0 w (λi f s'=>f 12=.int .i64 (i:Int)/\s'.get 0=some (.cells (a57 (upB (bL x i) w)))) (.mk rfl) oJ ⟨rfl,?_⟩ ?_
 .exact W8 rfl
 rintro i f s' hi ⟨hE,hg⟩;by_cases ci:i<w
 .have lH:=b8r (x:=x) (i:=i) oJ
  have ha:=a8m (x:=x/2^i);have rF:=c8p (l:=bL x i) (w:=w) qJ;have iu:i<(upB (bL x i) w).length:=oJ;have hs:=c3x (l:=bL x i) (w:=w) (e:=decide (x/2^i%2=1)) qJ;rw[a1r]at hs;have hl:=t3 hg;refine zY (X0 hE ci lH ha hg rF iu) ?_;rw[hs,a9o];rfl
 .obtain rfl:i=w:=oJ
  rw[c5U (a1r x i)]at hg;refine zY (aN hE ci) ?_;have:SN s' 1 (.arr 0 0 i 1) (a0o (bL x i)):=.inr (.inl ⟨0,sJ,by rw[V.dB];exact hg⟩);exact this.dK (n:=18) (a5b _) (a98 _)
variable{id:Nat}{c:Ch}
theorem c3B(hg:s.get id=some (.cells [.str c.name,.int .i64 c.room,.int .i64 c.width,.bool c.bC,.bool c.aS]))(hn:a2C n)(h1:1<=c.width)(h2:c.width<=8) :
 Y4 U5 116 [.int .i64 n,.ptr id 0] s λr s'=>r=.bool (!decide (W3 n c.width.toNat=n))/\s'=s:=by
 have hb:=c14 (x:=n) (w:=c.width.toNat) hn oJ oJ;rw[Gx oJ]at hb;refine Y0 (vf:=b59) rfl ?_;unfold b59;refine zF ?_;refine zY (aN hg hb) ?_;exact⟨rfl,rfl⟩
theorem c51{l:List Int}(hd:FI d l)(nJ:l.length<=1000)(hg:s.get id=some (.cells [.str c.name,.int .i64 c.room,.int .i64 c.width,.bool c.bC,.bool c.aS]))(hn:∀n∈l,a2C n/\W3 n c.width.toNat=n)(h1:1<=c.width)(h2:c.width<=8) :
 Y4 U5 149 [d,.fn 116 [.ptr id 0]] s λr s'=>r=.int .i64 (-1)/\s'=s:=by
 refine Y0 (vf:=b6E) rfl ?_;unfold b6E;refine zF ?_;refine zY hd ?_;refine W6 [0,1,7] 0 l.length (λi f s'=>f 8=.int .i64 (i:Int)/\s'=s) (.mk rfl) oJ ⟨rfl,rfl⟩ ?_;rintro i f s' hi ⟨hE,rfl⟩;by_cases ci:i<l.length
 .have hw:=hn _ (a7z ci)
  have hc:=c3B hg hw.1 h1 h2;rw[hw.2]at hc;refine zY (V4 hE hd ci) ?_;refine b3d rfl hc rfl ?_;rintro r s2 ⟨rfl,rfl⟩;refine zY (aN hE ci) ?_;trivial
 .refine zY (aN hE ci) ?_
  exact⟨rfl,rfl⟩
theorem c3a{l:List Int}(hd:FI d l)(nJ:l.length<=1000)(hg:s.get id=some (.cells [.str c.name,.int .i64 c.room,.int .i64 c.width,.bool c.bC,.bool c.aS]))(hn:∀n∈l,a2C n/\W3 n c.width.toNat=n)(h1:1<=c.width)(h2:c.width<=8) :
 Y4 U5 117 [d,.fn 116 [.ptr id 0]] s λr s'=>r=.bool false/\s'=s:=by
 have hi:=c51 hd nJ hg hn h1 h2;refine Y0 (vf:=b6k) rfl ?_;unfold b6k;refine zF ?_;refine V9 ?_;refine a0M hi rfl ?_;rintro r s2 ⟨rfl,rfl⟩;refine V9 ?_;exact⟨rfl,rfl⟩
variable{x:bH}
structure b0w(mo:Mo)(x:bH)(st:U6):Prop where
 f:eR x st
 e:fW st
 fit:Fit mo { st with hold:=-1 }
 hd:a2C st.hold
theorem c83(hm:Z4 m mo ps)(ho:Z3 mo)(hf:a0P mo)(hx:b0w mo x st):bz U5 69 [.agg [m.dt,.int .i64 m.g,m.dc,m.dv,m.dp,m.ds,.bool m.b],.agg [x.da,x.dv,x.dc,.int .i64 st.hold]] (.bool (decide (-1<=st.hold/\st.hold<(mo.procs.length:Int)))):=by
 have om:=hm.aw;have ox:=hx.f.aw;have yM:=hx.f.a;have hxv:=hx.f.v;have zN:=hx.f;have kh:=hm.v;have lL:=hm.c;have ea:st.aF.length=mo.procs.length:=hx.fit.aF;have ev:st.vars.length=mo.vars.length:=hx.fit.vars;have ec:st.ae.length=mo.ae.length:=hx.fit.ae;have mY:=ho.np;have lD:=ho.nv;have nN:=ho.nc;refine a0l ?_;refine a0A (vf:=vf69) rfl ?_;unfold vf69;refine zF ?_;refine zY (W0 om ox ea ev ec) ?_;have g0:((k4.empty.push (.cells [m.dt,.int .i64 m.g,m.dc,m.dv,m.dp,m.ds,.bool m.b])).push (.cells [x.da,x.dv,x.dc,.int .i64 st.hold])).get 0=some (.cells [m.dt,.int .i64 m.g,m.dc,m.dv,m.dp,m.ds,.bool m.b]):=bB;have g1:((k4.empty.push (.cells [m.dt,.int .i64 m.g,m.dc,m.dv,m.dp,m.ds,.bool m.b])).push (.cells [x.da,x.dv,x.dc,.int .i64 st.hold])).get 1=some (.cells [x.da,x.dv,x.dc,.int .i64 st.hold]):=bB;generalize(k4.empty.push (.cells [m.dt,.int .i64 m.g,m.dc,m.dv,m.dp,m.ds,.bool m.b])).push (.cells [x.da,x.dv,x.dc,.int .i64 st.hold])=s0 at *;refine W6 [0,1,2,3,7,8,9,10,11,12,37,39,40,60,61,62,63,75,78,79,80,81,100] 0 mo.procs.length (λi f s=>f 41=.int .i64 (i:Int)/\s=s0) (.mk rfl) oJ ⟨rfl,rfl⟩ ?_;rintro i f s hi ⟨hE,rfl⟩;by_cases ci:i<mo.procs.length
 .have jn:i<st.aF.length:=oJ
  have ky:=hx.fit.pl i jn ci;have e1:¬((W2 st.aF i:Nat):Int)<0:=oJ;have e2:W2 st.aF i<(k7 mo.procs i).ah:=by rw[a4e jn,a12 ci];exact ky
  have e3:¬(k7 mo.procs i).ah<=W2 st.aF i:=oJ;exact zZ (U0 hE ci jn g0 g1 om ox (V4 e1 e2 e3))
 obtain rfl:i=mo.procs.length:=oJ;refine zY (X0 hE ci g0 g1 om ox ev) ?_;refine W6 [0,1,2,3,5,6,9,10,11,12,37,39,40,41,42,57,60,61,78,79,80,81,100] 0 mo.vars.length (λi f s'=>f 62=.int .i64 (i:Int)/\s'=s) (.mk rfl) oJ ⟨rfl,rfl⟩ ?_;clear hi ci hE;rintro i f s hi ⟨hE,rfl⟩;by_cases ci:i<mo.vars.length
 .have jn:i<st.vars.length:=oJ
  have hvr:W3 st.vars[i] mo.vars[i].width.toNat=st.vars[i]:=hx.fit.vr i jn ci;have h8:=hx.e.v _ (a7z jn);unfold I8 at h8;have hw:=hf.vr _ (a4C ci);have hb:=c14 (x:=X9 st.vars i) (w:=(bh mo.vars i).width.toNat) ⟨oJ,oJ⟩ oJ oJ;rw[Gx oJ,show W3 (X9 st.vars i) (bh mo.vars i).width.toNat=X9 st.vars i by rw[a26 jn,a3x ci];exact hvr,FN rfl]at hb;exact zZ (U0 hE ci jn g0 g1 om ox hb)
 obtain rfl:i=mo.vars.length:=oJ;refine zY (X0 hE ci g0 g1 om ox ec) ?_;refine W6 [0,1,2,3,5,6,7,8,37,39,40,41,42,57,60,61,62,63,75,78,79] 0 mo.ae.length (λi f s'=>f 80=.int .i64 (i:Int)/\s'.get 0=some (.cells [m.dt,.int .i64 m.g,m.dc,m.dv,m.dp,m.ds,.bool m.b])/\s'.get 1=some (.cells [x.da,x.dv,x.dc,.int .i64 st.hold])) (.mk rfl) oJ ⟨rfl,g0,g1⟩ ?_;clear hi ci hE g0 g1;rintro i f s hi ⟨hE,g0,g1⟩;have l0:=t3 g0;have l1:=t3 g1;by_cases ci:i<mo.ae.length
 .have jn:i<st.ae.length:=oJ
  have kU:=hx.fit.cl i jn ci;have xU:=hx.fit.cv i jn ci;have h8:=hx.e.c _ (a8O jn);have hw:=hf.ch _ (a3S ci);have e1:¬(U7 mo.ae i).room<((U8 st.ae i).length:Int):=by
   have:((U8 st.ae i).length:Int)<=(U7 mo.ae i).room:=by rw[a3X jn,a2W ci];exact kU
   omega
  have hn:∀n∈U8 st.ae i,a2C n/\W3 n (U7 mo.ae i).width.toNat=n:=λn hn=>by
   have:=h8.2 n hn;unfold I8 at this;refine⟨⟨oJ,oJ⟩,?_⟩;rw[a3X jn]at hn;rw[a2W ci];exact xU n hn
  have zg:=λs2 id hg=>c3a (s:=s2) (id:=id) (c:=U7 mo.ae i) (b0e zN jn) oJ hg hn hw.2.2.1 hw.2.2.2
  refine zY (U0 hE ci jn g0 g1 om ox e1) ?_;refine a0M (zg _ s.next (a0b sJ)) rfl ?_;rintro r s2 ⟨rfl,rfl⟩;refine zY (V1 hE ci g0 g1) ?_;trivial
 obtain rfl:i=mo.ae.length:=oJ;have hh:=hx.hd;by_cases c1:-1<=st.hold
 .refine zY (X0 hE ci g0 g1 om ox c1) ?_
  simp
 .refine zY (X0 hE ci g0 g1 om ox c1) ?_
  simp
variable{x:Int}
theorem c1p(hx:-65536<=x/\x<=65536)(hw:w<=16):∃d,bz U5 48 [.int .i64 x,.int .i64 (w:Int)] d/\FL 1 d (a0o (bL x w)):=by
 obtain⟨d,h1,h2⟩:=c6J hx hw;exact⟨d,a0l h1,h2⟩
theorem b0X{w:Int}(hx:-65536<=x/\x<=65536)(h0:0<=w)(hw:w<=16):∃d,bz U5 48 [.int .i64 x,.int .i64 w] d/\FL 1 d (a0o (bL x w.toNat)):=by
 have:=c1p hx (w:=w.toNat) oJ;rwa [Gx h0]at this
theorem bd_q{q v:D}{n i}{af T t rest env s K}(h:bF s.get n q=some v)(hp:∀id,a2l af i id T/\XX U5 af (⟨i,some id,[]⟩::T) rest ((t,v)::env) s K)(hf:XX U5 af T rest ((t,v)::env) s K):BD q n i U5 af T t rest env s K:=by
 cases q
 all_goals first
  |(simp only[BD,h];exact hf)
  |(simp only[BD,h];exact hp _)
  |(simp[bF]at h;done)
variable{s0:k4}
theorem c3K{x:bH}(hm:Z4 m mo ps)(ho:Z3 mo)(hf:a0P mo)(hu:gL s0 x st)(he:fW st)(iQ:Fit mo st):Y4 U5 20 [.agg [m.dt,.int .i64 m.g,m.dc,m.dv,m.dp,m.ds,.bool m.b],.agg [x.da,x.dv,x.dc,.int .i64 st.hold]] s0 λr s=>∃E R,dN s0 s R r (mo.pack st) E:=by
 have om:=hm.aw;have ox:=hu.aw;have xl:=hu.lens;have kh:=hm.v;have lL:=hm.c;have ea:st.aF.length=mo.procs.length:=iQ.aF;have ev:st.vars.length=mo.vars.length:=iQ.vars;have ec:st.ae.length=mo.ae.length:=iQ.ae;have mY:=ho.np;have lD:=ho.nv;have nN:=ho.nc;have hhd:=iQ.hold;refine Y0 (vf:=vf20) rfl ?_;unfold vf20;refine zF ?_;refine zY (aN om ox) ?_;have jV:Y2 ((s0.push (.cells [m.dt,.int .i64 m.g,m.dc,m.dv,m.dp,m.ds,.bool m.b])).push (.cells [x.da,x.dv,x.dc,.int .i64 st.hold])) [(s0.next,[m.dt,.int .i64 m.g,m.dc,m.dv,m.dp,m.ds,.bool m.b]),(s0.next+1,[x.da,x.dv,x.dc,.int .i64 st.hold])]:=by
  intro y hy;simp only[Fi,FW,Hg]at hy;rcases hy with rfl|rfl
  .exact bB
  .exact bB
 have wR:=dN.nil (s0:=s0) jV ((Fr.push (ids:=[]) _).trans (Fr.push (ids:=[]) _) sJ);generalize(s0.push (.cells [m.dt,.int .i64 m.g,m.dc,m.dv,m.dp,m.ds,.bool m.b])).push (.cells [x.da,x.dv,x.dc,.int .i64 st.hold])=s1 at *;refine W6 [0,1,2,3,4,7,8,9,10,37,58,77,87] 0 mo.procs.length (λi f s=>f 6=.int .i64 (i:Int)/\∃E,dN s0 s [(s0.next,[m.dt,.int .i64 m.g,m.dc,m.dv,m.dp,m.ds,.bool m.b]),(s0.next+1,[x.da,x.dv,x.dc,.int .i64 st.hold])] (f 5) (mo.pkA st i) E) (.mk rfl) oJ ⟨rfl,[],wR⟩ ?_;rintro i f s hi ⟨hE,E,hg⟩;have g0:=hg.hp.r (s0.next,[m.dt,.int .i64 m.g,m.dc,m.dv,m.dp,m.ds,.bool m.b]) sJ;have g1:=hg.hp.r (s0.next+1,[x.da,x.dv,x.dc,.int .i64 st.hold]) sJ;have on:=hg.rp.one;by_cases ci:i<mo.procs.length
 .have jn:i<st.aF.length:=oJ
  obtain⟨q,q1,q2⟩:=(hu.stay hg.fr).ixA jn;have ky:=iQ.pl i jn ci;have hp4:=(ho.pr _ (a1S ci)).pl;have mI:=a5P ((k7 mo.procs i).ah:Int);have rz:=b6W (n:=((k7 mo.procs i).ah:Int)) ⟨oJ,oJ⟩;have e2:W2 st.aF i<(k7 mo.procs i).ah:=by rw[a4e jn,a12 ci];exact ky
  obtain⟨db,lG,jr⟩:=c1p (x:=(W2 st.aF i:Int)) (w:=wid ((k7 mo.procs i).ah:Int)) ⟨oJ,oJ⟩ mI.2;refine zY (U0 hE ci jn g0 g1 om ox q1) ?_;refine bd_q q2 (λid=>⟨?_,?_⟩) ?_
  .exact⟨λh=>by simp[a1n]at h,trivial⟩
  all_goals
   refine zY (W0 g0 om ox rz lG) ?_;refine c4I hg jr (by have:=(a6C ho hf st i).1;omega) qJ (a61 mI.1) (by simp only[a2b];refine⟨λh=>?_,λh=>?_,?_⟩<;>first|trivial|(refine⟨λh=>?_,trivial⟩;simp[a1n]at h)|simp[a1n]at h) ?_;intro d' s' E' T' hg';refine zY (aN hE ci) ?_;exact⟨E',by rw[b7v ci jn];exact hg'⟩
 obtain rfl:i=mo.procs.length:=oJ;refine zY (X4 hE ci g0 g1 om ox) ?_;have e0:mo.gK st 0=mo.pkA st mo.procs.length:=by unfold Mo.gK;simp[a0X]
 refine W6 [0,1,2,3,4,6,8,9,10,15,58,77,87] 0 mo.vars.length (λi f s=>f 7=.int .i64 (i:Int)/\∃E,dN s0 s [(s0.next,[m.dt,.int .i64 m.g,m.dc,m.dv,m.dp,m.ds,.bool m.b]),(s0.next+1,[x.da,x.dv,x.dc,.int .i64 st.hold])] (f 5) (mo.gK st i) E) (.mk rfl) oJ ⟨rfl,E,by rw[e0];exact hg⟩ ?_;clear hg g0 g1 on ci hE hi e0;rintro i f s hi ⟨hE,E,hg⟩;have g0:=hg.hp.r (s0.next,[m.dt,.int .i64 m.g,m.dc,m.dv,m.dp,m.ds,.bool m.b]) sJ;have g1:=hg.hp.r (s0.next+1,[x.da,x.dv,x.dc,.int .i64 st.hold]) sJ;have on:=hg.rp.one;by_cases ci:i<mo.vars.length
 .have jn:i<st.vars.length:=oJ
  obtain⟨q,q1,q2⟩:=(hu.stay hg.fr).ixV jn;have h8:=he.v _ (a7z jn);unfold I8 at h8;have hw:=hf.vr _ (a4C ci);obtain⟨db,lG,jr⟩:=b0X (x:=X9 st.vars i) (w:=(bh mo.vars i).width) ⟨oJ,oJ⟩ oJ oJ;refine zY (U0 hE ci jn g0 g1 om ox (V4 q1 q2 lG)) ?_;refine a7K hg jr (by have:=(a6C ho hf st i).2.1;omega) qJ (a61 oJ) ?_;intro d' s' E' hg';refine zY (aN hE ci) ?_;exact⟨E',by rw[b7q ci jn];exact hg'⟩
 obtain rfl:i=mo.vars.length:=oJ;refine zY (X4 hE ci g0 g1 om ox) ?_;have e0:mo.fQ st 0=mo.gK st mo.vars.length:=by unfold Mo.fQ;simp[a0X]
 refine W6 [0,1,2,3,4,6,7,15,37] 0 mo.ae.length (λi f s=>f 8=.int .i64 (i:Int)/\∃E,dN s0 s [(s0.next,[m.dt,.int .i64 m.g,m.dc,m.dv,m.dp,m.ds,.bool m.b]),(s0.next+1,[x.da,x.dv,x.dc,.int .i64 st.hold])] (f 5) (mo.fQ st i) E) (.mk rfl) oJ ⟨rfl,E,by rw[e0];exact hg⟩ ?_;clear hg g0 g1 on ci hE hi e0;rintro i f s hi ⟨hE,E,hg⟩;have g0:=hg.hp.r (s0.next,[m.dt,.int .i64 m.g,m.dc,m.dv,m.dp,m.ds,.bool m.b]) sJ;have g1:=hg.hp.r (s0.next+1,[x.da,x.dv,x.dc,.int .i64 st.hold]) sJ;have on:=hg.rp.one;by_cases ci:i<mo.ae.length
 rotate_left
 .obtain rfl:i=mo.ae.length:=oJ
  obtain⟨db,lG,jr⟩:=b0X (x:=st.hold+1) (w:=3) ⟨oJ,oJ⟩ oJ oJ;have e1:IntKind.i64.wrap (st.hold+1)=st.hold+1:=Z9 oJ oJ;refine zY (U0 hE ci g0 g1 om ox e1 lG) ?_;refine a7K hg jr (by have:=(a6C ho hf st mo.ae.length).2.2;omega) sJ (a61 dJ) ?_;intro d' s' E' hg';have on':=hg'.rp.one;refine V9 ?_;rw[show(3:Int).toNat=3 from rfl,b8C ea ev ec]at hg';exact⟨E',_,hg'⟩
 have jn:i<st.ae.length:=oJ;obtain⟨qp,q,q1,q2,hc⟩:=(hu.stay hg.fr).ixC jn;have ql:=hc.len;have qo:=hc.one;have h8:=he.c _ (a8O jn);have hw:=hf.ch _ (a3S ci);obtain⟨db,lG,jr⟩:=b0X (x:=((U8 st.ae i).length:Int)) (w:=2) ⟨oJ,oJ⟩ oJ oJ;refine zY (U0 hE ci jn g0 g1 om ox (W0 q1 q2 ql qo lG)) ?_;refine a7K hg jr (by have:=(a6C ho hf st i).2.2;omega) sJ (a61 dJ) ?_;intro d' s' E' hg';refine zY hE ?_;have za:∀k,k<=(U7 mo.ae i).room.toNat->(mo.fQ st i++bL ((U8 st.ae i).length:Int) 2++a1T (U7 mo.ae i).width.toNat (U8 st.ae i) k).length<=2000:=λk hk=>by
  have h1:=(a6C ho hf st i).2.2;have h2:k*(U7 mo.ae i).width.toNat<=3*8:=GI oJ oJ;simp only[Fq,a1r,a9D];omega
 refine W6 [0,1,2,3,4,6,7,8,15,37,58] 0 (U7 mo.ae i).room.toNat (λk f s=>f 9=.int .i64 (k:Int)/\∃E,dN s0 s [(s0.next,[m.dt,.int .i64 m.g,m.dc,m.dv,m.dp,m.ds,.bool m.b]),(s0.next+1,[x.da,x.dv,x.dc,.int .i64 st.hold])] (f 5) (mo.fQ st i++bL ((U8 st.ae i).length:Int) 2++a1T (U7 mo.ae i).width.toNat (U8 st.ae i) k) E) (.mk rfl) oJ ⟨rfl,E',by rw[show a1T (U7 mo.ae i).width.toNat (U8 st.ae i) 0=[]from rfl,Fl];exact hg'⟩ ?_;clear hg' hg g0 g1 on lG jr q1 q2 ql qo hc;rintro k f s hk ⟨hE,E,hg⟩;have g0:=hg.hp.r (s0.next,[m.dt,.int .i64 m.g,m.dc,m.dv,m.dp,m.ds,.bool m.b]) sJ;have g1:=hg.hp.r (s0.next+1,[x.da,x.dv,x.dc,.int .i64 st.hold]) sJ;have on:=hg.rp.one;have za:=za k hk;have er:((k:Int)<(U7 mo.ae i).room)=(k<(U7 mo.ae i).room.toNat):=by apply propext;omega
 by_cases ck:k<(U7 mo.ae i).room.toNat
 rotate_left
 .obtain rfl:k=(U7 mo.ae i).room.toNat:=oJ
  refine zY (U0 hE ci jn g0 g1 om ox (aN er ck)) ?_;exact⟨E,by rw[b7r ci jn];exact hg⟩
 obtain⟨qp,q,q1,q2,hc⟩:=(hu.stay hg.fr).ixC jn;have ql:=hc.len;have qo:=hc.one;by_cases cl:k<(U8 st.ae i).length
 .have h8k:=h8.2 _ (a7z cl)
  unfold I8 at h8k;obtain⟨r,r1,r2⟩:=hc.ix cl;obtain⟨db,lG,jr⟩:=b0X (x:=X9 (U8 st.ae i) k) (w:=(U7 mo.ae i).width) ⟨oJ,oJ⟩ oJ oJ;refine zY (U0 hE ci jn g0 g1 om ox (U0 er ck cl q1 q2 ql qo (V4 r1 r2 lG))) ?_;refine a7K hg jr oJ qJ (a61 oJ) ?_;intro d' s' E' hg';refine zY (aN hE ck) ?_;exact⟨E',by rw[b1S,<- Fj];exact hg'⟩
 .obtain⟨db,lG,jr⟩:=b0X (x:=0) (w:=(U7 mo.ae i).width) ⟨oJ,oJ⟩ oJ oJ
  refine zY (U0 hE ci jn g0 g1 om ox (U0 er ck cl q1 q2 ql qo lG)) ?_;refine a7K hg jr oJ qJ (a61 oJ) ?_;intro d' s' E' hg';refine zY (aN hE ck) ?_;exact⟨E',by rw[b1S,b2C cl,<- Fj];exact hg'⟩
theorem b8N{w:Int}(h0:1<=w)(hw:w<=16):∃d,bz U5 71 [.int .i64 x,.int .i64 w] d/\FL 1 d (a0o (bL x w.toNat)):=by
 obtain⟨d,h1,h2⟩:=c6W (x:=x) (w:=w.toNat) oJ oJ;rw[Gx oJ]at h1;exact⟨d,a0l h1,h2⟩
variable{x:bH}
theorem c3w(hm:Z4 m mo ps)(ho:Z3 mo)(hf:a0P mo)(hx:b0w mo x st)(hh:-1<=st.hold/\st.hold<(mo.procs.length:Int)):Y4 U5 35 [.agg [m.dt,.int .i64 m.g,m.dc,m.dv,m.dp,m.ds,.bool m.b],.agg [x.da,x.dv,x.dc,.int .i64 st.hold]] s0 λr s=>∃d E R,r=.aT [d,.bool true]/\dN s0 s R d (mo.pack st) E:=by
 have om:=hm.aw;have ox:=hx.f.aw;have yM:=hx.f.a;have hxv:=hx.f.v;have zN:=hx.f;have kh:=hm.v;have lL:=hm.c;have ea:st.aF.length=mo.procs.length:=hx.fit.aF;have ev:st.vars.length=mo.vars.length:=hx.fit.vars;have ec:st.ae.length=mo.ae.length:=hx.fit.ae;have mY:=ho.np;have lD:=ho.nv;have nN:=ho.nc;have Dm:=c83 hm ho hf hx;rw[FN hh]at Dm;have fm:=a3R hm;have fx:=a6n hx.f;refine Y0 (vf:=vf35) rfl ?_;unfold vf35;refine zF ?_;refine zY (W0 om ox Dm fm fx) ?_;have jV:Y2 ((s0.push (.cells [m.dt,.int .i64 m.g,m.dc,m.dv,m.dp,m.ds,.bool m.b])).push (.cells [x.da,x.dv,x.dc,.int .i64 st.hold])) [(s0.next,[m.dt,.int .i64 m.g,m.dc,m.dv,m.dp,m.ds,.bool m.b]),(s0.next+1,[x.da,x.dv,x.dc,.int .i64 st.hold])]:=by
  intro y hy;simp only[Fi,FW,Hg]at hy;rcases hy with rfl|rfl
  .exact bB
  .exact bB
 have wR:=dN.nil (s0:=s0) jV ((Fr.push (ids:=[]) _).trans (Fr.push (ids:=[]) _) sJ);generalize(s0.push (.cells [m.dt,.int .i64 m.g,m.dc,m.dv,m.dp,m.ds,.bool m.b])).push (.cells [x.da,x.dv,x.dc,.int .i64 st.hold])=s1 at *;refine W6 [0,1,2,3,4,5,9,10,11,12,13,14,18,20,21,39,40,41,42,58,59,60,61,74,75,76,85] 0 mo.procs.length (λi f s=>f 22=.int .i64 (i:Int)/\∃E,dN s0 s [(s0.next,[m.dt,.int .i64 m.g,m.dc,m.dv,m.dp,m.ds,.bool m.b]),(s0.next+1,[x.da,x.dv,x.dc,.int .i64 st.hold])] (f 6) (mo.pkA st i) E) (.mk rfl) oJ ⟨rfl,[],wR⟩ ?_;rintro i f s hi ⟨hE,E,hg⟩;have g0:=hg.hp.r (s0.next,[m.dt,.int .i64 m.g,m.dc,m.dv,m.dp,m.ds,.bool m.b]) sJ;have g1:=hg.hp.r (s0.next+1,[x.da,x.dv,x.dc,.int .i64 st.hold]) sJ;have on:=hg.rp.one;by_cases ci:i<mo.procs.length
 .have jn:i<st.aF.length:=oJ
  have mI:=a5P ((k7 mo.procs i).ah:Int);have rz:=b1H (n:=((k7 mo.procs i).ah:Int));have l0:=t3 g0;have l1:=t3 g1;refine zY (U0 hE ci jn g0 g1 om ox rz) ?_;have qR:=hg.mv (a1Q (z:=.cells [.str (bs []),.int .i64 0,.ag,.int .i64 0,.ag,.ag,.ag,.ag]) (o:=.cells [.str (k7 mo.procs i).name,.int .i64 ((k7 mo.procs i).copy:Int),(V8 ps i).dl,.int .i64 ((k7 mo.procs i).ah:Int),(V8 ps i).dr,(V8 ps i).de,(V8 ps i).dn,(V8 ps i).dv]));have hu:=b5w (A:=[]) (B:=[]) (n:=W2 st.aF i) (w:=wid ((k7 mo.procs i).ah:Int)) qR.rp qR.hp mI.2 (by have:=(a6C ho hf st i).1;omega);refine c26 (E.map Prod.fst) rfl hu rfl ?_ ?_
  .intro e he hpr id jb
   simp only[Fi,FW,Hg]at he;rw[k4.au,k4.aj];rcases he with rfl|rfl<;>simp only[Gn]at jb<;>subst jb
   .exact⟨oJ,λh=>by have:=hg.lt h;omega⟩
   .exact⟨oJ,hg.apart (r:=(s0.next+1,[x.da,x.dv,x.dc,.int .i64 st.hold])) sJ⟩
  rintro d s3 ⟨E3,og⟩ iY;have og:=og.base qR;refine zY (aN hE ci) ?_;exact⟨E3,by rw[b7v ci jn];exact og⟩
 obtain rfl:i=mo.procs.length:=oJ;refine zY (X4 hE ci g0 g1 om ox) ?_;have e0:mo.gK st 0=mo.pkA st mo.procs.length:=by unfold Mo.gK;simp[a0X]
 refine W6 [0,1,2,3,4,5,7,8,11,12,13,14,18,20,21,22,23,39,40,58,59,60,61,74,75,76,85] 0 mo.vars.length (λi f s=>f 41=.int .i64 (i:Int)/\∃E,dN s0 s [(s0.next,[m.dt,.int .i64 m.g,m.dc,m.dv,m.dp,m.ds,.bool m.b]),(s0.next+1,[x.da,x.dv,x.dc,.int .i64 st.hold])] (f 6) (mo.gK st i) E) (.mk rfl) oJ ⟨rfl,E,by rw[e0];exact hg⟩ ?_;clear hg g0 g1 on ci hE hi e0;rintro i f s hi ⟨hE,E,hg⟩;have g0:=hg.hp.r (s0.next,[m.dt,.int .i64 m.g,m.dc,m.dv,m.dp,m.ds,.bool m.b]) sJ;have g1:=hg.hp.r (s0.next+1,[x.da,x.dv,x.dc,.int .i64 st.hold]) sJ;have on:=hg.rp.one;by_cases ci:i<mo.vars.length
 .have jn:i<st.vars.length:=oJ
  have hw:=hf.vr _ (a4C ci);have l0:=t3 g0;have l1:=t3 g1;obtain⟨db,lG,jr⟩:=b8N (x:=X9 st.vars i) (w:=(bh mo.vars i).width) hw.1 oJ;have pb:=jr.pz;refine zY (U0 hE ci jn g0 g1 om ox (aN lG pb)) ?_;refine a7K (hg.mv a1Q) jr (by have:=(a6C ho hf st i).2.1;omega) qJ (a61 oJ) ?_;intro d' s' E' hg';refine zY (aN hE ci) ?_;exact⟨E',by rw[b7q ci jn];exact hg'⟩
 obtain rfl:i=mo.vars.length:=oJ;refine zY (X4 hE ci g0 g1 om ox) ?_;have e0:mo.fQ st 0=mo.gK st mo.vars.length:=by unfold Mo.fQ;simp[a0X]
 refine W6 [0,1,2,3,4,5,7,8,9,10,18,20,21,22,23,39,40,41,42,58,59] 0 mo.ae.length (λi f s=>f 60=.int .i64 (i:Int)/\∃E,dN s0 s [(s0.next,[m.dt,.int .i64 m.g,m.dc,m.dv,m.dp,m.ds,.bool m.b]),(s0.next+1,[x.da,x.dv,x.dc,.int .i64 st.hold])] (f 6) (mo.fQ st i) E) (.mk rfl) oJ ⟨rfl,E,by rw[e0];exact hg⟩ ?_;clear hg g0 g1 on ci hE hi e0;rintro i f s hi ⟨hE,E,hg⟩;have g0:=hg.hp.r (s0.next,[m.dt,.int .i64 m.g,m.dc,m.dv,m.dp,m.ds,.bool m.b]) sJ;have g1:=hg.hp.r (s0.next+1,[x.da,x.dv,x.dc,.int .i64 st.hold]) sJ;have on:=hg.rp.one;by_cases ci:i<mo.ae.length
 rotate_left
 .obtain rfl:i=mo.ae.length:=oJ
  have e1:IntKind.i64.wrap (st.hold+1)=(((st.hold+1).toNat:Nat):Int):=by rw[Z9 oJ oJ];omega
  have hu:=b5w (A:=[]) (B:=[]) (n:=(st.hold+1).toNat) (w:=3) hg.rp hg.hp dJ (by have:=(a6C ho hf st mo.ae.length).2.2;omega);rw[Gx (by omega:0<=st.hold+1)]at hu;have e1:IntKind.i64.wrap (st.hold+1)=st.hold+1:=Z9 oJ oJ;refine zY (X0 hE ci g0 g1 om ox e1) ?_;refine a0M hu rfl ?_;rintro d s3 ⟨⟨E3,og⟩,iY⟩;have og:=og.base hg;refine V9 ?_;rw[b8C ea ev ec]at og;exact⟨d,E3,_,rfl,og⟩
 have jn:i<st.ae.length:=oJ;have h8:=hx.e.c _ (a8O jn);have hw:=hf.ch _ (a3S ci);have l0:=t3 g0;have l1:=t3 g1;refine zY (X0 hE ci jn g0 g1 om ox) ?_;have qR:=hg.box (z:=.cells [.str (bs []),.int .i64 0,.int .i64 0,.bool false,.bool false]) (cs:=[.str (U7 mo.ae i).name,.int .i64 (U7 mo.ae i).room,.int .i64 (U7 mo.ae i).width,.bool (U7 mo.ae i).bC,.bool (U7 mo.ae i).aS]);have hu:=b5w (A:=[]) (B:=[]) (n:=(U8 st.ae i).length) (w:=2) qR.rp qR.hp dJ (by have:=(a6C ho hf st i).2.2;omega);refine a0M hu rfl ?_;rintro d s3 ⟨⟨E3,og⟩,iY⟩;have og:=og.base qR;clear hu qR hg on;generalize s.next=b at *;have k0:=og.hp.r (s0.next,[m.dt,.int .i64 m.g,m.dc,m.dv,m.dp,m.ds,.bool m.b]) sJ;have k1:=og.hp.r (s0.next+1,[x.da,x.dv,x.dc,.int .i64 st.hold]) sJ;have kb:=og.hp.r (b,[.str (U7 mo.ae i).name,.int .i64 (U7 mo.ae i).room,.int .i64 (U7 mo.ae i).width,.bool (U7 mo.ae i).bC,.bool (U7 mo.ae i).aS]) sJ;refine zY (V1 k0 k1 kb ox) ?_;have za:∀k,k<=(U7 mo.ae i).room.toNat->(mo.fQ st i++bL ((U8 st.ae i).length:Int) 2++a1T (U7 mo.ae i).width.toNat (U8 st.ae i) k).length<=2000:=λk hk=>by
  have h1:=(a6C ho hf st i).2.2;have h2:k*(U7 mo.ae i).width.toNat<=3*8:=GI oJ oJ;simp only[Fq,a1r,a9D];omega
 have er:(U7 mo.ae i).room=(((U7 mo.ae i).room.toNat:Nat):Int):=oJ;refine W6 [0,1,2,3,4,5,7,8,9,10,11,12,18,20,21,22,23,39,40,41,42,58,59,60,61,74] 0 (U7 mo.ae i).room.toNat (λk f s=>f 75=.int .i64 (k:Int)/\∃E,dN s0 s ((b,[.str (U7 mo.ae i).name,.int .i64 (U7 mo.ae i).room,.int .i64 (U7 mo.ae i).width,.bool (U7 mo.ae i).bC,.bool (U7 mo.ae i).aS])::[(s0.next,[m.dt,.int .i64 m.g,m.dc,m.dv,m.dp,m.ds,.bool m.b]),(s0.next+1,[x.da,x.dv,x.dc,.int .i64 st.hold])]) (f 6) (mo.fQ st i++bL ((U8 st.ae i).length:Int) 2++a1T (U7 mo.ae i).width.toNat (U8 st.ae i) k) E) (.mk rfl) oJ ⟨rfl,E3,by rw[show a1T (U7 mo.ae i).width.toNat (U8 st.ae i) 0=[]from rfl,Fl];exact og⟩ ?_;clear og k0 k1 kb g0 g1;rintro k f s hk ⟨hE,E,hg⟩;have g0:=hg.hp.r (s0.next,[m.dt,.int .i64 m.g,m.dc,m.dv,m.dp,m.ds,.bool m.b]) sJ;have g1:=hg.hp.r (s0.next+1,[x.da,x.dv,x.dc,.int .i64 st.hold]) sJ;have gb:=hg.hp.r (b,[.str (U7 mo.ae i).name,.int .i64 (U7 mo.ae i).room,.int .i64 (U7 mo.ae i).width,.bool (U7 mo.ae i).bC,.bool (U7 mo.ae i).aS]) sJ;have on:=hg.rp.one;have za:=za k hk;have er:((k:Int)<(U7 mo.ae i).room)=(k<(U7 mo.ae i).room.toNat):=by apply propext;omega
 by_cases ck:k<(U7 mo.ae i).room.toNat
 rotate_left
 .obtain rfl:k=(U7 mo.ae i).room.toNat:=oJ
  refine zY (U0 hE ci jn g0 g1 gb om (V4 ox er ck)) ?_;exact⟨E,by rw[b7r ci jn];exact hg.sub sJ⟩
 obtain⟨db,lG,jr⟩:=b8N (x:=X9 (U8 st.ae i) k) (w:=(U7 mo.ae i).width) oJ oJ;have pb:=jr.pz;by_cases cl:k<(U8 st.ae i).length
 .refine zY (U0 hE ci jn g0 g1 gb om (X4 ox er ck cl lG pb)) ?_
  refine a7K hg jr oJ qJ (a61 oJ) ?_;intro d' s' E' hg';refine zY (aN hE ck) ?_;exact⟨E',by rw[b1S,<- Fj];exact hg'⟩
 .rw[b2C cl]at lG
  refine zY (U0 hE ci jn g0 g1 gb om (X4 ox er ck cl lG pb)) ?_;refine a7K hg jr oJ qJ (a61 oJ) ?_;intro d' s' E' hg';refine zY (aN hE ck) ?_;exact⟨E',by rw[b1S,<- Fj];exact hg'⟩
theorem c6t(hm:Z4 m mo ps)(ho:Z3 mo)(hf:a0P mo):bz U5 74 [.agg [m.dt,.int .i64 m.g,m.dc,m.dv,m.dp,m.ds,.bool m.b]] (.int .i64 (mo.cd:Int)):=by
 have om:=hm.aw;have kh:=hm.v;have lL:=hm.c;have mY:=ho.np;have lD:=ho.nv;have nN:=ho.nc;refine a0l ?_;refine a0A (vf:=vf74) rfl ?_;unfold vf74;refine zF ?_;refine zY om ?_;have g0:(k4.empty.push (.cells [m.dt,.int .i64 m.g,m.dc,m.dv,m.dp,m.ds,.bool m.b])).get 0=some (.cells [m.dt,.int .i64 m.g,m.dc,m.dv,m.dp,m.ds,.bool m.b]):=bB;generalize k4.empty.push (.cells [m.dt,.int .i64 m.g,m.dc,m.dv,m.dp,m.ds,.bool m.b])=s0 at *;refine W6 [0,1,2,7,9,11,12,24,25,26,27,36,37,38,39] 0 mo.procs.length (λi f s=>f 13=.int .i64 (i:Int)/\f 3=.int .i64 ((3+cY (λp:Pr=>wid (p.ah:Int)) (mo.procs.take i):Nat):Int)/\s.get 0=some (.cells [m.dt,.int .i64 m.g,m.dc,m.dv,m.dp,m.ds,.bool m.b])) (.mk rfl) oJ ⟨rfl,rfl,g0⟩ ?_;clear g0;rintro i f s hi ⟨hE,pO,g0⟩;have l0:=t3 g0;have hb:=b7a ho i;by_cases ci:i<mo.procs.length
 .have rz:=b1H (n:=((k7 mo.procs i).ah:Int))
  have mI:=a5P ((k7 mo.procs i).ah:Int);have hs:=c6R ci;refine zY (X4 hE pO ci g0 om rz) ?_;rw[hs];omega
 obtain rfl:i=mo.procs.length:=oJ;rw[Gf]at pO hb;refine zY (W0 hE pO ci g0 om) ?_;refine W6 [0,1,2,5,9,11,12,13,14,24,25,36,37,38,39] 0 mo.vars.length (λi f s=>f 26=.int .i64 (i:Int)/\f 3=.int .i64 ((3+cY (λp:Pr=>wid (p.ah:Int)) mo.procs+cY (λv:Vr=>v.width.toNat) (mo.vars.take i):Nat):Int)/\s.get 0=some (.cells [m.dt,.int .i64 m.g,m.dc,m.dv,m.dp,m.ds,.bool m.b])) (.mk rfl) oJ ⟨rfl,rfl,g0⟩ ?_;clear g0 ci hE pO hi;rintro i f s hi ⟨hE,pO,g0⟩;have l0:=t3 g0;have hbv:=b9L ho hf i;by_cases ci:i<mo.vars.length
 .have hs:=c4b ci
  have hw:=hf.vr _ (a4C ci);have e1:IntKind.i64.wrap (((3+cY (λp:Pr=>wid (p.ah:Int)) mo.procs+cY (λv:Vr=>v.width.toNat) (mo.vars.take i):Nat):Int)+(bh mo.vars i).width)=((3+cY (λp:Pr=>wid (p.ah:Int)) mo.procs+cY (λv:Vr=>v.width.toNat) (mo.vars.take (i+1)):Nat):Int):=by
   rw[hs,Z9 oJ oJ];omega
  exact zZ (X4 hE pO ci g0 om e1)
 obtain rfl:i=mo.vars.length:=oJ;rw[Gf]at pO hbv;refine zY (W0 hE pO ci g0 om) ?_;refine W6 [0,1,2,5,7,11,12,13,14,24,25,26,27,36,37] 0 mo.ae.length (λi f s=>f 38=.int .i64 (i:Int)/\f 3=.int .i64 ((3+cY (λp:Pr=>wid (p.ah:Int)) mo.procs+cY (λv:Vr=>v.width.toNat) mo.vars+cY (λc:Ch=>2+c.room.toNat*c.width.toNat) (mo.ae.take i):Nat):Int)/\s.get 0=some (.cells [m.dt,.int .i64 m.g,m.dc,m.dv,m.dp,m.ds,.bool m.b])) (.mk rfl) oJ ⟨rfl,rfl,g0⟩ ?_;clear g0 ci hE pO hi;rintro i f s hi ⟨hE,pO,g0⟩;have l0:=t3 g0;have hbc:=c2j ho hf i;by_cases ci:i<mo.ae.length
 .have hs:=c44 ci
  have hw:=hf.ch _ (a3S ci);have hmul:(U7 mo.ae i).room*(U7 mo.ae i).width=(((U7 mo.ae i).room.toNat*(U7 mo.ae i).width.toNat:Nat):Int):=by
   rw[JX,Gx oJ,Gx oJ]
  have uf:(U7 mo.ae i).room.toNat*(U7 mo.ae i).width.toNat<=3*8:=GI oJ oJ;generalize(U7 mo.ae i).room.toNat*(U7 mo.ae i).width.toNat=P at *;have e0:IntKind.i64.wrap ((U7 mo.ae i).room*(U7 mo.ae i).width)=(P:Int):=by rw[hmul,Z9 oJ oJ]
  have e2:IntKind.i64.wrap (2+(P:Int))=((2+P:Nat):Int):=by rw[Z9 oJ oJ];omega
  refine zY (X0 hE pO ci g0 om e0 e2) ?_;rw[hs];omega
 .obtain rfl:i=mo.ae.length:=oJ
  rw[Gf]at pO;refine zY (W0 hE pO ci g0 om) ?_;unfold Mo.cd;omega
theorem b0w.of'(ho:Z3 mo)(hx:a2Z mo x st):b0w mo x st:=by
 have h:=hx.fit;have hn:=ho.np;have hh:=h.hold;exact⟨hx.f,hx.e,⟨h.aF,h.vars,h.ae,h.pl,h.vr,h.cl,h.cv,by simp only;omega⟩,by unfold a2C;omega⟩
theorem c4q(hm:Z4 m mo ps)(ho:Z3 mo)(hf:a0P mo)(hx:a2Z mo x st):∃d,bz U5 35 [.agg [m.dt,.int .i64 m.g,m.dc,m.dv,m.dp,m.ds,.bool m.b],.agg [x.da,x.dv,x.dc,.int .i64 st.hold]] (.aT [d,.bool true])/\FL 1 d (a0o (mo.pack st)):=by
 obtain⟨r,s,h1,d,E,R,rfl,hg⟩:=c3w (s0:=k4.empty) hm ho hf (b0w.of' ho hx) hx.fit.hold;obtain⟨d',h2,h3⟩:=(hg.rp.sn λe he=>hg.hp.w e (by simp[he])).dK (n:=17) (a5b _) (a98 _);refine⟨d',a0l ⟨_,_,h1,?_⟩,h3⟩;have e5:V.aK s.get 19 (.bool true)=some (.bool true):=rfl;show(X8 (V.aK s.get 19) [d,.bool true]).map D.aT=_
 simp only[X8,h2,e5,He]
theorem c3G(hm:Z4 m mo ps)(ho:Z3 mo)(hf:a0P mo)(hx:a2Z mo x st):a5u U5 14 [.agg [m.dt,.int .i64 m.g,m.dc,m.dv,m.dp,m.ds,.bool m.b],.agg [x.da,x.dv,x.dc,.int .i64 st.hold]] λd=>VZ d (mo.pack st):=by
 have om:=hm.aw;have ox:=hx.f.aw;have fm:=a3R hm;have fx:=a6n hx.f;obtain⟨d,hd,hl⟩:=c4q hm ho hf hx;have od:=hl.one;have nF:=b1P ho hf;rw[<- b02 hx.fit]at nF;have jw:a0x false d=some (.int .i64 ((mo.pack st).length:Int)):=by rw[hl.len];simp[a0o]
 generalize mo.pack st=bs at *;have m1:=fu (w:=bs.length) oJ;have m2:=eK (w:=bs.length) oJ;have hz:=a2c bs.length;rw[a3Q (aB bs)]at hz;refine a5n (vf:=vf14) rfl ?_;unfold vf14;refine zF ?_;refine zY (U0 om ox fm fx hd od jw (V4 m1 m2 hz)) ?_;refine W6 [0,1,2,3,4,5,6,7,17,21,22] 0 bs.length (λi f s'=>f 23=.int .i64 (i:Int)/\s'.get 2=some (.cells (U3 (U1 (Y1 (aB bs) i) bs.length)))) (.mk rfl) oJ ⟨rfl,W8 rfl⟩ ?_;rintro i f s2 hi ⟨h,gb⟩;by_cases ci:i<bs.length
 .have hs:=a50 (A:=aB bs) ci
  have hw:=a3d (A:=aB bs) ci;have lb:=t3 gb;have Ap:=ix_bB (k:=.i64) hl ci;cases rH:aB bs i
  .rw[rH]at Ap
   refine zY (V4 h ci Ap) ?_;have e:Y1 (aB bs) (i+1)=Y1 (aB bs) i:=by
    funext j
    unfold Y1;by_cases c:j=i
    .subst c;simp[rH]
    .congr 1;simp only[JH];omega
   rw[e];exact gb
  .rw[rH]at Ap hs
   rw[a3P]at hs;exact zZ (X4 h ci Ap gb hs hw)
 .obtain rfl:i=bs.length:=oJ
  rw[a3w,a5r]at gb;obtain⟨d',h1,h2⟩:=(VB.arr gb rfl).dI;refine zY (aN h ci) ?_;exact⟨d',h1,h2⟩
theorem b8l(hm:Z4 m mo ps)(ho:Z3 mo):bz U5 10 [.agg [m.dt,.int .i64 m.g,m.dc,m.dv,m.dp,m.ds,.bool m.b]] (.int .i64 (wid (mo.allM.length:Int):Int)):=by
 refine a0l ?_;have om:=hm.aw;have fm:=a3R hm;obtain⟨dl,nL,hl⟩:=b4c hm ho;have pD:=a0l nL;have fY:a0x false dl=some (.int .i64 (mo.allM.length:Int)):=by rw[hl.len];simp
 have hw:=b1H (n:=(mo.allM.length:Int));have ol:=hl.one;refine a0A (vf:=vf10) rfl ?_;unfold vf10;refine zF ?_;exact zZ (X4 om fm pD fY hw ol)
theorem c22(hm:Z4 m mo ps)(ho:Z3 mo)(hf:a0P mo)(hg:GB s g){bs:List Bool}(hd:VB s d bs)(hl:bs.length=mo.cd):Y4 U5 39 [.ptr g 0,.agg [m.dt,.int .i64 m.g,m.dc,m.dv,m.dp,m.ds,.bool m.b],d] s λr s'=>r=.bool true/\Fr [] s s':=by
 have om:=hm.aw;have fm:=a3R hm;have nF:=c6t hm ho hf;have od:=hd.one;have jw:=hd.len;rw[hl]at jw;refine Y0 (vf:=vf39) rfl ?_;unfold vf39;refine zF ?_;refine zY (W0 om fm nF od jw) ?_;exact⟨rfl,Fr.push _⟩
theorem view_c(hm:Z4 m mo ps)(ho:Z3 mo)(hf:a0P mo)(iQ:Fit mo st)(gb:s.get b=some (.cells (U3 (mo.pack st)))):Y4 U5 41 [.ptr g 0,.agg [m.dt,.int .i64 m.g,m.dc,m.dv,m.dp,m.ds,.bool m.b],.arr b 0 mo.cd 1] s λr s'=>∃v x,r=.ptr v 0/\Vs s' v g m mo st x/\Fr [] s s':=by
 have nF:=b1P ho hf;have ky:=b02 iQ;refine Y4.mono (c9n (R:=[(b,U3 (mo.pack st))]) (λn=>b1H) hm ho hf iQ oJ (λe he=>?_) ?_) ?_
 .rw[Fu.1 he];exact gb
 .refine .inr (.inr ⟨b,0,U3 (mo.pack st),?_,sJ,sJ,by rw[HJ];exact Gk (sm _)⟩)
  rw[a5p,ky]
 .rintro r s' ⟨v,R',rfl,hR,hw,f⟩
  obtain⟨x,hx⟩:=Vs.of hR hw;exact⟨v,x,rfl,hx,f⟩
end Go.Proofs.YtigbmclkjknnjaaGreat
namespace Go.V
def X6{α:Type}(f:Nat->Nat->α)(k j:Nat)(x:α):Nat->Nat->α:=λk' j'=>if k'=k/\j'=j then x else f k' j'
variable{k j:Nat}
theorem a5l{α:Type}{f:Nat->Nat->α}{x:α}:X6 f k j x k j=x:=by simp[X6]
theorem a3M{α:Type}{f:Nat->Nat->α}{k' j':Nat}{x:α}(h:¬(k'=k/\j'=j)):X6 f k j x k' j'=f k' j':=by simp[X6,h]
def cN(k j:Nat):Nat:=if k=2/\j%2=1 then 1 else 2
variable{n:Nat}
theorem a7H{f:Nat->Nat->D}{x:D}(h:j<n):List.take j ((List.range n).map (f k))++[x]++List.drop (j+1) ((List.range n).map (f k))=(List.range n).map (X6 f k j x k):=by
 rw[Fj,HL];apply HB
 .simp;omega
 grind[X6]
def a4q(K:Nat)(A:Nat->Nat)(E:Nat->Nat->Hs)(x:Nat):Prop:=(∀l,l<K->x≠A l)/\∀k j,∀e∈E k j,e.1≠x
structure cS(K:Nat)(z:Nat->Nat->Nat)(s0 s:k4)(A N:Nat->Nat)(c:Nat->Nat->D)(rw:Nat->Nat->List (List D))(E:Nat->Nat->Hs)(R:Hs)(n:Nat):Prop where
 fr:Fr [] s0 s
 ge:∀k,k<K->s0.next<=A k
 ne:∀k l,k<K->l<K->k≠l->A k≠A l
 ar:∀k,k<K->s.get (A k)=some (.cells ((List.range (N k)).map (c k)))
 rp:∀k j,Rp (c k j) (z k j) (rw k j) (E k j)
 rl:∀k j,∀r∈rw k j,r.length=z k j
 he:∀k j,Y2 s (E k j)
 eg:∀k j,∀e∈E k j,s0.next<=e.1/\∀l,l<K->e.1≠A l
 di:∀k j k' j',¬(k'=k/\j'=j)->∀e∈E k j,∀e'∈E k' j',e.1≠e'.1
 rd:Y2 s R
 rs:∀e∈R,a4q K A E e.1
 ln:∀k j,(rw k j).length<=n
variable{K:Nat}{z:Nat->Nat->Nat}{s0 s s':k4}{A N:Nat->Nat}{c:Nat->Nat->D}{rw:Nat->Nat->List (List D)}{E:Nat->Nat->Hs}{R:Hs}
theorem cS.eN(h:cS K z s0 s A N c rw E R n)(f:Fr [] s s'):cS K z s0 s' A N c rw E R n :=
 ⟨h.fr.trans f sJ,h.ge,h.ne,λk hk=>f.kp (h.ar k hk),h.rp,h.rl,λk j=>(h.he k j).fr f,h.eg,h.di,h.rd.fr f,h.rs,h.ln⟩
theorem cS.up(h:cS K z s0 s A N c rw E R n){n':Nat}(hn:n<=n'):cS K z s0 s A N c rw E R n':=⟨h.fr,h.ge,h.ne,h.ar,h.rp,h.rl,h.he,h.eg,h.di,h.rd,h.rs,λk j=>FE (h.ln k j) hn⟩
theorem cS.one(h:cS K z s0 s A N c rw E R n)(k j:Nat):V5 (c k j)=true:=(h.rp k j).one
theorem cS.ltA(h:cS K z s0 s A N c rw E R n)(hk:k<K):A k<s.next:=t3 (h.ar k hk)
theorem cS.ltE(h:cS K z s0 s A N c rw E R n){e:Nat×List D}(he:e∈E k j):e.1<s.next:=t3 (h.he k j e he)
variable{x:Nat}
theorem cS.new(h:cS K z s0 s A N c rw E R n)(hx:s.next<=x):a4q K A E x :=
 ⟨λl hl e=>by have:=h.ltA hl;omega,λk j e he hc=>by have:=h.ltE he;omega⟩
theorem cS.bO(h:cS K z s0 s A N c rw E R n)(hx:x<s0.next):a4q K A E x :=
 ⟨λl hl e=>by have:=h.ge l hl;omega,λk j e he hc=>by have:=(h.eg k j e he).1;omega⟩
theorem cS.eV(h:cS K z s0 s A N c rw E R n){cs:List D}(hx:s.get x=some (.cells cs))(hf:a4q K A E x):cS K z s0 s A N c rw E ((x,cs)::R) n :=
 ⟨h.fr,h.ge,h.ne,h.ar,h.rp,h.rl,h.he,h.eg,h.di,λe he=>by
  rcases Fi.1 he with rfl|he
  .exact hx
  .exact h.rd e he,λe he=>by
  rcases Fi.1 he with rfl|he
  .exact hf
  .exact h.rs e he,h.ln⟩
theorem a4q.dh{x k j m:Nat}(h:a4q K A E x)(hx:x≠m):a1K x (m::(E k j).map Prod.fst):=⟨hx,Hp.dh λe he=>h.2 k j e he⟩
theorem cS.arN(h:cS K z s0 s A N c rw E R n){k' m:Nat}(hk:k<K)(hx:A k≠m):a1K (A k) (m::(E k' j).map Prod.fst):=⟨hx,Hp.dh λe he=>(h.eg k' j e he).2 k hk⟩
theorem cS.app(h:cS K z s0 s A N c rw E R n){k j sz bytes:Nat}{row:List D}(hk:k<K)(hj:j<N k)(lB:z k j=sz)(hr:row.length=sz)(hb:bytes<=1000)(hn:n<=1000000) :
 ∃s',a0e sz bytes (c k j) (.arr s.next 0 1 sz) (s.push (.cells row))=some (.arr (s.next+1) 0 ((rw k j).length+1) sz,s')/\s.next+1<=s'.next/\(∀id,id∉(s.next+1)::(E k j).map Prod.fst->(s.push (.cells row)).get id=s'.get id) /\
 s'.get (A k)=some (.cells ((List.range (N k)).map (c k)))/\(∀x o,s.get x=some o->a4q K A E x->s'.get x=some o/\(s'.set (A k) (some (.cells ((List.range (N k)).map (X6 c k j (.arr (s.next+1) 0 ((rw k j).length+1) sz) k))))).get x=some o/\a4q K A (X6 E k j [(s.next+1,(rw k j++[row]).flatten)]) x) /\
 cS K z s0 (s'.set (A k) (some (.cells ((List.range (N k)).map (X6 c k j (.arr (s.next+1) 0 ((rw k j).length+1) sz) k))))) A N (X6 c k j (.arr (s.next+1) 0 ((rw k j).length+1) sz)) (X6 rw k j (rw k j++[row])) (X6 E k j [(s.next+1,(rw k j++[row]).flatten)]) R (n+1):=by
 subst lB;have hlen:=h.ln k j;have hp:=h.eN (Fr.push (.cells row));obtain⟨s',h1,h2,h3,h4⟩:=(h.rp k j).exp (bytes:=bytes) (hp.he k j) (W8 (s:=s) rfl) hr (h.rl k j) hb oJ;rw[k4.aj]at h1 h2 h3 h4;have kp:∀x o,s.get x=some o->(∀e∈E k j,e.1≠x)->s'.get x=some o:=λx o hx hn=>by
  grind[t3,a0k]
 have ka:=λl hl=>kp _ _ (h.ar l hl) λe he=>(h.eg k j e he).2 l hl
 have la:=t3 (ka k hk);have lA:∀l,l<K->A l<s.next:=λl hl=>h.ltA hl
 have xW:∀x,x<s.next->a4q K A E x->a4q K A (X6 E k j [(s.next+1,(rw k j++[row]).flatten)]) x:=λx hx hf=>⟨hf.1,λk' j' e he=>by
  by_cases q:k'=k/\j'=j
  .rw[q.1,q.2,a5l,Fu]at he
   rw[he];simp only;omega
  .rw[a3M q]at he
   exact hf.2 k' j' e he⟩
 have ks:∀x o v,s.get x=some o->(∀e∈E k j,e.1≠x)->x≠A k->(s'.set (A k) v).get x=some o:=λx o v hx hn jt=>by
  grind[Y8]
 refine⟨s',h1,oJ,λid jb=>?_,ka k hk,λx o hx hf=>⟨kp x o hx (hf.2 k j),ks x o _ hx (hf.2 k j) (hf.1 k hk),xW x (t3 hx) hf⟩,⟨?_,h.ge,h.ne,?_,?_,?_,?_,?_,?_,?_,?_,?_⟩⟩
 .grind
 .refine Fr.st ⟨by have:=h.fr.1;omega,λid jb _=>?_⟩ (h.ge k hk) _
  have:=h.fr.1;rw[h4 id oJ λe he hc=>by have:=(h.eg k j e he).1;omega,a0k oJ,h.fr.2 id jb sJ]
 .intro l hl
  by_cases q:l=k
  .grind[a0b]
  .rw[Y8 (h.ne l k hl hk q),ka l hl]
   simp_all[a3M]
 .intro k' j'
  by_cases q:k'=k/\j'=j
  .rw[q.1,q.2,a5l,a5l,a5l]
   exact .inr ⟨s.next+1,sJ,sJ,sJ⟩
  .rw[a3M q,a3M q,a3M q]
   exact h.rp k' j'
 .intro k' j'
  by_cases q:k'=k/\j'=j
  .rw[q.1,q.2,a5l]
   intro r kY;rcases Fm.1 kY with kY|kY
   .exact h.rl k j r kY
   grind
  .rw[a3M q]
   exact h.rl k' j'
 .intro k' j'
  by_cases q:k'=k/\j'=j
  .rw[q.1,q.2,a5l]
   intro e he;rw[Fu.1 he];grind[Y8]
  .rw[a3M q]
   intro e he;exact ks e.1 _ _ (h.he k' j' e he) (λe' he' hc=>h.di k j k' j' q e' he' e he hc) ((h.eg k' j' e he).2 k hk)
 .intro k' j' e he
  by_cases q:k'=k/\j'=j
  .rw[q.1,q.2,a5l,Fu]at he
   rw[he];exact⟨by have:=h.fr.1;simp only;omega,λl hl=>by grind⟩
  .rw[a3M q]at he
   exact h.eg k' j' e he
 .intro k1 j1 k2 j2 jt e1 he1 e2 he2
  by_cases q1:k1=k/\j1=j
  .rw[q1.1,q1.2,a5l,Fu]at he1
   rw[a3M λq=>jt ⟨q.1.trans q1.1.symm,q.2.trans q1.2.symm⟩]at he2;have:=h.ltE he2;rw[he1];simp only;omega
  .rw[a3M q1]at he1
   by_cases q2:k2=k/\j2=j
   .rw[q2.1,q2.2,a5l,Fu]at he2
    have:=h.ltE he1;rw[he2];simp only;omega
   .rw[a3M q2]at he2
    exact h.di k1 j1 k2 j2 jt e1 he1 e2 he2
 .intro e he
  exact ks e.1 _ _ (h.rd e he) (λe' he'=>(h.rs e he).2 k j e' he') ((h.rs e he).1 k hk)
 .intro e he
  exact xW e.1 (t3 (h.rd e he)) (h.rs e he)
 .intro k' j'
  by_cases q:k'=k/\j'=j
  .grind[a5l]
  .rw[a3M q]
   have:=h.ln k' j';omega
variable{fs:FuncId->Option U4}{KK:Kt}
theorem b51{t rest env}{k j sz bytes:Nat}{row:List D}(h:cS K z s0 s A N c rw E R n)(hk:k<K)(hj:j<N k)(lB:z k j=sz)(hr:row.length=sz)(hb:bytes<=1000)(hn:n<=1000000)
 (kk:∀s' d' E',V5 d'=true->s'.get (A k)=some (.cells ((List.range (N k)).map (c k)))->(∀x o,s.get x=some o->a4q K A E x->s'.get x=some o/\(s'.set (A k) (some (.cells ((List.range (N k)).map (X6 c k j d' k))))).get x=some o/\a4q K A E' x) ->
  cS K z s0 (s'.set (A k) (some (.cells ((List.range (N k)).map (X6 c k j d' k))))) A N (X6 c k j d') (X6 rw k j (rw k j++[row])) E' R (n+1)->XQ fs [] rest ((t,d')::env) s' KK):BM (a0e sz bytes (c k j) (.arr s.next 0 1 sz) (s.push (.cells row))) fs t rest env KK:=by
 obtain⟨s',h1,_,_,h4,h5,h6⟩:=h.app (bytes:=bytes) hk hj lB hr hb hn;rw[h1];exact kk s' _ _ rfl h4 h5 h6
theorem b0C{af T i t rest env}{k j sz bytes:Nat}{row:List D}(h:cS K z s0 s A N c rw E R n)(hk:k<K)(hj:j<N k)(lB:z k j=sz)(hr:row.length=sz)(hb:bytes<=1000)(hn:n<=1000000)(he:a2b af i ((s.next+1)::(E k j).map Prod.fst) T)
 (kk:∀s' d' E',V5 d'=true->s'.get (A k)=some (.cells ((List.range (N k)).map (c k)))->(∀x o,s.get x=some o->a4q K A E x->s'.get x=some o/\(s'.set (A k) (some (.cells ((List.range (N k)).map (X6 c k j d' k))))).get x=some o/\a4q K A E' x) ->
  cS K z s0 (s'.set (A k) (some (.cells ((List.range (N k)).map (X6 c k j d' k))))) A N (X6 c k j d') (X6 rw k j (rw k j++[row])) E' R (n+1)->a1K (A k) ((s.next+1)::(E k j).map Prod.fst)->XX fs af (⟨i,none,(s.next+1)::(E k j).map Prod.fst⟩::T) rest ((t,d')::env) s' KK):MX (c k j) (.arr s.next 0 1 sz) sz bytes i fs af T t rest env (s.push (.cells row)) KK:=by
 obtain⟨s',h1,h2,h3,h4,h5,h6⟩:=h.app (bytes:=bytes) hk hj lB hr hb hn;exact⟨_,s',_,h1,sU h2,h3,he,kk s' _ _ rfl h4 h5 h6 (h.arN hk (by have:=h.ltA hk;omega))⟩
abbrev Fre:=a4q 3
abbrev Bk:=cS 3 cN
def a3k(R:Hs)(res:Option (List Bool))(row:List D):Prop:=∃b,(row=[.int .i64 (V6 b)]/\(b=true->res=some []))\/∃d l,row=[.int .i64 (V6 b),d]/\Rr R d (U3 l)/\(b=true->res=some l)
structure a1F(R:Hs)(rows:List (List D))(res:Option (List Bool)):Prop where
 all:∀r∈rows,a3k R res r
 one:∀l,res=some l->∃r∈rows,r.head?=some (.int .i64 1)
theorem a3k.mono{R R':Hs}{res:Option (List Bool)}{row:List D}(h:a3k R res row)(hr:∀e∈R,e∈R'):a3k R' res row:=by
 obtain⟨b,h|⟨d,l,h1,h2,h3⟩⟩:=h
 .exact⟨b,.inl h⟩
 .exact⟨b,.inr ⟨d,l,h1,h2.mono hr,h3⟩⟩
theorem a1F.mono{R R':Hs}{res:Option (List Bool)}{rows:List (List D)}(h:a1F R rows res)(hr:∀e∈R,e∈R'):a1F R' rows res:=⟨λr kY=>(h.all r kY).mono hr,h.one⟩
theorem a1F.nil:a1F R [] none:=⟨sJ,sJ⟩
variable{rows:List (List D)}
theorem a1F.off{res:Option (List Bool)}(h:a1F R rows res){row:List D}(hr:a3k R none row):a1F R (rows++[row]) res:=by
 refine⟨λr kY=>?_,λl hl=>?_⟩
 .rcases Fm.1 kY with kY|kY
  .exact h.all r kY
  .rw[Fu.1 kY]
   obtain⟨b,⟨h1,h2⟩|⟨d,l,h1,h2,h3⟩⟩:=hr
   .cases b
    .exact⟨false,.inl ⟨h1,λh=>by cases h⟩⟩
    grind
   .cases b
    .exact⟨false,.inr ⟨d,l,h1,h2,λh=>by cases h⟩⟩
    grind
 .obtain⟨r,h1,h2⟩:=h.one l hl
  grind
variable{l:List Bool}
theorem a1F.on(h:a1F R rows none){row:List D}(hr:a3k R (some l) row)(h1:row.head?=some (.int .i64 1)):a1F R (rows++[row]) (some l):=by
 refine⟨λr kY=>?_,λl' hl=>⟨row,sJ,h1⟩⟩;rcases Fm.1 kY with kY|kY
 .obtain⟨b,⟨h1,h2⟩|⟨d,l',h1,h2,h3⟩⟩:=h.all r kY
  .cases b
   .exact⟨false,.inl ⟨h1,λh=>by cases h⟩⟩
   .exact absurd (h2 rfl) sJ
  .cases b
   .exact⟨false,.inr ⟨d,l',h1,h2,λh=>by cases h⟩⟩
   .exact absurd (h3 rfl) sJ
 grind
abbrev Rs:=Nat->Nat->Option (List Bool)
def cC:Rs:=λ_ _=>none
def Sls(R:Hs)(rw:Nat->Nat->List (List D))(res:Rs):Prop:=∀k j,a1F R (rw k j) (res k j)
theorem Sls.mono{R R':Hs}{res:Rs}(h:Sls R rw res)(hr:∀e∈R,e∈R'):Sls R' rw res:=λk j=>(h k j).mono hr
variable{b:Bool}
theorem Sls.app{res:Rs}(h:Sls R rw res){row:List D}(hh:row.head?=some (.int .i64 (V6 b)))(hr:a3k R (some l) row)(hb:b=true->res k j=none):Sls R (X6 rw k j (rw k j++[row])) (if b then X6 res k j (some l)else res):=by
 intro k' j';by_cases q:k'=k/\j'=j
 .rw[q.1,q.2,a5l]
  cases b
  .refine a1F.off (h k j) ?_
   obtain⟨b,⟨h1,h2⟩|⟨d,l',h1,h2,h3⟩⟩:=hr
   .cases b
    .exact⟨false,.inl ⟨h1,λh=>by cases h⟩⟩
    .rw[h1]at hh;cases hh
   .cases b
    .exact⟨false,.inr ⟨d,l',h1,h2,λh=>by cases h⟩⟩
    .rw[h1]at hh;cases hh
  .rw[Fk rfl,a5l]
   have:=h k j;rw[hb rfl]at this;exact this.on hr hh
 .rw[a3M q]
  cases b
  .exact h k' j'
  .rw[Fk rfl,a3M q]
   exact h k' j'
def Mo.cF(mo:Mo)(st:U6)(v:Mv)(res:Rs):Prop :=
 if v.kind=1 then res=X6 cC 2 (v.chan*2+1) (some [])
 else if v.kind=2 then res=X6 cC 2 (v.chan*2) (some (mo.cH st v.chan 0))
 else
  let P:=k7 mo.procs v.proc
  let e:=V3 P.ai v.bb
  let r0:=X6 cC 0 v.proc (some (bL (e.to:Int) (wid (P.ah:Int))))
  if e.act=1 then ∃n,I8 n/\((mo.ex P st e 0).2=true->n=(mo.ex P st e 0).1)/\res=X6 r0 1 e.var.toNat (some (bL n (bh mo.vars e.var.toNat).width.toNat))
  else if e.act=2 then ∃n,I8 n/\((mo.ex P st e 0).2=true->n=(mo.ex P st e 0).1)/\res=X6 r0 2 (e.chan.toNat*2) (some (bL n (U7 mo.ae e.chan.toNat).width.toNat))
  else if e.act=3 then res=X6 (X6 r0 1 e.var.toNat (some (bL (X9 (U8 st.ae e.chan.toNat) 0) (bh mo.vars e.var.toNat).width.toNat))) 2 (e.chan.toNat*2+1) (some [])
  else res=r0
def a5j(a b c:Nat):Nat->Nat
 |0=>a
 |1=>b
 |_=>c
def a8g(a b c:Nat):Nat->Nat
 |0=>a
 |1=>b
 |_=>2*c
theorem b56(n:Nat):a3l [.ag] n=(List.range n).map λ_=>D.ag:=by
 have e:∀k,(List.range k).map (λ_=>D.ag)=List.replicate k .ag:=λk=>by simp[List.map_const']
 rw[e];induction n with
 |zero=>rfl
 |succ n ih=>rw[Hw,<- ih];rfl
theorem c3P(n:Nat):a3l [.ag,.ag] n=(List.range (2*n)).map λ_=>D.ag:=by
 have e:∀k,(List.range k).map (λ_=>D.ag)=List.replicate k .ag:=λk=>by simp[List.map_const']
 rw[e];induction n with
 |zero=>rfl
 |succ n ih =>
  rw[show 2*(n+1)=2*n+1+1 by omega,Hw,Hw,<- ih];rfl
theorem Bk.init(hR:Y2 s R){np nv nc:Nat}:Bk s (((s.push (.cells ((List.range np).map λ_=>D.ag))).push (.cells ((List.range nv).map λ_=>D.ag))).push (.cells ((List.range (2*nc)).map λ_=>D.ag))) (a5j s.next (s.next+1) (s.next+1+1)) (a8g np nv nc) (λ_ _=>.ag) (λ_ _=>[]) (λ_ _=>[]) R 0:=by
 have f:Fr [] s (((s.push (.cells ((List.range np).map λ_=>D.ag))).push (.cells ((List.range nv).map λ_=>D.ag))).push (.cells ((List.range (2*nc)).map λ_=>D.ag))):=((Fr.push _).ak _).ak _;refine⟨f,?_,?_,?_,λ_ _=>.inl ⟨rfl,rfl,rfl⟩,sJ,λ_ _=>by simp[Y2],sJ,sJ,hR.fr f,λe he=>⟨λl hl hc=>?_,sJ⟩,sJ⟩
 .intro k hk
  have h3:k=0\/k=1\/k=2:=oJ;rcases h3 with rfl|rfl|rfl<;>simp only[a5j]<;>omega
 .intro k l hk hl jt
  have h3:k=0\/k=1\/k=2:=oJ;have h4:l=0\/l=1\/l=2:=oJ;rcases h3 with rfl|rfl|rfl<;>rcases h4 with rfl|rfl|rfl<;>simp only[a5j]<;>first|omega|exact absurd rfl jt
 .intro k hk
  have h3:k=0\/k=1\/k=2:=oJ;rcases h3 with rfl|rfl|rfl<;>simp only[a5j,a8g]
  .rw[a0k qJ,a0k sJ,W8 rfl]
  .rw[a0k sJ,W8 sJ]
  .rw[W8 sJ]
 .have:=t3 (hR e he)
  have h4:l=0\/l=1\/l=2:=oJ;rcases h4 with rfl|rfl|rfl<;>simp only[a5j]at hc<;>omega
variable{n:Int}{w:Nat}
theorem c0V(h:I8 n)(hw:0<w):U1 (λi=>aB (bL n 8) (min i ((bL n 8).length-1))) w=bL n w:=by
 have e:=b4Q (n:=n) (v:=8) oJ hw;rw[h.tr]at e;grind[a1r,b5O]
theorem wideW{v:Nat}(hv:0<v)(hw:0<w)(h:W3 n v=n):U1 (λi=>aB (bL n v) (min i ((bL n v).length-1))) w=bL n w:=by
 grind[b4Q,a1r,b5O]
theorem a3k.one:a3k R (some []) [.int .i64 (V6 b)]:=⟨b,.inl ⟨rfl,λ_=>rfl⟩⟩
variable{d:D}
theorem a3k.two(h:Rr R d (U3 l)):a3k R (some l) [.int .i64 (V6 b),d]:=⟨b,.inr ⟨d,l,rfl,h,λ_=>rfl⟩⟩
theorem VZ.rr(h:VZ d l):Rr R d (U3 l):=by
 rcases h with⟨rfl,h⟩|rfl
 .exact .inl ⟨rfl,IW.1 h⟩
 .exact .inr (.inl rfl)
variable{i:Nat}
theorem a7E{mo:Mo}{st:U6}{k0:Nat}{ls:List Mv}{res mS:Rs}(nV:i<=k0->res=cC)(ji:k0<i->mo.cF st (X3 ls k0) res)(he:res=cC->mo.cF st (X3 ls i) mS):(i<k0->(if decide (i=k0)then mS else res)=cC)/\(k0<i+1->mo.cF st (X3 ls k0) (if decide (i=k0)then mS else res)):=by
 grind
theorem b2X{a r:Rs}{z:Option (List Bool)}:(if b then X6 (if b then a else r) k j z else(if b then a else r))=if b then X6 a k j z else r:=by cases b<;>rfl
section
variable{fs:FuncId->Option U4}
def Irr(af:bW)(i:Nat):Prop:=∀j,a1n af i j=false
theorem Irr.mem{af:bW}{i j:Nat}(h:Irr af i):(i,j)∉af:=λhm=>by
 have:=a9T hm;rw[h j]at this;cases this
theorem b5v{C:a1s}{af:bW}:∀{ops:List (Nat×a0f)}{tr tr':List Tr}{env:k6}{s:k4}{r:k6×k4},(∀j,a1D af j tr'=true->a1D af j tr=true)->a1z C af ops tr' env s=some r->a1z C af ops tr env s=some r
 |[],_,_,_,_,_,_,e=>by assumption
 |(i,o)::rest,tr,tr',env,s,r,hp,e=>by
  simp only[a1z]at e⊢;split at e
  .cases e
  .rename_i hw
   try simp only[hw]
   exact b5v hp e
  .rename_i hw
   try simp only[hw]
   split at e
   .cases e
   .rename_i d s' ho
    try simp only[ho]
    split at e
    .rename_i hq
     rw[Fk (hp _ hq)];refine b5v ?_ e;intro j hj;split at hj
     .rename_i he;rw[Fk he];exact hp j hj
     simp_all[a1D]
    .cases e
theorem b3G{af:bW}{j:Tr}(f:Tr->Bool)(hf:∀t,f t=false->∀k,(t.idx,k)∉af):∀{tr:List Tr},a1D af j (tr.filter f)=true->a1D af j tr=true
 |[],_=>rfl
 |t::tr,h=>by
  rw[List.filter_cons]at h;split at h
  .simp only[a1D,Fo]at h⊢
   exact⟨h.1,b3G f hf h.2⟩
  .rename_i hn
   have:=hf t (sU hn) j.idx;simp only[a1D];rw[so (sU this),Gd];exact b3G f hf h
def a8s(af:bW)(T T':List cu):Prop:=∀x∈T',x∈T\/Irr af x.i
theorem a8s.cons{af:bW}{T T':List cu}(h:a8s af T T')(e:cu):a8s af (e::T) (e::T'):=by
 intro x hx;rcases Fi.1 hx with rfl|hx
 .simp
 .rcases h x hx with h|h
  .grind
  .exact .inr h
open Classical in
theorem wx_sub{af:bW}{T T':List cu}{ops:dD}{env:k6}{s:k4}{K:Kt}(hs:a8s af T T')(h:WX fs af T ops env s K):WX fs af T' ops env s K:=by
 intro tr ht;have hf:∀t:Tr,(!decide (Irr af t.idx))=false->∀k,(t.idx,k)∉af:=λt h k=>by
  have:Irr af t.idx:=sU h;exact this.mem
 obtain⟨n,iO,s',h1,h2⟩:=h (tr.filter λt=>!decide (Irr af t.idx)) (by
  intro t hm;obtain⟨xK,qB⟩:=Gu.1 hm;rcases ht t xK with h|⟨e,he,hte⟩
  .exact .inl h
  .rcases hs e he with h|h
   .grind
   .rw[<- hte.i]at h
    simp[h]at qB)
 exact⟨n,iO,s',b5v (λj hj=>b3G _ hf hj) h1,h2⟩
theorem b19{af:bW}{i id:Nat}:∀{T:List cu},a2l af i id T↔∀e∈T,a1n af e.i i=true->a1K id e.eff
 |[]=>by simp[a2l]
 |e::T=>by simp only[a2l,b19 (T:=T),Fi,JI]
theorem b4o{af:bW}{i id:Nat}:∀{T:List cu},a5J af i id T↔∀e∈T,a1n af e.i i=true->NeO e.rd id/\a1K id e.eff
 |[]=>by simp[a5J]
 |e::T=>by simp only[a5J,b4o (T:=T),Fi,JI]
theorem b46{af:bW}{i:Nat}{E:List Nat}:∀{T:List cu},a2b af i E T↔∀e∈T,a1n af e.i i=true->match e.rd with|some x=>a1K x E|none=>True
 |[]=>by simp[a2b]
 |e::T=>by
  simp only[a2b,b46 (T:=T),Fi,JI];exact Iff.rfl
theorem a8s.all{af:bW}{T T':List cu}(h:a8s af T T'){i:Nat}{P:cu->Prop}(hp:∀e∈T,a1n af e.i i=true->P e):∀e∈T',a1n af e.i i=true->P e:=λe he hh=>by
 rcases h e he with h|h
 .exact hp e h hh
 .rw[h i]at hh;cases hh
theorem a6q{af:bW}:∀{ops:dD}{T T':List cu}{env:k6}{s:k4}{K:Kt},a8s af T T'->XX fs af T ops env s K->XX fs af T' ops env s K
 |[],_,_,_,_,_,_,h=>h
 |(i,⟨dst,op,g⟩)::rest,T,T',env,s,K,hs,h=>by
  have key:∀(h:XX fs af T ((i,⟨dst,op,none⟩)::rest) env s K),XX fs af T' ((i,⟨dst,op,none⟩)::rest) env s K:=by
   intro h;unfold XX at h⊢;simp only at h⊢;split at h
   .split at h
    .rename_i d e;try rw[e]
     exact a6q hs h
    .exact h.elim
   .split at h
    .rename_i e
     try rw[e]
     split at h
     .rename_i d e2;try simp only[e2]
      exact a6q hs h
     .exact h.elim
    .rename_i e
     try rw[e]
     split at h
     .rename_i d e2;try simp only[e2]
      exact⟨b19.2 (hs.all (b19.1 h.1)),a6q (hs.cons _) h.2⟩
     .exact h.elim
    .exact h.elim
   .split at h
    .rename_i ob m e;try rw[e]
     exact a6q (hs.cons _) h
    .exact h.elim
   .split at h
    .rename_i e
     try rw[e]
     split at h
     .rename_i jl ob e2
      try simp only[e2]
      exact⟨h.1,b4o.2 (hs.all (b4o.1 h.2.1)),a6q (hs.cons _) h.2.2⟩
     .exact h.elim
    .exact h.elim
   .split at h
    .rename_i l hl
     try rw[hl]
     obtain⟨d,h1,h2,h3⟩:=h;exact⟨d,h1,h2,a6q hs h3⟩
    .exact h.elim
   .obtain⟨d,s',E,h1,h2,h3,h4,h5⟩:=h
    exact⟨d,s',E,h1,h2,h3,b46.2 (hs.all (b46.1 h4)),a6q (hs.cons _) h5⟩
   .exact wx_sub hs h
  cases g with
  |none=>exact key h
  |some rb =>
   obtain⟨r,b⟩:=rb;have h':Way (env.get r) b (XX fs af T ((i,⟨dst,op,none⟩)::rest) env s K) (XX fs af T rest (env.put dst (.aT [])) s K):=h;show Way (env.get r) b (XX fs af T' ((i,⟨dst,op,none⟩)::rest) env s K) (XX fs af T' rest (env.put dst (.aT [])) s K)
   unfold Way at h'⊢;split at h'
   .rename_i c js
    try rw[js]
    try simp only
    split at h'
    .grind
    .rename_i hc;try simp only[hc,FF]
     exact a6q hs h'
   .rename_i js
    try rw[js]
    exact a6q hs h'
   .exact h'.elim
theorem b1X:∀{l:bW}{i j:Nat},a1n l i j=true->(i,j)∈l
 |[],_,_,h=>by cases h
 |(u,v)::r,i,j,h=>by
  simp only[a1n]at h;split at h
  .rename_i e1
   split at h
   .simp_all
   .exact IP _ (b1X h)
  .exact IP _ (b1X h)
theorem b1y{d y:D}{n:Option Nat}{i t:Nat}{af:bW}{T:List cu}{rest:dD}{env:k6}{s:k4}{K:Kt}(hl:bF s.get n d=some y)(k:XX fs af T rest ((t,y)::env) s K)(hi:(af.all λp=>p.1 != i&&p.2 != i)=true:=by decide):BD d n i fs af T t rest env s K:=by
 have h1:=λa b=>b1X (l:=af) (i:=a) (j:=b)
 have hq:∀a b,a1n af a b=true->a≠i/\b≠i:=λa b h=>by
  grind
 refine bd_o hl (λid=>b19.2 λe _ hh=>absurd rfl (hq _ _ hh).2) k λid jb=>a6q (T:=T) (λx hx=>?_) k
 rcases Fi.1 hx with rfl|hx
 .refine .inr λj=>?_
  grind
 .exact .inl hx
theorem b8s{s:k4}{a z o:Z7}{b:Option Z7}:Fr [] ((s.push a).set s.next b) ((((s.push a).set s.next b).push z).set (s.next+1) (some o)):=by
 have h:=a1Q (s:=(s.push a).set s.next b) (z:=z) (o:=o);simpa using h
theorem b5s{mo:Mo}{st:U6}{wp we wc:Nat}{e:Ed}(he:V3 (k7 mo.procs wp).ai we=e)(h:e.act=0\/e.act=4\/e.act=5):mo.cF st ⟨0,wp,we,wc⟩ (X6 cC 0 wp (some (bL (e.to:Int) (wid ((k7 mo.procs wp).ah:Int))))):=by
 unfold Mo.cF;grind
theorem c6F{mo:Mo}{st:U6}{wp we wc i k n:Nat}{z:Int}{e:Ed}(he:V3 (k7 mo.procs wp).ai we=e)(h:e.act=1)(hx:e.expr=(k:Int))(hv:e.var=(i:Int))(hz:I8 z)(hy:(mo.val (a0s (k7 mo.procs wp)) st k).2=true->z=(mo.val (a0s (k7 mo.procs wp)) st k).1)(hn:(bh mo.vars i).width.toNat=n):mo.cF st ⟨0,wp,we,wc⟩ (X6 (X6 cC 0 wp (some (bL (e.to:Int) (wid ((k7 mo.procs wp).ah:Int))))) 1 i (some (bL z n))):=by
 unfold Mo.cF;simp only[he];rw[so dJ,so dJ,Fk h];have e1:mo.ex (k7 mo.procs wp) st e 0=mo.val (a0s (k7 mo.procs wp)) st k:=by unfold Mo.ex;rw[hx,Fk oJ,an]
 grind
theorem c4f{mo:Mo}{st:U6}{wp we wc i k n:Nat}{z:Int}{e:Ed}(he:V3 (k7 mo.procs wp).ai we=e)(h:e.act=2)(hx:e.expr=(k:Int))(hv:e.chan=(i:Int))(hz:I8 z)(hy:(mo.val (a0s (k7 mo.procs wp)) st k).2=true->z=(mo.val (a0s (k7 mo.procs wp)) st k).1)(hn:(U7 mo.ae i).width.toNat=n):mo.cF st ⟨0,wp,we,wc⟩ (X6 (X6 cC 0 wp (some (bL (e.to:Int) (wid ((k7 mo.procs wp).ah:Int))))) 2 (i*2) (some (bL z n))):=by
 unfold Mo.cF;simp only[he];rw[so dJ,so dJ,so oJ,Fk h];have e1:mo.ex (k7 mo.procs wp) st e 0=mo.val (a0s (k7 mo.procs wp)) st k:=by unfold Mo.ex;rw[hx,Fk oJ,an]
 grind
theorem c3F{mo:Mo}{st:U6}{wp we wc i j n:Nat}{e:Ed}(he:V3 (k7 mo.procs wp).ai we=e)(h:e.act=3)(hx:e.var=(i:Int))(hv:e.chan=(j:Int))(hn:(bh mo.vars i).width.toNat=n):mo.cF st ⟨0,wp,we,wc⟩ (X6 (X6 (X6 cC 0 wp (some (bL (e.to:Int) (wid ((k7 mo.procs wp).ah:Int))))) 1 i (some (bL (X9 (U8 st.ae j) 0) n))) 2 (j*2+1) (some [])):=by
 simp_all[Mo.cF]
theorem Rr.dU{R:Hs}{b w:Nat}{l:List Bool}(h:l.length=w):Rr ((b,U3 l)::R) (.arr b 0 w 1) (U3 l):=by
 subst h;exact .inr (.inr ⟨b,0,U3 l,sJ,sJ,sJ,by grind⟩)
theorem b4Y{b:Bool}{res:Rs}{k j k' j':Nat}{z:Option (List Bool)}(h:b=true->res=cC)(hb:b=true)(hn:¬(k'=k/\j'=j)):(if b then X6 res k j z else res) k' j'=none:=by
 rw[Fk hb,a3M hn,h hb];rfl
theorem a8M{F:Nat->D}{n j:Nat}(h:j<n):((List.range n).map F)[j]?=some (F j):=by simp[h]
end
theorem c1e{sz:Nat}:∀{rows:List (List D)},(∀r∈rows,r.length=sz)->∀{i:Nat}(hi:i<rows.length),(rows.flatten.drop (i*sz)).take sz=rows[i]
 |[],_,i,hi=>by simp at hi
 |a::r,h,0,_=>by
  grind
 |a::r,h,i+1,hi=>by
  have ha:=h a sJ;simp only[GF,IB];rw[show(i+1)*sz=a.length+i*sz by grind,<- Ih,Kf];exact c1e (λx hx=>h x (by simp[hx])) (sU hi)
theorem c1i{sz:Nat}:∀{rows:List (List D)},(∀r∈rows,r.length=sz)->rows.flatten.length=rows.length*sz
 |[],_=>by simp
 |a::r,h=>by
  rw[GF,Fq,h a sJ,c1i λx hx=>h x (by simp[hx]),Gt,HX];omega
theorem Rp.row2{rows:List (List D)}{E:Hs}{k:IntKind}(h:Rp d 2 rows E)(he:Y2 s E)(hr:∀r∈rows,r.length=2)(hi:i<rows.length):∃id,W7 2 d (.int k (i:Int))=some (.ptr id (i*2))/\bF s.get (some 2) (.ptr id (i*2))=some (.agg rows[i]):=by
 rcases h with⟨rfl,rfl,_⟩|⟨id,rfl,rfl,_⟩
 .simp at hi
 .refine⟨id,?_,?_⟩
  .simp[W7]
   omega
  .have hg:=he (id,rows.flatten) sJ
   simp only at hg;have hl:=c1i hr;simp only[bF,hg,a2V];rw[Fk oJ,c1e hr hi]
def fi:List D->Bool
 |.int _ n::_=>n != 0
 |_=>false
def ij(s0 s:k4)(d:D)(sz:Nat)(rows:List (List D)):Prop:=Fr [] s0 s/\(∀r∈rows,r.length=sz)/\∃E,Rp d sz rows E/\Y2 s E/\∀e∈E,s0.next<=e.1
theorem ij.nil{sz:Nat}(h:Fr [] s0 s):ij s0 s .ag sz []:=⟨h,sJ,[],.inl ⟨rfl,rfl,rfl⟩,by simp[Y2],sJ⟩
theorem ij.fr{s0 s s':k4}{d:D}{sz:Nat}{rows:List (List D)}(h:ij s0 s d sz rows)(f:Fr [] s s'):ij s0 s' d sz rows:=by
 obtain⟨h1,h2,E,h3,h4,h5⟩:=h;exact⟨h1.trans f sJ,h2,E,h3,h4.fr f,h5⟩
theorem ij.one{s0 s:k4}{d:D}{sz:Nat}{rows:List (List D)}(h:ij s0 s d sz rows):V5 d=true:=by
 obtain⟨_,_,E,h3,_⟩:=h;exact h3.one
theorem ij.len{s0 s:k4}{d:D}{sz:Nat}{rows:List (List D)}(h:ij s0 s d sz rows):a0x false d=some (.int .i64 (rows.length:Int)):=by
 obtain⟨_,_,E,h3,_⟩:=h;exact h3.len
theorem bm_gr{t rest env K}{sz bytes:Nat}{row:List D}(h:ij s0 s d sz rows)(hr:row.length=sz)(hb:bytes<=1000)(hl:rows.length<=1000000)(k:∀d' s',ij s0 s' d' sz (rows++[row])->XQ fs [] rest ((t,d')::env) s' K):BM (a0e sz bytes d (.arr s.next 0 1 sz) (s.push (.cells row))) fs t rest env K:=by
 obtain⟨h1,h2,E,h3,h4,h5⟩:=h;obtain⟨s',e1,e2,e3,e4⟩:=h3.exp (bytes:=bytes) (h4.fr (Fr.push (.cells row))) (W8 (s:=s) rfl) hr h2 hb oJ;rw[k4.aj]at e1 e2 e3 e4;rw[e1];have n0:=h1.1;refine k _ _ ⟨⟨oJ,λid jb _=>?_⟩,λr kY=>?_,[(s.next+1,(rows++[row]).flatten)],.inr ⟨s.next+1,sJ,rfl,sJ⟩,?_,?_⟩
 .rw[e4 id oJ λe he hc=>by have:=h5 e he;omega,a0k oJ,h1.2 id jb sJ]
 .rcases Fm.1 kY with kY|kY
  .exact h2 r kY
  .rw[Fu.1 kY];exact hr
 .intro e he
  rw[Fu.1 he,e3];simp
 grind
theorem c5W(h:i<rows.length):(rows.take (i+1)).filter fi=(rows.take i).filter fi++if fi rows[i]then[rows[i]]else[]:=by
 grind[List.take_succ_eq_append_getElem]
theorem a1F.fT(h:a1F R rows none):rows.filter fi=[]:=by
 rw[IF];intro r hr;obtain⟨b,⟨h1,h2⟩|⟨d,l,h1,h2,h3⟩⟩:=h.all r hr
 .cases b
  .rw[h1];simp[fi,V6]
  grind
 .cases b
  .rw[h1];simp[fi,V6]
  grind
theorem a1F.fU{rows:List (List D)}(h:a1F R rows (some l))(h2:∀r∈rows,r.length=2):rows.filter fi≠[]/\∀r∈rows.filter fi,∃d,r=[.int .i64 1,d]/\Rr R d (U3 l):=by
 constructor
 .intro e
  obtain⟨r,hr,h1⟩:=h.one l rfl;have:r∈rows.filter fi:=Gu.2 ⟨hr,by cases r with
   |nil=>cases h1
   |cons a r=>simp only[List.head?_cons,Gn]at h1;subst h1;rfl⟩
  grind
 .intro r hr
  obtain⟨hr,hp⟩:=Gu.1 hr;obtain⟨b,⟨h1,_⟩|⟨d,l',h1,h3,h4⟩⟩:=h.all r hr
  .grind
  .cases b
   .grind[fi,V6]
   .have:=h4 rfl
    simp only[Gn]at this;subst this;exact⟨d,h1,h3⟩
theorem a1F.two{rows:List (List D)}{res:Option (List Bool)}(h:a1F R rows res)(h2:∀r∈rows,r.length=2):∀r∈rows,∃b d,r=[.int .i64 (V6 b),d]/\V5 d=true:=by
 intro r hr;obtain⟨b,⟨h1,_⟩|⟨d,l',h1,h3,h4⟩⟩:=h.all r hr
 .grind
 .exact⟨b,d,h1,h3.one⟩
theorem a1F.bits{res:Option (List Bool)}:∀{rows:List (List D)},a1F R rows res->(∀r∈rows,r.length=1)->∃bs,rows=a0K (U3 bs)/\bs.any id=res.isSome:=by
 have key:∀{rows:List (List D)},(∀r∈rows,a3k R res r)->(∀r∈rows,r.length=1)->∃bs:List Bool,rows=a0K (U3 bs)/\(bs.any id=true->res.isSome=true):=by
  intro rows;induction rows with
  |nil=>exact λ_ _=>⟨[],rfl,sJ⟩
  |cons a r ih =>
   intro h h1;obtain⟨bs,e,hb⟩:=ih (λx hx=>h x (by simp[hx])) λx hx=>h1 x (by simp[hx])
   obtain⟨b,⟨e1,e2⟩|⟨d,l,e1,_⟩⟩:=h a sJ
   .refine⟨b::bs,by rw[e1,e];rfl,λhh=>?_⟩
    rw[List.any_cons,Gg]at hh;rcases hh with hh|hh
    .rw[e2 hh];rfl
    .exact hb hh
   simp_all
 intro rows h h1;obtain⟨bs,e,hb⟩:=key h.all h1;refine⟨bs,e,?_⟩;rw[FV];refine⟨hb,λhs=>?_⟩;cases res with
 |none=>cases hs
 |some l =>
  obtain⟨r,hr,hh⟩:=h.one l rfl;rw[e]at hr;obtain⟨x,hx,rfl⟩:=Fs.1 hr;obtain⟨b,qG,rfl⟩:=Fs.1 hx;grind[V6]
theorem a1F.ik{rows:List (List D)}{res:Option (List Bool)}(h:a1F R rows res)(h2:∀r∈rows,r.length=2):decide ((rows.filter fi).length=0)=!res.isSome:=by
 cases res with
 |none=>rw[h.fT];rfl
 |some l =>
  have:=(h.fU h2).1;grind
end Go.V
namespace Go.Proofs.YtigbmclkjknnjaaGreat
open Go.V
variable{s:k4}{E:Hs}{d:D}{rows:List (List D)}
theorem c0F(hd:Rp d 2 rows E)(he:Y2 s E)(h2:∀r∈rows,r.length=2)(hr:∀r∈rows,∃b d,r=[.int .i64 (V6 b),d]/\V5 d=true)(hl:rows.length<=1000000):Y4 U5 128 [d] s λr s'=>ij s s' r 2 (rows.filter fi):=by
 have od:=hd.one;have jw:=hd.len;refine Y0 (vf:=b6o) rfl ?_;unfold b6o;refine zF ?_;refine zY (aN od jw) ?_;refine W6 [0,2,6,7] 0 rows.length (λi f s'=>f 8=.int .i64 (i:Int)/\ij s s' (f 3) 2 ((rows.take i).filter fi)) (.mk rfl) oJ ⟨rfl,ij.nil (Fr.refl _ _)⟩ ?_;rintro i f s2 hi ⟨h,hb⟩;have ob:=hb.one;by_cases ci:i<rows.length
 rotate_left
 .obtain rfl:i=rows.length:=oJ
  rw[Gk (sm _)]at hb;refine zY (V4 h ci ob) ?_;exact hb
 obtain⟨id,i1,i2⟩:=hd.row2 (he.fr hb.1) h2 ci (k:=.i64);have kn:=c5W ci;obtain⟨b,y,e,oy⟩:=hr _ (Fp ci);rw[e]at i2 kn;have fb:∀a b,Fr [] s2 ((s2.push a).set s2.next (some b)):=λa b=>a1Q
 cases b
 .rw[a4Q]at i2
  rw[show fi [.int .i64 (V6 false),y]=false from rfl,so sJ,Fl]at kn;refine zY (X4 h ci i1 i2 oy ob) ?_;rw[kn];exact hb.fr (fb _ _)
 .rw[a3P]at i2
  rw[show fi [.int .i64 (V6 true),y]=true from rfl,Fk rfl,a3P]at kn;refine zY (X4 h ci i1 i2 oy ob) ?_;refine bm_gr (hb.fr (fb _ _)) rfl dJ (by have:=Hj fi (rows.take i);rw[GO]at this;omega) λd' s3 h3=>?_
  have o3:=h3.one;refine zY o3 ?_;refine⟨ci,?_⟩;rw[kn];exact h3
variable{R:Hs}
theorem b30{g:Nat}{res:Option (List Bool)}(hg:GB s g){Q:Hs}{Ax:D}{bO:List Bool}(hq:Y2 s Q)(ho:Rr Q Ax (U3 bO))(ym:bO.length<=1000)(hR:Y2 s R)(hd:Rp d 2 rows E)(he:Y2 s E)(h2:∀r∈rows,r.length=2)(hs:a1F R rows res)(hw:∀l,res=some l->l.length=bO.length)(hl:rows.length<=90000) :
 Y4 U5 86 [.ptr g 0,Ax,d] s λr s'=>∃R',(∀e∈R',s.next<=e.1)/\Y2 s' R'/\Rr (R'++Q) r (U3 (res.getD bO))/\Fr [] s s':=by
 have od:=hd.one;have oo:=ho.one;have pQ:=c0F hd he h2 (hs.two h2) oJ;cases res with
 |none =>
  rw[hs.fT]at pQ;refine Y0 (vf:=a9G) rfl ?_;unfold a9G;refine zF ?_;refine zY (aN od oo) ?_;refine a0M pQ rfl ?_;rintro r s1 h1;have or:=h1.one;have ln:=h1.len;simp(disch:=(first|exact Rf.mk rfl|with_reducible assumption|omega|((repeat(first|rw[nP]|rw[nS]|rw[Y3]))<;>omega)|decide)) only[go_sem,↓reduceIte,or,ln];exact⟨[],sJ,by simp[Y2],ho,h1.1⟩
 |some l =>
  obtain⟨jt,iR⟩:=hs.fU h2;have nJ:=hw l rfl;have mZ:(rows.filter fi).length<=90000:=FE (Hj _ _) hl;generalize rows.filter fi=rw at *;have uz:0<rw.length:=by cases rw with
   |nil=>exact absurd rfl jt
   |cons a r=>simp
  have c0:((rw.length:Int)==0)=false:=by simp;omega
  refine Y0 (vf:=a9G) rfl ?_;unfold a9G;refine zF ?_;refine zY (aN od oo) ?_;refine a0M pQ rfl ?_;rintro r s1 h1;have or:=h1.one;have ln:=h1.len;obtain⟨f1,yZ,E1,ji,he1,_⟩:=h1;have m1:=fu (w:=rw.length) oJ;have m2:=eK (w:=rw.length) oJ;have hz:=a2c rw.length;rw[a3Q (λ_=>true)]at hz;simp(disch:=(first|exact Rf.mk rfl|with_reducible assumption|omega|((repeat(first|rw[nP]|rw[nS]|rw[Y3]))<;>omega)|decide)) only[go_sem,↓reduceIte,or,ln,c0,m1,m2,hz];obtain⟨gb,f0⟩:=iE (s:=s1) (A:=λ_=>true) (w:=rw.length);generalize s1.push (.cells (U3 (U1 (Y1 (λ_=>true) 0) rw.length)))=s2 at *;refine a1d [0,1,2,6,7,10,11,12,13,15,20,25,26,46,47,48,58,59,60,61] (λf s'=>s'.get s1.next=some (.cells (U3 (U1 (λ_=>true) rw.length)))/\Fr [] s1 s') ?_ ?_
  .refine W6 [0,1,2,6,7,10,11,12,13,15,20,25,26,46,47,48,58,59,60,61] 0 rw.length (λi f s'=>f 27=.int .i64 (i:Int)/\s'.get s1.next=some (.cells (U3 (U1 (Y1 (λ_=>true) i) rw.length)))/\Fr [] s1 s') (.mk rfl) oJ ⟨rfl,gb,f0⟩ ?_
   clear gb f0 hz;rintro i f s3 hi ⟨h,gb,fr⟩;by_cases ci:i<rw.length
   rotate_left
   .obtain rfl:i=rw.length:=oJ
    rw[a3w]at gb;refine zY (aN h ci) ?_;exact⟨gb,fr⟩
   obtain⟨id,i1,i2⟩:=ji.row2 (he1.fr fr) yZ ci (k:=.i64);obtain⟨y,e,hy⟩:=iR _ (Fp ci);rw[e]at i2;have oy:=hy.one;have lb:=t3 gb;have mj:=a5E (A:=λ_=>true) (b:=true) ci rfl;rw[a3P]at mj;have se:=a3d (A:=λ_=>true) ci;refine zY (U0 h ci i1 i2 oy gb mj se) ?_;exact Fr.st (fr.trans a1Q sJ) (sm _) _
  clear gb f0;rintro f s3 ⟨gb,fr⟩;have iY:=f1.trans fr sJ;have xF:bz U5 55 [.int .i64 1] (.int .i64 0):=a3a true;have hold:=((ho.vb hq).fr iY)
  have jw:=hold.len;have m1:=fu (w:=bO.length) oJ;have m2:=eK (w:=bO.length) oJ;have hz:=a2c bO.length;rw[a3Q (aB l)]at hz;refine V9 ?_;refine xb (a6u (hg.fr iY) (VB.bk gb) oJ) λs4 f4=>?_
  rw[show a0U (λ_=>true) rw.length=true from a5B.2 ⟨0,uz,rfl⟩,a3P];have jG:=iY.trans f4 sJ;refine zY (X4 xF oo jw m1 m2 hz) ?_;obtain⟨gc,f5⟩:=iE (s:=s4) (A:=aB l) (w:=bO.length);generalize s4.push (.cells (U3 (U1 (Y1 (aB l) 0) bO.length)))=s5 at *;refine W6 [0,1,2,6,7,8,9,10,11,20,25,26,27,28,46] 0 bO.length (λi f' s'=>f' 47=.int .i64 (i:Int)/\s'.get s4.next=some (.cells (U3 (U1 (Y1 (aB l) i) bO.length)))/\Fr [] s4 s') (.mk rfl) oJ ⟨rfl,gc,f5⟩ ?_;clear gc f5 hz;rintro i f' s6 hi ⟨h,gc,f6⟩;have jP:=jG.trans f6 sJ;by_cases ci:i<bO.length
  rotate_left
  .obtain rfl:i=bO.length:=oJ
   rw[a3w]at gc;have e:U3 (U1 (aB l) bO.length)=U3 l:=by rw[<- nJ,a5r]
   rw[e]at gc;refine zY (aN h ci) ?_;refine⟨[(s4.next,U3 l)],λe he=>?_,λe he=>?_,?_,jP⟩
   .rw[Fu.1 he];exact jG.1
   .rw[Fu.1 he];exact gc
   .exact Rr.dU nJ
  obtain⟨p,p1,p2⟩:=(((ho.vb hq).fr jP).fh (a5r bO).symm).cQ ci (k:=.i64);refine zY (W0 h ci oo p1 p2) ?_;refine xb (a1A (hg.fr jP) false _) λs7 f7=>?_
  rw[FY];have mC:=jP.trans f7 sJ;simp(disch:=(first|exact Rf.mk rfl|with_reducible assumption|omega|((repeat(first|rw[nP]|rw[nS]|rw[Y3]))<;>omega)|decide)) only[go_sem,↓reduceIte,or,ln];have g7:cK s7 (s7.push (.cells [.int .i64 (V6 false)])) (.arr s7.next 0 1 1) [false]:=⟨Fr.push _,.inr ⟨s7.next,rfl,sm _,W8 rfl⟩⟩
  rw[a4Q]at g7;refine W6 [0,1,2,6,7,8,9,10,11,12,20,25,26,27,28,46,47,48,58,59] 0 rw.length (λj f2 s'=>f2 60=.int .i64 (j:Int)/\cK s7 s' (f2 13) (false::List.replicate j (aB l i))) (.mk rfl) oJ ⟨rfl,g7⟩ ?_;clear g7;rintro j f2 s8 hj ⟨h',h8⟩;have o8:=h8.one;have lW:=mC.trans h8.1 sJ;by_cases cj:j<rw.length
  .obtain⟨id,i1,i2⟩:=ji.row2 (he1.fr (((((fr.trans f4 sJ).trans f6 sJ).trans f7 sJ).trans h8.1 sJ))) yZ cj (k:=.i64)
   obtain⟨y,e,hy⟩:=iR _ (Fp cj);rw[e]at i2;have oy:=hy.one;have fb:∀a b,Fr [] s8 ((s8.push a).set s8.next (some b)):=λa b=>a1Q
   obtain⟨p,q1,q2⟩:=(((hy.vb hR).fr lW).fh (by rw[<- nJ];exact(a5r l).symm):VB s8 y (U1 (aB l) bO.length)).cQ ci (k:=.i64);have q3:=λa b=>a7j q2 (fb a b)
   refine zY (U0 h' cj i1 i2 oy o8 q1 q3) ?_;refine xb (a1A (hg.fr (lW.trans (fb _ _) sJ)) true _) λs9 f9=>?_
   rw[Gd];refine V9 ?_;refine b2Y ((h8.fr (fb _ _)).fr f9) qJ λd' oj nh=>?_
   have o10:=nh.one;refine zY o10 ?_;refine⟨cj,?_⟩;rw[Kj];exact nh
  .obtain rfl:j=rw.length:=oJ
   have CK:(false::List.replicate rw.length (aB l i)).any id=aB l i:=by
    rw[List.any_cons,id,HC];cases hb:aB l i
    .rw[Jq]
     intro x hx;rw[JA hx];simp
    .rw[Ht]
     exact⟨true,List.mem_replicate.2 ⟨oJ,rfl⟩,rfl⟩
   refine zY (V4 h' cj o8) ?_;refine xb (a8K (hg.fr lW) h8.vb qJ) λs9 f9=>?_
   have f69:=(f7.trans h8.1 sJ).trans f9 sJ;have yw:=f69.kp gc;have lc9:=t3 yw;have mj:=a5E (A:=aB l) (b:=(false::List.replicate rw.length (aB l i)).any id) ci CK.symm;have se:=a3d (A:=aB l) ci;refine zY (V1 yw mj se h) ?_;exact⟨ci,(f6.trans f69 sJ).st (sm _) _⟩
theorem none_c{dS dG:D}{rS rG:List (List D)}{eS eG:Hs}{jA resG:Option (List Bool)}(hS:Rp dS 2 rS eS)(Bz:Y2 s eS)(h2:∀r∈rS,r.length=2)(yI:a1F R rS jA)(wB:rS.length<=90000)(hG:Rp dG 1 rG eG)(CF:Y2 s eG)(h1:∀r∈rG,r.length=1)(CM:a1F R rG resG)(BJ:rG.length<=90000) :
 Y4 U5 87 [.agg [dS,dG]] s λr s'=>r=.bool (!jA.isSome&&!resG.isSome)/\Fr [] s s':=by
 obtain⟨bs,rfl,xD⟩:=CM.bits h1;have oS:=hS.one;have oG:=hG.one;have px:VB s dG bs:=(hG.rr (R:=eG) λe he=>he).vb CF;have jw:=px.len;rw[a9E,a5p]at BJ;have f0:Fr [] s (s.push (.cells [dS,dG])):=Fr.push _;have gb:(s.push (.cells [dS,dG])).get s.next=some (.cells [dS,dG]):=W8 rfl;refine Y0 (vf:=vf87) rfl ?_;unfold vf87;refine zF ?_;refine zY (V4 oS oG jw) ?_;generalize s.push (.cells [dS,dG])=s1 at *;refine W6 [0,1,6,7] 0 bs.length (λi f s'=>f 8=.int .i64 (i:Int)/\s'=s1/\∀j,j<i->aB bs j=false) (.mk rfl) oJ ⟨rfl,rfl,λj h=>by omega⟩ ?_;rintro i f s2 hi ⟨h,rfl,iR⟩;by_cases ci:i<bs.length
 .obtain⟨p,p1,p2⟩:=(px.fr f0).idx ci (k:=.i64)
  cases hb:aB bs i
  .rw[hb,a4Q]at p2
   refine zY (V1 h ci p1 p2) ?_;intro j hj;by_cases e:j=i
   .subst e;exact hb
   .exact iR j oJ
  .rw[hb,a3P]at p2
   have:resG.isSome=true:=by
    rw[<- xD,Ht];refine⟨true,?_,rfl⟩;have:bs[i]=true:=by simpa[aB,List.getD,ci]using hb
    rw[<- this];exact Fp ci
   rw[this];refine zY (V1 h ci p1 p2) ?_;exact⟨sJ,f0⟩
 .obtain rfl:i=bs.length:=oJ
  have iT:resG.isSome=false:=by
   rw[<- xD,Jq];intro b hb;obtain⟨j,h3,rfl⟩:=FQ hb;have:=iR j h3;simp only[aB,List.getD,GY h3,Ho]at this;simp[this]
  rw[iT];refine zY (W0 h ci gb oS oG) ?_;refine a0M (c0F hS (Bz.fr f0) h2 (yI.two h2) oJ) rfl ?_;rintro r s3 h3;have o3:=h3.one;have l3:=h3.len;refine zY (aN o3 l3) ?_;refine⟨?_,f0.trans h3.1 sJ⟩;rw[yI.ik h2]
end Go.Proofs.YtigbmclkjknnjaaGreat
namespace Go.V
def Mo.isK(mo:Mo)(ls:List Mv)(p j:Nat):Bool:=decide ((X3 ls j).kind=0)&&(decide ((X3 ls j).proc=p)&&(V3 (k7 mo.procs p).ai (X3 ls j).bb).aG)
def Mo.fZ(mo:Mo)(ls:List Mv)(k0 p i:Nat):List Bool:=((List.range i).filter (mo.isK ls p)).map λj=>decide (j=k0)
def Mo.fy(mo:Mo)(ls:List Mv)(p i t:Nat):Bool:=(List.range i).any λj=>mo.isK ls p j&&decide ((V3 (k7 mo.procs p).ai (X3 ls j).bb).to=t)
def Mo.mgL(mo:Mo)(st:U6)(ls:List Mv)(p j:Nat):List Bool:=((List.range j).filter λq=>mo.fy ls p ls.length (V3 (k7 mo.procs p).ai q).aq).map λq=>mo.can st p (k7 mo.procs p) (V3 (k7 mo.procs p).ai q)
def Mo.hdB(mo:Mo)(st:U6)(ls:List Mv)(k0 p:Nat):Bool:=(mo.fZ ls k0 p ls.length).any id&&(mo.mgL st ls p (k7 mo.procs p).ai.length).any id
def Mo.dP(mo:Mo)(st:U6)(ls:List Mv)(k0 n b:Nat):Bool:=a0U (λp=>W1 ((p:Int)+1) b&&mo.hdB st ls k0 p) n
variable{mo:Mo}{ls:List Mv}{k0 p i:Nat}
theorem c4A:mo.fZ ls k0 p (i+1)=mo.fZ ls k0 p i++if mo.isK ls p i then[decide (i=k0)]else[]:=by
 grind[Mo.fZ,List.range_succ]
theorem c0l:(mo.fZ ls k0 p i).length<=i:=by
 grind[Mo.fZ]
theorem c7t{t:Nat}:mo.fy ls p (i+1) t=(mo.fy ls p i t||(mo.isK ls p i&&decide ((V3 (k7 mo.procs p).ai (X3 ls i).bb).to=t))):=by
 simp[Mo.fy,Gv]
variable{st:U6}{j:Nat}
theorem c72:mo.mgL st ls p (j+1)=mo.mgL st ls p j++if mo.fy ls p ls.length (V3 (k7 mo.procs p).ai j).aq then[mo.can st p (k7 mo.procs p) (V3 (k7 mo.procs p).ai j)]else[]:=by
 grind[Mo.mgL,List.range_succ]
theorem b8c:(mo.mgL st ls p j).length<=j:=by
 grind[Mo.mgL]
structure GBv(s0 s:k4)(d:D)(l:List Bool)(vb:Nat)(cs:List D):Prop where
 g:cK s0 s d l
 v:s.get vb=some (.cells cs)
 n:s0.next<=vb
 ne:∀id n z,d=.arr id 0 n z->id≠vb
theorem GBv.fr{s0 s s':k4}{d:D}{l:List Bool}{vb:Nat}{cs:List D}(h:GBv s0 s d l vb cs)(f:Fr [] s s'):GBv s0 s' d l vb cs:=⟨h.g.fr f,f.kp h.v,h.n,h.ne⟩
theorem GBv.set{s0 s:k4}{d:D}{l:List Bool}{vb:Nat}{cs:List D}(h:GBv s0 s d l vb cs)(qn:List D):GBv s0 (s.set vb (some (.cells qn))) d l vb qn:=by
 refine⟨⟨h.g.1.st h.n _,?_⟩,a0b (t3 h.v),h.n,h.ne⟩;rcases h.g.2 with h2|⟨id,h1,h2,h3⟩
 .exact .inl h2
 .exact .inr ⟨id,h1,h2,by rw[Y8 (h.ne id _ _ h1)];exact h3⟩
variable{s:k4}{d:D}{l:List Bool}
theorem bm_gbv{fs:FuncId->Option U4}{t rest env K}{s0:k4}{b:Bool}{vb:Nat}{cs:List D}(h:GBv s0 s d l vb cs)(hl:l.length<=1000000)(k:∀d' s',GBv s0 s' d' (l++[b]) vb cs->(∀x o,s.get x=some o->(∀id n z,d=.arr id 0 n z->id≠x)->s'.get x=some o)->XQ fs [] rest ((t,d')::env) s' K):BM (a0e 1 8 d (.arr s.next 0 1 1) (s.push (.cells [.int .i64 (V6 b)]))) fs t rest env K:=by
 obtain⟨⟨h1,h2⟩,hv,hn,jt⟩:=h;have g0:(s.push (.cells [.int .i64 (V6 b)])).get s.next=some (.cells [.int .i64 (V6 b)]):=W8 rfl;have jL:(s.push (.cells [.int .i64 (V6 b)])).next=s.next+1:=sJ;have fr:Fr [] s (s.push (.cells [.int .i64 (V6 b)])):=Fr.push _;have n0:=h1.1;have lv:=t3 hv;rcases h2 with⟨rfl,rfl⟩|⟨id,rfl,hi,hg⟩
 .have e:a0e 1 8 .ag (.arr s.next 0 1 1) (s.push (.cells [.int .i64 (V6 b)]))=some (.arr (s.next+1) 0 1 1,(s.push (.cells [.int .i64 (V6 b)])).push (.cells [.int .i64 (V6 b)])):=by grind[a0e,a1u,a3z,a1V]
  rw[e];refine k _ _ ⟨⟨h1.trans (fr.ak _) sJ,.inr ⟨s.next+1,rfl,oJ,W8 sJ⟩⟩,?_,hn,λid n z he=>?_⟩ λx o hx _=>(fr.ak _).kp hx
  .exact(fr.ak _).kp hv
  .cases he;omega
 .have g1:(s.push (.cells [.int .i64 (V6 b)])).get id=some (.cells (U3 l)):=by grind[a0k,t3]
  have e:a0e 1 8 (.arr id 0 l.length 1) (.arr s.next 0 1 1) (s.push (.cells [.int .i64 (V6 b)]))=some (.arr (s.next+1) 0 (l.length+1) 1,((s.push (.cells [.int .i64 (V6 b)])).set id none).push (.cells (U3 (l++[b])))):=by
   unfold a0e;simp only[a1u,g0,g1,a3z,a1V,jL,a5p,GJ,HM,HJ,HN,FG];have c:(l.length+1)*8<=2^45/\l.length+1<=2^45:=⟨oJ,oJ⟩
   have e1:(if 1<=[D.int .i64 (V6 b)].length then some (List.take 1 [D.int .i64 (V6 b)])else none)=some [D.int .i64 (V6 b)]:=rfl;rw[e1];have e2:(1==1&&decide (8<=2^20))=true:=dJ;simp only[e2,FG,so (show¬(1=0) by decide),Fk c,a9p];rfl
  rw[e];refine k _ _ ⟨⟨(((h1.trans fr sJ).st hi none).ak _),.inr ⟨s.next+1,sJ,oJ,W8 sJ⟩⟩,?_,hn,λid n z he=>?_⟩ λx o hx hne'=>by
   have lx:=t3 hx;rw[a0k qJ,Y8 (hne' _ _ _ rfl).symm,a0k lx];exact hx
  .rw[a0k qJ,Y8 (jt id _ _ rfl).symm,a0k lv]
   exact hv
  .cases he;omega
theorem cK.lt{s0:k4}(h:cK s0 s d l):∀id n z,d=.arr id 0 n z->id<s.next:=by
 rintro id n z rfl;rcases h.2 with⟨h,_⟩|⟨jl,h,_,hg⟩
 .cases h
 simp_all[t3]
theorem cS.init1{z:Nat->Nat->Nat}:cS 1 z s (s.push (.cells ((List.range 3).map λ_=>D.ag))) (λ_=>s.next) (λ_=>3) (λ_ _=>.ag) (λ_ _=>[]) (λ_ _=>[]) [] 0:=by
 refine⟨Fr.push _,λ_ _=>sm _,λk l hk hl jt=>absurd oJ jt,λk hk=>W8 rfl,λ_ _=>.inl ⟨rfl,rfl,rfl⟩,sJ,λ_ _=>by simp[Y2],sJ,sJ,by simp[Y2],sJ,sJ⟩
end Go.V
namespace Go.Proofs.YtigbmclkjknnjaaGreat
open Go.V
theorem c87{s:k4}{g:Nat}{v:Nat}{m:X7}{mo:Mo}{ps:List (Pr×X2)}{st:U6}{x:gM}(hm:Z4 m mo ps)(ho:Z3 mo)(jB:a0P mo)(h8:fW st)(iQ:a6V mo st)(hg:GB s g)(hv:Ve s v g m mo st x){d:D}{ls:List Mv}(hl:FL 4 d (a00 ls))(jD:∀v∈ls,a8a mo v)(nJ:ls.length<=20000){pb k0:Nat}(gp:s.get pb=some (.cells (U3 (U1 (λi=>decide (i=k0)) ls.length)))) :
 CV U5 89 [.ptr v 0,d,.arr pb 0 ls.length 1] s (mo.dP st ls k0 mo.procs.length) 3:=by
 have gv:=hv.get;have lv:=t3 gv;have lp:=t3 gp;have oo:=hv.aw;have om:=hm.aw;have ow:=hm.eY;have mY:=ho.np;have od:=hl.one;have fY:a0x false d=some (.int .i64 (ls.length:Int)):=by rw[hl.len];simp
 have xQ:=hm.p;obtain⟨n3,qZ⟩:∃n3:Nat,n3=3:=⟨_,rfl⟩
 have z1:=b56 3;have m1:((24:Nat):Int)*3<=2^47:=dJ;have Ez:(72:Int)<=2^47:=dJ;have n1:(3:Int)<2^62:=dJ;have pU:=cS.init1 (s:=s) (z:=λ_ _=>1);have pU:cS 1 (λ_ _=>1) s (s.push (.cells ((List.range n3).map λ_=>D.ag))) (λ_=>s.next) (λ_=>n3) (λ_ _=>.ag) (λ_ _=>[]) (λ_ _=>[]) [] 0:=by subst qZ;exact pU
 have z1:a3l [.ag] 3=(List.range n3).map λ_=>D.ag:=by subst qZ;exact z1
 unfold CV;refine Y0 (vf:=vf89) rfl ?_;unfold vf89;refine zF ?_;refine zY (U0 gv om oo od ow z1 m1 (aN Ez n1)) ?_;generalize s.push (.cells ((List.range n3).map λ_=>D.ag))=s1 at *;clear z1 m1 Ez n1;refine a1d [0,1,2,6,7,8,20,21,22,33,157,158,159,160] (λf s'=>∃c rw E,cS 1 (λ_ _=>1) s s' (λ_=>s.next) (λ_=>n3) c rw E [] (3*mo.procs.length)/\∀j,j<3->∃l,rw 0 j=a0K (U3 l)/\l.any id=mo.dP st ls k0 mo.procs.length j) ?_ ?_
 .refine W6 [0,1,2,6,7,8,20,21,22,33,157,158,159,160] 0 mo.procs.length (λp f s'=>f 34=.int .i64 (p:Int)/\∃c rw E,cS 1 (λ_ _=>1) s s' (λ_=>s.next) (λ_=>n3) c rw E [] (3*p)/\∀j,j<3->∃l,rw 0 j=a0K (U3 l)/\l.any id=mo.dP st ls k0 p j) (.mk rfl) oJ ⟨rfl,_,_,_,pU,λj _=>⟨[],rfl,rfl⟩⟩ ?_
  clear pU;rintro p f s2 hi ⟨h,c,rw,E,hb,tI⟩;by_cases cp:p<mo.procs.length
  rotate_left
  .obtain rfl:p=mo.procs.length:=oJ
   refine zY (aN h cp) ?_;exact⟨c,rw,E,hb,tI⟩
  obtain⟨y,hy,iM⟩:=hm.proc cp;have iM:=iM .i64;rw[<- a12 cp]at hy iM;unfold V0 at iM;have oy:=hy.aw;have jh:=ho.pr _ (a1S cp);have ky:=jh.pl;have mO:=jh.el;have m1:=fu (w:=(k7 mo.procs p).ah) oJ;have m2:=eK (w:=(k7 mo.procs p).ah) oJ;have hz:a3l [.int .i64 0] (k7 mo.procs p).ah=U3 (U1 (mo.fy ls p 0) (k7 mo.procs p).ah):=a2c _;have kG:=hb.fr.kp gv;have rQ:=t3 kG;have lG:GBv s2 ((s2.push (.cells [])).push (.cells (U3 (U1 (mo.fy ls p 0) (k7 mo.procs p).ah)))) (.arr s2.next 0 0 1) [] (s2.next+1) (U3 (U1 (mo.fy ls p 0) (k7 mo.procs p).ah)) :=
   ⟨⟨(Fr.push _).ak _,.inr ⟨s2.next,rfl,sm _,by rw[a0k sJ,W8 rfl];rfl⟩⟩,W8 sJ,oJ,λid n z e=>by cases e;omega⟩
  refine zY (U0 h cp kG om oo iM oy (W0 m1 m2 hz od fY)) ?_;generalize(s2.push (.cells [])).push (.cells (U3 (U1 (mo.fy ls p 0) (k7 mo.procs p).ah)))=s3 at *;clear m1 m2 hz;refine a1d [0,1,2,6,7,8,9,11,15,17,18,19,20,21,22,33,34,35,48,49,93,102,103,104,105,113,131,132,133,141,157,158,159,160] (λf s'=>V5 (f 10)=true/\GBv s2 s' (f 10) (mo.fZ ls k0 p ls.length) (s2.next+1) (U3 (U1 (mo.fy ls p ls.length) (k7 mo.procs p).ah))) ?_ ?_
  .refine W6 [0,1,2,6,7,8,9,11,15,17,18,19,20,21,22,33,34,35,48,49,93,102,103,104,105,113,131,132,133,141,157,158,159,160] 0 ls.length (λi f s'=>f 50=.int .i64 (i:Int)/\GBv s2 s' (f 10) (mo.fZ ls k0 p i) (s2.next+1) (U3 (U1 (mo.fy ls p i) (k7 mo.procs p).ah))) (.mk rfl) oJ ⟨rfl,lG⟩ ?_
   clear lG;rintro i f' s4 jF ⟨h',h4⟩;have sN:=h4.g.one;by_cases ci:i<ls.length
   rotate_left
   .obtain rfl:i=ls.length:=oJ
    refine zY (V4 h' ci sN) ?_;exact h4
   have kh:=jD _ (a71 ci);have mA:=b0N hl ci (k:=.i64);have rV:=a2F (A:=λi=>decide (i=k0)) ci;have jJ:=c0l (mo:=mo) (ls:=ls) (k0:=k0) (p:=p) (i:=i);have jG:Fr [] s s4:=hb.fr.trans h4.g.1 sJ;have fb:∀a b,Fr [] s4 ((s4.push a).set s4.next (some b)):=λa b=>a1Q
   have kx:=c4A (mo:=mo) (ls:=ls) (k0:=k0) (p:=p) (i:=i);have xD:=λt=>c7t (mo:=mo) (ls:=ls) (p:=p) (i:=i) (t:=t)
   have iT:mo.isK ls p i=false->mo.fZ ls k0 p (i+1)=mo.fZ ls k0 p i/\mo.fy ls p (i+1)=mo.fy ls p i:=λe=>⟨by rw[kx,e];simp,by funext t;rw[xD,e];simp⟩
   have hK:mo.isK ls p i=(decide ((X3 ls i).kind=0)&&(decide ((X3 ls i).proc=p)&&(V3 (k7 mo.procs p).ai (X3 ls i).bb).aG)):=rfl;generalize uJ:X3 ls i=w at *;obtain⟨wk,wp,we,wc⟩:=w;unfold a8a at kh;simp only at kh mA hK;rcases kh with⟨rfl,hp,he⟩|⟨hk,hc⟩
   .by_cases cw:wp=p
    .subst cw
     have qw:=a6B (k:=.i64) hy.e he;have nt:=jh.inv.ed _ (a3U he);generalize mF:V3 (k7 mo.procs wp).ai we=e at *;have f2:Fr [] s4 ((((s4.push (.cells [.int .i64 0,.int .i64 0,.int .i64 0,.int .i64 0])).set s4.next (some (.cells [.int .i64 0,.int .i64 (wp:Int),.int .i64 (we:Int),.int .i64 (wc:Int)]))).push (.cells [.int .i64 0,.int .i64 0,.int .i64 0,.int .i64 0,.int .i64 0,.int .i64 0,.bool false,.int .i64 0])).set (s4.next+1) (some (.cells [.int .i64 (e.aq:Int),.int .i64 (e.to:Int),.int .i64 (e.act:Int),.int .i64 e.expr,.int .i64 e.var,.int .i64 e.chan,.bool e.aG,.int .i64 (e.node:Int)]))):=a1Q.trans b8s sJ;have pY:(((s4.push (.cells [.int .i64 0,.int .i64 0,.int .i64 0,.int .i64 0])).set s4.next (some (.cells [.int .i64 0,.int .i64 (wp:Int),.int .i64 (we:Int),.int .i64 (wc:Int)])))).get v=_:=(fb _ _).kp (jG.kp gv);have zM:=t3 (jG.kp gv);have wD:(((((s4.push (.cells [.int .i64 0,.int .i64 0,.int .i64 0,.int .i64 0])).set s4.next (some (.cells [.int .i64 0,.int .i64 (wp:Int),.int .i64 (we:Int),.int .i64 (wc:Int)]))).push (.cells [.int .i64 0,.int .i64 0,.int .i64 0,.int .i64 0,.int .i64 0,.int .i64 0,.bool false,.int .i64 0])).set (s4.next+1) (some (.cells [.int .i64 (e.aq:Int),.int .i64 (e.to:Int),.int .i64 (e.act:Int),.int .i64 e.expr,.int .i64 e.var,.int .i64 e.chan,.bool e.aG,.int .i64 (e.node:Int)])))).get pb=_:=f2.kp (jG.kp gp);have gE:(((((s4.push (.cells [.int .i64 0,.int .i64 0,.int .i64 0,.int .i64 0])).set s4.next (some (.cells [.int .i64 0,.int .i64 (wp:Int),.int .i64 (we:Int),.int .i64 (wc:Int)]))).push (.cells [.int .i64 0,.int .i64 0,.int .i64 0,.int .i64 0,.int .i64 0,.int .i64 0,.bool false,.int .i64 0])).set (s4.next+1) (some (.cells [.int .i64 (e.aq:Int),.int .i64 (e.to:Int),.int .i64 (e.act:Int),.int .i64 e.expr,.int .i64 e.var,.int .i64 e.chan,.bool e.aG,.int .i64 (e.node:Int)])))).get (s4.next+1)=some (.cells [.int .i64 (e.aq:Int),.int .i64 (e.to:Int),.int .i64 (e.act:Int),.int .i64 e.expr,.int .i64 e.var,.int .i64 e.chan,.bool e.aG,.int .i64 (e.node:Int)]):=a0b sJ;have h5:=h4.fr f2;cases xP:e.aG
     .rw[xP]at hK
      obtain⟨e1,e2⟩:=iT (by rw[hK];simp);rw[xP]at qw;refine zY (U0 h' ci mA pY om oo iM (aN oy qw)) ?_;rw[e1,e2];rw[xP]at h5;exact h5
     .rw[xP]at qw hK gE wD h5
      have uv:mo.isK ls wp i=true:=by rw[hK];simp
      rw[uv,Fk rfl]at kx;refine zY (U0 h' ci mA pY om oo iM (W0 oy qw sN wD rV)) ?_;refine bm_gbv h5 oJ λd6 s6 h6 hkp6=>?_
      have ud:=hkp6 _ _ gE λid n z e=>by have:=h4.g.lt id n z e;omega
      have o6:=h6.g.one;have g6:=h6.v;have l6:=t3 g6;have hw:=a6R (A:=mo.fy ls wp i) nt.to;have het:=nt.to;have hs:=a6G (A:=mo.fy ls wp i) (B:=mo.fy ls wp (i+1)) (i:=e.to) (b:=true) nt.to λj _=>by
       rw[xD,uv];by_cases q:j=e.to
       .rw[Fk q,q];simp
       .rw[so q]
        have:¬e.to=j:=λh=>q h.symm
        simp[this]
      rw[a3P]at hs;refine zY (X4 o6 ud g6 hw hs het) ?_;refine⟨ci,?_⟩;rw[kx];exact h6.set _
    .have e62:((wp:Int) != (p:Int))=true:=by simp;omega
     obtain⟨e1,e2⟩:=iT (by rw[hK];simp[cw]);refine zY (V1 h' ci mA e62) ?_;rw[e1,e2];exact h4.fr (fb _ _)
   .obtain⟨e1,e2⟩:=iT (by rw[hK,FP oJ];rfl)
    rcases hk with rfl|rfl
    .refine zY (V4 h' ci mA) ?_
     rw[e1,e2];exact h4.fr (fb _ _)
    .refine zY (V4 h' ci mA) ?_
     rw[e1,e2];exact h4.fr (fb _ _)
  clear lG;rintro f' s4 ⟨sN,h4⟩;have lk:=h4.g.vb.len;have jJ:=c0l (mo:=mo) (ls:=ls) (k0:=k0) (p:=p) (i:=ls.length);have wI:∀j,mo.dP st ls k0 (p+1) j=(mo.dP st ls k0 p j||(W1 ((p:Int)+1) j&&mo.hdB st ls k0 p)):=λj=>rfl
  have kJ:=hb.eN h4.g.1;by_cases ce:(mo.fZ ls k0 p ls.length).length=0
  .have e0:(((mo.fZ ls k0 p ls.length).length:Int)==0)=true:=by simp[ce]
   refine zY (V1 sN lk e0 h) ?_;refine⟨cp,c,rw,E,kJ.up oJ,λj hj=>?_⟩;obtain⟨l,e1,e2⟩:=tI j hj;have:mo.hdB st ls k0 p=false:=by unfold Mo.hdB;rw[Gi ce];rfl
   exact⟨l,e1,by rw[e2,wI,this];simp⟩
  have e0:(((mo.fZ ls k0 p ls.length).length:Int)==0)=false:=by simp;exact λh=>ce (by rw[h];rfl)
  have jG:=kJ.fr;have rJ:=jG.kp gv;have zM:=t3 rJ;have hle:a0x false y.de=some (.int .i64 ((k7 mo.procs p).ai.length:Int)):=by rw[hy.e.len];simp
  refine zY (U0 sN lk e0 rJ om oo iM (aN oy hle)) ?_;refine a1d [0,1,2,6,7,8,9,10,11,12,13,14,18,19,20,21,22,33,34,35,48,49,50,51,63,78,93,102,103,131,132,133,141,157,158,159,160] (λf2 s'=>V5 (f2 15)=true/\cK s4 s' (f2 15) (mo.mgL st ls p (k7 mo.procs p).ai.length)) ?_ ?_
  .refine W6 [0,1,2,6,7,8,9,10,11,12,13,14,18,19,20,21,22,33,34,35,48,49,50,51,63,78,93,102,103,131,132,133,141,157,158,159,160] 0 (k7 mo.procs p).ai.length (λj f2 s'=>f2 104=.int .i64 (j:Int)/\cK s4 s' (f2 15) (mo.mgL st ls p j)) (.mk rfl) oJ ⟨rfl,cK.nil (Fr.refl _ _)⟩ ?_
   rintro j f2 s5 hj ⟨h2,h5⟩;have yi:=h5.one;by_cases cj:j<(k7 mo.procs p).ai.length
   rotate_left
   .obtain rfl:j=(k7 mo.procs p).ai.length:=oJ
    refine zY (V4 h2 cj yi) ?_;exact h5
   have qw:=a6B (k:=.i64) hy.e cj;have nt:=jh.inv.ed _ (a3U cj);have AP:=c72 (mo:=mo) (st:=st) (ls:=ls) (p:=p) (j:=j);have uf:=b8c (mo:=mo) (st:=st) (ls:=ls) (p:=p) (j:=j);generalize mF:V3 (k7 mo.procs p).ai j=e at *;have BH:Fr [] s5 ((s5.push (.cells [.int .i64 0,.int .i64 0,.int .i64 0,.int .i64 0,.int .i64 0,.int .i64 0,.bool false,.int .i64 0])).set s5.next (some (.cells [.int .i64 (e.aq:Int),.int .i64 (e.to:Int),.int .i64 (e.act:Int),.int .i64 e.expr,.int .i64 e.var,.int .i64 e.chan,.bool e.aG,.int .i64 (e.node:Int)]))):=a1Q;have gS:(((s5.push (.cells [.int .i64 0,.int .i64 0,.int .i64 0,.int .i64 0,.int .i64 0,.int .i64 0,.bool false,.int .i64 0])).set s5.next (some (.cells [.int .i64 (e.aq:Int),.int .i64 (e.to:Int),.int .i64 (e.act:Int),.int .i64 e.expr,.int .i64 e.var,.int .i64 e.chan,.bool e.aG,.int .i64 (e.node:Int)])))).get (s2.next+1)=_:=BH.kp (h5.1.kp h4.v);have gE:(((s5.push (.cells [.int .i64 0,.int .i64 0,.int .i64 0,.int .i64 0,.int .i64 0,.int .i64 0,.bool false,.int .i64 0])).set s5.next (some (.cells [.int .i64 (e.aq:Int),.int .i64 (e.to:Int),.int .i64 (e.act:Int),.int .i64 e.expr,.int .i64 e.var,.int .i64 e.chan,.bool e.aG,.int .i64 (e.node:Int)])))).get s5.next=some (.cells [.int .i64 (e.aq:Int),.int .i64 (e.to:Int),.int .i64 (e.act:Int),.int .i64 e.expr,.int .i64 e.var,.int .i64 e.chan,.bool e.aG,.int .i64 (e.node:Int)]):=a0b sJ;have Ff:=nt.f;have AO:=a2F (A:=mo.fy ls p ls.length) (w:=(k7 mo.procs p).ah) (i:=e.aq) nt.f;have jO:=(jG.trans h5.1 sJ).trans BH sJ;have ET:=h5.fr BH;cases uN:mo.fy ls p ls.length e.aq
   .rw[uN,a4Q]at AO
    rw[uN,so sJ,Fl]at AP;refine zY (X4 h2 cj qw gS AO Ff) ?_;rw[AP];exact ET
   .rw[uN,a3P]at AO
    rw[uN,Fk rfl]at AP;refine zY (U0 h2 cj qw gS AO Ff yi gE) ?_;refine xb (b7S hm ho jB h8 iQ (hg.fr jO) (hv.fr jO) cp nt) λs6 f6=>?_
    refine V9 ?_;refine b2Y (ET.fr f6) oJ λd7 s7 h7=>?_
    have o7:=h7.one;refine zY o7 ?_;refine⟨cj,?_⟩;rw[AP];exact h7
  rintro f2 s5 ⟨yi,h5⟩;have jO:=jG.trans h5.1 sJ;have uf:=b8c (mo:=mo) (st:=st) (ls:=ls) (p:=p) (j:=(k7 mo.procs p).ai.length);refine zY (aN sN yi) ?_;refine xb (a8K (hg.fr jO) (h4.g.vb.fr h5.1) oJ) λs6 f6=>?_
  have jP:=jO.trans f6 sJ;refine V9 ?_;refine xb (a8K (hg.fr jP) (h5.vb.fr f6) oJ) λs7 f7=>?_
  have mC:=jP.trans f7 sJ;refine V9 ?_;refine xb (a1A (hg.fr mC) _ _) λs8 f8=>?_
  have qV:=(((kJ.eN h5.1).eN f6).eN f7).eN f8;rw[show((mo.fZ ls k0 p ls.length).any id&&(mo.mgL st ls p (k7 mo.procs p).ai.length).any id)=mo.hdB st ls k0 p from rfl];generalize mo.hdB st ls k0 p=B at *;refine V9 ?_;refine W6 [0,1,2,6,7,8,9,10,11,12,13,14,15,17,18,20,21,22,33,34,35,48,49,50,51,63,78,93,102,103,104,105,113,131,157,158,159,160] 0 3 (λj f3 s'=>f3 132=.int .i64 (j:Int)/\∃c rw E,cS 1 (λ_ _=>1) s s' (λ_=>s.next) (λ_=>n3) c rw E [] (3*p+j)/\∀b,b<3->∃l,rw 0 b=a0K (U3 l)/\l.any id=if b<j then mo.dP st ls k0 (p+1) b else mo.dP st ls k0 p b) (.mk rfl) oJ ⟨rfl,c,rw,E,qV,λj hj=>sU (tI j hj)⟩ ?_;clear qV kJ hb h4 h5 tI;rintro j f3 s9 hj ⟨h3,c,rw,E,hb,tI⟩;by_cases cj:j<3
  rotate_left
  .obtain rfl:j=3:=oJ
   have vk:(((3:Nat):Int)<3)=False:=sJ;refine zY (V4 h3 vk h) ?_;refine⟨cp,c,rw,E,hb.up oJ,λb qG=>?_⟩;obtain⟨l,e1,e2⟩:=tI b qG;exact⟨l,e1,by rw[e2,Fk qG]⟩
  have vk:((j:Int)<3)=True:=by simp;omega
  have hu:=a9q (i:=j) oJ;have lH:=a8c (x:=((p+1:Nat):Int)) (i:=j) oJ;have ha:=a8m (x:=((p+1:Nat):Int)/2^j);rw[a9k]at ha;have ep:((p+1:Nat):Int)=(p:Int)+1:=oJ;have jZ:=wI j;rw[<- ep]at jZ;have vn:∀b,b<3->b≠j->(if b<j+1 then mo.dP st ls k0 (p+1) b else mo.dP st ls k0 p b)=if b<j then mo.dP st ls k0 (p+1) b else mo.dP st ls k0 p b:=λb _ hn=>by
   by_cases q:b<j
   .rw[Fk q,Fk oJ]
   .rw[so q,so oJ]
  cases pZ:W1 ((p+1:Nat):Int) j
  .rw[pZ,a4Q]at ha
   rw[pZ,FY,HS]at jZ;refine zY (W0 h3 vk hu lH ha) ?_;refine⟨cj,c,rw,E,hb.up oJ,λb qG=>?_⟩;obtain⟨l,e1,e2⟩:=tI b qG;refine⟨l,e1,?_⟩;rw[e2];by_cases q:b=j
   .subst q
    rw[so oJ,Fk oJ,jZ]
   .rw[vn b qG q]
  .rw[pZ,a3P]at ha
   rw[pZ,Gd]at jZ;have ga:=hb.ar 0 dJ;have la:=t3 ga;have zp:((List.range n3).map (c 0))[j]?=some (c 0 j):=a8M oJ;have my:=hb.one 0 j;refine zY (U0 h3 vk hu lH ha ga zp my) ?_;refine b51 (k:=0) (j:=j) hb dJ (by show j<n3;omega) rfl rfl dJ oJ λoj d10 E10 od10 uq hfr10 hb10=>?_
   have uq:oj.get s.next=some (.cells ((List.range n3).map (c 0))):=uq;have la10:=t3 uq;have mw:j<((List.range n3).map (c 0)).length:=by simp;omega
   have hs:=a7H (f:=c) (k:=0) (j:=j) (n:=n3) (x:=d10) oJ;refine zY (V1 od10 uq mw hs) ?_;refine⟨cj,_,_,_,hb10.up oJ,λb qG=>?_⟩;obtain⟨l,e1,e2⟩:=tI b qG;by_cases q:b=j
   .subst q
    refine⟨l++[B],?_,?_⟩
    .rw[a5l,e1]
     simp[a0K,a9p,U3]
    .rw[Fk oJ,jZ,List.any_append,e2,so oJ]
     simp
   .rw[vn b qG q]
    exact⟨l,by rw[a3M λh=>q h.2];exact e1,e2⟩
 rintro f s2 ⟨c,rw,E,hb,tI⟩;have m1:(24:Int)<=2^47:=dJ;have m2:(3:Int)<2^62:=dJ;have hz:=a2c 3;rw[a3Q (mo.dP st ls k0 mo.procs.length)]at hz;obtain⟨gb,f0⟩:=iE (s:=s2) (A:=mo.dP st ls k0 mo.procs.length) (w:=3);refine zY (V4 m1 m2 hz) ?_;generalize s2.push (.cells (U3 (U1 (Y1 (mo.dP st ls k0 mo.procs.length) 0) 3)))=s3 at *;generalize mo.dP st ls k0 mo.procs.length=A at *;refine W6 [0,1,2,6,7,8,9,10,11,12,13,14,15,17,18,19,20,33,34,35,48,49,50,51,63,78,93,102,103,104,105,113,131,132,133,141,157,158] 0 3 (λj f3 s'=>f3 159=.int .i64 (j:Int)/\s'.get s2.next=some (.cells (U3 (U1 (Y1 A j) 3)))/\Fr [] s2 s') (.mk rfl) oJ ⟨rfl,gb,f0⟩ ?_;clear gb f0 hz;rintro j f3 s4 hj ⟨h3,gb,f4⟩;by_cases cj:j<3
 rotate_left
 .obtain rfl:j=3:=oJ
  have vk:(((3:Nat):Int)<3)=False:=sJ;rw[a3w]at gb;refine zY (aN h3 vk) ?_;exact⟨_,rfl,hb.fr.1,gb,hb.fr.trans f4 sJ⟩
 have vk:((j:Int)<3)=True:=by simp;omega
 have ga:=(hb.eN f4).ar 0 dJ;have zp:((List.range n3).map (c 0))[j]?=some (c 0 j):=a8M oJ;have my:=hb.one 0 j;obtain⟨l,e1,e2⟩:=tI j cj;have mH:=hb.rp 0 j;have hlen:=hb.ln 0 j;rw[e1]at mH hlen;rw[a9E,a5p]at hlen;have px:VB s4 (c 0 j) l:=(mH.rr (R:=E 0 j) λe he=>he).vb ((hb.he 0 j).fr f4);have jG:=hb.fr.trans f4 sJ;refine zY (W0 h3 vk ga zp my) ?_;refine xb (a8K (hg.fr jG) px oJ) λs5 f5=>?_
 have uX:=f5.kp gb;have lb5:=t3 uX;have mj:=a5E (A:=A) (b:=l.any id) cj e2.symm;have se:=a3d (A:=A) cj;refine zY (V4 uX mj se) ?_;exact⟨cj,(f4.trans f5 sJ).st (sm _) _⟩
end Go.Proofs.YtigbmclkjknnjaaGreat
namespace Go.V
def Mo.iF(mo:Mo)(st:U6)(res:Rs)(i:Nat):List Bool:=(res 0 i).getD (mo.cM st i)
def Mo.gQ(mo:Mo)(st:U6)(res:Rs)(i:Nat):List Bool:=(res 1 i).getD (mo.cE st i)
def iG(room:Int)(more less:Bool)(n:Nat):List Bool:=[W1 (n:Int) 0 != (more||less),if 1<room then W1 (n:Int) 1 != ((more&&W1 (n:Int) 0)||(less&&!W1 (n:Int) 0))else W1 (n:Int) 1]
def Mo.msN(mo:Mo)(st:U6)(c i:Nat):List Bool:=if i+1<(U7 mo.ae c).room.toNat then mo.cH st c (i+1)else U1 (λ_=>false) (U7 mo.ae c).width.toNat
def Mo.mvM(mo:Mo)(st:U6)(more less:Bool)(w:List Bool)(c i:Nat):List Bool:=U1 (λj=>(if less then aB (mo.msN st c i) j else aB (mo.cH st c i) j)||((more&&decide ((U8 st.ae c).length=i))&&aB w j)) (U7 mo.ae c).width.toNat
def Mo.nxW(mo:Mo)(res:Rs)(c:Nat):List Bool:=(res 2 (c*2)).getD (U1 (λ_=>false) (U7 mo.ae c).width.toNat)
def Mo.gf(mo:Mo)(st:U6)(res:Rs)(c:Nat):List Bool:=iG (U7 mo.ae c).room (res 2 (c*2)).isSome (res 2 (c*2+1)).isSome (U8 st.ae c).length
def Mo.nxM(mo:Mo)(st:U6)(res:Rs)(c i:Nat):List Bool:=mo.mvM st (res 2 (c*2)).isSome (res 2 (c*2+1)).isSome (mo.nxW res c) c i
def Mo.nxL(mo:Mo)(st:U6)(res:Rs)(c:Nat):List (List Bool):=(List.range (U7 mo.ae c).room.toNat).map (mo.nxM st res c)
structure a4g(mo:Mo)(res:Rs):Prop where
 a:∀i l,i<mo.procs.length->res 0 i=some l->l.length=wid ((k7 mo.procs i).ah:Int)
 v:∀i l,i<mo.vars.length->res 1 i=some l->l.length=(bh mo.vars i).width.toNat
 w:∀c l,c<mo.ae.length->res 2 (c*2)=some l->l.length=(U7 mo.ae c).width.toNat
variable{mo:Mo}
theorem a4g.no:a4g mo cC:=⟨by simp[cC],by simp[cC],by simp[cC]⟩
variable{st:U6}{res:Rs}{i:Nat}
theorem c2M(h:a4g mo res)(hi:i<mo.procs.length):(mo.iF st res i).length=wid ((k7 mo.procs i).ah:Int):=by
 unfold Mo.iF;cases e:res 0 i with
 |none=>simp[Mo.cM]
 |some l=>simpa using h.a i l hi e
theorem c8n(h:a4g mo res)(hi:i<mo.vars.length):(mo.gQ st res i).length=(bh mo.vars i).width.toNat:=by
 unfold Mo.gQ;cases e:res 1 i with
 |none=>simp[Mo.cE]
 |some l=>simpa using h.v i l hi e
theorem a0R{α:Type}{f:Nat->Nat->α}{k j k' j':Nat}{x:α}:X6 f k j x k' j'=if k'=k/\j'=j then x else f k' j':=rfl
variable{v:Mv}
theorem c2E(h:mo.cF st v res):a4g mo res:=by
 unfold Mo.cF at h;split at h
 .subst h
  refine⟨?_,?_,?_⟩<;>intro i l hi e<;>rw[a0R]at e<;>split at e<;>first|cases e|skip
  .omega
  .omega
  .omega
 split at h
 .subst h
  refine⟨?_,?_,?_⟩<;>intro i l hi e<;>rw[a0R]at e<;>split at e<;>first|cases e|skip
  .omega
  .omega
  .have:v.chan=i:=oJ
   simp_all[Mo.cH]
 .simp only at h
  have key:∀{r:Rs},a4g mo r->a4g mo (X6 r 0 v.proc (some (bL ((V3 (k7 mo.procs v.proc).ai v.bb).to:Int) (wid ((k7 mo.procs v.proc).ah:Int))))):=λ{r}h=>by
   refine⟨λi l hi e=>?_,λi l hi e=>?_,λi l hi e=>?_⟩<;>rw[a0R]at e<;>split at e
   .rename_i q;cases e;rw[q.2];simp
   .exact h.a i l hi e
   .omega
   .exact h.v i l hi e
   .omega
   .exact h.w i l hi e
  have zr:∀{r:Rs}{u:Nat}{z:Int},a4g mo r->a4g mo (X6 r 1 u (some (bL z (bh mo.vars u).width.toNat))):=λ{r u z}h=>by
   refine⟨λi l hi e=>?_,λi l hi e=>?_,λi l hi e=>?_⟩<;>rw[a0R]at e<;>split at e
   .omega
   .exact h.a i l hi e
   .rename_i q;cases e;rw[q.2];simp
   .exact h.v i l hi e
   .omega
   .exact h.w i l hi e
  have keyC:∀{r:Rs}{u:Nat}{z:Int},a4g mo r->a4g mo (X6 r 2 (u*2) (some (bL z (U7 mo.ae u).width.toNat))):=λ{r u z}h=>by
   refine⟨λi l hi e=>?_,λi l hi e=>?_,λi l hi e=>?_⟩<;>rw[a0R]at e<;>split at e
   .omega
   .exact h.a i l hi e
   .omega
   .exact h.v i l hi e
   .rename_i q;cases e;have:i=u:=oJ
    rw[this];simp
   .exact h.w i l hi e
  have keyG:∀{r:Rs}{u:Nat},a4g mo r->a4g mo (X6 r 2 (u*2+1) (some [])):=λ{r u}h=>by
   refine⟨λi l hi e=>?_,λi l hi e=>?_,λi l hi e=>?_⟩<;>rw[a0R]at e<;>split at e
   .omega
   .exact h.a i l hi e
   .omega
   .exact h.v i l hi e
   .omega
   .exact h.w i l hi e
  split at h
  .obtain⟨n,_,_,rfl⟩:=h
   exact zr (key .no)
  split at h
  .obtain⟨n,_,_,rfl⟩:=h
   exact keyC (key .no)
  split at h
  .subst h
   exact keyG (zr (key .no))
  .subst h
   exact key .no
variable{room:Int}{n:Nat}
theorem b7G{more less:Bool}:(iG room more less n).length=2:=rfl
def Mo.im(mo:Mo)(st:U6)(res:Rs):U6 :=
 ⟨(List.range mo.procs.length).map λi=>num (aB (mo.iF st res i)) (wid ((k7 mo.procs i).ah:Int)),(List.range mo.vars.length).map λi=>a0d (aB (mo.gQ st res i)) (bh mo.vars i).width.toNat,(List.range mo.ae.length).map λi=>List.replicate (num (aB (mo.gf st res i)) 2) 0,-1⟩
theorem b8g(hi:i<mo.procs.length):W2 (mo.im st res).aF i=num (aB (mo.iF st res i)) (wid ((k7 mo.procs i).ah:Int)):=by grind[Mo.im,W2]
theorem b8m(hi:i<mo.vars.length):X9 (mo.im st res).vars i=a0d (aB (mo.gQ st res i)) (bh mo.vars i).width.toNat:=by grind[Mo.im,X9]
theorem c1W(hi:i<mo.ae.length):U8 (mo.im st res).ae i=List.replicate (num (aB (mo.gf st res i)) 2) 0:=by grind[Mo.im,U8]
theorem nxS_ok(hf:a0P mo)(h:a4g mo res):a6V mo (mo.im st res)/\fW (mo.im st res)/\(∀i,i<mo.procs.length->mo.cM (mo.im st res) i=mo.iF st res i)/\(∀i,i<mo.vars.length->mo.cE (mo.im st res) i=mo.gQ st res i)/\∀i,i<mo.ae.length->Mo.cN (mo.im st res) i=mo.gf st res i:=by
 have nz:∀i,num (aB (mo.gf st res i)) 2<=3:=λi=>by have:=a2g (aB (mo.gf st res i)) 2;omega
 have hw:∀i,i<mo.vars.length->0<(bh mo.vars i).width.toNat/\(bh mo.vars i).width.toNat<=8:=λi hi=>by have:=hf.vr _ (a4C hi);omega
 refine⟨⟨by simp[Mo.im],by simp[Mo.im],by simp[Mo.im],λi hi=>?_,λi h1 h2=>?_,λi hi=>?_⟩,⟨λn hn=>?_,λl hl=>?_⟩,λi hi=>?_,λi hi=>?_,λi hi=>?_⟩
 .simp_all[b8g,a2g]
 .have e:=b8m (st:=st) (res:=res) h2
  grind[a26,a3x,b16]
 .grind[c1W]
 .obtain⟨i,hi,rfl⟩:=Fs.1 hn
  grind[b0z,b5X]
 .obtain⟨i,hi,rfl⟩:=Fs.1 hl
  grind[I8.zero]
 .simp_all[Mo.cM,b8g,b1e,c2M,Gk]
 .simp_all[Mo.cE,b8m,b5z,c8n,Gk]
 .unfold Mo.cN
  rw[c1W hi,List.length_replicate,b1e (by unfold Mo.gf;rw[b7G];exact sm _),Gk (by unfold Mo.gf;rw[b7G];exact sm _)]
theorem b7w:iG room false false n=bL (n:Int) 2:=by
 simp[iG,bL,Gv]
theorem c8a(h:(n:Int)<room)(hr:room<=3):iG room true false n=bL ((n+1:Nat):Int) 2:=by
 have e:(n=0/\room=1)\/(n=0/\room=2)\/(n=0/\room=3)\/(n=1/\room=2)\/(n=1/\room=3)\/(n=2/\room=3):=oJ;rcases e with⟨rfl,rfl⟩|⟨rfl,rfl⟩|⟨rfl,rfl⟩|⟨rfl,rfl⟩|⟨rfl,rfl⟩|⟨rfl,rfl⟩<;>decide
theorem c7j(h0:0<n)(h:(n:Int)<=room)(hr:room<=3):iG room false true n=bL ((n-1:Nat):Int) 2:=by
 have e:(n=1/\room=1)\/(n=1/\room=2)\/(n=1/\room=3)\/(n=2/\room=2)\/(n=2/\room=3)\/(n=3/\room=3):=oJ;rcases e with⟨rfl,rfl⟩|⟨rfl,rfl⟩|⟨rfl,rfl⟩|⟨rfl,rfl⟩|⟨rfl,rfl⟩|⟨rfl,rfl⟩<;>decide
variable{w:Nat}
theorem c5T:bL 0 w=U1 (λ_=>false) w:=by
 simp[bL,U1,W1]
theorem b0d{n:Int}:U1 (λj=>aB (bL n w) j) w=bL n w:=by
 grind[a5r,a1r]
variable{l:List Int}
theorem c8z{x:Int}:X9 (l++[x]) i=if i=l.length then x else X9 l i:=by
 grind[X9]
theorem c8N:X9 (l.drop 1) i=X9 l (i+1):=by
 simp[X9]
variable{ju:U6}
def ChC(mo:Mo)(st:U6)(res:Rs)(ju:U6)(c:Nat):Prop :=
 (res 2 (c*2)=none/\res 2 (c*2+1)=none/\U8 ju.ae c=U8 st.ae c) \/
 (∃z z',res 2 (c*2)=some (bL z (U7 mo.ae c).width.toNat)/\res 2 (c*2+1)=none/\U8 ju.ae c=U8 st.ae c++[z']/\bL z' (U7 mo.ae c).width.toNat=bL z (U7 mo.ae c).width.toNat/\((U8 st.ae c).length:Int)<(U7 mo.ae c).room) \/
 (∃l,res 2 (c*2)=none/\res 2 (c*2+1)=some l/\U8 ju.ae c=(U8 st.ae c).drop 1/\0<(U8 st.ae c).length)
theorem b8K(hf:a0P mo)(iQ:Fit mo st){c:Nat}(hc:c<mo.ae.length)(h:ChC mo st res ju c):mo.gf st res c=Mo.cN ju c/\∀i,i<(U7 mo.ae c).room.toNat->mo.nxM st res c i=mo.cH ju c i:=by
 have mM:=hf.ch _ (a3S hc);have hlen:=(a15.2 iQ).cl c hc;unfold Mo.gf Mo.nxM Mo.nxW Mo.mvM Mo.cN Mo.cH;rcases h with⟨h1,h2,h3⟩|⟨z,z',h1,h2,h3,h4,h5⟩|⟨l,h1,h2,h3,h4⟩
 .simp_all[b7w,b0d]
 .rw[h1,h2,h3]
  refine⟨?_,λi hi=>?_⟩
  .grind[c8a]
  .simp only[Option.isSome_none,Option.isSome_some,Ho,Gd,Fw,FF,c8z]
   by_cases q:i=(U8 st.ae c).length
   .subst q
    rw[b2C oJ,Fk rfl,h4];conv=>rhs;rw[<- b0d]
    refine a4I λj hj=>?_
    simp_all[b0P,W1]
   .rw[so q]
    grind[b0d]
 .rw[h1,h2,h3]
  refine⟨?_,λi hi=>?_⟩
  .grind[c7j]
  .simp only[Option.isSome_none,Option.isSome_some,FY,HS,FG,c8N]
   unfold Mo.msN;split
   .exact b0d
   grind[b2C,c5T,a4I,a8z]
theorem nx_do(ho:Z3 mo)(hf:a0P mo)(iQ:Fit mo st)(hv:mo.mvOk st v)(he:mo.cF st v res) :
 (∀i,i<mo.procs.length->mo.iF st res i=mo.cM (mo.ee st v) i)/\(∀i,i<mo.vars.length->mo.gQ st res i=mo.cE (mo.ee st v) i)/\∀c,c<mo.ae.length->ChC mo st res (mo.ee st v) c:=by
 have uo:=a15.2 iQ;unfold Mo.cF at he;rcases hv with⟨hk,hp,nt,kg⟩|⟨hk,hc,hlen⟩|⟨hk,hc,hlen,jR⟩
 .rw[so oJ,so oJ]at he
  rw[b6N hk];unfold Mo.doE;rw[c1A];simp only at he⊢;have jx:=(ho.pr _ (a1S hp)).inv.ed _ (a3U nt);have kQ:=(ho.pr _ (a1S hp)).var;generalize V3 (k7 mo.procs v.proc).ai v.bb=e at *;have ky:v.proc<st.aF.length:=by rw[uo.aF];exact hp
  unfold Mo.can at kg;simp only[Fo,Fy]at kg;obtain⟨⟨_,hex⟩,pV⟩:=kg;have hA:∀i,i<mo.procs.length->res 0 i=(if i=v.proc then some (bL (e.to:Int) (wid ((k7 mo.procs v.proc).ah:Int)))else none)->mo.iF st res i=mo.cM ⟨st.aF.set v.proc e.to,cy st.vars (mo.wV (U8 st.ae e.chan.toNat) e (mo.ex (k7 mo.procs v.proc) st e 0).1),cy st.ae (mo.wC (U8 st.ae e.chan.toNat) e (mo.ex (k7 mo.procs v.proc) st e 0).1),if e.aG&&mo.cL ⟨st.aF.set v.proc e.to,cy st.vars (mo.wV (U8 st.ae e.chan.toNat) e (mo.ex (k7 mo.procs v.proc) st e 0).1),cy st.ae (mo.wC (U8 st.ae e.chan.toNat) e (mo.ex (k7 mo.procs v.proc) st e 0).1),-1⟩ v.proc (k7 mo.procs v.proc)then(v.proc:Int)else -1⟩ i:=by
   intro i hi h;unfold Mo.iF Mo.cM;simp only[b1A ky];rw[h];by_cases q:i=v.proc
   .grind
   .grind
  unfold Mo.wV Mo.wC at *;split at he
  .rename_i ha
   obtain⟨n,hn,lD,rfl⟩:=he;obtain⟨u,xV,rN⟩:=jx.v1 (.inl ha);have hu:=kQ u xV;have rF:u<st.vars.length:=by rw[uo.vars];exact hu
   rw[rN,an]at *;simp only[ha,FG,show¬((1:Nat)=2) by decide,show¬((1:Nat)=3) by decide,FF,cy]at hA⊢;refine⟨λi hi=>hA i hi ?_,λi hi=>?_,λc hc=>.inl ⟨?_,?_,rfl⟩⟩
   .simp[a0R,cC]
   .unfold Mo.gQ Mo.cE
    simp only[b1V rF,a0R,true_and];by_cases q:i=u
    .simp_all[a9B]
    .rw[so q,so q,so sJ];rfl
   .simp[a0R,cC]
   .simp[a0R,cC]
  split at he
  .rename_i ha
   obtain⟨n,hn,lD,rfl⟩:=he;obtain⟨u,rN,hu⟩:=jx.c1 (.inl ha);have rF:u<st.ae.length:=by rw[uo.ae];exact hu
   have BB:e.chan.toNat=u:=oJ;simp only[BB]at hA pV⊢;simp only[ha,FG,show¬((2:Nat)=1) by decide,show¬((2:Nat)=3) by decide,FF,cy,Fy]at hA pV⊢;refine⟨λi hi=>hA i hi ?_,λi hi=>?_,λc hc=>?_⟩
   .simp[a0R,cC]
   .simp[Mo.gQ,Mo.cE,a0R,cC]
   .by_cases q:c=u
    .subst q
     refine .inr (.inl ⟨n,W3 n (U7 mo.ae c).width.toNat,?_,?_,?_,a9B,pV⟩)
     .simp[a0R]
     .rw[a0R,so oJ];simp[a0R,cC]
     simp_all[a4R]
    .refine .inl ⟨?_,?_,?_⟩
     .rw[a0R,so oJ];simp[a0R,cC]
     .rw[a0R,so oJ];simp[a0R,cC]
     simp_all[a4R]
  split at he
  .rename_i ha
   subst he;obtain⟨u,xV,rN⟩:=jx.v1 (.inr ha);obtain⟨d,hd2,hd⟩:=jx.c1 (.inr ha);have hu:=kQ u xV;have rF:u<st.vars.length:=by rw[uo.vars];exact hu
   have nL:d<st.ae.length:=by rw[uo.ae];exact hd
   have BB:e.var.toNat=u:=oJ;have hd3:e.chan.toNat=d:=oJ;simp only[BB,hd3]at hA pV⊢;simp only[ha,FG,show¬((3:Nat)=1) by decide,show¬((3:Nat)=2) by decide,FF,cy,Fy]at hA pV⊢;refine⟨λi hi=>hA i hi ?_,λi hi=>?_,λc hc=>?_⟩
   .simp[a0R,cC]
   .unfold Mo.gQ Mo.cE
    simp only[b1V rF,a0R,true_and,show¬((1:Nat)=2) by decide,false_and,FF];by_cases q:i=u
    .simp_all[a9B]
    .rw[so q,so q,so sJ];rfl
   .by_cases q:c=d
    .subst q
     refine .inr (.inr ⟨[],?_,?_,?_,pV⟩)
     .rw[a0R,so oJ];simp[a0R,cC]
     .simp[a0R]
     simp_all[a4R]
    .refine .inl ⟨?_,?_,?_⟩
     .rw[a0R,so oJ];simp[a0R,cC]
     .rw[a0R,so oJ];simp[a0R,cC]
     simp_all[a4R]
  .rename_i h1 h2 h3
   subst he;simp only[h1,h2,h3,FF,cy]at hA⊢;refine⟨λi hi=>hA i hi ?_,λi hi=>?_,λc hc=>.inl ⟨?_,?_,rfl⟩⟩
   .simp[a0R,cC]
   .simp[Mo.gQ,Mo.cE,a0R,cC]
   .simp[a0R,cC]
   .simp[a0R,cC]
 .rw[Fk hk]at he
  subst he;have kU:v.chan<st.ae.length:=by rw[uo.ae];exact hc
  unfold Mo.ee;rw[Fk hk];refine⟨λi hi=>?_,λi hi=>?_,λc hc=>?_⟩
  .simp[Mo.iF,Mo.cM,a0R,cC]
  .simp[Mo.gQ,Mo.cE,a0R,cC]
  .by_cases q:c=v.chan
   .subst q
    refine .inr (.inr ⟨[],?_,?_,?_,hlen⟩)
    .rw[a0R,so oJ];rfl
    .simp[a0R]
    simp_all[a4R]
   .refine .inl ⟨?_,?_,?_⟩
    .rw[a0R,so oJ];rfl
    .rw[a0R,so oJ];rfl
    simp_all[a4R]
 .rw[so oJ,Fk hk]at he
  subst he;have kU:v.chan<st.ae.length:=by rw[uo.ae];exact hc
  unfold Mo.ee;rw[so oJ,Fk hk];refine⟨λi hi=>?_,λi hi=>?_,λc hc=>?_⟩
  .simp[Mo.iF,Mo.cM,a0R,cC]
  .simp[Mo.gQ,Mo.cE,a0R,cC]
  .by_cases q:c=v.chan
   .subst q
    refine .inr (.inl ⟨X9 (U8 st.ae v.chan) 0,X9 (U8 st.ae v.chan) 0,?_,?_,?_,rfl,jR⟩)
    .simp[a0R,Mo.cH]
    .rw[a0R,so oJ];rfl
    simp_all[a4R]
   .refine .inl ⟨?_,?_,?_⟩
    .rw[a0R,so oJ];rfl
    .rw[a0R,so oJ];rfl
    simp_all[a4R]
variable{ls:List Mv}{k0 p:Nat}
theorem b45(hk:k0<ls.length):(mo.fZ ls k0 p ls.length).any id=mo.isK ls p k0:=by
 rw[FV,Ht];unfold Mo.fZ;simp_all
theorem bit0(b:Nat):W1 0 b=false:=by simp[W1]
variable{b:Nat}
theorem b76(h:∀p,p<n->mo.hdB ju ls k0 p=false):mo.dP ju ls k0 n b=false:=by
 unfold Mo.dP;rw[HF];simp_all[a5B]
variable{t:Nat}
theorem c80(ho:Z3 mo)(hp:p<mo.procs.length)(ht:W2 ju.aF p=t)(hb:mo.fy ls p ls.length t=true):(mo.mgL ju ls p (k7 mo.procs p).ai.length).any id=mo.cL ju p (k7 mo.procs p):=by
 unfold Mo.mgL Mo.cL;rw[FV,Ht,Ht];constructor
 .rintro⟨b,h1,h2⟩
  obtain⟨q,h3,rfl⟩:=Fs.1 h1;grind[a3U]
 .rintro⟨e,h1,h2⟩
  obtain⟨q,h3,rfl⟩:=FQ h1;have he:V3 (k7 mo.procs p).ai q=(k7 mo.procs p).ai[q]:=by simp[V3,List.getD,h3]
  refine⟨true,Fs.2 ⟨q,Gu.2 ⟨FU.2 h3,?_⟩,by rw[he,h2]⟩,rfl⟩;simp_all[Mo.can]
theorem hd_ok(ho:Z3 mo)(iQ:Fit mo st)(hk:k0<ls.length)(hv:X3 ls k0∈mo.aA st)(b:Nat):mo.dP (mo.ee st (X3 ls k0)) ls k0 mo.procs.length b=W1 ((mo.ee st (X3 ls k0)).hold+1) b:=by
 have uo:=a15.2 iQ;rcases b0y.1 hv with⟨h1,_,h2,h3,h4,h5⟩|⟨h1,h2,h3⟩
 .rw[b6N h1]
  unfold Mo.doE;have jh:=ho.pr _ (a1S h2);have hem:=a3U h3;have ky:(X3 ls k0).proc<st.aF.length:=by rw[uo.aF];exact h2
  have hK:∀p,mo.isK ls p k0=(decide ((X3 ls k0).proc=p)&&(V3 (k7 mo.procs p).ai (X3 ls k0).bb).aG):=λp=>by
   grind[Mo.isK]
  generalize mF:V3 (k7 mo.procs (X3 ls k0).proc).ai (X3 ls k0).bb=e at *;cases xP:e.aG
  .rw[b76 λp hp=>by
    unfold Mo.hdB;rw[b45 hk,hK];by_cases q:(X3 ls k0).proc=p
    .rw[<- q,mF,xP];simp
    .simp[q]]
   simp[bit0]
  .have hB:∀p,p<mo.procs.length->∀z,mo.hdB { mo.bj st (X3 ls k0).proc (k7 mo.procs (X3 ls k0).proc) e with hold:=z } ls k0 p=(decide ((X3 ls k0).proc=p)&&mo.cL (mo.bj st (X3 ls k0).proc (k7 mo.procs (X3 ls k0).proc) e) (X3 ls k0).proc (k7 mo.procs (X3 ls k0).proc)):=by
    intro p hp z;unfold Mo.hdB;rw[b45 hk,hK];by_cases q:(X3 ls k0).proc=p
    .subst q
     rw[mF,xP];simp only[Iz,GC,Gd];rw[c80 ho hp (t:=e.to)]
     .unfold Mo.cL
      rw[FV,Ht,Ht];constructor
      .rintro⟨x,hx,hc⟩
       exact⟨x,hx,by rwa [c1w ho jh hx]at hc⟩
      .rintro⟨x,hx,hc⟩
       exact⟨x,hx,by rwa [c1w ho jh hx]⟩
     .rw[c1A]
      simp only[b1A ky,FG]
     grind[Mo.fy]
    .simp[q]
   simp only[Gd];unfold Mo.dP;cases hs:mo.cL (mo.bj st (X3 ls k0).proc (k7 mo.procs (X3 ls k0).proc) e) (X3 ls k0).proc (k7 mo.procs (X3 ls k0).proc)
   .simp only[Fw,FF]
    rw[show(-1:Int)+1=0 by rfl,bit0,HF];simp_all[a5B]
   .simp only[FG]
    rw[FV,a5B];grind
 .have ke:=b0k h3
  rw[b76 λp hp=>by
   unfold Mo.hdB;rw[b45 hk];unfold Mo.isK;rw[FP oJ];simp]
  have e:(mo.ee st (X3 ls k0)).hold=st.hold:=by
   unfold Mo.ee;rcases ke with h|h
   .rw[Fk h]
   .rw[so oJ,Fk h]
  have:=iQ.hold;grind[bit0]
structure GH(n0:Nat)(s:k4)(E R:Hs):Prop where
 hp:Hp s E R
 ge:∀e∈E,n0<=e.1
variable{s s':k4}{n0:Nat}{E R:Hs}
theorem GH.eN(h:GH n0 s E R)(f:Fr [] s s'):GH n0 s' E R:=⟨h.hp.fr f,h.ge⟩
theorem GH.eV{R':Hs}(h:GH n0 s E R)(f:Fr [] s s')(hh:Y2 s' R')(hn:∀e∈R',s.next<=e.1):GH n0 s' E (R'++R):=by
 refine⟨⟨h.hp.nd,λw hw r hr=>?_,h.hp.w.fr f,hh.append (h.hp.r.fr f)⟩,h.ge⟩;rcases Fm.1 hr with hr|hr
 .have:=hn r hr
  have:=t3 (h.hp.w w hw);omega
 .exact h.hp.ap w hw r hr
theorem GH.add1{cs:List D}(h:GH n0 s E R)(f:Fr [] s s')(hg:s'.get b=some (.cells cs))(hn:s.next<=b):GH n0 s' E ((b,cs)::R) :=
 h.eV (R':=[(b,cs)]) f (λx hx=>by grind) (λe he=>by grind)
variable{F:Hs}
theorem GH.dI(h:GH n0 s (E++F) R):GH n0 s E (F++R):=⟨h.hp.freeze sJ,λe he=>h.ge e (by simp[he])⟩
theorem GH.rd(h:GH n0 s E R):Y2 s R:=h.hp.r
theorem GH.set{A B:Hs}{o:Nat}{cs:List D}(h:GH n0 s (A++(o,cs)::B) R)(qn:List D):GH n0 (s.set o (some (.cells qn))) (A++(o,qn)::B) R :=
 ⟨h.hp.set qn,λe he=>by
  simp only[Fm,Fi]at he;rcases he with he|rfl|he
  .exact h.ge e (by simp[he])
  .exact h.ge (o,cs) sJ
  .exact h.ge e (by simp[he])⟩
theorem GH.get{A B:Hs}{o:Nat}{cs:List D}(h:GH n0 s (A++(o,cs)::B) R):s.get o=some (.cells cs):=h.hp.get
variable{fs:FuncId->Option U4}
theorem a9Q{t rest env K A B F}{dX r:D}{ds:List D}(h:GH n0 s (A++F++B) R)(hn:n0<=s.next)(hd:Rp dX 1 (a0K ds) F)(hl:ds.length<=1000)
 (k:∀id s6,Rp (.arr id 0 (ds.length+1) 1) 1 (a0K (ds++[r])) [(id,(a0K (ds++[r])).flatten)]->GH n0 s6 (A++[(id,(a0K (ds++[r])).flatten)]++B) R->Fr (F.map Prod.fst) s s6->XQ fs [] rest ((t,.arr id 0 (ds.length+1) 1)::env) s6 K):BM (a0e 1 24 dX (.arr s.next 0 1 1) (s.push (.cells [r]))) fs t rest env K:=by
 refine c1R (A:=A) (E:=F) (B:=B) hd h.hp rfl c2n dJ qJ λid s6 h1 h2 h3 h4=>?_
 rw[<- c0z]at h1 h2;rw[a9E]at h1⊢;refine k id s6 h1 ⟨sU h2,λe he=>?_⟩ h4;simp only[Fm,Fu]at he;rcases he with(he|rfl)|he
 .exact h.ge e (by simp[he])
 .simp only;omega
 .exact h.ge e (by simp[he])
variable{s0:k4}
theorem GH.frW{A B:Hs}(h:GH s0.next s (A++F++B) R)(f0:Fr [] s0 s)(f:Fr (F.map Prod.fst) s s'):Fr [] s0 s':=by
 refine f0.trans f λi hi=>?_
 right;obtain⟨e,he,rfl⟩:=Fs.1 hi;exact h.ge e (by simp[he])
def gh(rows:List (List D))(i:Nat):Bool:=fi (rows.getD i [])
variable{rows:List (List D)}
theorem b3D(h:i<rows.length):gh rows i=fi rows[i]:=by simp[gh,List.getD,h]
variable{d:D}
theorem c6X(h:i<rows.length){b:Bool}(e:rows[i]=[.int .i64 (V6 b),d]):gh rows i=b:=by
 rw[b3D h,e];cases b<;>rfl
theorem c76{rows:List (List D)}{res:Option (List Bool)}(hs:a1F R rows res)(h2:∀r∈rows,r.length=2):a0U (gh rows) rows.length=res.isSome:=by
 have h:=hs.ik h2;rw[FV,a5B];have e:(∃i,i<rows.length/\gh rows i=true)↔rows.filter fi≠[]:=by
  rw[ne_eq,IF];constructor
  .rintro⟨i,h1,h2⟩ hh
   rw[b3D h1]at h2;exact hh _ (Fp h1) h2
  .intro hh
   refine Jh λhn=>hh λr hr hp=>hn ?_
   obtain⟨i,hi,rfl⟩:=FQ hr;exact⟨i,hi,by rw[b3D hi];exact hp⟩
 grind
variable{y:D}
theorem cK.app{l l2:List Bool}(h:cK s0 s d l)(hy:VB s y l2)(hl:l.length+l2.length<=1000000):∃d' s',a0e 1 8 d y s=some (d',s')/\cK s0 s' d' (l++l2):=by
 obtain⟨r1,r2,r3⟩:=hy.row;rw[a5p]at r2;obtain⟨h1,h2⟩:=h;have n0:=h1.1;have e0:(a1V 1 y&&decide (8<=2^20))=true:=by rw[r3];decide
 rcases h2 with⟨rfl,rfl⟩|⟨id,rfl,hi,hg⟩
 .by_cases c:l2.length=0
  .have:l2=[]:=Gi c
   subst this;refine⟨.ag,s,?_,h1,.inl ⟨rfl,rfl⟩⟩;unfold a0e;simp only[r1,r2,e0];rfl
  .refine⟨.arr s.next 0 l2.length 1,s.push (.cells (U3 l2)),?_,h1.ak _,.inr ⟨s.next,sJ,n0,sU (W8 rfl)⟩⟩
   unfold a0e;simp only[r1,r2,e0];rw[Fk trivial,so c,Fk ⟨by simp at hl;omega,by simp at hl;omega⟩]
 .by_cases c:l2.length=0
  .have:l2=[]:=Gi c
   subst this;refine⟨.arr id 0 l.length 1,s,?_,h1,.inr ⟨id,sJ,hi,sU hg⟩⟩;unfold a0e;simp only[r1,r2,e0,hg,a5p,GJ,HM,HN,FG];rfl
  .refine⟨.arr s.next 0 (l.length+l2.length) 1,(s.set id none).push (.cells (U3 (l++l2))),?_,(h1.st hi none).ak _,.inr ⟨s.next,sJ,n0,W8 sJ⟩⟩
   unfold a0e;simp only[r1,r2,e0,hg,a5p,GJ,HM,HN,FG];rw[so c,Fk ⟨oJ,oJ⟩,HJ,a9p]
theorem a91{t rest env K}{l l2:List Bool}(h:cK s0 s d l)(hy:VB s y l2)(hl:l.length+l2.length<=1000000)(k:∀d' s',cK s0 s' d' (l++l2)->XQ fs [] rest ((t,d')::env) s' K):BM (a0e 1 8 d y s) fs t rest env K:=by
 obtain⟨d',s',h1,h2⟩:=h.app hy hl;rw[h1];exact k _ _ h2
variable{n:Option Nat}{af:bW}{T:List cu}{rest:dD}{env:k6}{K:Kt}
theorem bd_o2(hl:bF s.get n d=some y)(jD:∀id off,d=.ptr id off->a2l af i id T)(k1:XX fs af T rest ((t,y)::env) s K)(k2:∀id,id<s.next->XX fs af (⟨i,some id,[]⟩::T) rest ((t,y)::env) s K):BD d n i fs af T t rest env s K:=by
 cases d<;>simp only[bF]at hl<;>try(cases hl)
 .rename_i id off
  rw[bd_p];refine⟨jD _ _ rfl,?_⟩;grind[BX,bF,t3]
 .rename_i cs off
  rw[bd_f];have e:bF s.get n (.fp cs off)=some y:=hl;rw[e];exact k1
theorem bd_w(hl:bF s.get n d=some y)(jD:∀id off,d=.ptr id off->a2l af i id T)(k:XX fs af T rest ((t,y)::env) s K)(hi:(af.all λp=>p.1 != i)=true:=by decide):BD d n i fs af T t rest env s K:=by
 refine bd_o2 hl jD k λid jb=>a6q (T:=T) (λx hx=>?_) k
 rcases Fi.1 hx with rfl|hx
 .refine .inr λj=>?_
  cases hh:a1n af i j with
  |false=>rfl
  |true =>
   have:=FZ.1 hi _ (b1X hh);simp at this
 .exact .inl hx
end Go.V
