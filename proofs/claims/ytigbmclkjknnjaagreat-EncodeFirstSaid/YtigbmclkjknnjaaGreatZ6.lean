/- Texts one behind the other. -/
import Derived.Test.YtigbmclkjknnjaaGreatZ5
import Derived.Test.YtigbmclkjknnjaaGreatZ3
import Derived.Test.YtigbmclkjknnjaaGreatZ4
set_option linter.unusedSimpArgs false
set_option linter.unusedVariables false
set_option maxRecDepth 100000
set_option maxHeartbeats 8000000
namespace Go.Proofs.YtigbmclkjknnjaaGreat
open Go.V
theorem VL.of {s s':k4} {d:D} {n:Int} {q:Bool} {y:Int×Bool} (h:VB s' d (bL n 8)) (f:Fr [] s s') (e:y.2=q) (hn:I8 n) (hv:q=true->n=y.1):VL s (.aR [d,.int .i64 (V4 q)]) s' y:=by
 subst e;exact ⟨d,n,rfl,h.one,hn,h,hv,f⟩
theorem name_b {n:Int} {v:Nat} (hv:0<v) (hn:W9 n v=n):U0 (fun i=>aB (bL n v) (min i ((bL n v).length-1))) 8=bL n 8:=by
 have h:=b19 (n:=n) hv (w:=8) (by omega);rw [hn] at h;rw [<- h];refine a2s fun i _=>?_
 rw [a0Q];exact b2q (by omega)
theorem a9H {s:k4} {g b:Nat} {p q r:Bool} (hg:GB s g) (hb:s.get b=some (.cells [.int .i64 (V4 p),.int .i64 (V4 q),.int .i64 (V4 r)])):CB U8 56 [.ptr g 0,.arr b 0 3 1] s (p&&q&&r):=by
 have h:=a8z hg (VB.aU (A:=fun i=>if i=0 then p else if i=1 then q else r) (w:=3) hb) (by omega);have e:a3u (fun i=>if i=0 then p else if i=1 then q else r) 3=(p&&q&&r):=by simp [a3u]
 rwa [e] at h
theorem b4w {v g:Nat} {m:X6} {mo:Mo} {ps:List (Pr×X0)} {st:V0} {x:fB} (hm:Z0 m mo ps) (ho:Z8 mo) (iF:a0J mo) (h8:eM st) (gT:a5t mo st) {look:ByteArray->Option Nat} (mX:∀w v,look w=some v->v<mo.vars.length):∀ (n k:Nat),k<mo.tree.length->mo.tree.length-k<n->a2Y (nd mo.tree k).kind->∀ (s:k4) (fo:D),GB s g->Ve s v g m mo st x->a6M U8 s fo look ->
 X9 U8 83 [.ptr v 0,fo,.int .i64 (k:Int)] s fun r s'=>VL s r s' (a0R mo.tree mo.ch look st n k)
 | 0,k,_,h,_,_,_,_,_,_=>by omega
 | n+1,k,hk,hn,hex,s,fo,hg,hv,jj=>by
   have lJ:=jj.1;have gv:=hv.get;have lv:=u7 gv;have oo:=hv.az;have om:=hm.az;have hD:=ho.tree.node k hk;have gP:=hm.tr.at (z:=(k:Int)) (by omega) (by omega) (k:=.i64);rw [Int.toNat_natCast] at gP;have on:=a2N hm.tr hk;have hw:=a6g hm.tr hk (i:=0);have n0:=a51 hm.tr hk (i:=0);have z0:((0:Nat):Int)=0:=rfl;have z1:((1:Nat):Int)=1:=rfl;rw [hD.wl,z0] at hw;rw [hD.nl,z0] at n0;obtain ⟨iZ,xE⟩:=b2U hD hex;have f0:Fr [] s ((s.push (.cells [.int .i64 0,.ag,.ag,.ag,.int .i64 0])).set s.next (some (.cells [.int .i64 (nd mo.tree k).kind,(nd mo.tree k).dw,(nd mo.tree k).dn,(nd mo.tree k).dk,.int .i64 (nd mo.tree k).pos]))):=a1x;have gb:((s.push (.cells [.int .i64 0,.ag,.ag,.ag,.int .i64 0])).set s.next (some (.cells [.int .i64 (nd mo.tree k).kind,(nd mo.tree k).dw,(nd mo.tree k).dn,(nd mo.tree k).dk,.int .i64 (nd mo.tree k).pos]))).get s.next=some (.cells [.int .i64 (nd mo.tree k).kind,(nd mo.tree k).dw,(nd mo.tree k).dn,(nd mo.tree k).dk,.int .i64 (nd mo.tree k).pos]):=a0d (by simp);have ih:∀i,i<(nd mo.tree k).kids.length->∀s1,Fr [] s s1->X9 U8 83 [.ptr v 0,fo,.int .i64 (((nd mo.tree k).aC i:Nat):Int)] s1 fun r s'=>VL s1 r s' (a0R mo.tree mo.ch look st n ((nd mo.tree k).aC i)):=fun i hi s1 f1=>by
    have h1:=ho.tree.ks hk _ (a1U hi);exact b4w hm ho iF h8 gT mX n _ h1.2 (by omega) (xE i hi) _ _ (hg.fr f1) (hv.fr f1) (jj.fr f1)
   have k0:=a2H hm.tr ho.tree hk (i:=0);have k1:=a2H hm.tr ho.tree hk (i:=1);rw [z0] at k0;rw [z1] at k1;obtain ⟨d0,xF,kg⟩:=b5M 0 (w:=8) (by omega) (by omega);have xF:ca U8 122 [.int .i64 0,.int .i64 8] d0:=a0F xF;unfold a0R;simp only;by_cases oe:(nd mo.tree k).kind=17
   ·rw [if_pos oe]
    rw [oe] at n0;have n0:=n0 (by decide);obtain ⟨d,hd,hz⟩:=b5M ((nd mo.tree k).num 0) (w:=8) (by omega) (by omega);have hd:ca U8 122 [.int .i64 ((nd mo.tree k).num 0),.int .i64 8] d:=a0F hd;rw [oe] at f0 gP;rw [<- a8v] at hz;refine X4 (vf:=a4v) rfl ?_;unfold a4v;refine zF ?_;refine zY (U5 gv lJ om oo gP on n0 hd) ?_;exact VL.z (b:=true) hz f0 rfl (a6f _) fun _=>rfl
   rw [if_neg oe];by_cases nC:(nd mo.tree k).kind=18
   ·rw [if_pos nC]
    rw [nC] at hw;have hw:=hw (by decide);rw [nC] at f0 gb gP;obtain ⟨_,of,ir,rfl,kF⟩:=jj;refine X4 (vf:=a4v) rfl ?_;unfold a4v;refine zF ?_;refine zY (Y3 gv lJ om oo gP on hw) ?_;refine a9Z rfl (kF _ f0 ((nd mo.tree k).word 0)) rfl ?_;rintro r s2 ⟨rfl,f2⟩;have ik:=f0.trans f2 (by simp);cases uq:look ((nd mo.tree k).word 0) with
    | none =>
      simp (disch:=(first|exact Rf.mk rfl|with_reducible assumption|omega|((repeat (first|rw [nP]|rw [nS]|rw [Z2]))<;>omega)|decide)) only [go_sem,↓reduceIte,a2K,xF];exact VL.z (b:=false) kg ik rfl I8.zero fun h=>by cases h
    | some i =>
      have jZ:=mX _ _ uq;obtain ⟨q,y,i1,i2,oy,hy⟩:=(hv.fr ik).vr jZ (k:=.i64);have ji:=(hv.fr ik).get;have c0:(0:Int)<=(i:Int):=by omega
      simp (disch:=(first|exact Rf.mk rfl|with_reducible assumption|omega|((repeat (first|rw [nP]|rw [nS]|rw [Z2]))<;>omega)|decide)) only [go_sem,↓reduceIte,a2K,c0,ji,oo,om,i1,i2,oy];have pn:=iF.vr _ (List.getElem_mem jZ);have kE:i<st.vars.length:=by rw [gT.vars];exact jZ
      have my:=gT.vr i kE jZ;have e:mo.bQ st i=bL (Y8 st.vars i) (mo.vars[i].width.toNat):=by unfold Mo.bQ;rw [a3q jZ]
      rw [e] at hy;rw [<- a3D kE] at my;refine xv (a9V (w:=8) hy (by rw [a0Q];omega) (by rw [a0Q];omega) (by omega) (by omega)) fun b s3 hb g3 f3=>?_
      refine V6 ?_;exact VL.a (q:=true) g3 (ik.trans f3 (by simp)) rfl (name_b (by omega) my) (h8.v _ (by rw [a3D kE];exact List.getElem_mem kE)) fun _=>rfl
   rw [if_neg nC];by_cases nY:(nd mo.tree k).kind=19
   ·rw [if_pos nY]
    rw [nY] at hw;have hw:=hw (by decide);have jM:=hm.lenC;have qe:=ho.nc;have lu:mo.ch.length=mo.af.length:=by simp [Mo.ch]
    rw [nY] at f0 gb gP;refine X4 (vf:=a4v) rfl ?_;unfold a4v;refine zF ?_;refine zY (U5 gv lJ om oo gP on hw jM) ?_;refine X5 [0,1,2,8,9,13,14,15,16,17,18,19,20,21,22,32,33,40,49,58,64,65,90,110,131] 0 mo.af.length (fun i f s'=>f 66=.int .i64 (i:Int)/\Fr [] s s'/\s'.get s.next=some (.cells [.int .i64 19,(nd mo.tree k).dw,(nd mo.tree k).dn,(nd mo.tree k).dk,.int .i64 (nd mo.tree k).pos])/\∀j (hj:j<mo.af.length),j<i->mo.af[j].name≠(nd mo.tree k).word 0) (.mk rfl) (by omega) ⟨rfl,f0,gb,fun j _ h=>by omega⟩ ?_;clear f0 gb;rintro i f s1 hi ⟨h,f1,gb,gU⟩;have lb:=u7 gb;by_cases ci:i<mo.af.length
    ·have lD:=FLC.idx hm.c ci (k:=.i64)
     unfold Ch.row at lD;have ow:=(hv.fr f1).get;have yO:=u7 ow;have f2:∀a b,Fr [] s ((s1.push a).set s1.next (some b)):=fun a b=>f1.trans a1x (by simp)
     have kI:∀a b,((s1.push a).set s1.next (some b)).get s.next=some (.cells [.int .i64 19,(nd mo.tree k).dw,(nd mo.tree k).dn,(nd mo.tree k).dk,.int .i64 (nd mo.tree k).pos]):=fun a b=>by
      rw [Z7 (by omega),a0l lb];exact gb
     by_cases ce:mo.af[i].name=(nd mo.tree k).word 0
     ·have rV:i<mo.ch.length:=by omega
      have eb:=a7Q (l:=mo.ch) (w:=(nd mo.tree k).word 0) rV (by simpa [Mo.ch] using ce) (fun j hj hji=>by simpa [Mo.ch] using gU j (by omega) hji);have mw:i<st.af.length:=by have:=gT.af;omega
      simp only [eb,if_pos rV];have m1:(64:Int)<=2 ^ 47:=by decide
      have m2:(8:Int)<2 ^ 62:=by decide
      have hz:=a1D 8;have wR:decide (mo.af[i].name=(nd mo.tree k).word 0)=true:=by simp [ce]
      obtain ⟨q,y,i1,i2,oy,hy⟩:=(hv.fr f1).sz ci (k:=.i64);have fS:∀a b c,Fr [] s1 (((s1.push a).set s1.next (some b)).push c):=fun a b c=>a1x.aj _
      have i3:=fun a b c=>a5Y i2 (fS a b c)
      have ku:=gT.cl i ci;refine zY (U5 h ci lD gb ow om oo (U5 on hw wR m1 m2 hz i1 (aN i3 oy))) ?_;refine xcopy (c26 (b:=s1.next+1) (hy.fr (fS _ _ _)) (W2 (by simp)) (by omega)) ?_;refine V6 ?_;refine VL.a (q:=true) (a0d (by simp)) ((f1.trans (fS _ _ _) (by simp)).st ?_ _) rfl rfl (by unfold I8;omega) fun _=>rfl
      have:=f1.1;omega
     ·have wR:decide (mo.af[i].name=(nd mo.tree k).word 0)=false:=by simp [ce]
      refine zY (Y3 h ci lD gb on hw wR) ?_;refine ⟨f2 _ _,fun j hj hji=>?_⟩;by_cases ej:j=i
      ·subst ej;exact ce
      ·exact gU j hj (by omega)
    ·have eb:=a7N (l:=mo.ch) (w:=(nd mo.tree k).word 0) (fun j hj=>by simpa [Mo.ch] using gU j (by omega) (by omega))
     simp only [if_neg eb];refine zY (V5 h ci xF) ?_;exact VL.z (b:=false) kg f1 rfl I8.zero fun h=>by cases h
   rw [if_neg nY];by_cases qT:(nd mo.tree k).kind=20
   ·rw [if_pos qT]
    have h1:=hD.one (by omega);have k0:=k0 (by omega);rw [qT] at f0 gb gP;refine X4 (vf:=a4v) rfl ?_;unfold a4v;refine zF ?_;refine zY (Y3 gv lJ om oo gP on k0) ?_;refine a0D (ih 0 (by omega) _ f0) rfl ?_;generalize a0R mo.tree mo.ch look st n ((nd mo.tree k).aC 0)=y0 at *;rintro r s2 ⟨da,na,rfl,oa,ia,ha,va,f2⟩;have ik:=f0.trans f2 (by simp);have ji:=(hv.fr ik).get;have nR:=u7 ji;have hs:=b6m (A:=V7 0) (B:=V7 na) (w:=8) (hg.fr ik) (kg.vb s2) ha (by omega) (by omega);refine zY (W6 oa ji om oo xF) ?_;refine a2D (xv hs fun b s3 hb g3 f3=>?_);refine V6 ?_;refine VL.a (q:=y0.2) g3 (ik.trans f3 (by simp)) rfl (b8w I8.zero ia) (a6f _) fun h=>?_
    rw [va h,Int.zero_sub]
   rw [if_neg qT];by_cases qm:(nd mo.tree k).kind=21
   ·rw [if_pos qm]
    have h1:=hD.one (by omega);have k0:=k0 (by omega);rw [qm] at f0 gb gP;refine X4 (vf:=a4v) rfl ?_;unfold a4v;refine zF ?_;refine zY (Y3 gv lJ om oo gP on k0) ?_;refine a0D (ih 0 (by omega) _ f0) rfl ?_;generalize a0R mo.tree mo.ch look st n ((nd mo.tree k).aC 0)=y0 at *;rintro r s2 ⟨da,na,rfl,oa,ia,ha,va,f2⟩;have ik:=f0.trans f2 (by simp);have ji:=(hv.fr ik).get;have nR:=u7 ji;have hs:=a8b (A:=V7 na) (w:=8) (hg.fr ik) ha (by omega) (by omega);rw [a6n ia] at hs;have rA:=a1W (decide (na≠0));obtain ⟨d,hd,hz⟩:=a8Q (!decide (na≠0));have hd:=a0F hd;refine zY (V3 oa ji om oo) ?_;refine xb hs fun s3 f3=>?_
    refine zY (aN rA hd) ?_;refine VL.z hz (ik.trans f3 (by simp)) rfl (I8.one _) fun h=>?_
    rw [va h,h];simp
   rw [if_neg qm];have oN:(nd mo.tree k).kind=22:=by have:=hex.1;have:=hex.2;omega
   rw [if_pos oN];obtain ⟨l2,_,_,p0,p8⟩:=hD.bin oN;have k0:=k0 (by omega);have k1:=k1 (by omega);rw [oN] at n0;have n0:=n0 (by decide);rw [oN] at f0 gb gP;refine X4 (vf:=a4v) rfl ?_;unfold a4v;refine zF ?_;refine zY (Y3 gv lJ om oo gP on k0) ?_;refine a0D (ih 0 (by omega) _ f0) rfl ?_;rintro r s2 ⟨da,na,rfl,oa,ia,ha,va,f2⟩;have ik:=f0.trans f2 (by simp);have kI:=f2.kp gb;have sG:=u7 kI;refine zY (V3 oa kI on k1) ?_;refine a0D (ih 1 (by omega) _ ik) rfl ?_;rintro r s3 ⟨db,nb,rfl,ob,ib,hb,vb,f3⟩;have hO:=ik.trans f3 (by simp);have kZ:=f3.kp kI;have uB:=u7 kZ;refine zY (V3 ob kZ on n0) ?_;refine a0D (c2N hm (hg.fr hO) (hv.fr hO) (ha.fr f3) hb ia ib p0 p8) rfl ?_;rintro r s4 ⟨dc,nc,rfl,oc,ic,hc,vc,f4⟩;have iy:=hO.trans f4 (by simp);have lB:=(hv.fr iy).get;have tc:=u7 lB;refine zY (V3 oc lB om oo) ?_;refine xb (a9H (hg.fr (iy.aj _)) (W2 rfl)) fun s5 f5=>?_
   refine V6 ?_;have f6:Fr [] s4 s5:=Fr.trans (Fr.push _) f5 (by simp);refine VL.of (hc.fr f6) (iy.trans f6 (by simp)) ?_ ic fun h=>?_
   ·generalize a0R mo.tree mo.ch look st n ((nd mo.tree k).aC 0)=y0 at *
    generalize a0R mo.tree mo.ch look st n ((nd mo.tree k).aC 1)=y1 at *;obtain ⟨z0',b0⟩:=y0;obtain ⟨z1',b1⟩:=y1;simp only at va vb ⊢;cases b0<;>cases b1<;>simp_all
   ·simp only [Bool.and_eq_true] at h
    obtain ⟨⟨h0,h1⟩,h2⟩:=h;rw [vc h2,va h0,vb h1,h0,h1];rfl
section
variable {s:k4} {g v:Nat} {m:X6} {mo:Mo} {ps:List (Pr×X0)} {st:V0} {x:fB}
theorem a8f (hm:Z0 m mo ps) (ho:Z8 mo) (iF:a0J mo) (h8:eM st) (gT:a5t mo st) {p:Nat} (hp:p<mo.procs.length) {k:Nat} (hk:k<mo.tree.length) (he:a2Y (nd mo.tree k).kind) (hg:GB s g) (hv:Ve s v g m mo st x) {fo:D} (hf:a6M U8 s fo (a0Z (U4 mo.procs p))) :
 X9 U8 83 [.ptr v 0,fo,.int .i64 (k:Int)] s fun r s'=>VL s r s' (mo.val (a0Z (U4 mo.procs p)) st k):=by
 refine b4w hm ho iF h8 gT (fun w u hu=>?_) _ k hk (by omega) he s fo hg hv hf;rw [a16 hp] at hu;have jc:=ho.pr _ (List.getElem_mem hp);exact jc.var u (b7g jc.same hu)
theorem valG_c (hm:Z0 m mo ps) (ho:Z8 mo) (iF:a0J mo) (h8:eM st) (gT:a5t mo st) {k:Nat} (hk:k<mo.tree.length) (he:a2Y (nd mo.tree k).kind) (hg:GB s g) (hv:Ve s v g m mo st x) {fo:D} (hf:a6M U8 s fo (a1j mo)) :
 X9 U8 83 [.ptr v 0,fo,.int .i64 (k:Int)] s fun r s'=>VL s r s' (mo.val (a1j mo) st k):=by
 refine b4w hm ho iF h8 gT (fun w u hu=>?_) _ k hk (by omega) he s fo hg hv hf;have:=b9p hu;have:=ho.gl;omega
theorem VL.num {s':k4} {r:D} {y:Int×Bool} (h:VL s r s' y):∃d n,r=.aR [d,.int .i64 (V4 y.2)]/\V1 d=true/\I8 n/\VB s' d (bL n 8)/\(y.2&&decide (n≠0))=(y.2&&decide (y.1≠0))/\(y.2&&!decide (n≠0))=(y.2&&decide (y.1=0))/\Fr [] s s':=by
 obtain ⟨d,n,h1,h2,h3,h4,h5,h6⟩:=h;refine ⟨d,n,h1,h2,h3,h4,?_,?_,h6⟩
 ·obtain ⟨a,b⟩:=y
  cases b
  ·rfl
  ·rw [h5 rfl]
 ·obtain ⟨a,b⟩:=y
  cases b
  ·rfl
  ·rw [h5 rfl];simp
theorem safe_c (hm:Z0 m mo ps) (ho:Z8 mo) (iF:a0J mo) (h8:eM st) (gT:a5t mo st) (hg:GB s g) (hv:Ve s v g m mo st x):CB U8 57 [.ptr v 0] s (mo.cP st):=by
 have gv:=hv.get;have lv:=u7 gv;have oo:=hv.az;have om:=hm.az;have hls:=hm.lenS;have sl:=ho.sl;have hsf:=hm.sf;unfold CB;refine X4 (vf:=vf57) rfl ?_;unfold vf57;refine zF ?_;refine V6 ?_;refine a0D (c3E hm ho hv) rfl ?_;rintro r s1 ⟨jj,f1⟩;have lJ:=jj.1;have ow:=(hv.fr f1).get;have yO:=u7 ow;have m1:=eh (w:=mo.safe.length) (by omega);have m2:=dy (w:=mo.safe.length) (by omega);have hz:=a1D mo.safe.length;have hA:a3u (fun j=>(mo.val (a1j mo) st (bq mo.safe j)).2&&decide ((mo.val (a1j mo) st (bq mo.safe j)).1≠0)) mo.safe.length=mo.cP st:=by
  rw [Bool.eq_iff_iff,a8G,b1O];constructor
  ·intro h j hj
   simpa using h j hj
  ·intro h j hj
   simpa using h j hj
 generalize yP:(fun j=>(mo.val (a1j mo) st (bq mo.safe j)).2&&decide ((mo.val (a1j mo) st (bq mo.safe j)).1≠0))=A at *;rw [a2G A] at hz;refine zY (U5 lJ ow om oo hls m1 m2 hz) ?_;obtain ⟨gb,f0⟩:=fR (s:=s1) (A:=A) (w:=mo.safe.length);generalize s1.push (.cells (U1 (U0 (W8 A 0) mo.safe.length)))=s2 at *;have ji:=f0.kp ow;have nR:=u7 ji;have ik:=f1.trans f0 (by simp);have hfo2:=jj.fr f0;refine X5 [0,2,3,4,22,23] 0 mo.safe.length (fun i f s'=>f 24=.int .i64 (i:Int)/\s'.get s1.next=some (.cells (U1 (U0 (W8 A i) mo.safe.length)))/\Fr [] s1 s') (.mk rfl) (by omega) ⟨rfl,gb,f0⟩ ?_;clear gb f0 ik hfo2 ji nR;rintro i f s2 hi ⟨h,gb,f0⟩;have ik:=f1.trans f0 (by simp);have ji:=f0.kp ow;have nR:=u7 ji;by_cases ci:i<mo.safe.length
 rotate_left
 ·obtain rfl:i=mo.safe.length:=by omega
  rw [a2z] at gb;refine zY (W6 h ci ji om oo) ?_;refine xb (a8z (hg.fr ik) (VB.aU gb) (by omega)) fun s3 f3=>?_
  refine zY hA ?_;exact ⟨rfl,ik.trans f3 (by simp)⟩
 have hk:=ho.sf _ (b2O ci);have zm:=FLN.idx hsf ci (k:=.i64);rw [<- a4U ci] at zm;refine zY (V5 h ci zm) ?_;refine a0D (valG_c hm ho iF h8 gT hk.1 hk.2 (hg.fr ik) (hv.fr ik) (jj.fr f0)) rfl ?_;rintro r s3 jZ;obtain ⟨d,n,rfl,od,hn,hd,e1,-,f3⟩:=VL.num jZ;have hO:=ik.trans f3 (by simp);have qJ:=f3.kp ji;have zJ:=u7 qJ;have hs:=a8b (A:=V7 n) (w:=8) (hg.fr hO) hd (by omega) (by omega);rw [a6n hn] at hs;refine zY (V3 od qJ om oo) ?_;refine xxb hs (by simpa using zJ) fun s4 E f4 hE=>?_
 have iy:=hO.trans f4 (by simp);refine V6 ?_;refine a2D (xb (a08 (hg.fr iy) _ _) fun s5 f5=>?_);have iK:Fr [] s2 s5:=(f3.trans f4 (by simp)).trans f5 (by simp);have qA:=iK.kp gb;have Cd:=u7 qA;have hw:=a2p (A:=A) ci;have Ar:A i=((mo.val (a1j mo) st (bq mo.safe i)).2&&decide ((mo.val (a1j mo) st (bq mo.safe i)).1≠0)):=by rw [<- yP]
 rw [<- e1] at Ar;have hset:=a39 ci Ar;refine zY (V5 qA hw hset) ?_;exact ⟨ci,(f0.trans iK (by simp)).st (Nat.le_refl _) _⟩
theorem any2 {n:Nat} (h:n<=3):a0w (V7 (n:Int)) 2=decide (0<n):=by
 have e:n=0∨n=1∨n=2∨n=3:=by omega
 rcases e with rfl | rfl | rfl | rfl<;>rfl
theorem b6n (hm:Z0 m mo ps) (ho:Z8 mo) (iF:a0J mo) (h8:eM st) (gT:a5t mo st) (hg:GB s g) (hv:Ve s v g m mo st x) {p:Nat} (hp:p<mo.procs.length) {e:Ed} (he:a5O mo.tree mo.af.length (U4 mo.procs p).ah (U4 mo.procs p).vars e):CB U8 78 [.ptr v 0,.int .i64 (p:Int),.agg [.int .i64 (e.au:Int),.int .i64 (e.to:Int),.int .i64 (e.act:Int),.int .i64 e.expr,.int .i64 e.var,.int .i64 e.chan,.bool e.aF,.int .i64 (e.node:Int)]] s (mo.can st p (U4 mo.procs p) e):=by
 have gv:=hv.get;have lv:=u7 gv;have oo:=hv.az;have om:=hm.az;have jc:=ho.pr _ (List.getElem_mem hp);have f0:Fr [] s (s.push (.cells [.int .i64 (e.au:Int),.int .i64 (e.to:Int),.int .i64 (e.act:Int),.int .i64 e.expr,.int .i64 e.var,.int .i64 e.chan,.bool e.aF,.int .i64 (e.node:Int)])):=Fr.push _;have gb:(s.push (.cells [.int .i64 (e.au:Int),.int .i64 (e.to:Int),.int .i64 (e.act:Int),.int .i64 e.expr,.int .i64 e.var,.int .i64 e.chan,.bool e.aF,.int .i64 (e.node:Int)])).get s.next=some (.cells [.int .i64 (e.au:Int),.int .i64 (e.to:Int),.int .i64 (e.act:Int),.int .i64 e.expr,.int .i64 e.var,.int .i64 e.chan,.bool e.aF,.int .i64 (e.node:Int)]):=W2 rfl;have gY:e.au<=100000:=by have:=he.f;have:=jc.pl;rw [a16 hp] at *;omega
 unfold Mo.can Mo.ex;unfold CB;have h6:e.act=0∨e.act=1∨e.act=2∨e.act=3∨e.act=4∨e.act=5:=by have:=he.act;omega
 rcases h6 with ha | ha | ha | ha | ha | ha
 ·have hex:=he.ex0 (by omega)
  rw [hex] at f0 gb ⊢;refine X4 (vf:=a4s) rfl ?_;unfold a4s;refine zF ?_;refine zY (V5 gv om oo) ?_;refine xb (a7l hm ho (hg.fr f0) (hv.fr f0) gT hp gY) fun s1 f1=>?_
  have jl:=f0.trans f1 (by simp);have jk:=f1.kp gb;refine zY (aN jk ha) ?_;refine ⟨?_,jl⟩;simp
 ·obtain ⟨k,kv,lK,lY⟩:=he.gD (by omega)
  rw [kv] at f0 gb ⊢;simp only [Int.natCast_nonneg,if_true,Int.toNat_natCast];refine X4 (vf:=a4s) rfl ?_;unfold a4s;refine zF ?_;refine zY (V5 gv om oo) ?_;refine xb (a7l hm ho (hg.fr f0) (hv.fr f0) gT hp gY) fun s1 f1=>?_
  have jl:=f0.trans f1 (by simp);have jk:=f1.kp gb;have nQ:=u7 jk;refine zY (aN jk ha) ?_;refine xxm (a8e hm ho (hv.fr jl) hp) (fun d s' h=>h.2) (by simp) fun fo s2 E jj hE=>?_
  obtain ⟨jj,f2⟩:=jj;have lJ:=jj.1;have ik:=jl.trans f2 (by simp);have kI:=f2.kp jk;have sG:=u7 kI;have hn:a2b s.next E:=a4k hE nQ;refine zY (V5 kI hn lJ) ?_;refine a2D (a0D (a8f hm ho iF h8 gT hp lK lY (hg.fr ik) (hv.fr ik) jj) rfl ?_);rintro r s3 jZ;obtain ⟨d,n,rfl,od,hn,hd,e1,e2,f3⟩:=VL.num jZ;generalize mo.val (a0Z (U4 mo.procs p)) st k=y at *;have hO:=ik.trans f3 (by simp);have kZ:=f3.kp kI;have uB:=u7 kZ;refine zY (V5 kZ od ha) ?_;refine xb (a08 (hg.fr hO) _ _) fun s4 f4=>?_
  refine V6 ?_;refine ⟨?_,hO.trans f4 (by simp)⟩;simp
 ·obtain ⟨k,kv,lK,lY⟩:=he.gD (by omega)
  obtain ⟨q,qC,hq2⟩:=he.c1 (by omega);rw [kv,qC] at f0 gb ⊢;simp only [Int.natCast_nonneg,if_true,Int.toNat_natCast];refine X4 (vf:=a4s) rfl ?_;unfold a4s;refine zF ?_;refine zY (V5 gv om oo) ?_;refine xb (a7l hm ho (hg.fr f0) (hv.fr f0) gT hp gY) fun s1 f1=>?_
  have jl:=f0.trans f1 (by simp);have jk:=f1.kp gb;have nQ:=u7 jk;refine zY (aN jk ha) ?_;refine xxm (a8e hm ho (hv.fr jl) hp) (fun d s' h=>h.2) (by simp) fun fo s2 E jj hE=>?_
  obtain ⟨jj,f2⟩:=jj;have lJ:=jj.1;have ik:=jl.trans f2 (by simp);have kI:=f2.kp jk;have sG:=u7 kI;have hn:a2b s.next E:=a4k hE nQ;refine zY (V5 kI hn lJ) ?_;refine a2D (a0D (a8f hm ho iF h8 gT hp lK lY (hg.fr ik) (hv.fr ik) jj) rfl ?_);rintro r s3 jZ;obtain ⟨d,n,rfl,od,hn,hd,e1,e2,f3⟩:=VL.num jZ;generalize mo.val (a0Z (U4 mo.procs p)) st k=y at *;have hO:=ik.trans f3 (by simp);have kZ:=f3.kp kI;have uB:=u7 kZ;refine zY (V5 kZ od ha) ?_;refine xb (b62 hm ho iF (hg.fr hO) (hv.fr hO) gT hq2) fun s4 f4=>?_
  have iy:=hO.trans f4 (by simp);refine V6 ?_;refine xb (a9H (hg.fr (iy.aj _)) (W2 rfl)) fun s5 f5=>?_
  refine V6 ?_;refine ⟨?_,(iy.aj _).trans f5 (by simp)⟩;simp [Bool.and_assoc]
 ·have hex:=he.ex0 (by omega)
  obtain ⟨q,qC,hq2⟩:=he.c1 (by omega);rw [hex,qC] at f0 gb ⊢;refine X4 (vf:=a4s) rfl ?_;unfold a4s;refine zF ?_;refine zY (V5 gv om oo) ?_;refine xb (a7l hm ho (hg.fr f0) (hv.fr f0) gT hp gY) fun s1 f1=>?_
  have jl:=f0.trans f1 (by simp);have jk:=f1.kp gb;have nQ:=u7 jk;have ow:=f1.kp (f0.kp gv);obtain ⟨u,y,i1,i2,oy,hy⟩:=(hv.fr jl).sz hq2 (k:=.i64);have mw:q<st.af.length:=by rw [gT.af];exact hq2
  have ku:=gT.cl q hq2;have rX:=a4Z (A:=V7 ((V8 st.af q).length:Int)) (w:=2) (hg.fr jl) hy (by omega);rw [any2 (by omega)] at rX;refine zY (U5 jk ha ow om oo i1 i2 oy) ?_;refine xb rX fun s2 f2=>?_
  have ik:=jl.trans f2 (by simp);refine V6 ?_;refine xb (a08 (hg.fr ik) _ _) fun s3 f3=>?_
  refine V6 ?_;refine ⟨?_,ik.trans f3 (by simp)⟩;simp
 ·obtain ⟨k,kv,lK,lY⟩:=he.gD (by omega)
  rw [kv] at f0 gb ⊢;simp only [Int.natCast_nonneg,if_true,Int.toNat_natCast];refine X4 (vf:=a4s) rfl ?_;unfold a4s;refine zF ?_;refine zY (V5 gv om oo) ?_;refine xb (a7l hm ho (hg.fr f0) (hv.fr f0) gT hp gY) fun s1 f1=>?_
  have jl:=f0.trans f1 (by simp);have jk:=f1.kp gb;have nQ:=u7 jk;refine zY (aN jk ha) ?_;refine xxm (a8e hm ho (hv.fr jl) hp) (fun d s' h=>h.2) (by simp) fun fo s2 E jj hE=>?_
  obtain ⟨jj,f2⟩:=jj;have lJ:=jj.1;have ik:=jl.trans f2 (by simp);have kI:=f2.kp jk;have sG:=u7 kI;have hn:a2b s.next E:=a4k hE nQ;refine zY (V5 kI hn lJ) ?_;refine a2D (a0D (a8f hm ho iF h8 gT hp lK lY (hg.fr ik) (hv.fr ik) jj) rfl ?_);rintro r s3 jZ;obtain ⟨d,n,rfl,od,hn,hd,e1,e2,f3⟩:=VL.num jZ;generalize mo.val (a0Z (U4 mo.procs p)) st k=y at *;have hO:=ik.trans f3 (by simp);have kZ:=f3.kp kI;have uB:=u7 kZ;refine zY (V5 kZ od ha) ?_;have hs:=a8b (A:=V7 n) (w:=8) (hg.fr hO) hd (by omega) (by omega);rw [a6n hn] at hs;refine xb hs fun s4 f4=>?_
  have iy:=hO.trans f4 (by simp);refine V6 ?_;refine xb (a9H (hg.fr (iy.aj _)) (W2 rfl)) fun s5 f5=>?_
  refine V6 ?_;refine ⟨?_,(iy.aj _).trans f5 (by simp)⟩;rw [Bool.and_assoc,e1];simp [Bool.and_assoc]
 ·obtain ⟨k,kv,lK,lY⟩:=he.gD (by omega)
  rw [kv] at f0 gb ⊢;simp only [Int.natCast_nonneg,if_true,Int.toNat_natCast];refine X4 (vf:=a4s) rfl ?_;unfold a4s;refine zF ?_;refine zY (V5 gv om oo) ?_;refine xb (a7l hm ho (hg.fr f0) (hv.fr f0) gT hp gY) fun s1 f1=>?_
  have jl:=f0.trans f1 (by simp);have jk:=f1.kp gb;have nQ:=u7 jk;refine zY (aN jk ha) ?_;refine xxm (a8e hm ho (hv.fr jl) hp) (fun d s' h=>h.2) (by simp) fun fo s2 E jj hE=>?_
  obtain ⟨jj,f2⟩:=jj;have lJ:=jj.1;have ik:=jl.trans f2 (by simp);have kI:=f2.kp jk;have sG:=u7 kI;have hn:a2b s.next E:=a4k hE nQ;refine zY (V5 kI hn lJ) ?_;refine a2D (a0D (a8f hm ho iF h8 gT hp lK lY (hg.fr ik) (hv.fr ik) jj) rfl ?_);rintro r s3 jZ;obtain ⟨d,n,rfl,od,hn,hd,e1,e2,f3⟩:=VL.num jZ;generalize mo.val (a0Z (U4 mo.procs p)) st k=y at *;have hO:=ik.trans f3 (by simp);have kZ:=f3.kp kI;have uB:=u7 kZ;refine zY (V5 kZ od ha) ?_;have hs:=a8b (A:=V7 n) (w:=8) (hg.fr hO) hd (by omega) (by omega);rw [a6n hn] at hs;have rA:=a1W (decide (n≠0));refine xb hs fun s4 f4=>?_
  have iy:=hO.trans f4 (by simp);refine zY rA ?_;refine xb (a9H (hg.fr (iy.aj _)) (W2 rfl)) fun s5 f5=>?_
  refine V6 ?_;refine ⟨?_,(iy.aj _).trans f5 (by simp)⟩;rw [Bool.and_assoc,e2];simp [Bool.and_assoc]
end
end Go.Proofs.YtigbmclkjknnjaaGreat
namespace Go.V

section
variable {mo:Mo} {st:V0}
theorem a5w.refl (f:Ft) (st:V0):a5w f st st:=⟨fun _ _=>rfl,fun _ _=>rfl⟩
theorem b7n (ho:Z8 mo) {i:Nat} {p:Pr} (hp:PrOk mo p) {e:Ed} (he:e∈p.ak) (z:Int):mo.can { st with hold:=z } i p e=mo.can st i p e:=by
 have h:=c0b ho hp he ((a5w.refl (a9m mo p e) st).hold z) 0;unfold Mo.can;rw [<- h]
end
section
variable {mo:Mo} {st:V0}
theorem b3R {v:Mv}:v∈mo.aQ st↔(v.kind=0/\v.chan=0/\v.proc<mo.procs.length/\v.bn<(U4 mo.procs v.proc).ak.length/\mo.can st v.proc (U4 mo.procs v.proc) (bc (U4 mo.procs v.proc).ak v.bn)=true/\¬ (0<=st.hold/\st.hold≠(v.proc:Int)))∨(st.hold<0/\v.chan<mo.af.length/\v∈mo.aY st v.chan):=by
 unfold Mo.aQ;rw [List.mem_append];constructor
 ·rintro (h | h)
  ·obtain ⟨i,hi,hv⟩:=List.mem_flatMap.1 h
   obtain ⟨h1,h2⟩:=b7I hv;obtain ⟨a,b,c,d⟩:=b5I h1;subst b;have hc:v.chan=0:=by
    unfold Mo.gh at h1;obtain ⟨k,_,e⟩:=List.mem_map.1 h1;rw [<- e]
   exact .inl ⟨a,hc,List.mem_range.1 hi,c,d,h2⟩
  ·split at h
   ·rename_i hh
    obtain ⟨c,hc,hv⟩:=List.mem_flatMap.1 h;obtain ⟨_,rfl,_⟩:=b9d hv;exact .inr ⟨hh,List.mem_range.1 hc,hv⟩
   ·cases h
 ·rintro (⟨a,b,c,d,e,f⟩ | ⟨a,b,c⟩)
  ·refine .inl (List.mem_flatMap.2 ⟨v.proc,List.mem_range.2 c,?_⟩)
   rw [Mo.bT,if_neg f];unfold Mo.gh;refine List.mem_map.2 ⟨v.bn,List.mem_filter.2 ⟨List.mem_range.2 d,e⟩,?_⟩;cases v;simp only at a b;subst a b;rfl
  ·rw [if_pos a]
   exact .inr (List.mem_flatMap.2 ⟨v.chan,List.mem_range.2 b,c⟩)
end
section
variable {mo:Mo} {st:V0}
def Mo.dR (mo:Mo) (st:V0):Bool:=decide (mo.aQ st=[])&&!((List.range mo.procs.length).all fun i=>(U4 mo.procs i).rest.getD (bq st.aI i) false)
def Mo.gG (mo:Mo) (st:V0):Bool:=!mo.cP st||mo.dead&&mo.dR st
end
section
variable {P:Nat->Prop}
end

section
variable {mo:Mo} {M:V0->List Mv}
def Mo.fst (mo:Mo):V0:=⟨List.replicate mo.procs.length 0,mo.cX,List.replicate mo.af.length [],-1⟩
theorem b9U {n i:Nat}:bq (List.replicate n 0) i=0:=by
 unfold bq;by_cases h:i<n
 ·simp [List.getD,h]
 ·simp [List.getD,h]
theorem c1g (ho:Z8 mo) (hf:a0J mo):Fit mo mo.fst:=by
 refine a59.1 ⟨by simp [Mo.fst],by simp [Mo.fst,Mo.cX],by simp [Mo.fst],fun i hi=>?_,fun i hi=>?_,fun i hi=>?_,fun i hi n hn=>?_,by simp only [Mo.fst];omega⟩
 ·have:=(ho.pr _ (a3w hi)).inv.two
  show bq (List.replicate _ 0) i<_
  rw [b9U];omega
 ·show W9 (Y8 mo.cX i) _=Y8 mo.cX i
  rw [b6h hi];exact (hf.vr _ (a5V hi)).2.2
 ·show ((V8 (List.replicate _ []) i).length:Int)<=_
  rw [b8d];have:=(hf.ch _ (a41 hi)).1;simp only [List.length_nil];omega
 ·have hn:n∈V8 (List.replicate _ []) i:=hn
  rw [b8d] at hn;cases hn
end
section
variable {mo:Mo} {π τ:Nat->Nat} {s s':V0}
def mapM (τ:Nat->Nat) (v:Mv):Mv:=if v.kind=0 then { v with proc:=τ v.proc } else v
theorem b8q {c:Nat} {v:Mv} (h:v∈mo.aY s c):v.kind=1∨v.kind=2:=by
 unfold Mo.aY at h;rw [List.mem_append] at h;rcases h with h | h
 ·split at h
  ·have:=List.mem_singleton.1 h
   left;rw [this]
  ·cases h
 ·split at h
  ·have:=List.mem_singleton.1 h
   right;rw [this]
  ·cases h
end
section
variable {mo:Mo}
end
section
variable {mo:Mo} {s:V0}
end
section
variable {mo:Mo} {s:V0}
end
section
variable {mo:Mo} {st:V0}
def alE (i j:Nat):List Mv:=(List.range j).map fun j=>⟨0,i,j,0⟩
def Mo.alP (mo:Mo) (i:Nat):List Mv:=(List.range i).flatMap fun p=>alE p (U4 mo.procs p).ak.length
def Mo.alc (mo:Mo) (c:Nat):List Mv:=(if (U7 mo.af c).bm then [⟨1,0,0,c⟩] else [])++(if (U7 mo.af c).aT then [⟨2,0,0,c⟩] else [])
def Mo.alC (mo:Mo) (i:Nat):List Mv:=(List.range i).flatMap mo.alc
def Mo.allM (mo:Mo):List Mv:=mo.alP mo.procs.length++mo.alC mo.af.length
theorem c3u {i j:Nat}:alE i (j+1)=alE i j++[⟨0,i,j,0⟩]:=by simp [alE,List.range_succ]
theorem Mo.eZ {i:Nat}:mo.alP (i+1)=mo.alP i++alE i (U4 mo.procs i).ak.length:=by simp [Mo.alP,List.range_succ]
theorem Mo.fh {i:Nat}:mo.alC (i+1)=mo.alC i++mo.alc i:=by simp [Mo.alC,List.range_succ]
@[simp] theorem b9x {i j:Nat}:(alE i j).length=j:=by simp [alE]
theorem Mo.dB (ho:Z8 mo):∀ {i:Nat},i<=mo.procs.length->(mo.alP i).length<=i*4000
 | 0,_=>by simp [Mo.alP]
 | i+1,h=>by
   have:=Mo.dB ho (i:=i) (by omega);have jR:=(ho.pr _ (a3w (i:=i) (by omega))).el;rw [Mo.eZ,List.length_append,b9x];omega
theorem Mo.eK:∀ {i:Nat},(mo.alC i).length<=i*2
 | 0=>by simp [Mo.alC]
 | i+1=>by
   have:=Mo.eK (i:=i);have:(mo.alc i).length<=2:=by unfold Mo.alc;split<;>split<;>simp
   rw [Mo.fh,List.length_append];omega
theorem b13 (ho:Z8 mo):mo.allM.length<=16006:=by
 have h1:=Mo.dB ho (Nat.le_refl _);have h2:=Mo.eK (mo:=mo) (i:=mo.af.length);have:=ho.np;have:=ho.nc;unfold Mo.allM;rw [List.length_append];omega
def a7m (mo:Mo) (v:Mv):Prop:=(v.kind=0/\v.proc<mo.procs.length/\v.bn<(U4 mo.procs v.proc).ak.length)∨((v.kind=1∨v.kind=2)/\v.chan<mo.af.length)
theorem b4k {v:Mv}:v∈mo.allM↔(v.kind=0/\v.chan=0/\v.proc<mo.procs.length/\v.bn<(U4 mo.procs v.proc).ak.length)∨(v.chan<mo.af.length/\v∈mo.alc v.chan):=by
 unfold Mo.allM Mo.alP Mo.alC;rw [List.mem_append,List.mem_flatMap,List.mem_flatMap];constructor
 ·rintro (⟨i,hi,h⟩ | ⟨c,hc,h⟩)
  ·obtain ⟨j,hj,rfl⟩:=List.mem_map.1 h
   exact .inl ⟨rfl,rfl,List.mem_range.1 hi,List.mem_range.1 hj⟩
  ·have e:v.chan=c:=by
    unfold Mo.alc at h;rw [List.mem_append] at h;rcases h with h | h
    ·split at h
     ·rw [List.mem_singleton.1 h]
     ·cases h
    ·split at h
     ·rw [List.mem_singleton.1 h]
     ·cases h
   subst e;exact .inr ⟨List.mem_range.1 hc,h⟩
 ·rintro (⟨a,b,c,d⟩ | ⟨a,b⟩)
  ·refine .inl ⟨v.proc,List.mem_range.2 c,List.mem_map.2 ⟨v.bn,List.mem_range.2 d,?_⟩⟩
   obtain ⟨k,p,e,ch⟩:=v;simp only at a b;subst a b;rfl
  ·exact .inr ⟨v.chan,List.mem_range.2 a,b⟩
theorem b5f {v:Mv} {c:Nat} (h:v∈mo.alc c):(v=⟨1,0,0,c⟩/\(U7 mo.af c).bm=true)∨(v=⟨2,0,0,c⟩/\(U7 mo.af c).aT=true):=by
 unfold Mo.alc at h;rw [List.mem_append] at h;rcases h with h | h
 ·split at h
  ·exact .inl ⟨List.mem_singleton.1 h,by assumption⟩
  ·cases h
 ·split at h
  ·exact .inr ⟨List.mem_singleton.1 h,by assumption⟩
  ·cases h
theorem b1L {v:Mv} (h:v∈mo.allM):a7m mo v:=by
 rcases b4k.1 h with ⟨a,_,b,c⟩ | ⟨a,b⟩
 ·exact .inl ⟨a,b,c⟩
 ·rcases b5f b with ⟨e,_⟩ | ⟨e,_⟩
  ·exact .inr ⟨.inl (by rw [e]),a⟩
  ·exact .inr ⟨.inr (by rw [e]),a⟩
def Mo.fi (mo:Mo) (st:V0) (tn:Nat->Bool) (AE:Bool) (v:Mv):Bool :=
 if v.kind=0 then tn v.proc&&mo.can st v.proc (U4 mo.procs v.proc) (bc (U4 mo.procs v.proc).ak v.bn)
 else if v.kind=1 then AE&&decide (0<(V8 st.af v.chan).length)
 else AE&&(decide (0<(V8 st.af v.chan).length)&&decide (((V8 st.af v.chan).length:Int)<(U7 mo.af v.chan).room))
def aS (hU qu:Bool) (Q:Nat->Bool) (i:Nat):Bool:=hU&&!(qu&&a0w Q i)
def bR (hU qu:Bool) (Q:Nat->Bool) (i:Nat):Bool:=qu&&(aS hU qu Q i&&Q i)
def cE (hU qu ba:Bool) (Q B H:Nat->Bool) (n i:Nat):Bool:=(bR hU qu Q i||aS hU qu Q n||H i)&&!(ba&&B i)
theorem b9V {hU:Bool} {Q:Nat->Bool} {i:Nat}:aS hU true Q (i+1)=(aS hU true Q i&&!Q i):=by
 simp only [aS,a0w,Bool.true_and,Bool.not_or,Bool.and_assoc]
theorem b1m {hU:Bool} {Q:Nat->Bool} {i:Nat}:aS hU false Q i=hU:=by simp [aS]
theorem b7E {hU:Bool} {Q:Nat->Bool} {i:Nat}:bR hU false Q i=false:=by simp [bR]
theorem b4V {v:Mv} (h:v∈mo.allM):mo.fi st (fun p=>decide (st.hold<0)||decide (st.hold=(p:Int))) (decide (st.hold<0)) v=true↔v∈mo.aQ st:=by
 rw [b3R];rcases b4k.1 h with ⟨a,b,c,d⟩ | ⟨a,b⟩
 ·unfold Mo.fi
  rw [if_pos a];constructor
  ·intro h
   simp only [Bool.and_eq_true,Bool.or_eq_true,decide_eq_true_eq] at h;exact .inl ⟨a,b,c,d,h.2,by omega⟩
  ·rintro (⟨_,_,_,_,h1,h2⟩ | ⟨_,_,h⟩)
   ·simp only [Bool.and_eq_true,Bool.or_eq_true,decide_eq_true_eq]
    exact ⟨by omega,h1⟩
   ·have:=b8q h
    omega
 ·rcases b5f b with ⟨e,h1⟩ | ⟨e,h1⟩
  ·generalize v.chan=ch at *
   subst e;unfold Mo.fi Mo.aY;simp [h1,a]
  ·generalize v.chan=ch at *
   subst e;unfold Mo.fi Mo.aY;simp [h1,a]
theorem c0w {v:Mv} (h:v∈mo.aQ st):v∈mo.allM:=by
 rw [b4k];rcases b3R.1 h with ⟨a,b,c,d,_,_⟩ | ⟨_,a,b⟩
 ·exact .inl ⟨a,b,c,d⟩
 ·refine .inr ⟨a,?_⟩
  unfold Mo.aY at b;unfold Mo.alc;rw [List.mem_append] at b ⊢;rcases b with b | b
  ·left
   split at b
   ·rename_i h1
    simp only [Bool.and_eq_true] at h1;rw [if_pos h1.1];exact b
   ·cases b
  ·right
   split at b
   ·rename_i h1
    simp only [Bool.and_eq_true] at h1;rw [if_pos h1.1.1];exact b
   ·cases b
theorem mvA_ff {Q B:Nat->Bool} {n:Nat} {v:Mv}:mo.fi st (cE (decide (st.hold<0)) false false Q B (fun p=>decide (st.hold=(p:Int))) n) (aS (decide (st.hold<0)) false Q n) v=mo.fi st (fun p=>decide (st.hold<0)||decide (st.hold=(p:Int))) (decide (st.hold<0)) v:=by
 have e:cE (decide (st.hold<0)) false false Q B (fun p=>decide (st.hold=(p:Int))) n=fun p:Nat=>decide (st.hold<0)||decide (st.hold=(p:Int)):=by
  funext p
  simp [cE,b7E,b1m]
 rw [e,b1m]
theorem c1I:(a0w (fun i=>mo.fi st (fun p=>decide (st.hold<0)||decide (st.hold=(p:Int))) (decide (st.hold<0)) (Z9 mo.allM i)) mo.allM.length)=!decide (mo.aQ st=[]):=by
 rw [Bool.eq_iff_iff,a5m,Bool.not_eq_true',decide_eq_false_iff_not];constructor
 ·rintro ⟨i,h1,h2⟩ e
  have:=(b4V (b1l h1)).1 h2;rw [e] at this;cases this
 ·intro h
  obtain ⟨v,hv⟩:=List.exists_mem_of_ne_nil _ h;have h1:=c0w hv;obtain ⟨i,h3,rfl⟩:=List.getElem_of_mem h1;refine ⟨i,h3,?_⟩;rw [b2A h3];exact (b4V h1).2 hv
theorem any_aB {l:List Bool}:a0w (aB l) l.length=l.any id:=by
 rw [Bool.eq_iff_iff,a5m,List.any_eq_true];constructor
 ·rintro ⟨i,h1,h2⟩
  refine ⟨l[i],List.getElem_mem h1,?_⟩;simpa [aB,List.getD,h1] using h2
 ·rintro ⟨b,h1,h2⟩
  obtain ⟨i,h3,rfl⟩:=List.getElem_of_mem h1;exact ⟨i,h3,by simpa [aB,List.getD,h3] using h2⟩
def a6U (P:Pr) (a j:Nat):List Bool:=((List.range j).filter fun k=>P.rest.getD k false).map fun k=>decide (a=k)
theorem b6b {P:Pr} {a j:Nat}:a6U P a (j+1)=a6U P a j++if P.rest.getD j false then [decide (a=j)] else []:=by
 unfold a6U;rw [List.range_succ,List.filter_append,List.map_append];congr 1
 simp only [List.filter_cons,List.filter_nil];split<;>rfl
theorem b5N {P:Pr} {a j:Nat}:(a6U P a j).length<=j:=by
 unfold a6U;rw [List.length_map];exact Nat.le_trans (List.length_filter_le _ _) (by simp)
theorem c2T {P:Pr} {a n:Nat} (h:a<n):(a6U P a n).any id=P.rest.getD a false:=by
 unfold a6U;rw [Bool.eq_iff_iff,List.any_eq_true];constructor
 ·rintro ⟨b,h1,h2⟩
  obtain ⟨k,h3,rfl⟩:=List.mem_map.1 h1;obtain ⟨_,h4⟩:=List.mem_filter.1 h3;have:a=k:=by simpa using h2
  rw [this];exact h4
 ·intro h1
  exact ⟨true,List.mem_map.2 ⟨a,List.mem_filter.2 ⟨List.mem_range.2 h,h1⟩,by simp⟩,rfl⟩
def Mo.cD (mo:Mo) (st:V0) (i:Nat):List Bool:=(List.range i).map fun i=>!((U4 mo.procs i).rest.getD (bq st.aI i) false)
end
end Go.V
namespace Go.Proofs.YtigbmclkjknnjaaGreat
open Go.V
section
variable {m:X6} {mo:Mo} {ps:List (Pr×X0)}
theorem b0o (hm:Z0 m mo ps) (ho:Z8 mo):a52 U8 7 [.agg [m.dt,.int .i64 m.g,m.dc,m.dv,m.dp,m.ds,.bool m.b]] fun d=>FL 4 d (a15 mo.allM):=by
 have om:=hm.az;have ou:=hm.eo;have jM:=hm.lenC;have mj:=ho.np;have qe:=ho.nc;have nU:=hm.c;have qO:=hm.p;have me:Hp (k4.empty.push (.cells [m.dt,.int .i64 m.g,m.dc,m.dv,m.dp,m.ds,.bool m.b])) [] [(0,[m.dt,.int .i64 m.g,m.dc,m.dv,m.dp,m.ds,.bool m.b])]:=⟨by simp,by simp,by simp [Y2],fun y hy=>by
  simp only [List.mem_singleton] at hy;subst hy;exact W2 rfl⟩
 generalize hR:[(0,[m.dt,.int .i64 m.g,m.dc,m.dv,m.dp,m.ds,.bool m.b])]=R at me;have hg:∀ {s E},Hp s E R->s.get 0=some (.cells [m.dt,.int .i64 m.g,m.dc,m.dv,m.dp,m.ds,.bool m.b]):=fun h=>by
  subst hR;exact h.r (0,_) (by simp)
 refine a6x (vf:=vf7) rfl ?_;unfold vf7;refine zF ?_;refine zY (aN om ou) ?_;refine a1H [0,1,2,6,9,33,34,35,42,53] (fun f s=>∃E,Rp (f 3) 4 (a15 (mo.alP mo.procs.length)) E/\Hp s E R) ?_ ?_
 ·refine X5 [0,1,2,6,9,33,34,35,42,53] 0 mo.procs.length (fun i f s=>f 10=.int .i64 (i:Int)/\∃E,Rp (f 3) 4 (a15 (mo.alP i)) E/\Hp s E R) (.mk rfl) (by omega) ⟨rfl,[],.inl ⟨rfl,rfl,rfl⟩,me⟩ ?_
  rintro i f s hi ⟨h,E,hr,hp⟩;have g0:=hg hp;have jo:=hr.one;by_cases ci:i<mo.procs.length
  rotate_left
  ·obtain rfl:i=mo.procs.length:=by omega
   refine zY (aN h ci) ?_;exact ⟨E,hr,hp⟩
  have jR:=(ho.pr _ (a3w ci)).el;have tT:=Mo.dB ho hi;obtain ⟨x,hx,gP⟩:=hm.proc ci;have gP:=gP .i64;rw [<- a16 ci] at hx gP;unfold U6 at gP;have ox:=hx.az;have hle:a0C false x.de=some (.int .i64 ((U4 mo.procs i).ak.length:Int)):=by rw [hx.e.len];simp [a0T]
  refine zY (Y3 h ci g0 om gP ox hle) ?_;refine X5 [0,1,2,4,6,9,10,11,19,33,34,35,42,53] 0 (U4 mo.procs i).ak.length (fun j f s=>f 20=.int .i64 (j:Int)/\∃E,Rp (f 3) 4 (a15 (mo.alP i++alE i j)) E/\Hp s E R) (.mk rfl) (by omega) ⟨rfl,E,by rw [show alE i 0=[] from rfl,List.append_nil];exact hr,hp⟩ ?_;clear hr hp g0 h jo;rintro j f s hj ⟨h,E,hr,hp⟩;have jo:=hr.one;by_cases cj:j<(U4 mo.procs i).ak.length
  ·refine zY (V3 h ci cj jo) ?_
   refine a6W ⟨0,i,j,0⟩ rfl hr hp (by decide) (by rw [List.length_append,b9x];omega) ?_;intro d' s' E' hr' qP;have jo:=hr'.one;refine zY jo ?_;refine ⟨cj,E',?_,qP⟩;rw [c3u,<- List.append_assoc];exact hr'
  ·obtain rfl:j=(U4 mo.procs i).ak.length:=by omega
   refine zY (aN h ci) ?_;rw [Mo.eZ];exact ⟨E,hr,hp⟩
 rintro f s ⟨E,hr,hp⟩;have g0:=hg hp;have jo:=hr.one;have tT:=Mo.dB ho (Nat.le_refl _);refine zY (V3 g0 om jM jo) ?_;refine a1H [0,1,2,4,5,9,10,11,19,20,21,33] (fun f s=>∃E,Rp (f 3) 4 (a15 mo.allM) E/\Hp s E R) ?_ ?_
 ·refine X5 [0,1,2,4,5,9,10,11,19,20,21,33] 0 mo.af.length (fun i f s=>f 34=.int .i64 (i:Int)/\∃E,Rp (f 3) 4 (a15 (mo.alP mo.procs.length++mo.alC i)) E/\Hp s E R) (.mk rfl) (by omega) ⟨rfl,E,by rw [show mo.alC 0=[] from rfl,List.append_nil];exact hr,hp⟩ ?_
  clear hr hp g0 jo;rintro i f s hi ⟨h,E,hr,hp⟩;have g0:=hg hp;have jo:=hr.one;by_cases ci:i<mo.af.length
  ·have lD:=FLC.idx nU ci (k:=.i64)
   rw [<- a2q ci] at lD;unfold Ch.row at lD;have hlen:=Mo.eK (mo:=mo) (i:=i);have e1:mo.alC (i+1)=mo.alC i++mo.alc i:=Mo.fh;unfold Mo.alc at e1;cases l1:(U7 mo.af i).bm<;>cases l2:(U7 mo.af i).aT<;>rw [l1,l2] at e1<;>simp only [Bool.false_eq_true,if_true,if_false,List.append_nil,List.nil_append,List.cons_append] at e1<;>simp (disch:=(first|exact Rf.mk rfl|with_reducible assumption|omega|((repeat (first|rw [nP]|rw [nS]|rw [Z2]))<;>omega)|decide)) only [go_sem,↓reduceIte,h,ci,g0,om,lD,l1,l2,jo]
   all_goals try (first|refine a6W ⟨1,0,0,i⟩ rfl hr hp (by decide) (by rw [List.length_append];omega) ?_|refine a6W ⟨2,0,0,i⟩ rfl hr hp (by decide) (by rw [List.length_append];omega) ?_)<;>rintro d1 s1 E1 hr hp<;>have k0:=hg hp<;>have jo:=hr.one<;>simp (disch:=(first|exact Rf.mk rfl|with_reducible assumption|omega|((repeat (first|rw [nP]|rw [nS]|rw [Z2]))<;>omega)|decide)) only [go_sem,↓reduceIte,h,ci,k0,om,lD,l1,l2,jo]
   all_goals try (refine a6W ⟨2,0,0,i⟩ rfl hr hp (by decide) (by rw [List.length_append,List.length_append];simp only [List.length_cons,List.length_nil];omega) ?_)<;>rintro d1 s1 E1 hr hp<;>have jo:=hr.one<;>simp (disch:=(first|exact Rf.mk rfl|with_reducible assumption|omega|((repeat (first|rw [nP]|rw [nS]|rw [Z2]))<;>omega)|decide)) only [go_sem,↓reduceIte,h,jo]
   all_goals
    rw [e1];try simp only [List.append_assoc,List.cons_append,List.nil_append] at hr ⊢
    first|exact ⟨_,hr,hp⟩|exact ⟨ci,_,hr,hp⟩
  ·obtain rfl:i=mo.af.length:=by omega
   refine zY (aN h ci) ?_;exact ⟨E,hr,hp⟩
 rintro f s ⟨E,hr,hp⟩;obtain ⟨d',h1,h2⟩:=b88 hr hp (fun e h=>h) (b46 _) (b7U _);have jo:=hr.one;refine zY (aN h1 jo) ?_;exact ⟨_,rfl,h2⟩
end
section
variable {s:k4} {g v:Nat} {m:X6} {mo:Mo} {ps:List (Pr×X0)} {st:V0} {x:fB}
theorem any3 {s:k4} {g b:Nat} {p q r:Bool} (hg:GB s g) (hb:s.get b=some (.cells [.int .i64 (V4 p),.int .i64 (V4 q),.int .i64 (V4 r)])):CB U8 47 [.ptr g 0,.arr b 0 3 1] s (p||q||r):=by
 have h:=a4Z hg (VB.aU (A:=fun i=>if i=0 then p else if i=1 then q else r) (w:=3) hb) (by omega);have e:a0w (fun i=>if i=0 then p else if i=1 then q else r) 3=(p||q||r):=by simp [a0w]
 rwa [e] at h
def a2C (T2 T1:Nat->Bool) (i j:Nat):Bool:=if j<i then T2 j else T1 j
theorem b7m (hg:GB s g) (hv:Vs s v g m mo st x) (gT:Fit mo st) (hn:mo.procs.length<=4) (k:Nat) (hk:k<=1000):CB U8 43 [.ptr g 0,x.h,.int .i64 (k:Int)] s (decide (st.hold+1=(k:Int))):=by
 have h1:=gT.hold;obtain ⟨H,hH⟩:∃H:Nat,st.hold+1=(H:Int):=⟨(st.hold+1).toNat,by omega⟩
 have hd:=hv.eJ;rw [hH] at hd ⊢;have h:=b0V (k:=k) hg hd (by omega) (by omega) (by omega);have e:decide ((H:Int)=(k:Int))=decide (H=k):=by congr 1;apply propext;omega
 rwa [e]
theorem b7S (hm:Z0 m mo ps) (ho:Z8 mo) (iF:a0J mo) (h8:eM st) (gT:Fit mo st) (hg:GB s g) (hv:Vs s v g m mo st x) {d:D} {ls:List Mv} (hl:FL 4 d (a15 ls)) (jL:∀v∈ls,a7m mo v) (kO:ls.length<=100000) (qu ba:Bool) {Q B:Nat->Bool}
 (hQ:qu=true->∀p,p<mo.procs.length->∀s',Fr [] s s'->CB U8 76 [.ptr v 0,.int .i64 (p:Int)] s' (Q p))
 (hB:ba=true->∀p,p<mo.procs.length->∀s',Fr [] s s'->CB U8 77 [.ptr v 0,.int .i64 (p:Int)] s' (B p)) :
 CV U8 42 [.ptr v 0,d,.bool qu,.bool ba] s (fun i=>mo.fi st (cE (decide (st.hold<0)) qu ba Q B (fun p=>decide (st.hold=(p:Int))) mo.procs.length) (aS (decide (st.hold<0)) qu Q mo.procs.length) (Z9 ls i)) ls.length:=by
 have gv:=hv.get;have lv:=u7 gv;have oo:=hv.az;have om:=hm.az;have ou:=hm.eo;have mj:=ho.np;have od:=hl.one;have eJ:a0C false d=some (.int .i64 (ls.length:Int)):=by rw [hl.len];simp
 have nU:=hm.c;have qO:=hm.p;have e0:decide (st.hold+1=((0:Nat):Int))=decide (st.hold<0):=by have:=gT.hold;congr 1;apply propext;omega
 have yY:=b7m hg hv gT mj 0 (by omega);rw [e0] at yY;generalize uy:decide (st.hold<0)=hU at *;generalize hH:(fun p:Nat=>decide (st.hold=(p:Int)))=H at *;unfold CV;refine X4 (vf:=vf42) rfl ?_;unfold vf42;refine zF ?_;refine zY (V3 gv om oo od) ?_;refine xb yY fun s1 f1=>?_
 have ow:=f1.kp gv;have yO:=u7 ow;have m1:=eh (w:=mo.procs.length) (by omega);have m2:=dy (w:=mo.procs.length) (by omega);have hz:=a1D mo.procs.length;rw [a2G (bR hU qu Q)] at hz;refine zY (Y3 ow om oo ou m1 m2 hz) ?_;obtain ⟨gb,f0⟩:=fR (s:=s1) (A:=bR hU qu Q) (w:=mo.procs.length);generalize s1.push (.cells (U1 (U0 (W8 (bR hU qu Q) 0) mo.procs.length)))=s2 at *;have qD:s.next<=s1.next:=f1.1;have f0:=f1.trans f0 (by simp);generalize s1.next=tb at *;clear f1 ow yO;refine a1H [0,1,2,3,8,9,10,12,15,16,17,18,38,60,61,62,83,101,102,103,104,109,131,161] (fun f s'=>f 11=.int .i64 (V4 (aS hU qu Q mo.procs.length))/\s'.get tb=some (.cells (U1 (U0 (bR hU qu Q) mo.procs.length)))/\Fr [] s s') ?_ ?_
 ·refine X5 [0,1,2,3,8,9,10,12,15,16,17,18,38,60,61,62,83,101,102,103,104,109,131,161] 0 mo.procs.length (fun i f s'=>f 39=.int .i64 (i:Int)/\f 11=.int .i64 (V4 (aS hU qu Q i))/\s'.get tb=some (.cells (U1 (U0 (W8 (bR hU qu Q) i) mo.procs.length)))/\Fr [] s s') (.mk rfl) (by omega) ⟨rfl,(by rw [show aS hU qu Q 0=hU by simp [aS,a0w]];rfl),gb,f0⟩ ?_
  clear gb f0 hz m1 m2;rintro i f s2 hi ⟨h,wI,gb,fr⟩;by_cases ci:i<mo.procs.length
  rotate_left
  ·obtain rfl:i=mo.procs.length:=by omega
   rw [a2z] at gb;refine zY (V5 h wI ci) ?_;exact ⟨gb,fr⟩
  have lb:=u7 gb;cases qu
  ·have e:W8 (bR hU false Q) (i+1)=W8 (bR hU false Q) i:=by
    funext j
    simp [W8,b7E]
   refine zY (V5 h wI ci) ?_;rw [b1m,b1m,e];exact ⟨rfl,gb,fr⟩
  ·have ji:=(hv.fr fr).get
   refine zY (V5 h wI ci) ?_;refine xb (hQ rfl i ci _ fr) fun s3 f3=>?_
   have hO:=fr.trans f3 (by simp);refine V6 ?_;refine xb (a08 (hg.fr hO) _ _) fun s4 f4=>?_
   have iy:=hO.trans f4 (by simp);have lL:=f4.kp (f3.kp gb);have sJ:=u7 lL;have hw:=a2p (A:=bR hU true Q) ci;have hs:=a39 (A:=bR hU true Q) (b:=aS hU true Q i&&Q i) ci (by simp [bR]);have hnq:=a1W (Q i);refine zY (V3 lL hw hs hnq) ?_;have iK:=iy.st qD (some (.cells (U1 (U0 (W8 (bR hU true Q) (i+1)) mo.procs.length))));refine xb (a08 (hg.fr iK) _ _) fun s6 f6=>?_
   refine V6 ?_;rw [b9V];refine ⟨ci,rfl,f6.kp (a0d sJ),iK.trans f6 (by simp)⟩
 rintro f s2 ⟨wI,gb,fr⟩;have qI:U1 (U0 (bR hU qu Q) mo.procs.length)=U1 (U0 (a2C (cE hU qu ba Q B H mo.procs.length) (bR hU qu Q) 0) mo.procs.length):=by
  congr 1
 rw [qI] at gb;refine zY wI ?_;refine a1H [0,1,2,3,8,9,10,11,12,13,14,16,17,18,38,39,40,42,60,101,102,103,104,109,131,161] (fun f s'=>s'.get tb=some (.cells (U1 (U0 (cE hU qu ba Q B H mo.procs.length) mo.procs.length)))/\Fr [] s s') ?_ ?_
 ·refine X5 [0,1,2,3,8,9,10,11,12,13,14,16,17,18,38,39,40,42,60,101,102,103,104,109,131,161] 0 mo.procs.length (fun i f s'=>f 61=.int .i64 (i:Int)/\s'.get tb=some (.cells (U1 (U0 (a2C (cE hU qu ba Q B H mo.procs.length) (bR hU qu Q) i) mo.procs.length)))/\Fr [] s s') (.mk rfl) (by omega) ⟨rfl,gb,fr⟩ ?_
  clear gb fr;rintro i f s2 hi ⟨h,gb,fr⟩;by_cases ci:i<mo.procs.length
  rotate_left
  ·obtain rfl:i=mo.procs.length:=by omega
   have e:U1 (U0 (a2C (cE hU qu ba Q B H mo.procs.length) (bR hU qu Q) mo.procs.length) mo.procs.length)=U1 (U0 (cE hU qu ba Q B H mo.procs.length) mo.procs.length):=by
    congr 1
    exact a2s fun j hj=>by simp [a2C,hj]
   rw [e] at gb;refine zY (aN h ci) ?_;exact ⟨gb,fr⟩
  have lb:=u7 gb;have ji:=(hv.fr fr).get;have nR:=u7 ji;have uW:=a17 (A:=a2C (cE hU qu ba Q B H mo.procs.length) (bR hU qu Q) i) ci;rw [show a2C (cE hU qu ba Q B H mo.procs.length) (bR hU qu Q) i i=bR hU qu Q i by simp [a2C]] at uW;have hh:=b7m (hg.fr fr) (hv.fr fr) gT mj (i+1) (by omega);rw [show decide (st.hold+1=((i+1:Nat):Int))=H i by rw [<- hH];simp only [decide_eq_decide];omega] at hh;refine zY (Y3 h ci gb ji om oo uW) ?_;have AF:=fr.1;refine xxb hh (by simp;omega) fun s3 E f3 hE=>?_
  have hO:=fr.trans f3 (by simp);refine V6 ?_;refine a2D (xb (any3 (hg.fr (hO.aj _)) (W2 rfl)) fun s4 f4=>?_);have Bb:Fr [] s2 s4:=(f3.aj _).trans f4 (by simp);have iy:=fr.trans Bb (by simp);have lL:=Bb.kp gb;have sJ:=u7 lL;have hw:=a6d (A:=a2C (cE hU qu ba Q B H mo.procs.length) (bR hU qu Q) i) ci;cases ba
  ·have hs:=a5K (A:=a2C (cE hU qu false Q B H mo.procs.length) (bR hU qu Q) i) (B:=a2C (cE hU qu false Q B H mo.procs.length) (bR hU qu Q) (i+1)) (b:=bR hU qu Q i||aS hU qu Q mo.procs.length||H i) ci fun j _=>by
    unfold a2C;by_cases c:j=i
    ·subst c;simp [cE]
    ·rw [if_neg c]
     by_cases c2:j<i
     ·rw [if_pos c2,if_pos (by omega)]
     ·rw [if_neg c2,if_neg (by omega)]
   refine zY (V5 lL hw hs) ?_;exact ⟨ci,iy.st qD _⟩
  ·have hs:=a5K (A:=a2C (cE hU qu true Q B H mo.procs.length) (bR hU qu Q) i) (B:=fun j=>if j=i then (bR hU qu Q i||aS hU qu Q mo.procs.length||H i) else a2C (cE hU qu true Q B H mo.procs.length) (bR hU qu Q) i j) (b:=bR hU qu Q i||aS hU qu Q mo.procs.length||H i) ci fun j _=>rfl
   have rB:=a17 (A:=fun j=>if j=i then (bR hU qu Q i||aS hU qu Q mo.procs.length||H i) else a2C (cE hU qu true Q B H mo.procs.length) (bR hU qu Q) i j) ci;rw [if_pos rfl] at rB;refine zY (V3 lL hw hs rB) ?_;have iK:=iy.st qD (some (.cells (U1 (U0 (fun j=>if j=i then (bR hU qu Q i||aS hU qu Q mo.procs.length||H i) else a2C (cE hU qu true Q B H mo.procs.length) (bR hU qu Q) i j) mo.procs.length))));have qA:(s4.set tb (some (.cells (U1 (U0 (fun j=>if j=i then (bR hU qu Q i||aS hU qu Q mo.procs.length||H i) else a2C (cE hU qu true Q B H mo.procs.length) (bR hU qu Q) i j) mo.procs.length))))).get tb=_:=a0d sJ;generalize s4.set tb (some (.cells (U1 (U0 (fun j=>if j=i then (bR hU qu Q i||aS hU qu Q mo.procs.length||H i) else a2C (cE hU qu true Q B H mo.procs.length) (bR hU qu Q) i j) mo.procs.length))))=s5 at *;have Cd:=u7 qA;refine xxb (hB rfl i ci _ iK) (by simp;omega) fun s6 E6 f6 hE6=>?_
   have iO:=iK.trans f6 (by simp);have lN:=a1W (B i);refine zY lN ?_;refine a2D (xb (a08 (hg.fr iO) _ _) fun s7 f7=>?_);have ko:=iO.trans f7 (by simp);have tO:=f7.kp (f6.kp qA);have lb7:=u7 tO;have wG:=a6d (A:=fun j=>if j=i then (bR hU qu Q i||aS hU qu Q mo.procs.length||H i) else a2C (cE hU qu true Q B H mo.procs.length) (bR hU qu Q) i j) ci;have hs7:=a5K (A:=fun j=>if j=i then (bR hU qu Q i||aS hU qu Q mo.procs.length||H i) else a2C (cE hU qu true Q B H mo.procs.length) (bR hU qu Q) i j) (B:=a2C (cE hU qu true Q B H mo.procs.length) (bR hU qu Q) (i+1)) (b:=(bR hU qu Q i||aS hU qu Q mo.procs.length||H i)&&!B i) ci fun j _=>by
    unfold a2C;by_cases c:j=i
    ·subst c;simp [cE]
    ·rw [if_neg c,if_neg c]
     by_cases c2:j<i
     ·rw [if_pos c2,if_pos (by omega)]
     ·rw [if_neg c2,if_neg (by omega)]
   refine zY (V5 tO wG hs7) ?_;exact ⟨ci,ko.st qD _⟩
 rintro f s2 ⟨gb,fr⟩;have m1:=eh (w:=ls.length) (by omega);have m2:=dy (w:=ls.length) (by omega);have hz:=a1D ls.length;generalize hA:(fun i=>mo.fi st (cE hU qu ba Q B H mo.procs.length) (aS hU qu Q mo.procs.length) (Z9 ls i))=A at *;rw [a2G A] at hz;refine zY (W6 od eJ m1 m2 hz) ?_;obtain ⟨ga,f0⟩:=fR (s:=s2) (A:=A) (w:=ls.length);have yl:=f0.kp gb;have f0:=fr.trans f0 (by simp);have nJ:s.next<=s2.next:=fr.1;have iw:tb≠s2.next:=by have:=u7 gb;omega
 generalize s2.push (.cells (U1 (U0 (W8 A 0) ls.length)))=s3 at *;generalize s2.next=ob at *;refine X5 [0,1,2,3,8,9,10,11,12,13,14,15,16,38,39,40,42,60,61,62,83,101,102] 0 ls.length (fun i f s'=>f 103=.int .i64 (i:Int)/\s'.get ob=some (.cells (U1 (U0 (W8 A i) ls.length)))/\s'.get tb=some (.cells (U1 (U0 (cE hU qu ba Q B H mo.procs.length) mo.procs.length)))/\Fr [] s s') (.mk rfl) (by omega) ⟨rfl,ga,yl,f0⟩ ?_;clear ga yl f0 gb fr hz m1 m2 yY;rintro i f s3 hi ⟨h,ga,gb,fr⟩;by_cases ci:i<ls.length
 rotate_left
 ·obtain rfl:i=ls.length:=by omega
  rw [a2z] at ga;refine zY (aN h ci) ?_;exact ⟨_,rfl,nJ,ga,fr⟩
 have jX:=jL _ (b1l ci);have kP:=b1q hl ci (k:=.i64);have wE:A i=mo.fi st (cE hU qu ba Q B H mo.procs.length) (aS hU qu Q mo.procs.length) (Z9 ls i):=by rw [<- hA]
 generalize Z9 ls i=w at *;obtain ⟨wk,wp,we,wc⟩:=w;unfold a7m at jX;simp only at jX kP;have mQ:s.next<=s3.next:=fr.1;have hw:=a2p (A:=A) ci;rcases jX with ⟨rfl,hp,he⟩ | ⟨hk,hc⟩
 ·obtain ⟨y,hy,gP⟩:=hm.proc hp
  have gP:=gP .i64;rw [<- a16 hp] at hy gP;unfold U6 at gP;have oy:=hy.az;have qw:=a8c (k:=.i64) hy.e he;have mf:=(ho.pr _ (a3w hp)).inv.ed _ (a6h he);have uW:=a17 (A:=cE hU qu ba Q B H mo.procs.length) hp;have jT:Fr [] s3 ((s3.push (.cells [.int .i64 0,.int .i64 0,.int .i64 0,.int .i64 0])).set s3.next (some (.cells [.int .i64 0,.int .i64 (wp:Int),.int .i64 (we:Int),.int .i64 (wc:Int)]))):=a1x;have gS:((s3.push (.cells [.int .i64 0,.int .i64 0,.int .i64 0,.int .i64 0])).set s3.next (some (.cells [.int .i64 0,.int .i64 (wp:Int),.int .i64 (we:Int),.int .i64 (wc:Int)]))).get s3.next=some (.cells [.int .i64 0,.int .i64 (wp:Int),.int .i64 (we:Int),.int .i64 (wc:Int)]):=a0d (by simp);have rP:=jT.kp gb;have sH:=jT.kp ga;have jT:=fr.trans jT (by simp);have nA:=(hv.fr jT).get;refine zY (U5 h ci kP rP nA om oo (V3 uW gP oy qw)) ?_;generalize ((s3.push (.cells [.int .i64 0,.int .i64 0,.int .i64 0,.int .i64 0])).set s3.next (some (.cells [.int .i64 0,.int .i64 (wp:Int),.int .i64 (we:Int),.int .i64 (wc:Int)])))=s4 at *;have lS:=u7 gS;have AT:=u7 rP;have AS:=u7 sH;have Bn:=u7 nA;refine xxb (b6n hm ho iF h8 (gT.e ho iF) (hg.fr jT) (hv.fr jT).e hp mf) (by simp;omega) fun s5 E5 f5 hE5=>?_
  have iK:=jT.trans f5 (by simp);refine V6 ?_;refine a2D (xb (a08 (hg.fr iK) _ _) fun s6 f6=>?_);have iO:=iK.trans f6 (by simp);have sm:=f6.kp (f5.kp sH);have qx:=f6.kp (f5.kp rP);have la6:=u7 sm;have hs:=a39 (A:=A) ci wE;unfold Mo.fi at hs;simp only [if_true] at hs;refine zY (V5 sm hw hs) ?_;exact ⟨ci,qx,iO.st nJ _⟩
 ·have mw:wc<st.af.length:=by rw [gT.af];exact hc
  have ku:=gT.cl wc mw hc;have yE:=(iF.ch _ (List.getElem_mem hc)).2.1;rw [<- a3K mw] at ku;rcases hk with rfl | rfl
  ·have jT:Fr [] s3 ((s3.push (.cells [.int .i64 0,.int .i64 0,.int .i64 0,.int .i64 0])).set s3.next (some (.cells [.int .i64 1,.int .i64 (wp:Int),.int .i64 (we:Int),.int .i64 (wc:Int)]))):=a1x
   have gS:((s3.push (.cells [.int .i64 0,.int .i64 0,.int .i64 0,.int .i64 0])).set s3.next (some (.cells [.int .i64 1,.int .i64 (wp:Int),.int .i64 (we:Int),.int .i64 (wc:Int)]))).get s3.next=some (.cells [.int .i64 1,.int .i64 (wp:Int),.int .i64 (we:Int),.int .i64 (wc:Int)]):=a0d (by simp);have rP:=jT.kp gb;have sH:=jT.kp ga;have jT:=fr.trans jT (by simp);have nA:=(hv.fr jT).get;obtain ⟨u,y,i1,i2,oy,hy⟩:=(hv.fr jT).sz hc (k:=.i64);have rX:=a4Z (A:=V7 ((V8 st.af wc).length:Int)) (w:=2) (hg.fr jT) hy (by omega);rw [any2 (by omega)] at rX;refine zY (U5 h ci kP nA om oo i1 (aN i2 oy)) ?_;generalize ((s3.push (.cells [.int .i64 0,.int .i64 0,.int .i64 0,.int .i64 0])).set s3.next (some (.cells [.int .i64 1,.int .i64 (wp:Int),.int .i64 (we:Int),.int .i64 (wc:Int)])))=s4 at *;have lS:=u7 gS;have AT:=u7 rP;have AS:=u7 sH;have Bn:=u7 nA;refine xb rX fun s5 f5=>?_
   have iK:=jT.trans f5 (by simp);refine V6 ?_;refine xb (a08 (hg.fr iK) _ _) fun s6 f6=>?_
   have iO:=iK.trans f6 (by simp);have sm:=f6.kp (f5.kp sH);have qx:=f6.kp (f5.kp rP);have la6:=u7 sm;have hs:=a39 (A:=A) ci wE;unfold Mo.fi at hs;simp only [Nat.succ_ne_zero,if_false,if_true] at hs;refine zY (V5 sm hw hs) ?_;exact ⟨ci,qx,iO.st nJ _⟩
  ·have jT:Fr [] s3 ((s3.push (.cells [.int .i64 0,.int .i64 0,.int .i64 0,.int .i64 0])).set s3.next (some (.cells [.int .i64 2,.int .i64 (wp:Int),.int .i64 (we:Int),.int .i64 (wc:Int)]))):=a1x
   have gS:((s3.push (.cells [.int .i64 0,.int .i64 0,.int .i64 0,.int .i64 0])).set s3.next (some (.cells [.int .i64 2,.int .i64 (wp:Int),.int .i64 (we:Int),.int .i64 (wc:Int)]))).get s3.next=some (.cells [.int .i64 2,.int .i64 (wp:Int),.int .i64 (we:Int),.int .i64 (wc:Int)]):=a0d (by simp);have rP:=jT.kp gb;have sH:=jT.kp ga;have jT:=fr.trans jT (by simp);have nA:=(hv.fr jT).get;obtain ⟨u,y,i1,i2,oy,hy⟩:=(hv.fr jT).sz hc (k:=.i64);have rX:=a4Z (A:=V7 ((V8 st.af wc).length:Int)) (w:=2) (hg.fr jT) hy (by omega);rw [any2 (by omega)] at rX;refine zY (U5 h ci kP nA om oo i1 (aN i2 oy)) ?_;generalize ((s3.push (.cells [.int .i64 0,.int .i64 0,.int .i64 0,.int .i64 0])).set s3.next (some (.cells [.int .i64 2,.int .i64 (wp:Int),.int .i64 (we:Int),.int .i64 (wc:Int)])))=s4 at *;have lS:=u7 gS;have AT:=u7 rP;have AS:=u7 sH;have Bn:=u7 nA;refine bd_o i2 (fun id=>by simp [a18,a1r]) ?_ fun id gX=>?_
   all_goals
    refine V6 ?_;refine xxb rX (by simp) fun s5 E5 f5 hE5=>?_
    have iK:=jT.trans f5 (by simp);have AI:=f5.kp gS;have lS5:=u7 AI;have hn:a2b s3.next E5:=a4k hE5 lS;refine zY (aN AI hn) ?_;refine a2D (xb (b62 hm ho iF (hg.fr iK) (hv.fr iK).e (gT.e ho iF) hc) fun s6 f6=>?_);have iO:=iK.trans f6 (by simp);refine V6 ?_;refine xb (a9H (hg.fr (iO.aj _)) (W2 rfl)) fun s7 f7=>?_
    have f7:Fr [] s6 s7:=Fr.trans (Fr.push _) f7 (by simp);have ko:=iO.trans f7 (by simp);have Bq:=f7.kp (f6.kp (f5.kp sH));have tO:=f7.kp (f6.kp (f5.kp rP));have la7:=u7 Bq;have hs:=a39 (A:=A) ci wE;unfold Mo.fi at hs;simp only [Nat.succ_ne_zero,if_false,show ¬ (2=1) by decide] at hs;rw [<- Bool.and_assoc] at hs;refine zY (V5 Bq hw hs) ?_;exact ⟨ci,tO,ko.st nJ _⟩
end
section
variable {s:k4} {g v:Nat} {m:X6} {mo:Mo} {ps:List (Pr×X0)} {st:V0} {x:fB}
theorem a7u (hg:GB s g) {d:D} {l:List Bool} (hd:VB s d l) (hl:l.length<=100000):CB U8 47 [.ptr g 0,d] s (l.any id):=by
 have h:=a4Z hg (A:=aB l) (w:=l.length) (hd.cY (a3l l).symm) hl;rwa [any_aB] at h
theorem dead_c (hm:Z0 m mo ps) (ho:Z8 mo) (iF:a0J mo) (h8:eM st) (gT:Fit mo st) (hg:GB s g) (hv:Vs s v g m mo st x):CB U8 59 [.ptr v 0] s (mo.dR st):=by
 have gv:=hv.get;have lv:=u7 gv;have oo:=hv.az;have om:=hm.az;have fm:=a3N hm;have ou:=hm.eo;have mj:=ho.np;have qO:=hm.p;obtain ⟨dl,kD,hl⟩:=b0o hm ho;have pj:=a0F kD;have kO:=b13 ho;have od:=hl.one;have qR:=b7S (Q:=fun _=>false) (B:=fun _=>false) hm ho iF h8 gT hg hv hl (fun v hv=>b1L hv) (by omega) false false (fun h=>by cases h) (fun h=>by cases h);generalize yP:(fun i=>mo.fi st (cE (decide (st.hold<0)) false false (fun _=>false) (fun _=>false) (fun p=>decide (st.hold=(p:Int))) mo.procs.length) (aS (decide (st.hold<0)) false (fun _=>false) mo.procs.length) (Z9 mo.allM i))=A at qR;have hM:a0w A mo.allM.length=!decide (mo.aQ st=[]):=by
  rw [<- yP,<- c1I];exact b3X fun i _=>mvA_ff
 have oj:=gT.aI;unfold CB;refine X4 (vf:=vf59) rfl ?_;unfold vf59;refine zF ?_;refine zY (W6 gv om oo fm pj) ?_;refine xv qR fun vb s1 oW g1 f1=>?_
 refine V6 ?_;refine xb (a4Z (hg.fr f1) (VB.aU g1) (by omega)) fun s2 f2=>?_
 rw [hM];have ik:=f1.trans f2 (by simp);have ji:=(hv.fr ik).get;have nR:=u7 ji;refine zY (V3 ji om oo ou) ?_;clear hM qR g1 f1 f2;refine X5 [0,2,3,4,28,29] 0 mo.procs.length (fun i f s'=>f 30=.int .i64 (i:Int)/\bD s2 s' (f 5) (mo.cD st i)) (.mk rfl) (by omega) ⟨rfl,bD.nil (Fr.refl _ _)⟩ ?_;rintro i f s3 hi ⟨h,hb⟩;have ob:=hb.one;have hO:=ik.trans hb.1 (by simp);by_cases ci:i<mo.procs.length
 rotate_left
 ·obtain rfl:i=mo.procs.length:=by omega
  have rA:=a1W (!decide (mo.aQ st=[]));refine zY (V3 h ci ob rA) ?_;refine xb (a7u (hg.fr hO) hb.vb (by simp [Mo.cD];omega)) fun s4 f4=>?_
  have iy:=hO.trans f4 (by simp);refine V6 ?_;refine xb (a08 (hg.fr iy) _ _) fun s5 f5=>?_
  refine V6 ?_;refine ⟨?_,iy.trans f5 (by simp)⟩;have e:(mo.cD st mo.procs.length).any id=!((List.range mo.procs.length).all fun i=>(U4 mo.procs i).rest.getD (bq st.aI i) false):=by
   rw [Bool.eq_iff_iff];simp [Mo.cD]
  rw [e,Bool.not_not];rfl
 obtain ⟨y,hy,gP⟩:=hm.proc ci;have gP:=gP .i64;rw [<- a16 ci] at hy gP;unfold U6 at gP;have oy:=hy.az;have jc:=ho.pr _ (a3w ci);have jE:=jc.pl;have nX:=jc.inv.rest;have hlr:a0C false y.dr=some (.int .i64 ((U4 mo.procs i).rest.length:Int)):=by rw [hy.r.len];simp [a0h]
 refine zY (W6 h ci gP oy hlr) ?_;have f4:Fr [] s3 ((s3.push (.cells [.str (bs []),.int .i64 0,.ag,.int .i64 0,.ag,.ag,.ag,.ag])).set s3.next (some (.cells [.str (U4 mo.procs i).name,.int .i64 ((U4 mo.procs i).copy:Int),y.dl,.int .i64 ((U4 mo.procs i).ah:Int),y.dr,y.de,y.dn,y.dv]))):=a1x;generalize (s3.push (.cells [.str (bs []),.int .i64 0,.ag,.int .i64 0,.ag,.ag,.ag,.ag])).set s3.next (some (.cells [.str (U4 mo.procs i).name,.int .i64 ((U4 mo.procs i).copy:Int),y.dl,.int .i64 ((U4 mo.procs i).ah:Int),y.dr,y.de,y.dn,y.dv]))=s4 at *;have iy:=hO.trans f4 (by simp);have jB:=hb.fr f4;have xA:i<st.aI.length:=by omega
 have sD:bq st.aI i<(U4 mo.procs i).rest.length:=by
  rw [nX,a4U xA,a16 ci];exact gT.pl i xA ci
 refine X5 [0,2,3,4,5,6,7,28,29,30,31,36,37] 0 (U4 mo.procs i).rest.length (fun j f' s'=>f' 38=.int .i64 (j:Int)/\bD s4 s' (f' 8) (a6U (U4 mo.procs i) (bq st.aI i) j)) (.mk rfl) (by omega) ⟨rfl,bD.nil (Fr.refl _ _)⟩ ?_;rintro j f' s5 hj ⟨h',hc⟩;have oc:=hc.one;have iK:=iy.trans hc.1 (by simp);have pI:=jB.fr hc.1;by_cases cj:j<(U4 mo.procs i).rest.length
 ·have rQ:=b0j (k:=.i64) hy.r cj
  cases sT:bAt (U4 mo.procs i).rest j
  ·rw [sT] at rQ
   have sT:(U4 mo.procs i).rest.getD j false=false:=sT;refine zY (V5 h' cj rQ) ?_;rw [b6b,sT];simpa using hc
  ·rw [sT] at rQ
   have sT:(U4 mo.procs i).rest.getD j false=true:=sT;refine zY (V3 h' cj rQ oc) ?_;refine xb (a7l (k:=j) hm ho (hg.fr iK) (hv.fr iK).e (gT.e ho iF) ci (by omega)) fun s6 f6=>?_
   refine V6 ?_;refine a54 (hc.fr f6) (by have:=b5N (P:=U4 mo.procs i) (a:=bq st.aI i) (j:=j);omega) fun d7 s7 h7=>?_
   have o7:=h7.one;refine zY o7 ?_;refine ⟨cj,?_⟩;rw [b6b,sT];exact h7
 ·obtain rfl:j=(U4 mo.procs i).rest.length:=by omega
  refine zY (V3 h' cj ob oc) ?_;refine xb (a7u (hg.fr iK) hc.vb (by have:=b5N (P:=U4 mo.procs i) (a:=bq st.aI i) (j:=(U4 mo.procs i).rest.length);omega)) fun s6 f6=>?_
  rw [c2T sD];have hnr:=a1W ((U4 mo.procs i).rest.getD (bq st.aI i) false);refine zY hnr ?_;refine a54 (pI.fr f6) (by simp [Mo.cD];omega) fun d7 s7 h7=>?_
  have o7:=h7.one;refine zY (aN h o7) ?_;refine ⟨ci,?_⟩;rw [show mo.cD st (i+1)=mo.cD st i++[!((U4 mo.procs i).rest.getD (bq st.aI i) false)] by simp [Mo.cD,List.range_succ]];exact h7
end
theorem iso_c {f:Nat} {l:List D} {r:D} (h:eu f l r) (hs:a1Y r=true):a4D U8 f l r:=by
 obtain ⟨s1,h⟩:=h;exact ⟨r,s1,h,b2W hs 19⟩
theorem a6o {f:Nat} {l:List D} {r:D} (h:eu f l r) (hs:a1Y r=true):ca U8 f l r:=a0F (iso_c h hs)
theorem b41 {x:Int} (h1:-4294967296<=x) (h2:x<=4294967296):ca U8 34 [.int .i64 x,.int .i64 8] (.int .i64 (W9 x 8)):=a6o (b9c (x:=x) (n:=8) (w:=8) (by decide) ⟨by omega,by omega⟩) rfl
theorem a6B {b:Bool}:ca U8 91 [.bool b] (.int .i64 (V4 b)):=a6o one_ok rfl
theorem pzm {m:X6} {mo:Mo} {ps:List (Pr×X0)} (h:Z0 m mo ps):PZ (.agg (Y5 m)):=a9a fun d hd=>by
 simp only [Y5,List.mem_cons,List.not_mem_nil,or_false] at hd;rcases hd with rfl | rfl | rfl | rfl | rfl | rfl | rfl
 ·exact ⟨FL.pure h.tr.fl,FL.ic h.tr.fl⟩
 ·exact ⟨rfl,fun _ _=>rfl⟩
 ·exact ⟨h.c.pure,FL.ic h.c⟩
 ·exact ⟨h.v.pure,FL.ic h.v⟩
 ·exact ⟨h.p.pure,FL.ic h.p⟩
 ·exact ⟨h.sf.pure,FL.ic h.sf⟩
 ·exact ⟨rfl,fun _ _=>rfl⟩
theorem pzs {x:cG} {st:V0} (h:eV x st):PZ (.agg (a8s x st)):=a9a fun d hd=>by
 obtain ⟨ds,h1,_⟩:=h.c;simp only [a8s,List.mem_cons,List.not_mem_nil,or_false] at hd;rcases hd with rfl | rfl | rfl | rfl
 ·exact ⟨h.a.pure,FL.ic h.a⟩
 ·exact ⟨FL.pure h.v,FL.ic h.v⟩
 ·exact ⟨h1.pure,FL.ic h1⟩
 ·exact ⟨rfl,fun _ _=>rfl⟩
theorem a9X {op:Nat} (iX:op<5) {a b:Int} (ha:I8 a) (hb:I8 b):ca U8 92 [.int .i64 (op:Int),.int .i64 a,.int .i64 b,.int .i64 8] (.int .i64 (eF op a b 8)):=a6o (do8 iX ha hb) rfl
theorem b3p {m:X6} {mo:Mo} {ps:List (Pr×X0)} (hm:Z0 m mo ps) (ho:Z8 mo) {x:cG} {st:V0} (hx:eV x st) (h8:eM st) (ku:st.af.length=mo.af.length) {pr:Int} {look:ByteArray->Option Nat}
 (jA:∀w,eu 90 [.agg (Y5 m),.int .i64 pr,.str w] (.int .i64 (a2K (look w)))) (mX:∀w v,look w=some v->v<st.vars.length):∀ (n k:Nat),k<mo.tree.length->mo.tree.length-k<n->a2Y (nd mo.tree k).kind ->
 a4D U8 50 [.agg (Y5 m),.int .i64 pr,.agg (a8s x st),.int .i64 (k:Int)] (.aR [.int .i64 (a0R mo.tree mo.ch look st n k).1,.bool (a0R mo.tree mo.ch look st n k).2])
 | 0,k,_,h,_=>by omega
 | n+1,k,hk,hn,hex=>by
   have om:=hm.az;have ox:=hx.az;have fm:=pzm hm;have fx:=pzs hx;have hD:=ho.tree.node k hk;have gP:=hm.tr.at (z:=(k:Int)) (by omega) (by omega) (k:=.i64);rw [Int.toNat_natCast] at gP;have on:=a2N hm.tr hk;have hw:=a6g hm.tr hk (i:=0);have n0:=a51 hm.tr hk (i:=0);have z0:((0:Nat):Int)=0:=rfl;have z1:((1:Nat):Int)=1:=rfl;rw [hD.wl,z0] at hw;rw [hD.nl,z0] at n0;obtain ⟨iZ,xE⟩:=b2U hD hex;have ih:∀i,i<(nd mo.tree k).kids.length->a4D U8 50 [.agg (Y5 m),.int .i64 pr,.agg (a8s x st),.int .i64 (((nd mo.tree k).aC i:Nat):Int)] (.aR [.int .i64 (a0R mo.tree mo.ch look st n ((nd mo.tree k).aC i)).1,.bool (a0R mo.tree mo.ch look st n ((nd mo.tree k).aC i)).2]):=fun i hi=>by
    have h1:=ho.tree.ks hk _ (a1U hi);exact b3p hm ho hx h8 ku jA mX n _ h1.2 (by omega) (xE i hi)
   have i8:∀i,I8 (a0R mo.tree mo.ch look st n ((nd mo.tree k).aC i)).1:=fun i=>val8 h8 n _
   have k0:=a2H hm.tr ho.tree hk (i:=0);have k1:=a2H hm.tr ho.tree hk (i:=1);rw [z0] at k0;rw [z1] at k1;unfold a0R;simp only;unfold Y5 at ih fm jA ⊢;unfold a8s at ih fx ⊢;by_cases oe:(nd mo.tree k).kind=17
   ·rw [if_pos oe]
    rw [oe] at n0;have n0:=n0 (by decide);have hl:=hD.lit oe;refine a02 (vf:=a3n) rfl ?_;unfold a3n;refine zF ?_;simp (disch:=(first|exact Rf.mk rfl|with_reducible assumption|omega|((repeat (first|rw [nP]|rw [nS]|rw [Z2]))<;>omega)|decide)) only [go_sem,↓reduceIte,om,ox,gP,on,oe,n0,b41]
   rw [if_neg oe];by_cases nC:(nd mo.tree k).kind=18
   ·rw [if_pos nC]
    rw [nC] at hw;have hw:=hw (by decide);have hv:=jA ((nd mo.tree k).word 0);cases uq:look ((nd mo.tree k).word 0) with
    | none =>
      rw [uq] at hv;refine a02 (vf:=a3n) rfl ?_;unfold a3n;refine zF ?_;simp (disch:=(first|exact Rf.mk rfl|with_reducible assumption|omega|((repeat (first|rw [nP]|rw [nS]|rw [Z2]))<;>omega)|decide)) only [go_sem,↓reduceIte,om,ox,gP,on,nC,hw,a2K,a6o hv rfl]
    | some v =>
      rw [uq] at hv;have jZ:=mX _ _ uq;have tZ:=FI.idx hx.v jZ (k:=.i64);have c0:((v:Int)<0)=False:=eq_false (by omega);have e:=a3D jZ;simp only [e];refine a02 (vf:=a3n) rfl ?_;unfold a3n;refine zF ?_;simp (disch:=(first|exact Rf.mk rfl|with_reducible assumption|omega|((repeat (first|rw [nP]|rw [nS]|rw [Z2]))<;>omega)|decide)) only [go_sem,↓reduceIte,om,ox,gP,on,nC,hw,a2K,c0,tZ,a6o hv rfl]
   rw [if_neg nC];by_cases nY:(nd mo.tree k).kind=19
   ·rw [if_pos nY]
    rw [nY] at hw;have hw:=hw (by decide);have jM:=hm.lenC;have qe:=ho.nc;have lu:mo.ch.length=mo.af.length:=by simp [Mo.ch]
    refine a02 (vf:=a3n) rfl ?_;unfold a3n;refine zF ?_;refine zY (W6 om ox gP on nY) ?_;refine X5 [0,1,2,3,4,6,10,11,13,14,15,16,17,18,19,20,27,28,35,45,51,77,94,114,154,158,159,168,177,183] 0 mo.af.length (fun i f s=>s.get 0=some (.cells [m.dt,.int .i64 m.g,m.dc,m.dv,m.dp,m.ds,.bool m.b])/\s.get 1=some (.cells [x.da,x.dv,x.dc,.int .i64 st.hold])/\s.get 2=some (.cells [.int .i64 19,(nd mo.tree k).dw,(nd mo.tree k).dn,(nd mo.tree k).dk,.int .i64 (nd mo.tree k).pos])/\(∀j (hj:j<mo.af.length),j<i->mo.af[j].name≠(nd mo.tree k).word 0)/\f 12=.int .i64 (i:Int)) (.mk rfl) (by omega) ⟨?_,?_,?_,fun j _ h=>by omega,rfl⟩ ?_
    ·exact zZ0
    ·exact zZ0
    ·exact zZ0
    rintro i f s hi ⟨g0,g1,g2,gU,hE⟩;by_cases ci:i<mo.af.length
    ·have mD:IntKind.i64.wrap ((i:Int)+1)=((i+1:Nat):Int):=by rw [Z5 (by omega) (by omega)];omega
     have jb:((i:Int)<(mo.af.length:Int))=True:=eq_true (by omega);have lD:=FLC.idx hm.c ci (k:=.i64);unfold Ch.row at lD;by_cases ce:mo.af[i].name=(nd mo.tree k).word 0
     ·have rV:i<mo.ch.length:=by omega
      have eb:=a7Q (l:=mo.ch) (w:=(nd mo.tree k).word 0) rV (by simpa [Mo.ch] using ce) (fun j hj hji=>by simpa [Mo.ch] using gU j (by omega) hji);have mw:i<st.af.length:=by omega
      obtain ⟨dq,hq,zb⟩:=hx.chan mw;have zb:=zb .i64;have oq:=FL.one hq;have Aq:=FI.len hq;have e:=a3K mw;simp only [eb,if_pos rV,e];exact zZ (U5 hE g0 g1 g2 om ox on (U5 jM jb lD ce hw zb oq Aq))
     ·have wR:decide (mo.af[i].name=(nd mo.tree k).word 0)=false:=by simp [ce]
      refine zY (U5 hE g0 g1 g2 om on jM (W6 jb lD wR hw mD)) ?_;refine ⟨by omega,fun j hj hji=>?_⟩;by_cases ej:j=i
      ·subst ej;exact ce
      ·exact gU j hj (by omega)
    ·have jb:((i:Int)<(mo.af.length:Int))=False:=eq_false (by omega)
     have eb:=a7N (l:=mo.ch) (w:=(nd mo.tree k).word 0) (fun j hj=>by simpa [Mo.ch] using gU j (by omega) (by omega));simp only [if_neg eb];exact zZ (W6 hE g0 om jM jb)
   rw [if_neg nY];by_cases qT:(nd mo.tree k).kind=20
   ·rw [if_pos qT]
    have h1:=hD.one (by omega);have k0:=k0 (by omega);have h0:=a0F (ih 0 (by omega));obtain ⟨b1,b2⟩:=i8 0;have e1:IntKind.i64.wrap (0-(a0R mo.tree mo.ch look st n ((nd mo.tree k).aC 0)).1)=-(a0R mo.tree mo.ch look st n ((nd mo.tree k).aC 0)).1:=by rw [Z5 (by omega) (by omega)];omega
    refine a02 (vf:=a3n) rfl ?_;unfold a3n;refine zF ?_;simp (disch:=(first|exact Rf.mk rfl|with_reducible assumption|omega|((repeat (first|rw [nP]|rw [nS]|rw [Z2]))<;>omega)|decide)) only [go_sem,↓reduceIte,om,ox,gP,on,qT,k0,e1,h0,b41]
   rw [if_neg qT];by_cases qm:(nd mo.tree k).kind=21
   ·rw [if_pos qm]
    have h1:=hD.one (by omega);have k0:=k0 (by omega);have h0:=a0F (ih 0 (by omega));generalize a0R mo.tree mo.ch look st n ((nd mo.tree k).aC 0)=y0 at *;obtain ⟨v0,b0⟩:=y0;simp only at h0 ⊢;have eb:(v0==0)=decide (v0=0):=rfl;cases b0
    ·refine a02 (vf:=a3n) rfl ?_
     unfold a3n;refine zF ?_;simp (disch:=(first|exact Rf.mk rfl|with_reducible assumption|omega|((repeat (first|rw [nP]|rw [nS]|rw [Z2]))<;>omega)|decide)) only [go_sem,↓reduceIte,om,ox,gP,on,qm,k0,h0,a6B,Bool.false_and]
    ·refine a02 (vf:=a3n) rfl ?_
     unfold a3n;refine zF ?_;simp (disch:=(first|exact Rf.mk rfl|with_reducible assumption|omega|((repeat (first|rw [nP]|rw [nS]|rw [Z2]))<;>omega)|decide)) only [go_sem,↓reduceIte,om,ox,gP,on,qm,k0,h0,a6B,eb]
   rw [if_neg qm];have oN:(nd mo.tree k).kind=22:=by have:=hex.1;have:=hex.2;omega
   rw [if_pos oN];obtain ⟨l2,_,_,o0,o8⟩:=hD.bin oN;have k0:=k0 (by omega);have k1:=k1 (by omega);rw [oN] at n0;have n0:=n0 (by decide);have g0:=a0F (ih 0 (by omega));have g1:=a0F (ih 1 (by omega));have i0:=i8 0;have i1:=i8 1;generalize a0R mo.tree mo.ch look st n ((nd mo.tree k).aC 0)=y0 at *;generalize a0R mo.tree mo.ch look st n ((nd mo.tree k).aC 1)=y1 at *;obtain ⟨v0,b0⟩:=y0;obtain ⟨v1,b1⟩:=y1;simp only at g0 g1 i0 i1 ⊢;have e0:(v0 != 0)=decide (v0≠0):=by by_cases c:v0=0<;>simp [c]
   have e1:(v1 != 0)=decide (v1≠0):=by by_cases c:v1=0<;>simp [c]
   have e2:(v0==v1)=decide (v0=v1):=rfl;have ny:(nd mo.tree k).num 0=0∨(nd mo.tree k).num 0=1∨(nd mo.tree k).num 0=2∨(nd mo.tree k).num 0=3∨(nd mo.tree k).num 0=4∨(nd mo.tree k).num 0=5∨(nd mo.tree k).num 0=6∨(nd mo.tree k).num 0=7∨(nd mo.tree k).num 0=8:=by omega
   generalize (nd mo.tree k).num 0=op at *;refine a02 (vf:=a3n) rfl ?_;unfold a3n;refine zF ?_;refine zY (U5 om ox gP on oN k0 k1 (V5 n0 g0 g1)) ?_;cases b0
   ·simp (disch:=(first|exact Rf.mk rfl|with_reducible assumption|omega|((repeat (first|rw [nP]|rw [nS]|rw [Z2]))<;>omega)|decide)) only [go_sem,↓reduceIte,Bool.false_and,if_false]
   cases b1
   ·simp (disch:=(first|exact Rf.mk rfl|with_reducible assumption|omega|((repeat (first|rw [nP]|rw [nS]|rw [Z2]))<;>omega)|decide)) only [go_sem,↓reduceIte,Bool.and_false,if_false]
   simp only [Bool.and_self,if_true];have d0:ca U8 92 [.int .i64 0,.int .i64 v0,.int .i64 v1,.int .i64 8] _:=a9X (op:=0) (by decide) i0 i1;have d1:ca U8 92 [.int .i64 1,.int .i64 v0,.int .i64 v1,.int .i64 8] _:=a9X (op:=1) (by decide) i0 i1;have d2:ca U8 92 [.int .i64 2,.int .i64 v0,.int .i64 v1,.int .i64 8] _:=a9X (op:=2) (by decide) i0 i1;have d3:ca U8 92 [.int .i64 3,.int .i64 v0,.int .i64 v1,.int .i64 8] _:=a9X (op:=3) (by decide) i0 i1;have d4:ca U8 92 [.int .i64 4,.int .i64 v0,.int .i64 v1,.int .i64 8] _:=a9X (op:=4) (by decide) i0 i1;rcases ny with rfl | rfl | rfl | rfl | rfl | rfl | rfl | rfl | rfl
   ·by_cases a0:v0=0
    ·have c0:(v0 != 0)=false:=by simp [a0]
     simp (disch:=(first|exact Rf.mk rfl|with_reducible assumption|omega|((repeat (first|rw [nP]|rw [nS]|rw [Z2]))<;>omega)|decide)) only [go_sem,↓reduceIte,om,ox,on,n0,c0,e1,a6B];simp [a0V,a0]
    ·have c0:(v0 != 0)=true:=by simp [a0]
     simp (disch:=(first|exact Rf.mk rfl|with_reducible assumption|omega|((repeat (first|rw [nP]|rw [nS]|rw [Z2]))<;>omega)|decide)) only [go_sem,↓reduceIte,om,ox,on,n0,c0,a6B];simp [a0V,a0]
   ·by_cases a0:v0=0
    ·have c0:(v0 != 0)=false:=by simp [a0]
     simp (disch:=(first|exact Rf.mk rfl|with_reducible assumption|omega|((repeat (first|rw [nP]|rw [nS]|rw [Z2]))<;>omega)|decide)) only [go_sem,↓reduceIte,om,ox,on,n0,c0,e1,a6B];simp [a0V,a0]
    ·have c0:(v0 != 0)=true:=by simp [a0]
     simp (disch:=(first|exact Rf.mk rfl|with_reducible assumption|omega|((repeat (first|rw [nP]|rw [nS]|rw [Z2]))<;>omega)|decide)) only [go_sem,↓reduceIte,om,ox,on,n0,c0,e1,a6B];simp [a0V,a0]
   ·simp (disch:=(first|exact Rf.mk rfl|with_reducible assumption|omega|((repeat (first|rw [nP]|rw [nS]|rw [Z2]))<;>omega)|decide)) only [go_sem,↓reduceIte,om,ox,on,n0,e2,a6B]
    simp [a0V]
   ·simp (disch:=(first|exact Rf.mk rfl|with_reducible assumption|omega|((repeat (first|rw [nP]|rw [nS]|rw [Z2]))<;>omega)|decide)) only [go_sem,↓reduceIte,om,ox,on,n0,a6B]
    simp [a0V]
   ·simp (disch:=(first|exact Rf.mk rfl|with_reducible assumption|omega|((repeat (first|rw [nP]|rw [nS]|rw [Z2]))<;>omega)|decide)) only [go_sem,↓reduceIte,om,ox,on,n0,Z5,d0]
    simp [a0V]
   ·simp (disch:=(first|exact Rf.mk rfl|with_reducible assumption|omega|((repeat (first|rw [nP]|rw [nS]|rw [Z2]))<;>omega)|decide)) only [go_sem,↓reduceIte,om,ox,on,n0,Z5,d1]
    simp [a0V]
   ·simp (disch:=(first|exact Rf.mk rfl|with_reducible assumption|omega|((repeat (first|rw [nP]|rw [nS]|rw [Z2]))<;>omega)|decide)) only [go_sem,↓reduceIte,om,ox,on,n0,Z5,d2]
    simp [a0V]
   ·by_cases a1:v1=0
    ·refine zY (W6 om ox on n0 a1) ?_
     simp [a0V,a1]
    ·have c1:(v1==0)=false:=by simp [a1]
     simp (disch:=(first|exact Rf.mk rfl|with_reducible assumption|omega|((repeat (first|rw [nP]|rw [nS]|rw [Z2]))<;>omega)|decide)) only [go_sem,↓reduceIte,om,ox,on,n0,c1,Z5,d3];simp [a0V,a1]
   ·by_cases a1:v1=0
    ·refine zY (W6 om ox on n0 a1) ?_
     simp [a0V,a1]
    ·have c1:(v1==0)=false:=by simp [a1]
     simp (disch:=(first|exact Rf.mk rfl|with_reducible assumption|omega|((repeat (first|rw [nP]|rw [nS]|rw [Z2]))<;>omega)|decide)) only [go_sem,↓reduceIte,om,ox,on,n0,c1,Z5,d4];simp [a0V,a1]
section
structure a4W (mo:Mo) (x:cG) (st:V0):Prop where
 f:eV x st
 e:eM st
 fit:Fit mo st
variable {m:X6} {mo:Mo} {ps:List (Pr×X0)} {x:cG} {st:V0}
theorem b1p (hm:Z0 m mo ps) (ho:Z8 mo) (hx:a4W mo x st) {p:Nat} (hp:p<mo.procs.length) {k:Nat} (hk:k<mo.tree.length) (he:a2Y (nd mo.tree k).kind) :
 ca U8 50 [.agg [m.dt,.int .i64 m.g,m.dc,m.dv,m.dp,m.ds,.bool m.b],.int .i64 (p:Int),.agg [x.da,x.dv,x.dc,.int .i64 st.hold],.int .i64 (k:Int)] (.aR [.int .i64 (mo.val (a0Z (U4 mo.procs p)) st k).1,.bool (mo.val (a0Z (U4 mo.procs p)) st k).2]):=by
 rw [a16 hp];exact a0F (b3p hm ho hx.f hx.e hx.fit.af (fun w=>c0W hm ho hp) (fun w v hv=>by
  have jc:=ho.pr _ (List.getElem_mem hp);have:=jc.var v (b7g jc.same hv);rw [hx.fit.vars];exact this) _ k hk (by omega) he)
theorem valG (hm:Z0 m mo ps) (ho:Z8 mo) (hx:a4W mo x st) {k:Nat} (hk:k<mo.tree.length) (he:a2Y (nd mo.tree k).kind) :
 ca U8 50 [.agg [m.dt,.int .i64 m.g,m.dc,m.dv,m.dp,m.ds,.bool m.b],.int .i64 (-1),.agg [x.da,x.dv,x.dc,.int .i64 st.hold],.int .i64 (k:Int)] (.aR [.int .i64 (mo.val (a1j mo) st k).1,.bool (mo.val (a1j mo) st k).2]) :=
 a0F (b3p hm ho hx.f hx.e hx.fit.af (fun w=>c3F hm ho) (fun w v hv=>by
  have:=b9p hv;have:=ho.gl;rw [hx.fit.vars];omega) _ k hk (by omega) he)
theorem b9E (hm:Z0 m mo ps) (ho:Z8 mo) (hx:a4W mo x st):ca U8 52 [.agg [m.dt,.int .i64 m.g,m.dc,m.dv,m.dp,m.ds,.bool m.b],.agg [x.da,x.dv,x.dc,.int .i64 st.hold]] (.bool (mo.cP st)):=by
 refine a0F ?_;have hs:=hm.sf;have sl:=ho.sl;have fm:=a3N hm;have fx:=a6l hx.f;have om:=hm.az;have ox:=hx.f.az;refine a02 (vf:=vf52) rfl ?_;unfold vf52;refine zF ?_;refine zY (aN om ox) ?_;refine X5 [0,1,2,3] 0 mo.safe.length (fun i f s=>f 5=.int .i64 (i:Int)/\s.get 0=some (.cells [m.dt,.int .i64 m.g,m.dc,m.dv,m.dp,m.ds,.bool m.b])/\s.get 1=some (.cells [x.da,x.dv,x.dc,.int .i64 st.hold])/\∀j,j<i->(mo.val (a1j mo) st (bq mo.safe j)).2=true/\(mo.val (a1j mo) st (bq mo.safe j)).1≠0) (.mk rfl) (by omega) ⟨rfl,?_,?_,fun j h=>by omega⟩ ?_
 ·exact zZ0
 ·exact zZ0
 rintro i f s hi ⟨hE,g0,g1,gU⟩;by_cases ci:i<mo.safe.length
 ·have hk:=ho.sf _ (b2O ci)
  have hv:=valG hm ho hx hk.1 hk.2;refine zY (Y3 hE ci g0 g1 om ox hv) ?_;repeat' (first|(refine a6u (fun c=>?_) (fun c=>?_)<;>(try simp only [a35,a34,a4g,a36] at c)<;>simp (disch:=(first|exact Rf.mk rfl|with_reducible assumption|omega|((repeat (first|rw [nP]|rw [nS]|rw [Z2]))<;>omega)|decide)) only [go_sem,↓reduceIte,hE,ci,g0,g1,om,ox,hv,c])|(refine a7r (fun c=>?_) (fun c=>?_)<;>(try simp only [a35,a34,a4g,a36] at c)<;>simp (disch:=(first|exact Rf.mk rfl|with_reducible assumption|omega|((repeat (first|rw [nP]|rw [nS]|rw [Z2]))<;>omega)|decide)) only [go_sem,↓reduceIte,hE,ci,g0,g1,om,ox,hv,c]))
  ·exact (b8k ci (.inl c)).symm
  ·exact (b8k ci (.inr c)).symm
  ·intro j hj
   by_cases ej:j=i
   ·subst ej;exact ⟨by simpa using ‹_=true›,c⟩
   ·exact gU j (by omega)
 ·refine zY (V3 hE ci g0 om) ?_
  exact (b1O.2 fun j hj=>gU j (by omega)).symm
theorem can_ok (hm:Z0 m mo ps) (ho:Z8 mo) (hx:a4W mo x st) {p:Nat} (hp:p<mo.procs.length) {e:Ed} (he:a5O mo.tree mo.af.length (U4 mo.procs p).ah (U4 mo.procs p).vars e) :
 ca U8 72 [.agg [m.dt,.int .i64 m.g,m.dc,m.dv,m.dp,m.ds,.bool m.b],.agg [x.da,x.dv,x.dc,.int .i64 st.hold],.int .i64 (p:Int),.agg [.int .i64 (e.au:Int),.int .i64 (e.to:Int),.int .i64 (e.act:Int),.int .i64 e.expr,.int .i64 e.var,.int .i64 e.chan,.bool e.aF,.int .i64 (e.node:Int)]] (.bool (mo.can st p (U4 mo.procs p) e)):=by
 refine a0F ?_;have fm:=a3N hm;have fx:=a6l hx.f;have om:=hm.az;have ox:=hx.f.az;have xI:=hx.f;have zQ:=xI.a;have nU:=hm.c;have sD:p<st.aI.length:=by rw [hx.fit.aI];exact hp
 have ku:=hx.fit.af;unfold Mo.can Mo.ex;have h6:e.act=0∨e.act=1∨e.act=2∨e.act=3∨e.act=4∨e.act=5:=by have:=he.act;omega
 rcases h6 with ha | ha | ha | ha | ha | ha
 ·have hex:=he.ex0 (by omega)
  rw [hex];refine a02 (vf:=a4y) rfl ?_;unfold a4y;refine zF ?_;refine zY (V5 om ox ha) ?_;repeat' (first|(refine a6u (fun c=>?_) (fun c=>?_)<;>(try simp only [a35,a34,a4g,a36] at c)<;>simp (disch:=(first|exact Rf.mk rfl|with_reducible assumption|omega|((repeat (first|rw [nP]|rw [nS]|rw [Z2]))<;>omega)|decide)) only [go_sem,↓reduceIte,om,ox,ha,c])|(refine a7r (fun c=>?_) (fun c=>?_)<;>(try simp only [a35,a34,a4g,a36] at c)<;>simp (disch:=(first|exact Rf.mk rfl|with_reducible assumption|omega|((repeat (first|rw [nP]|rw [nS]|rw [Z2]))<;>omega)|decide)) only [go_sem,↓reduceIte,om,ox,ha,c]))
  all_goals simp_all
 ·obtain ⟨k,kv,lK,lY⟩:=he.gD (by omega)
  have hv:=b1p hm ho hx hp lK lY;rw [kv];simp only [Int.natCast_nonneg,if_true,Int.toNat_natCast];generalize mo.val (a0Z (U4 mo.procs p)) st k=v at *;refine a02 (vf:=a4y) rfl ?_;unfold a4y;refine zF ?_;refine zY (V3 om ox ha hv) ?_;repeat' (first|(refine a6u (fun c=>?_) (fun c=>?_)<;>(try simp only [a35,a34,a4g,a36] at c)<;>simp (disch:=(first|exact Rf.mk rfl|with_reducible assumption|omega|((repeat (first|rw [nP]|rw [nS]|rw [Z2]))<;>omega)|decide)) only [go_sem,↓reduceIte,om,ox,ha,hv,c])|(refine a7r (fun c=>?_) (fun c=>?_)<;>(try simp only [a35,a34,a4g,a36] at c)<;>simp (disch:=(first|exact Rf.mk rfl|with_reducible assumption|omega|((repeat (first|rw [nP]|rw [nS]|rw [Z2]))<;>omega)|decide)) only [go_sem,↓reduceIte,om,ox,ha,hv,c]))
  all_goals simp_all
 ·obtain ⟨k,kv,lK,lY⟩:=he.gD (by omega)
  obtain ⟨q,qC,hq2⟩:=he.c1 (by omega);have hv:=b1p hm ho hx hp lK lY;rw [kv,qC];simp only [Int.natCast_nonneg,if_true,Int.toNat_natCast];generalize mo.val (a0Z (U4 mo.procs p)) st k=v at *;refine a02 (vf:=a4y) rfl ?_;unfold a4y;refine zF ?_;refine zY (V3 om ox ha hv) ?_;repeat' (first|(refine a6u (fun c=>?_) (fun c=>?_)<;>(try simp only [a35,a34,a4g,a36] at c)<;>simp (disch:=(first|exact Rf.mk rfl|with_reducible assumption|omega|((repeat (first|rw [nP]|rw [nS]|rw [Z2]))<;>omega)|decide)) only [go_sem,↓reduceIte,om,ox,ha,hv,c])|(refine a7r (fun c=>?_) (fun c=>?_)<;>(try simp only [a35,a34,a4g,a36] at c)<;>simp (disch:=(first|exact Rf.mk rfl|with_reducible assumption|omega|((repeat (first|rw [nP]|rw [nS]|rw [Z2]))<;>omega)|decide)) only [go_sem,↓reduceIte,om,ox,ha,hv,c]))
  all_goals simp_all
 ·have hex:=he.ex0 (by omega)
  obtain ⟨q,qC,hq2⟩:=he.c1 (by omega);rw [hex,qC];refine a02 (vf:=a4y) rfl ?_;unfold a4y;refine zF ?_;refine zY (V5 om ox ha) ?_;repeat' (first|(refine a6u (fun c=>?_) (fun c=>?_)<;>(try simp only [a35,a34,a4g,a36] at c)<;>simp (disch:=(first|exact Rf.mk rfl|with_reducible assumption|omega|((repeat (first|rw [nP]|rw [nS]|rw [Z2]))<;>omega)|decide)) only [go_sem,↓reduceIte,om,ox,ha,c])|(refine a7r (fun c=>?_) (fun c=>?_)<;>(try simp only [a35,a34,a4g,a36] at c)<;>simp (disch:=(first|exact Rf.mk rfl|with_reducible assumption|omega|((repeat (first|rw [nP]|rw [nS]|rw [Z2]))<;>omega)|decide)) only [go_sem,↓reduceIte,om,ox,ha,c]))
  all_goals simp_all
 ·obtain ⟨k,kv,lK,lY⟩:=he.gD (by omega)
  have hv:=b1p hm ho hx hp lK lY;rw [kv];simp only [Int.natCast_nonneg,if_true,Int.toNat_natCast];generalize mo.val (a0Z (U4 mo.procs p)) st k=v at *;refine a02 (vf:=a4y) rfl ?_;unfold a4y;refine zF ?_;refine zY (V3 om ox ha hv) ?_;repeat' (first|(refine a6u (fun c=>?_) (fun c=>?_)<;>(try simp only [a35,a34,a4g,a36] at c)<;>simp (disch:=(first|exact Rf.mk rfl|with_reducible assumption|omega|((repeat (first|rw [nP]|rw [nS]|rw [Z2]))<;>omega)|decide)) only [go_sem,↓reduceIte,om,ox,ha,hv,c])|(refine a7r (fun c=>?_) (fun c=>?_)<;>(try simp only [a35,a34,a4g,a36] at c)<;>simp (disch:=(first|exact Rf.mk rfl|with_reducible assumption|omega|((repeat (first|rw [nP]|rw [nS]|rw [Z2]))<;>omega)|decide)) only [go_sem,↓reduceIte,om,ox,ha,hv,c]))
  all_goals simp_all
 ·obtain ⟨k,kv,lK,lY⟩:=he.gD (by omega)
  have hv:=b1p hm ho hx hp lK lY;rw [kv];simp only [Int.natCast_nonneg,if_true,Int.toNat_natCast];generalize mo.val (a0Z (U4 mo.procs p)) st k=v at *;refine a02 (vf:=a4y) rfl ?_;unfold a4y;refine zF ?_;refine zY (V3 om ox ha hv) ?_;repeat' (first|(refine a6u (fun c=>?_) (fun c=>?_)<;>(try simp only [a35,a34,a4g,a36] at c)<;>simp (disch:=(first|exact Rf.mk rfl|with_reducible assumption|omega|((repeat (first|rw [nP]|rw [nS]|rw [Z2]))<;>omega)|decide)) only [go_sem,↓reduceIte,om,ox,ha,hv,c])|(refine a7r (fun c=>?_) (fun c=>?_)<;>(try simp only [a35,a34,a4g,a36] at c)<;>simp (disch:=(first|exact Rf.mk rfl|with_reducible assumption|omega|((repeat (first|rw [nP]|rw [nS]|rw [Z2]))<;>omega)|decide)) only [go_sem,↓reduceIte,om,ox,ha,hv,c]))
  all_goals simp_all
theorem can_bc (hm:Z0 m mo ps) (ho:Z8 mo) (hx:a4W mo x st) {p:Nat} (hp:p<mo.procs.length) {j:Nat} (hj:j<(U4 mo.procs p).ak.length) :
 ca U8 72 [.agg [m.dt,.int .i64 m.g,m.dc,m.dv,m.dp,m.ds,.bool m.b],.agg [x.da,x.dv,x.dc,.int .i64 st.hold],.int .i64 (p:Int),.agg [.int .i64 ((bc (U4 mo.procs p).ak j).au:Int),.int .i64 ((bc (U4 mo.procs p).ak j).to:Int),.int .i64 ((bc (U4 mo.procs p).ak j).act:Int),.int .i64 (bc (U4 mo.procs p).ak j).expr,.int .i64 (bc (U4 mo.procs p).ak j).var,.int .i64 (bc (U4 mo.procs p).ak j).chan,.bool (bc (U4 mo.procs p).ak j).aF,.int .i64 ((bc (U4 mo.procs p).ak j).node:Int)]] (.bool (mo.can st p (U4 mo.procs p) (bc (U4 mo.procs p).ak j))) :=
 can_ok hm ho hx hp ((ho.pr _ (a3w hp)).inv.ed _ (a6h hj))
end
section
variable {m:X6} {mo:Mo} {ps:List (Pr×X0)} {x:cG} {st:V0}
theorem c2H (hm:Z0 m mo ps) (ho:Z8 mo) (hx:a4W mo x st):a52 U8 36 [.agg [m.dt,.int .i64 m.g,m.dc,m.dv,m.dp,m.ds,.bool m.b],.agg [x.da,x.dv,x.dc,.int .i64 st.hold]] fun d=>FL 4 d (a15 (mo.aQ st)):=by
 have fm:=a3N hm;have fx:=a6l hx.f;have om:=hm.az;have ox:=hx.f.az;have xI:=hx.f;have nU:=hm.c;have ku:=hx.fit.af;have mj:=ho.np;have qe:=ho.nc;refine a6x (vf:=vf36) rfl ?_;unfold vf36;refine zF ?_;refine zY (aN om ox) ?_;have me:Hp ((k4.empty.push (.cells [m.dt,.int .i64 m.g,m.dc,m.dv,m.dp,m.ds,.bool m.b])).push (.cells [x.da,x.dv,x.dc,.int .i64 st.hold])) [] [(0,[m.dt,.int .i64 m.g,m.dc,m.dv,m.dp,m.ds,.bool m.b]),(1,[x.da,x.dv,x.dc,.int .i64 st.hold])]:=⟨List.nodup_nil,by simp,by simp [Y2],by
  intro y hy;simp only [List.mem_cons,List.not_mem_nil,or_false] at hy;rcases hy with rfl | rfl
  ·exact zZ0
  ·simp (disch:=(first|exact Rf.mk rfl|with_reducible assumption|omega|((repeat (first|rw [nP]|rw [nS]|rw [Z2]))<;>omega)|decide)) only [go_sem,↓reduceIte]⟩
 generalize hR:[(0,[m.dt,.int .i64 m.g,m.dc,m.dv,m.dp,m.ds,.bool m.b]),(1,[x.da,x.dv,x.dc,.int .i64 st.hold])]=R at me;have hg:∀ {s E},Hp s E R->s.get 0=some (.cells [m.dt,.int .i64 m.g,m.dc,m.dv,m.dp,m.ds,.bool m.b])/\s.get 1=some (.cells [x.da,x.dv,x.dc,.int .i64 st.hold]):=fun h=>by
  subst hR;exact ⟨h.r (0,_) (by simp),h.r (1,_) (by simp)⟩
 refine a1H [0,1,2,3,4,8,9,65,83,108] (fun f s=>∃E,Rp (f 5) 4 (a15 (mo.gL st mo.procs.length)) E/\Hp s E R) ?_ ?_
 ·refine X5 [0,1,2,3,4,8,9,65,83,108] 0 mo.procs.length (fun i f s=>f 6=.int .i64 (i:Int)/\∃E,Rp (f 5) 4 (a15 (mo.gL st i)) E/\Hp s E R) (.mk rfl) (by omega) ⟨rfl,[],.inl ⟨rfl,rfl,rfl⟩,me⟩ ?_
  rintro i f s hi ⟨hE,E,hr,hp⟩;obtain ⟨g0,g1⟩:=hg hp;by_cases ci:i<mo.procs.length
  ·by_cases ch:0<=st.hold/\st.hold≠(i:Int)
   ·have e:mo.cu st i=[]:=by rw [Mo.bT,if_pos ch]
    have h1:=ch.1;have h2:=ch.2;refine zY (U5 hE ci g0 g1 om ox h1 h2) ?_;rw [Mo.dO,e,List.append_nil];exact ⟨E,hr,hp⟩
   ·have e:mo.cu st i=mo.gh st i (U4 mo.procs i).ak.length:=by rw [Mo.bT,if_neg ch]
    have jR:=(ho.pr _ (a3w ci)).el;have h2:0<=st.hold->(st.hold=(i:Int))=True:=fun h=>eq_true (by omega)
    have tT:(mo.gL st i).length<=16000:=Nat.le_trans (Mo.eH ho hi) (by omega);by_cases h1:0<=st.hold<;>simp (disch:=(first|exact Rf.mk rfl|with_reducible assumption|omega|((repeat (first|rw [nP]|rw [nS]|rw [Z2]))<;>omega)|decide)) only [go_sem,↓reduceIte,hE,ci,g0,g1,om,ox,h1,h2]
    all_goals
     refine X5 [0,1,2,3,4,6,8,9,14,25,65,83,108] 0 (U4 mo.procs i).ak.length (fun j f s=>f 7=.int .i64 (j:Int)/\∃E,Rp (f 5) 4 (a15 (mo.gL st i++mo.gh st i j)) E/\Hp s E R) (.mk rfl) (by omega) ⟨rfl,E,by rw [show mo.gh st i 0=[] from rfl,List.append_nil];exact hr,hp⟩ ?_;rintro j f s hj ⟨hE,E,hr,hp⟩;obtain ⟨g0,g1⟩:=hg hp;by_cases cj:j<(U4 mo.procs i).ak.length
     ·have hc:=can_bc hm ho hx ci cj
      have fe:=pz_ed (e:=bc (U4 mo.procs i).ak j);refine zY (U5 hE ci cj g0 g1 om ox hc) ?_;refine a6u (fun c=>?_) (fun c=>?_)
      ·refine zY (Y3 hE ci cj g0 g1 om ox) ?_
       have:=Mo.gj (mo:=mo) (st:=st) (i:=i) (j:=j);refine a6W ⟨0,i,j,0⟩ rfl hr hp (by decide) (by simp;omega) ?_;intro d' s' E' hr' qP;refine zY hE ?_;refine ⟨cj,E',?_,qP⟩;rw [Mo.eW,c,if_pos rfl,<- List.append_assoc];exact hr'
      ·refine zY hE ?_
       refine ⟨cj,E,?_,hp⟩;rw [Mo.eW,c,if_neg (by simp),List.append_nil];exact hr
     ·obtain rfl:j=(U4 mo.procs i).ak.length:=by omega
      refine zY (Y6 hE ci g0 g1 om ox) ?_;rw [Mo.dO,e];exact ⟨E,hr,hp⟩
  ·obtain rfl:i=mo.procs.length:=by omega
   refine zY (Y6 hE ci g0 g1 om ox) ?_;exact ⟨E,hr,hp⟩
 ·rintro f s ⟨E,hr,hp⟩
  obtain ⟨g0,g1⟩:=hg hp;refine V6 ?_;refine a1H [0,1,2,3,4,6,7,14,25,34,49] (fun f s=>∃E,Rp (f 5) 4 (a15 (mo.aQ st)) E/\Hp s E R) ?_ ?_
  ·have tT:(mo.gL st mo.procs.length).length<=16000:=Nat.le_trans (Mo.eH ho (Nat.le_refl _)) (by omega)
   refine X5 [0,1,2,3,4,6,7,14,25,34,49] 0 mo.af.length (fun i f s=>f 8=.int .i64 (i:Int)/\∃E,Rp (f 5) 4 (a15 (mo.gL st mo.procs.length++if st.hold<0 then mo.mvC st i else [])) E/\Hp s E R) (.mk rfl) (by omega) ⟨rfl,E,?_,hp⟩ ?_
   ·rw [show mo.mvC st 0=[] from rfl,ite_self,List.append_nil];exact hr
   clear hr hp;rintro i f s hi ⟨hE,E,hr,hp⟩;obtain ⟨g0,g1⟩:=hg hp;by_cases ch:st.hold<0
   ·by_cases ci:i<mo.af.length
    ·have jb:i<st.af.length:=by omega
     rw [if_pos ch] at hr;have hmc':=Mo.gk (mo:=mo) (st:=st) (i:=i);have e1:mo.mvC st (i+1)=mo.mvC st i++mo.aY st i:=Mo.eX;unfold Mo.aY at e1;by_cases l1:(U7 mo.af i).bm=true<;>by_cases l0:0<(V8 st.af i).length<;>by_cases l2:(U7 mo.af i).aT=true<;>by_cases l3:((V8 st.af i).length:Int)<(U7 mo.af i).room<;>simp only [l1,l0,l2,l3,decide_true,decide_false,Bool.and_true,Bool.and_false,Bool.false_and,Bool.true_and,Bool.false_eq_true,if_true,if_false,List.append_nil,List.nil_append,List.cons_append] at e1<;>simp (disch:=(first|exact Rf.mk rfl|with_reducible assumption|omega|((repeat (first|rw [nP]|rw [nS]|rw [Z2]))<;>omega)|decide)) only [go_sem,↓reduceIte,hE,ch,ci,g0,g1,om,ox,l1,l0,l2,l3]
     all_goals try (first|refine a6W ⟨1,0,0,i⟩ rfl hr hp (by decide) (by simp;omega) ?_|refine a6W ⟨2,0,0,i⟩ rfl hr hp (by decide) (by simp;omega) ?_)<;>rintro d1 s1 E1 hr hp<;>obtain ⟨k0,k1⟩:=hg hp<;>simp (disch:=(first|exact Rf.mk rfl|with_reducible assumption|omega|((repeat (first|rw [nP]|rw [nS]|rw [Z2]))<;>omega)|decide)) only [go_sem,↓reduceIte,hE,ch,ci,k0,k1,om,ox,l1,l0,l2,l3]
     all_goals try (refine a6W ⟨2,0,0,i⟩ rfl hr hp (by decide) (by simp;omega) ?_)<;>rintro d1 s1 E1 hr hp<;>simp (disch:=(first|exact Rf.mk rfl|with_reducible assumption|omega|((repeat (first|rw [nP]|rw [nS]|rw [Z2]))<;>omega)|decide)) only [go_sem,↓reduceIte,hE]
     all_goals
      rw [e1];try simp only [List.append_assoc,List.cons_append,List.nil_append] at hr ⊢
      first|exact ⟨_,hr,hp⟩|exact ⟨ci,_,hr,hp⟩
    ·obtain rfl:i=mo.af.length:=by omega
     refine zY (Y3 hE ch ci g0 g1 om ox) ?_;rw [Mo.dP];exact ⟨E,hr,hp⟩
   ·rw [if_neg ch] at hr
    by_cases ci:i<mo.af.length
    ·refine zY (Y3 hE ch ci g0 g1 om ox) ?_
     rw [Mo.dP,if_neg ch];exact ⟨E,hr,hp⟩
    ·refine zY (Y3 hE ch ci g0 g1 om ox) ?_
     rw [Mo.dP,if_neg ch];exact ⟨E,hr,hp⟩
  ·rintro f s ⟨E,hr,hp⟩
   obtain ⟨d',h1,h2⟩:=b88 hr hp (fun e h=>h) (b46 _) (b7U _);refine zY h1 ?_;exact ⟨_,rfl,h2⟩
end
section
variable {m:X6} {mo:Mo} {ps:List (Pr×X0)} {x:cG} {st:V0}
end
section
variable {m:X6} {mo:Mo} {ps:List (Pr×X0)} {x:cG} {st:V0}
def FstM (mo:Mo) (s:k4) (n:Nat) (r:D):Prop:=∃dA dV dC EA EV EC,r=.agg [dA,dV,dC,.int .i64 (-1)]/\Rp dA 1 (a0x (List.replicate mo.procs.length 0)) EA/\Rp dV 1 (a4c mo.cX) EV/\Rp dC 1 (a5B mo.af.length) EC/\Hp s (EA++EV++EC) []/\∀w∈EA++EV++EC,n<=w.1
theorem c2d (hm:Z0 m mo ps) (ho:Z8 mo) {s:k4}:X9 U8 23 [.agg [m.dt,.int .i64 m.g,m.dc,m.dv,m.dp,m.ds,.bool m.b]] s fun r s'=>FstM mo s' s.next r/\Fr [] s s':=by
 have om:=hm.az;have jX:=hm.v;have nU:=hm.c;have mj:=ho.np;have lH:=ho.nv;have qe:=ho.nc;have jZ:mo.cX.length=mo.vars.length:=by simp [Mo.cX]
 refine X4 (vf:=vf23) rfl ?_;unfold vf23;refine zF ?_;refine zY om ?_;have me:Hp ((s.push (.cells [m.dt,.int .i64 m.g,m.dc,m.dv,m.dp,m.ds,.bool m.b])).push (.cells [.ag,.ag,.ag,.int .i64 0])) [(s.next+1,[.ag,.ag,.ag,.int .i64 0])] [(s.next,[m.dt,.int .i64 m.g,m.dc,m.dv,m.dp,m.ds,.bool m.b])]:=by
  have:=Hp.eU (s:=s.push (.cells [m.dt,.int .i64 m.g,m.dc,m.dv,m.dp,m.ds,.bool m.b])) (W:=[]) (R:=[(s.next,[m.dt,.int .i64 m.g,m.dc,m.dv,m.dp,m.ds,.bool m.b])]) ⟨List.nodup_nil,by simp,by simp [Y2],by simp [Y2,W2]⟩ [.ag,.ag,.ag,.int .i64 0];simpa using this
 have oC:=me.dK (.cells [.ag,.ag,.ag,.int .i64 0]) [.ag,.ag,.ag,.int .i64 (-1)];simp only [k4.ai] at oC;have jl:Fr [] s ((((s.push (.cells [m.dt,.int .i64 m.g,m.dc,m.dv,m.dp,m.ds,.bool m.b])).push (.cells [.ag,.ag,.ag,.int .i64 0])).push (.cells [.ag,.ag,.ag,.int .i64 0])).set (s.next+1+1) (some (.cells [.ag,.ag,.ag,.int .i64 (-1)]))):=(((Fr.push _).aj _).aj _).aD _ (.inr (by omega));generalize (((s.push (.cells [m.dt,.int .i64 m.g,m.dc,m.dv,m.dp,m.ds,.bool m.b])).push (.cells [.ag,.ag,.ag,.int .i64 0])).push (.cells [.ag,.ag,.ag,.int .i64 0])).set (s.next+1+1) (some (.cells [.ag,.ag,.ag,.int .i64 (-1)]))=s1 at *;generalize hp:s.next+1+1=p at *;generalize hq:s.next+1=q at *;refine a1H [0,1,2,3,5,6,24,42] (fun f s'=>∃dA EA,Rp dA 1 (a0x (List.replicate mo.procs.length 0)) EA/\Hp s' ((p,[dA,.ag,.ag,.int .i64 (-1)])::(q,[.ag,.ag,.ag,.int .i64 0])::EA) [(s.next,[m.dt,.int .i64 m.g,m.dc,m.dv,m.dp,m.ds,.bool m.b])]/\(∀w∈EA,s.next<=w.1)/\Fr [] s s') ?_ ?_
 ·refine X5 [0,1,2,3,5,6,24,42] 0 mo.procs.length (fun i f s'=>f 4=.int .i64 (i:Int)/\∃dA EA,Rp dA 1 (a0x (List.replicate i 0)) EA/\Hp s' ((p,[dA,.ag,.ag,.int .i64 (-1)])::(q,[.ag,.ag,.ag,.int .i64 0])::EA) [(s.next,[m.dt,.int .i64 m.g,m.dc,m.dv,m.dp,m.ds,.bool m.b])]/\(∀w∈EA,s.next<=w.1)/\Fr [] s s') (.mk rfl) (by omega) ⟨rfl,.ag,[],.inl ⟨rfl,rfl,rfl⟩,oC,by simp,jl⟩ ?_
  rintro i f s2 hi ⟨hE,dA,EA,hr,js,hw,fr⟩;have g0:=js.rh;have gp:=js.hd;have o1:=hr.one;have lp:=u7 gp;by_cases ci:i<mo.procs.length
  ·refine zY (Y6 hE ci g0 gp om o1) ?_
   refine a9z (A:=[(p,[dA,.ag,.ag,.int .i64 (-1)]),(q,[.ag,.ag,.ag,.int .i64 0])]) (B:=[]) hr (by simpa using js) rfl (a5L _) (by decide) (by simp;omega) ?_;rintro s3 hr3 hp3 l3 u3;have gp:=hp3.hd;refine zY (aN hE gp) ?_;refine ⟨ci,_,_,by rw [<- c2Q];exact hr3,Hp.set (A:=[]) hp3 _,by simp;omega,?_⟩;have f3:Fr [] s s3:=⟨by have:=fr.1;omega,fun j hj hn=>by
    have:=fr.1;rw [u3 j (by omega) fun e he hc=>by have:=hw e he;omega,fr.2 j hj hn]⟩
   exact f3.aD _ (.inr (by omega))
  ·obtain rfl:i=mo.procs.length:=by omega
   refine zY (Y6 hE ci g0 gp om o1) ?_;exact ⟨_,_,hr,js,hw,fr⟩
 ·rintro f s2 ⟨dA,EA,yx,js,hwA,ik⟩
  refine V6 ?_;refine a1H [0,1,2,3,4,6,12,42] (fun f s'=>∃dV EV,Rp dV 1 (a4c mo.cX) EV/\Hp s' ((p,[dA,dV,.ag,.int .i64 (-1)])::(q,[.ag,.ag,.ag,.int .i64 0])::(EA++EV)) [(s.next,[m.dt,.int .i64 m.g,m.dc,m.dv,m.dp,m.ds,.bool m.b])]/\(∀w∈EA++EV,s.next<=w.1)/\Fr [] s s') ?_ ?_
  ·refine X5 [0,1,2,3,4,6,12,42] 0 mo.vars.length (fun i f s'=>f 5=.int .i64 (i:Int)/\∃dV EV,Rp dV 1 (a4c (mo.cX.take i)) EV/\Hp s' ((p,[dA,dV,.ag,.int .i64 (-1)])::(q,[.ag,.ag,.ag,.int .i64 0])::(EA++EV)) [(s.next,[m.dt,.int .i64 m.g,m.dc,m.dv,m.dp,m.ds,.bool m.b])]/\(∀w∈EA++EV,s.next<=w.1)/\Fr [] s s') (.mk rfl) (by omega) ⟨rfl,.ag,[],.inl ⟨rfl,rfl,rfl⟩,by simpa using js,by simpa using hwA,ik⟩ ?_
   rintro i f s2 hi ⟨hE,dV,EV,hr,js,hw,fr⟩;have g0:=js.rh;have gp:=js.hd;have o1:=hr.one;have o2:=yx.one;have lp:=u7 gp;by_cases ci:i<mo.vars.length
   ·refine zY (Y3 hE ci g0 gp om o1 o2) ?_
    refine a9z (A:=(p,[dA,dV,.ag,.int .i64 (-1)])::(q,[.ag,.ag,.ag,.int .i64 0])::EA) (B:=[]) hr (by simpa using js) rfl (b5z _) (by decide) (by simp;omega) ?_;rintro s3 hr3 hp3 l3 u3;have gp:=hp3.hd;refine zY (V5 hE gp o2) ?_;have f3:Fr [] s s3:=⟨by have:=fr.1;omega,fun j hj hn=>by
     have:=fr.1;rw [u3 j (by omega) fun e he hc=>by have:=hw e (by simp [he]);omega,fr.2 j hj hn]⟩
    refine ⟨ci,_,_,by rw [<- c1k (by omega),b6h ci];exact hr3,by simpa using Hp.set (A:=[]) hp3 _,?_,f3.aD _ (.inr (by omega))⟩;intro w lF;rcases List.mem_append.1 lF with h | h
    ·exact hw w (by simp [h])
    ·simp only [List.mem_singleton] at h;subst h;have:=fr.1;simp only;omega
   ·obtain rfl:i=mo.vars.length:=by omega
    refine zY (Y3 hE ci g0 gp om o1 o2) ?_;rw [<- jZ,List.take_length] at hr;exact ⟨_,_,hr,js,hw,fr⟩
  ·rintro f s2 ⟨dV,EV,hrV,js,hwV,ik⟩
   refine V6 ?_;refine a1H [0,1,2,3,4,5,12,24] (fun f s'=>∃dC EC,Rp dC 1 (a5B mo.af.length) EC/\Hp s' ((p,[dA,dV,dC,.int .i64 (-1)])::(q,[.ag,.ag,.ag,.int .i64 0])::(EA++EV++EC)) [(s.next,[m.dt,.int .i64 m.g,m.dc,m.dv,m.dp,m.ds,.bool m.b])]/\(∀w∈EA++EV++EC,s.next<=w.1)/\Fr [] s s') ?_ ?_
   ·refine X5 [0,1,2,3,4,5,12,24] 0 mo.af.length (fun i f s'=>f 6=.int .i64 (i:Int)/\∃dC EC,Rp dC 1 (a5B i) EC/\Hp s' ((p,[dA,dV,dC,.int .i64 (-1)])::(q,[.ag,.ag,.ag,.int .i64 0])::(EA++EV++EC)) [(s.next,[m.dt,.int .i64 m.g,m.dc,m.dv,m.dp,m.ds,.bool m.b])]/\(∀w∈EA++EV++EC,s.next<=w.1)/\Fr [] s s') (.mk rfl) (by omega) ⟨rfl,.ag,[],.inl ⟨rfl,rfl,rfl⟩,by simpa using js,by simpa using hwV,ik⟩ ?_
    rintro i f s2 hi ⟨hE,dC,EC,hr,js,hw,fr⟩;have g0:=js.rh;have gp:=js.hd;have o1:=hr.one;have o2:=yx.one;have o3:=hrV.one;have lp:=u7 gp;by_cases ci:i<mo.af.length
    ·refine zY (U5 hE ci g0 gp om o1 o2 o3) ?_
     refine a9z (A:=(p,[dA,dV,dC,.int .i64 (-1)])::(q,[.ag,.ag,.ag,.int .i64 0])::(EA++EV)) (B:=[]) hr (by simpa using js) rfl (c0Y _) (by decide) (by simp [a5B];omega) ?_;rintro s3 hr3 hp3 l3 u3;have gp:=hp3.hd;refine zY (V3 hE gp o2 o3) ?_;have f3:Fr [] s s3:=⟨by have:=fr.1;omega,fun j hj hn=>by
      have:=fr.1;rw [u3 j (by omega) fun e he hc=>by have:=hw e (by simp [he]);omega,fr.2 j hj hn]⟩
     refine ⟨ci,_,_,by rw [<- b9J];exact hr3,by simpa using Hp.set (A:=[]) hp3 _,?_,f3.aD _ (.inr (by omega))⟩;intro w lF;rcases List.mem_append.1 lF with h | h
     ·exact hw w (List.mem_append_left _ h)
     ·simp only [List.mem_singleton] at h;subst h;have:=fr.1;simp only;omega
    ·obtain rfl:i=mo.af.length:=by omega
     refine zY (U5 hE ci g0 gp om o1 o2 o3) ?_;exact ⟨_,_,hr,js,hw,fr⟩
   ·rintro f s2 ⟨dC,EC,BV,js,hwC,ik⟩
    have gp:=js.hd;have gq:=js.tl.hd;have o1:=BV.one;have o2:=yx.one;have o3:=hrV.one;have lq:=u7 gq;have lp:=u7 gp;refine zY (W6 gp gq o1 o2 o3) ?_;refine rb_of ⟨⟨dA,dV,dC,EA,EV,EC,rfl,yx,hrV,BV,?_,hwC⟩,ik.aD _ (.inr (by omega))⟩;exact (Hp.set (A:=[]) js.tl.rt _).tl
end
section
variable {m:X6} {mo:Mo} {ps:List (Pr×X0)} {x:cG} {st:V0}
end
theorem b1Q {w:Nat} (h:w<=16):(2:Int) ^ w<=65536/\(1:Int)<=2 ^ w:=by
 have h1:2 ^ w<=2 ^ 16:=Nat.pow_le_pow_right (by omega) h;have h2:0<2 ^ w:=Nat.two_pow_pos w;have:=c1Z w;omega
theorem b1I {w:Nat} {k:IntKind} (h:w<=16):a44 .shl .i64 1 (w:Int)=some (.int .i64 (2 ^ w)):=by
 have:=b1Q h;unfold a44;rw [if_neg (by omega)];simp only [Int.toNat_natCast];rw [show min w IntKind.i64.bits=w by rw [show IntKind.i64.bits=64 from rfl];omega,Int.one_mul,Z5 (by omega) (by omega)]
theorem b0c {n:Int}:ca U8 32 [.int .i64 n] (.int .i64 (Z1 n:Int)):=by
 refine a0F ?_;refine a02 (vf:=vf32) rfl ?_;unfold vf32;refine zF ?_;refine V6 ?_;refine X5 [0,2] 0 15 (fun i f s=>f 3=.int .i64 ((i+1:Nat):Int)/\a5p n (15-i) (i+1)=Z1 n) (.mk rfl) (by omega) ⟨rfl,rfl⟩ ?_;rintro i f s hi ⟨hE,hw⟩;have hs:=b1I (w:=i+1) (k:=.u64) (by omega);have hu:IntKind.u64.wrap ((i+1:Nat):Int)=((i+1:Nat):Int):=by
  rw [IntKind.wrap_u64];omega
 have Ah:(((i+1:Nat):Int)<16)=(i<15):=by apply propext;omega
 by_cases ci:i<15
 ·have e:15-i=(15-(i+1))+1:=by omega
  rw [e,a5p] at hw;by_cases cn:(2:Int) ^ (i+1)<n
  ·rw [if_pos ⟨by omega,cn⟩] at hw
   refine zY (Y6 hE hs hu Ah ci cn) ?_;exact hw
  ·rw [if_neg (by omega)] at hw
   refine zY (Y6 hE hs hu Ah ci cn) ?_;exact hw
 ·obtain rfl:i=15:=by omega
  have hw:15+1=Z1 n:=hw;refine zY (W6 hE hs hu Ah ci) ?_;rw [<- hw];rfl
theorem b5Q {n:Int} (h1:1<=n) (h2:n<=16):ca U8 118 [.int .i64 n] (.int .i64 n):=by
 have e1:max n 1=n:=by omega
 have e2:min n 16=n:=by omega
 refine a0F ?_;refine a02 (vf:=a8M) rfl ?_;unfold a8M;refine zF ?_;exact zZ (aN e1 e2)
theorem c3B {x:Int} {w:Nat} (hx:a3F x) (h1:1<=w) (h2:w<=16):ca U8 148 [.int .i64 x,.int .i64 (w:Int)] (.int .i64 (W9 x w)):=by
 have hb:=b5Q (n:=(w:Int)) (by omega) (by omega);have s1:=b1I (w:=w) (k:=.i64) h2;have s2:=b1I (w:=w-1) (k:=.i64) (by omega);have p1:=b1Q h2;have p2:=b1Q (w:=w-1) (by omega);have ew:IntKind.i64.wrap ((w:Int)-1)=((w-1:Nat):Int):=by rw [Z5 (by omega) (by omega)];omega
 have e1:IntKind.i64.wrap ((2:Int) ^ w-1)=2 ^ w-1:=Z5 (by omega) (by omega);have hm:=c25 (n:=x) h2;have h3:=Int.emod_nonneg x (b:=2 ^ w) (by omega);have h4:=Int.emod_lt_of_pos x (a5u w);have e2:IntKind.i64.wrap (x % 2 ^ w-2 ^ w)=x % 2 ^ w-2 ^ w:=Z5 (by omega) (by omega);refine a0F ?_;refine a02 (vf:=b4c) rfl ?_;unfold b4c;refine zF ?_;by_cases hc:2 ^ (w-1)<=x % 2 ^ w
 ·rw [b18 h1,if_pos hc]
  exact zZ (U5 hb s1 s2 ew e1 hm hc e2)
 ·rw [b18 h1,if_neg hc]
  exact zZ (Y3 hb s1 s2 ew e1 hm hc)
theorem b9e {x:Int} {w:Nat} (hx:a3F x) (h1:1<=w) (h2:w<=16):ca U8 115 [.int .i64 x,.int .i64 (w:Int)] (.bool (decide (W9 x w=x))):=by
 have ht:=c3B hx h1 h2;refine a0F ?_;refine a02 (vf:=b4h) rfl ?_;unfold b4h;refine zF ?_;exact zZ ht
theorem b5g {x:Int} {i:Nat} (h:i<=16):a44 .shr .i64 x (i:Int)=some (.int .i64 (x / 2 ^ i)):=by
 have p:=a5u i;unfold a44;rw [if_neg (by omega)];simp only [Int.toNat_natCast];rw [show min i IntKind.i64.bits=i by rw [show IntKind.i64.bits=64 from rfl];omega,Int.fdiv_eq_ediv_of_nonneg _ (by omega)]
theorem b2B {s:k4} {d:D} {l:List Bool} {A B R E:Hs} {n w:Nat} (hr:Rp d 1 (a0h l) E) (hp:Hp s (A++E++B) R) (hw:w<=16) (hl:l.length<=100000) :
 X9 U8 70 [d,.int .i64 (n:Int),.int .i64 (w:Int)] s fun r s'=>(∃E',fQ s s' (E.map Prod.fst) A B R r (l++bL (n:Int) w) E')/\Fr (E.map Prod.fst) s s':=by
 refine X4 (vf:=vf70) rfl ?_;unfold vf70;refine zF ?_;refine V6 ?_;refine X5 [1,2,6,8] 0 w (fun i f s'=>f 9=.int .i64 (i:Int)/\∃E',fQ s s' (E.map Prod.fst) A B R (f 0) (l++bL (n:Int) i) E') (.mk rfl) (by omega) ⟨rfl,E,by rw [show bL (n:Int) 0=[] from rfl,List.append_nil];exact fQ.mk0 hr hp⟩ ?_;rintro i f s1 hi ⟨hE,E1,hg⟩;have on:=hg.rp.one;by_cases ci:i<w
 ·have jS:=b5g (x:=(n:Int)) (i:=i) (by omega)
  have hu:IntKind.u64.wrap (i:Int)=(i:Int):=by rw [IntKind.wrap_u64];omega
  have ha:=a6Z (x:=(n:Int) / 2 ^ i);have hb:V7 (n:Int) i=decide ((n:Int) / 2 ^ i % 2=1):=rfl;refine zY (W6 hE ci jS hu ha) ?_;refine bm_grB (b:=V7 (n:Int) i) hg (by simp;omega) ?_;intro d' s' E' hg';refine zY (aN hE ci) ?_;exact ⟨E',by rw [b4I,<- List.append_assoc];exact hg'⟩
 ·obtain rfl:i=w:=by omega
  refine zY (V5 hE ci on) ?_;exact ⟨⟨E1,hg⟩,hg.fr⟩
theorem c2S {x:Int} {w:Nat} (h1:1<=w) (h2:w<=16):a52 U8 71 [.int .i64 x,.int .i64 (w:Int)] fun d=>FL 1 d (a0h (bL x w)):=by
 have hb:=b5Q (n:=(w:Int)) (by omega) (by omega);have a2:(1*(w:Int)<=2 ^ 47/\(w:Int)<2 ^ 62)=True:=eq_true (by omega);have hz:=c1j w;refine a6x (vf:=vf71) rfl ?_;unfold vf71;refine zF ?_;refine zY (V5 hb a2 hz) ?_;refine X5 [0,1,4,5,11] 0 w (fun i f s'=>f 12=.int .i64 (i:Int)/\s'.get 0=some (.cells (a5s (upB (bL x i) w)))) (.mk rfl) (by omega) ⟨rfl,?_⟩ ?_
 ·exact W2 rfl
 rintro i f s' hi ⟨hE,hg⟩;by_cases ci:i<w
 ·have jS:=b5g (x:=x) (i:=i) (by omega)
  have ha:=a6Z (x:=x / 2 ^ i);have mZ:=c3n (l:=bL x i) (w:=w) (by simp;omega);have iu:i<(upB (bL x i) w).length:=by omega
  have hs:=b96 (l:=bL x i) (w:=w) (e:=decide (x / 2 ^ i % 2=1)) (by simp;omega);rw [a0Q] at hs;have hl:=u7 hg;refine zY (Y3 hE ci jS ha hg mZ iu) ?_;rw [hs,b4I];rfl
 ·obtain rfl:i=w:=by omega
  rw [c0V (a0Q x i)] at hg;refine zY (aN hE ci) ?_;have:SN s' 1 (.arr 0 0 i 1) (a0h (bL x i)):=.inr (.inl ⟨0,by simp,by rw [V.cL];exact hg⟩);exact this.cW (n:=18) (a49 _) (b4j _)
section
variable {m:X6} {mo:Mo} {ps:List (Pr×X0)} {x:cG} {st:V0}
theorem c5g {s:k4} {id:Nat} {c:Ch} {n:Int} (hg:s.get id=some (.cells [.str c.name,.int .i64 c.room,.int .i64 c.width,.bool c.bm,.bool c.aT])) (hn:a3F n) (h1:1<=c.width) (h2:c.width<=8) :
 X9 U8 116 [.int .i64 n,.ptr id 0] s fun r s'=>r=.bool (!decide (W9 n c.width.toNat=n))/\s'=s:=by
 have hb:=b9e (x:=n) (w:=c.width.toNat) hn (by omega) (by omega);rw [Int.toNat_of_nonneg (by omega)] at hb;refine X4 (vf:=b2E) rfl ?_;unfold b2E;refine zF ?_;refine zY (aN hg hb) ?_;exact ⟨rfl,rfl⟩
theorem c3c {s:k4} {id:Nat} {c:Ch} {d:D} {l:List Int} (hd:FI d l) (kO:l.length<=1000) (hg:s.get id=some (.cells [.str c.name,.int .i64 c.room,.int .i64 c.width,.bool c.bm,.bool c.aT])) (hn:∀n∈l,a3F n/\W9 n c.width.toNat=n) (h1:1<=c.width) (h2:c.width<=8) :
 X9 U8 149 [d,.fn 116 [.ptr id 0]] s fun r s'=>r=.int .i64 (-1)/\s'=s:=by
 refine X4 (vf:=b4u) rfl ?_;unfold b4u;refine zF ?_;refine zY hd ?_;refine X5 [0,1,7] 0 l.length (fun i f s'=>f 8=.int .i64 (i:Int)/\s'=s) (.mk rfl) (by omega) ⟨rfl,rfl⟩ ?_;rintro i f s' hi ⟨hE,rfl⟩;by_cases ci:i<l.length
 ·have hw:=hn _ (b3e ci)
  have hc:=c5g hg hw.1 h1 h2;rw [hw.2] at hc;refine zY (V5 hE hd ci) ?_;refine a9Z rfl hc rfl ?_;rintro r s2 ⟨rfl,rfl⟩;refine zY (aN hE ci) ?_;trivial
 ·refine zY (aN hE ci) ?_
  exact ⟨rfl,rfl⟩
theorem b9K {s:k4} {id:Nat} {c:Ch} {d:D} {l:List Int} (hd:FI d l) (kO:l.length<=1000) (hg:s.get id=some (.cells [.str c.name,.int .i64 c.room,.int .i64 c.width,.bool c.bm,.bool c.aT])) (hn:∀n∈l,a3F n/\W9 n c.width.toNat=n) (h1:1<=c.width) (h2:c.width<=8) :
 X9 U8 117 [d,.fn 116 [.ptr id 0]] s fun r s'=>r=.bool false/\s'=s:=by
 have hi:=c3c hd kO hg hn h1 h2;refine X4 (vf:=b2u) rfl ?_;unfold b2u;refine zF ?_;refine V6 ?_;refine a0D hi rfl ?_;rintro r s2 ⟨rfl,rfl⟩;refine V6 ?_;exact ⟨rfl,rfl⟩
structure a9R (mo:Mo) (x:cG) (st:V0):Prop where
 f:eV x st
 e:eM st
 fit:Fit mo { st with hold:=-1 }
 hd:a3F st.hold
theorem c2h (hm:Z0 m mo ps) (ho:Z8 mo) (hf:a0J mo) (hx:a9R mo x st):ca U8 69 [.agg [m.dt,.int .i64 m.g,m.dc,m.dv,m.dp,m.ds,.bool m.b],.agg [x.da,x.dv,x.dc,.int .i64 st.hold]] (.bool (decide (-1<=st.hold/\st.hold<(mo.procs.length:Int)))):=by
 have om:=hm.az;have ox:=hx.f.az;have zQ:=hx.f.a;have hxv:=hx.f.v;have xI:=hx.f;have jX:=hm.v;have nU:=hm.c;have ea:st.aI.length=mo.procs.length:=hx.fit.aI;have ev:st.vars.length=mo.vars.length:=hx.fit.vars;have ec:st.af.length=mo.af.length:=hx.fit.af;have mj:=ho.np;have lH:=ho.nv;have qe:=ho.nc;refine a0F ?_;refine a02 (vf:=vf69) rfl ?_;unfold vf69;refine zF ?_;refine zY (W6 om ox ea ev ec) ?_;have g0:((k4.empty.push (.cells [m.dt,.int .i64 m.g,m.dc,m.dv,m.dp,m.ds,.bool m.b])).push (.cells [x.da,x.dv,x.dc,.int .i64 st.hold])).get 0=some (.cells [m.dt,.int .i64 m.g,m.dc,m.dv,m.dp,m.ds,.bool m.b]):=by simp (disch:=(first|exact Rf.mk rfl|with_reducible assumption|omega|((repeat (first|rw [nP]|rw [nS]|rw [Z2]))<;>omega)|decide)) only [go_sem,↓reduceIte]
 have g1:((k4.empty.push (.cells [m.dt,.int .i64 m.g,m.dc,m.dv,m.dp,m.ds,.bool m.b])).push (.cells [x.da,x.dv,x.dc,.int .i64 st.hold])).get 1=some (.cells [x.da,x.dv,x.dc,.int .i64 st.hold]):=by simp (disch:=(first|exact Rf.mk rfl|with_reducible assumption|omega|((repeat (first|rw [nP]|rw [nS]|rw [Z2]))<;>omega)|decide)) only [go_sem,↓reduceIte]
 generalize (k4.empty.push (.cells [m.dt,.int .i64 m.g,m.dc,m.dv,m.dp,m.ds,.bool m.b])).push (.cells [x.da,x.dv,x.dc,.int .i64 st.hold])=s0 at *;refine X5 [0,1,2,3,7,8,9,10,11,12,37,39,40,60,61,62,63,75,78,79,80,81,100] 0 mo.procs.length (fun i f s=>f 41=.int .i64 (i:Int)/\s=s0) (.mk rfl) (by omega) ⟨rfl,rfl⟩ ?_;rintro i f s hi ⟨hE,rfl⟩;by_cases ci:i<mo.procs.length
 ·have jb:i<st.aI.length:=by omega
  have jE:=hx.fit.pl i jb ci;have e1:¬ ((bq st.aI i:Nat):Int)<0:=by omega
  have e2:bq st.aI i<(U4 mo.procs i).ah:=by rw [a4U jb,a16 ci];exact jE
  have e3:¬ (U4 mo.procs i).ah<=bq st.aI i:=by omega
  exact zZ (U5 hE ci jb g0 g1 om ox (V5 e1 e2 e3))
 obtain rfl:i=mo.procs.length:=by omega
 refine zY (Y3 hE ci g0 g1 om ox ev) ?_;refine X5 [0,1,2,3,5,6,9,10,11,12,37,39,40,41,42,57,60,61,78,79,80,81,100] 0 mo.vars.length (fun i f s'=>f 62=.int .i64 (i:Int)/\s'=s) (.mk rfl) (by omega) ⟨rfl,rfl⟩ ?_;clear hi ci hE;rintro i f s hi ⟨hE,rfl⟩;by_cases ci:i<mo.vars.length
 ·have jb:i<st.vars.length:=by omega
  have hvr:W9 st.vars[i] mo.vars[i].width.toNat=st.vars[i]:=hx.fit.vr i jb ci;have h8:=hx.e.v _ (b3e jb);unfold I8 at h8;have hw:=hf.vr _ (a5V ci);have hb:=b9e (x:=Y8 st.vars i) (w:=(cd mo.vars i).width.toNat) ⟨by omega,by omega⟩ (by omega) (by omega);rw [Int.toNat_of_nonneg (by omega),show W9 (Y8 st.vars i) (cd mo.vars i).width.toNat=Y8 st.vars i by rw [a3D jb,a3q ci];exact hvr,decide_eq_true rfl] at hb;exact zZ (U5 hE ci jb g0 g1 om ox hb)
 obtain rfl:i=mo.vars.length:=by omega
 refine zY (Y3 hE ci g0 g1 om ox ec) ?_;refine X5 [0,1,2,3,5,6,7,8,37,39,40,41,42,57,60,61,62,63,75,78,79] 0 mo.af.length (fun i f s'=>f 80=.int .i64 (i:Int)/\s'.get 0=some (.cells [m.dt,.int .i64 m.g,m.dc,m.dv,m.dp,m.ds,.bool m.b])/\s'.get 1=some (.cells [x.da,x.dv,x.dc,.int .i64 st.hold])) (.mk rfl) (by omega) ⟨rfl,g0,g1⟩ ?_;clear hi ci hE g0 g1;rintro i f s hi ⟨hE,g0,g1⟩;have l0:=u7 g0;have l1:=u7 g1;by_cases ci:i<mo.af.length
 ·have jb:i<st.af.length:=by omega
  have ku:=hx.fit.cl i jb ci;have Am:=hx.fit.cv i jb ci;have h8:=hx.e.c _ (b83 jb);have hw:=hf.ch _ (a41 ci);have e1:¬ (U7 mo.af i).room<((V8 st.af i).length:Int):=by
   have:((V8 st.af i).length:Int)<=(U7 mo.af i).room:=by rw [a3K jb,a2q ci];exact ku
   omega
  have hn:∀n∈V8 st.af i,a3F n/\W9 n (U7 mo.af i).width.toNat=n:=fun n hn=>by
   have:=h8.2 n hn;unfold I8 at this;refine ⟨⟨by omega,by omega⟩,?_⟩;rw [a3K jb] at hn;rw [a2q ci];exact Am n hn
  have vW:=fun s2 id hg=>b9K (s:=s2) (id:=id) (c:=U7 mo.af i) (b0q xI jb) (by omega) hg hn hw.2.2.1 hw.2.2.2
  refine zY (U5 hE ci jb g0 g1 om ox e1) ?_;refine a0D (vW _ s.next (a0d (by simp))) rfl ?_;rintro r s2 ⟨rfl,rfl⟩;refine zY (V3 hE ci g0 g1) ?_;trivial
 obtain rfl:i=mo.af.length:=by omega
 have hh:=hx.hd;by_cases c1:-1<=st.hold
 ·refine zY (Y3 hE ci g0 g1 om ox c1) ?_
  simp
 ·refine zY (Y3 hE ci g0 g1 om ox c1) ?_
  simp
end
section
variable {m:X6} {mo:Mo} {ps:List (Pr×X0)} {x:cG} {st:V0}
theorem b5U {x w:Int} (h0:1<=w) (hw:w<=16):∃d,ca U8 71 [.int .i64 x,.int .i64 w] d/\FL 1 d (a0h (bL x w.toNat)):=by
 obtain ⟨d,h1,h2⟩:=c2S (x:=x) (w:=w.toNat) (by omega) (by omega);rw [Int.toNat_of_nonneg (by omega)] at h1;exact ⟨d,a0F h1,h2⟩
theorem c5q (hm:Z0 m mo ps) (ho:Z8 mo) (hf:a0J mo) (hx:a9R mo x st) (hh:-1<=st.hold/\st.hold<(mo.procs.length:Int)) {s0:k4}:X9 U8 35 [.agg [m.dt,.int .i64 m.g,m.dc,m.dv,m.dp,m.ds,.bool m.b],.agg [x.da,x.dv,x.dc,.int .i64 st.hold]] s0 fun r s=>∃d E R,r=.aR [d,.bool true]/\dQ s0 s R d (mo.pack st) E:=by
 have om:=hm.az;have ox:=hx.f.az;have zQ:=hx.f.a;have hxv:=hx.f.v;have xI:=hx.f;have jX:=hm.v;have nU:=hm.c;have ea:st.aI.length=mo.procs.length:=hx.fit.aI;have ev:st.vars.length=mo.vars.length:=hx.fit.vars;have ec:st.af.length=mo.af.length:=hx.fit.af;have mj:=ho.np;have lH:=ho.nv;have qe:=ho.nc;have Bh:=c2h hm ho hf hx;rw [decide_eq_true hh] at Bh;have fm:=a3N hm;have fx:=a6l hx.f;refine X4 (vf:=vf35) rfl ?_;unfold vf35;refine zF ?_;refine zY (W6 om ox Bh fm fx) ?_;have me:Y2 ((s0.push (.cells [m.dt,.int .i64 m.g,m.dc,m.dv,m.dp,m.ds,.bool m.b])).push (.cells [x.da,x.dv,x.dc,.int .i64 st.hold])) [(s0.next,[m.dt,.int .i64 m.g,m.dc,m.dv,m.dp,m.ds,.bool m.b]),(s0.next+1,[x.da,x.dv,x.dc,.int .i64 st.hold])]:=by
  intro y hy;simp only [List.mem_cons,List.not_mem_nil,or_false] at hy;rcases hy with rfl | rfl
  ·exact zZ0
  ·exact zZ0
 have hgr0:=dQ.nil (s0:=s0) me ((Fr.push (ids:=[]) _).trans (Fr.push (ids:=[]) _) (by simp));generalize (s0.push (.cells [m.dt,.int .i64 m.g,m.dc,m.dv,m.dp,m.ds,.bool m.b])).push (.cells [x.da,x.dv,x.dc,.int .i64 st.hold])=s1 at *;refine X5 [0,1,2,3,4,5,9,10,11,12,13,14,18,20,21,39,40,41,42,58,59,60,61,74,75,76,85] 0 mo.procs.length (fun i f s=>f 22=.int .i64 (i:Int)/\∃E,dQ s0 s [(s0.next,[m.dt,.int .i64 m.g,m.dc,m.dv,m.dp,m.ds,.bool m.b]),(s0.next+1,[x.da,x.dv,x.dc,.int .i64 st.hold])] (f 6) (mo.pkA st i) E) (.mk rfl) (by omega) ⟨rfl,[],hgr0⟩ ?_;rintro i f s hi ⟨hE,E,hg⟩;have g0:=hg.hp.r (s0.next,[m.dt,.int .i64 m.g,m.dc,m.dv,m.dp,m.ds,.bool m.b]) (by simp);have g1:=hg.hp.r (s0.next+1,[x.da,x.dv,x.dc,.int .i64 st.hold]) (by simp);have on:=hg.rp.one;by_cases ci:i<mo.procs.length
 ·have jb:i<st.aI.length:=by omega
  have mX:=a4R ((U4 mo.procs i).ah:Int);have pn:=b0c (n:=((U4 mo.procs i).ah:Int));have l0:=u7 g0;have l1:=u7 g1;refine zY (U5 hE ci jb g0 g1 om ox pn) ?_;have ot:=hg.mv (a1x (z:=.cells [.str (bs []),.int .i64 0,.ag,.int .i64 0,.ag,.ag,.ag,.ag]) (o:=.cells [.str (U4 mo.procs i).name,.int .i64 ((U4 mo.procs i).copy:Int),(dN ps i).dl,.int .i64 ((U4 mo.procs i).ah:Int),(dN ps i).dr,(dN ps i).de,(dN ps i).dn,(dN ps i).dv]));have hu:=b2B (A:=[]) (B:=[]) (n:=bq st.aI i) (w:=Z1 ((U4 mo.procs i).ah:Int)) ot.rp ot.hp mX.2 (by have:=(a9B ho hf st i).1;omega);refine c29 (E.map Prod.fst) rfl hu rfl ?_ ?_
  ·intro e he hpr id gX
   simp only [List.mem_cons,List.not_mem_nil,or_false] at he;rw [k4.aq,k4.ai];rcases he with rfl | rfl<;>simp only [Option.some.injEq] at gX<;>subst gX
   ·exact ⟨by omega,fun h=>by have:=hg.lt h;omega⟩
   ·exact ⟨by omega,hg.apart (r:=(s0.next+1,[x.da,x.dv,x.dc,.int .i64 st.hold])) (by simp)⟩
  rintro d s3 ⟨E3,nk⟩ hO;have nk:=nk.base ot;refine zY (aN hE ci) ?_;exact ⟨E3,by rw [c3W ci jb];exact nk⟩
 obtain rfl:i=mo.procs.length:=by omega
 refine zY (Y6 hE ci g0 g1 om ox) ?_;have e0:mo.pkV st 0=mo.pkA st mo.procs.length:=by unfold Mo.pkV;simp [a0L]
 refine X5 [0,1,2,3,4,5,7,8,11,12,13,14,18,20,21,22,23,39,40,58,59,60,61,74,75,76,85] 0 mo.vars.length (fun i f s=>f 41=.int .i64 (i:Int)/\∃E,dQ s0 s [(s0.next,[m.dt,.int .i64 m.g,m.dc,m.dv,m.dp,m.ds,.bool m.b]),(s0.next+1,[x.da,x.dv,x.dc,.int .i64 st.hold])] (f 6) (mo.pkV st i) E) (.mk rfl) (by omega) ⟨rfl,E,by rw [e0];exact hg⟩ ?_;clear hg g0 g1 on ci hE hi e0;rintro i f s hi ⟨hE,E,hg⟩;have g0:=hg.hp.r (s0.next,[m.dt,.int .i64 m.g,m.dc,m.dv,m.dp,m.ds,.bool m.b]) (by simp);have g1:=hg.hp.r (s0.next+1,[x.da,x.dv,x.dc,.int .i64 st.hold]) (by simp);have on:=hg.rp.one;by_cases ci:i<mo.vars.length
 ·have jb:i<st.vars.length:=by omega
  have hw:=hf.vr _ (a5V ci);have l0:=u7 g0;have l1:=u7 g1;obtain ⟨db,lU,ja⟩:=b5U (x:=Y8 st.vars i) (w:=(cd mo.vars i).width) hw.1 (by omega);have pb:=ja.pz;refine zY (U5 hE ci jb g0 g1 om ox (aN lU pb)) ?_;refine b2J (hg.mv a1x) ja (by have:=(a9B ho hf st i).2.1;omega) (by simp;omega) (b3S (by omega)) ?_;intro d' s' E' hg';refine zY (aN hE ci) ?_;exact ⟨E',by rw [c3O ci jb];exact hg'⟩
 obtain rfl:i=mo.vars.length:=by omega
 refine zY (Y6 hE ci g0 g1 om ox) ?_;have e0:mo.gM st 0=mo.pkV st mo.vars.length:=by unfold Mo.gM;simp [a0L]
 refine X5 [0,1,2,3,4,5,7,8,9,10,18,20,21,22,23,39,40,41,42,58,59] 0 mo.af.length (fun i f s=>f 60=.int .i64 (i:Int)/\∃E,dQ s0 s [(s0.next,[m.dt,.int .i64 m.g,m.dc,m.dv,m.dp,m.ds,.bool m.b]),(s0.next+1,[x.da,x.dv,x.dc,.int .i64 st.hold])] (f 6) (mo.gM st i) E) (.mk rfl) (by omega) ⟨rfl,E,by rw [e0];exact hg⟩ ?_;clear hg g0 g1 on ci hE hi e0;rintro i f s hi ⟨hE,E,hg⟩;have g0:=hg.hp.r (s0.next,[m.dt,.int .i64 m.g,m.dc,m.dv,m.dp,m.ds,.bool m.b]) (by simp);have g1:=hg.hp.r (s0.next+1,[x.da,x.dv,x.dc,.int .i64 st.hold]) (by simp);have on:=hg.rp.one;by_cases ci:i<mo.af.length
 rotate_left
 ·obtain rfl:i=mo.af.length:=by omega
  have e1:IntKind.i64.wrap (st.hold+1)=(((st.hold+1).toNat:Nat):Int):=by rw [Z5 (by omega) (by omega)];omega
  have hu:=b2B (A:=[]) (B:=[]) (n:=(st.hold+1).toNat) (w:=3) hg.rp hg.hp (by decide) (by have:=(a9B ho hf st mo.af.length).2.2;omega);rw [Int.toNat_of_nonneg (by omega:0<=st.hold+1)] at hu;have e1:IntKind.i64.wrap (st.hold+1)=st.hold+1:=Z5 (by omega) (by omega);refine zY (Y3 hE ci g0 g1 om ox e1) ?_;refine a0D hu rfl ?_;rintro d s3 ⟨⟨E3,nk⟩,hO⟩;have nk:=nk.base hg;refine V6 ?_;rw [pk_all ea ev ec] at nk;exact ⟨d,E3,_,rfl,nk⟩
 have jb:i<st.af.length:=by omega
 have h8:=hx.e.c _ (b83 jb);have hw:=hf.ch _ (a41 ci);have l0:=u7 g0;have l1:=u7 g1;refine zY (Y3 hE ci jb g0 g1 om ox) ?_;have ot:=hg.box (z:=.cells [.str (bs []),.int .i64 0,.int .i64 0,.bool false,.bool false]) (cs:=[.str (U7 mo.af i).name,.int .i64 (U7 mo.af i).room,.int .i64 (U7 mo.af i).width,.bool (U7 mo.af i).bm,.bool (U7 mo.af i).aT]);have hu:=b2B (A:=[]) (B:=[]) (n:=(V8 st.af i).length) (w:=2) ot.rp ot.hp (by decide) (by have:=(a9B ho hf st i).2.2;omega);refine a0D hu rfl ?_;rintro d s3 ⟨⟨E3,nk⟩,hO⟩;have nk:=nk.base ot;clear hu ot hg on;generalize s.next=b at *;have k0:=nk.hp.r (s0.next,[m.dt,.int .i64 m.g,m.dc,m.dv,m.dp,m.ds,.bool m.b]) (by simp);have k1:=nk.hp.r (s0.next+1,[x.da,x.dv,x.dc,.int .i64 st.hold]) (by simp);have kb:=nk.hp.r (b,[.str (U7 mo.af i).name,.int .i64 (U7 mo.af i).room,.int .i64 (U7 mo.af i).width,.bool (U7 mo.af i).bm,.bool (U7 mo.af i).aT]) (by simp);refine zY (V3 k0 k1 kb ox) ?_;have BY:∀k,k<=(U7 mo.af i).room.toNat->(mo.gM st i++bL ((V8 st.af i).length:Int) 2++a1V (U7 mo.af i).width.toNat (V8 st.af i) k).length<=2000:=fun k hk=>by
  have h1:=(a9B ho hf st i).2.2;have h2:k*(U7 mo.af i).width.toNat<=3*8:=Nat.mul_le_mul (by omega) (by omega);simp only [List.length_append,a0Q,b0t];omega
 have er:(U7 mo.af i).room=(((U7 mo.af i).room.toNat:Nat):Int):=by omega
 refine X5 [0,1,2,3,4,5,7,8,9,10,11,12,18,20,21,22,23,39,40,41,42,58,59,60,61,74] 0 (U7 mo.af i).room.toNat (fun k f s=>f 75=.int .i64 (k:Int)/\∃E,dQ s0 s ((b,[.str (U7 mo.af i).name,.int .i64 (U7 mo.af i).room,.int .i64 (U7 mo.af i).width,.bool (U7 mo.af i).bm,.bool (U7 mo.af i).aT])::[(s0.next,[m.dt,.int .i64 m.g,m.dc,m.dv,m.dp,m.ds,.bool m.b]),(s0.next+1,[x.da,x.dv,x.dc,.int .i64 st.hold])]) (f 6) (mo.gM st i++bL ((V8 st.af i).length:Int) 2++a1V (U7 mo.af i).width.toNat (V8 st.af i) k) E) (.mk rfl) (by omega) ⟨rfl,E3,by rw [show a1V (U7 mo.af i).width.toNat (V8 st.af i) 0=[] from rfl,List.append_nil];exact nk⟩ ?_;clear nk k0 k1 kb g0 g1;rintro k f s hk ⟨hE,E,hg⟩;have g0:=hg.hp.r (s0.next,[m.dt,.int .i64 m.g,m.dc,m.dv,m.dp,m.ds,.bool m.b]) (by simp);have g1:=hg.hp.r (s0.next+1,[x.da,x.dv,x.dc,.int .i64 st.hold]) (by simp);have gb:=hg.hp.r (b,[.str (U7 mo.af i).name,.int .i64 (U7 mo.af i).room,.int .i64 (U7 mo.af i).width,.bool (U7 mo.af i).bm,.bool (U7 mo.af i).aT]) (by simp);have on:=hg.rp.one;have BY:=BY k hk;have er:((k:Int)<(U7 mo.af i).room)=(k<(U7 mo.af i).room.toNat):=by apply propext;omega
 by_cases ck:k<(U7 mo.af i).room.toNat
 rotate_left
 ·obtain rfl:k=(U7 mo.af i).room.toNat:=by omega
  refine zY (U5 hE ci jb g0 g1 gb om (V5 ox er ck)) ?_;exact ⟨E,by rw [c0g ci jb];exact hg.sub (by simp)⟩
 obtain ⟨db,lU,ja⟩:=b5U (x:=Y8 (V8 st.af i) k) (w:=(U7 mo.af i).width) (by omega) (by omega);have pb:=ja.pz;by_cases cl:k<(V8 st.af i).length
 ·refine zY (U5 hE ci jb g0 g1 gb om (Y6 ox er ck cl lU pb)) ?_
  refine b2J hg ja (by omega) (by simp;omega) (b3S (by omega)) ?_;intro d' s' E' hg';refine zY (aN hE ck) ?_;exact ⟨E',by rw [b8O,<- List.append_assoc];exact hg'⟩
 ·rw [b4r cl] at lU
  refine zY (U5 hE ci jb g0 g1 gb om (Y6 ox er ck cl lU pb)) ?_;refine b2J hg ja (by omega) (by simp;omega) (b3S (by omega)) ?_;intro d' s' E' hg';refine zY (aN hE ck) ?_;exact ⟨E',by rw [b8O,<- List.append_assoc];exact hg'⟩
end
section
variable {m:X6} {mo:Mo} {ps:List (Pr×X0)} {x:cG} {st:V0}
theorem c0m (hm:Z0 m mo ps) (ho:Z8 mo) (hf:a0J mo):ca U8 74 [.agg [m.dt,.int .i64 m.g,m.dc,m.dv,m.dp,m.ds,.bool m.b]] (.int .i64 (mo.bu:Int)):=by
 have om:=hm.az;have jX:=hm.v;have nU:=hm.c;have mj:=ho.np;have lH:=ho.nv;have qe:=ho.nc;refine a0F ?_;refine a02 (vf:=vf74) rfl ?_;unfold vf74;refine zF ?_;refine zY om ?_;have g0:(k4.empty.push (.cells [m.dt,.int .i64 m.g,m.dc,m.dv,m.dp,m.ds,.bool m.b])).get 0=some (.cells [m.dt,.int .i64 m.g,m.dc,m.dv,m.dp,m.ds,.bool m.b]):=by simp (disch:=(first|exact Rf.mk rfl|with_reducible assumption|omega|((repeat (first|rw [nP]|rw [nS]|rw [Z2]))<;>omega)|decide)) only [go_sem,↓reduceIte]
 generalize k4.empty.push (.cells [m.dt,.int .i64 m.g,m.dc,m.dv,m.dp,m.ds,.bool m.b])=s0 at *;refine X5 [0,1,2,7,9,11,12,24,25,26,27,36,37,38,39] 0 mo.procs.length (fun i f s=>f 13=.int .i64 (i:Int)/\f 3=.int .i64 ((3+cy (fun p:Pr=>Z1 (p.ah:Int)) (mo.procs.take i):Nat):Int)/\s.get 0=some (.cells [m.dt,.int .i64 m.g,m.dc,m.dv,m.dp,m.ds,.bool m.b])) (.mk rfl) (by omega) ⟨rfl,rfl,g0⟩ ?_;clear g0;rintro i f s hi ⟨hE,nI,g0⟩;have l0:=u7 g0;have hb:=b85 ho i;by_cases ci:i<mo.procs.length
 ·have pn:=b0c (n:=((U4 mo.procs i).ah:Int))
  have mX:=a4R ((U4 mo.procs i).ah:Int);have hs:=c1S ci;refine zY (Y6 hE nI ci g0 om pn) ?_;rw [hs];omega
 obtain rfl:i=mo.procs.length:=by omega
 rw [List.take_length] at nI hb;refine zY (W6 hE nI ci g0 om) ?_;refine X5 [0,1,2,5,9,11,12,13,14,24,25,36,37,38,39] 0 mo.vars.length (fun i f s=>f 26=.int .i64 (i:Int)/\f 3=.int .i64 ((3+cy (fun p:Pr=>Z1 (p.ah:Int)) mo.procs+cy (fun v:Vr=>v.width.toNat) (mo.vars.take i):Nat):Int)/\s.get 0=some (.cells [m.dt,.int .i64 m.g,m.dc,m.dv,m.dp,m.ds,.bool m.b])) (.mk rfl) (by omega) ⟨rfl,rfl,g0⟩ ?_;clear g0 ci hE nI hi;rintro i f s hi ⟨hE,nI,g0⟩;have l0:=u7 g0;have hbv:=b7Z ho hf i;by_cases ci:i<mo.vars.length
 ·have hs:=c1U ci
  have hw:=hf.vr _ (a5V ci);have e1:IntKind.i64.wrap (((3+cy (fun p:Pr=>Z1 (p.ah:Int)) mo.procs+cy (fun v:Vr=>v.width.toNat) (mo.vars.take i):Nat):Int)+(cd mo.vars i).width)=((3+cy (fun p:Pr=>Z1 (p.ah:Int)) mo.procs+cy (fun v:Vr=>v.width.toNat) (mo.vars.take (i+1)):Nat):Int):=by
   rw [hs,Z5 (by omega) (by omega)];omega
  exact zZ (Y6 hE nI ci g0 om e1)
 obtain rfl:i=mo.vars.length:=by omega
 rw [List.take_length] at nI hbv;refine zY (W6 hE nI ci g0 om) ?_;refine X5 [0,1,2,5,7,11,12,13,14,24,25,26,27,36,37] 0 mo.af.length (fun i f s=>f 38=.int .i64 (i:Int)/\f 3=.int .i64 ((3+cy (fun p:Pr=>Z1 (p.ah:Int)) mo.procs+cy (fun v:Vr=>v.width.toNat) mo.vars+cy (fun c:Ch=>2+c.room.toNat*c.width.toNat) (mo.af.take i):Nat):Int)/\s.get 0=some (.cells [m.dt,.int .i64 m.g,m.dc,m.dv,m.dp,m.ds,.bool m.b])) (.mk rfl) (by omega) ⟨rfl,rfl,g0⟩ ?_;clear g0 ci hE nI hi;rintro i f s hi ⟨hE,nI,g0⟩;have l0:=u7 g0;have yK:=b9a ho hf i;by_cases ci:i<mo.af.length
 ·have hs:=c4k ci
  have hw:=hf.ch _ (a41 ci);have hmul:(U7 mo.af i).room*(U7 mo.af i).width=(((U7 mo.af i).room.toNat*(U7 mo.af i).width.toNat:Nat):Int):=by
   rw [Int.natCast_mul,Int.toNat_of_nonneg (by omega),Int.toNat_of_nonneg (by omega)]
  have qS:(U7 mo.af i).room.toNat*(U7 mo.af i).width.toNat<=3*8:=Nat.mul_le_mul (by omega) (by omega);generalize (U7 mo.af i).room.toNat*(U7 mo.af i).width.toNat=P at *;have e0:IntKind.i64.wrap ((U7 mo.af i).room*(U7 mo.af i).width)=(P:Int):=by rw [hmul,Z5 (by omega) (by omega)]
  have e2:IntKind.i64.wrap (2+(P:Int))=((2+P:Nat):Int):=by rw [Z5 (by omega) (by omega)];omega
  refine zY (Y3 hE nI ci g0 om e0 e2) ?_;rw [hs];omega
 ·obtain rfl:i=mo.af.length:=by omega
  rw [List.take_length] at nI;refine zY (W6 hE nI ci g0 om) ?_;unfold Mo.bu;omega
end
section
variable {s:k4} {g v:Nat} {m:X6} {mo:Mo} {ps:List (Pr×X0)} {st:V0}
theorem all_l (hg:GB s g) {d:D} {l:List Bool} (hd:VB s d l) (hl:l.length<=100000):CB U8 56 [.ptr g 0,d] s (l.all id):=by
 have h:=a8z hg (A:=aB l) (w:=l.length) (hd.cY (a3l l).symm) hl;have e:a3u (aB l) l.length=l.all id:=by
  rw [Bool.eq_iff_iff,a8G,List.all_eq_true];constructor
  ·intro h b hb
   obtain ⟨i,h3,rfl⟩:=List.getElem_of_mem hb;simpa [aB,List.getD,h3] using h i h3
  ·intro h i hi
   simpa [aB,List.getD,hi] using h _ (List.getElem_mem hi)
 rwa [e] at h
theorem a9R.of' (ho:Z8 mo) {x:cG} (hx:a4W mo x st):a9R mo x st:=by
 have h:=hx.fit;have hn:=ho.np;have hh:=h.hold;exact ⟨hx.f,hx.e,⟨h.aI,h.vars,h.af,h.pl,h.vr,h.cl,h.cv,by simp only;omega⟩,by unfold a3F;omega⟩
theorem b9M (hm:Z0 m mo ps) (ho:Z8 mo) (hf:a0J mo) {x:cG} (hx:a4W mo x st):∃d,ca U8 35 [.agg [m.dt,.int .i64 m.g,m.dc,m.dv,m.dp,m.ds,.bool m.b],.agg [x.da,x.dv,x.dc,.int .i64 st.hold]] (.aR [d,.bool true])/\FL 1 d (a0h (mo.pack st)):=by
 obtain ⟨r,s,h1,d,E,R,rfl,hg⟩:=c5q (s0:=k4.empty) hm ho hf (a9R.of' ho hx) hx.fit.hold;obtain ⟨d',h2,h3⟩:=(hg.rp.sn fun e he=>hg.hp.w e (by simp [he])).cW (n:=17) (a49 _) (b4j _);refine ⟨d',a0F ⟨_,_,h1,?_⟩,h3⟩;have e5:V.aL s.get 19 (.bool true)=some (.bool true):=rfl;show (X2 (V.aL s.get 19) [d,.bool true]).map D.aR=_
 simp only [X2,h2,e5,Option.map_some]
theorem c1X (hm:Z0 m mo ps) (ho:Z8 mo) (hf:a0J mo) {x:cG} (hx:a4W mo x st):a52 U8 14 [.agg [m.dt,.int .i64 m.g,m.dc,m.dv,m.dp,m.ds,.bool m.b],.agg [x.da,x.dv,x.dc,.int .i64 st.hold]] fun d=>VZ d (mo.pack st):=by
 have om:=hm.az;have ox:=hx.f.az;have fm:=a3N hm;have fx:=a6l hx.f;obtain ⟨d,hd,hl⟩:=b9M hm ho hf hx;have od:=hl.one;have lN:=a72 ho hf;rw [<- a7F hx.fit] at lN;have iI:a0C false d=some (.int .i64 ((mo.pack st).length:Int)):=by rw [hl.len];simp [a0h]
 generalize mo.pack st=bs at *;have m1:=eh (w:=bs.length) (by omega);have m2:=dy (w:=bs.length) (by omega);have hz:=a1D bs.length;rw [a2G (aB bs)] at hz;refine a6x (vf:=vf14) rfl ?_;unfold vf14;refine zF ?_;refine zY (U5 om ox fm fx hd od iI (V5 m1 m2 hz)) ?_;refine X5 [0,1,2,3,4,5,6,7,17,21,22] 0 bs.length (fun i f s'=>f 23=.int .i64 (i:Int)/\s'.get 2=some (.cells (U1 (U0 (W8 (aB bs) i) bs.length)))) (.mk rfl) (by omega) ⟨rfl,W2 rfl⟩ ?_;rintro i f s2 hi ⟨h,gb⟩;by_cases ci:i<bs.length
 ·have hs:=a5v (A:=aB bs) ci
  have hw:=a2p (A:=aB bs) ci;have lb:=u7 gb;have yD:=ix_bB (k:=.i64) hl ci;cases Ac:aB bs i
  ·rw [Ac] at yD
   refine zY (V5 h ci yD) ?_;have e:W8 (aB bs) (i+1)=W8 (aB bs) i:=by
    funext j
    unfold W8;by_cases c:j=i
    ·subst c;simp [Ac]
    ·congr 1;simp only [decide_eq_decide];omega
   rw [e];exact gb
  ·rw [Ac] at yD hs
   rw [a2u] at hs;exact zZ (Y6 h ci yD gb hs hw)
 ·obtain rfl:i=bs.length:=by omega
  rw [a2z,a3l] at gb;obtain ⟨d',h1,h2⟩:=(VB.arr gb rfl).du;refine zY (aN h ci) ?_;exact ⟨d',h1,h2⟩
theorem b8l (hm:Z0 m mo ps) (ho:Z8 mo):ca U8 10 [.agg [m.dt,.int .i64 m.g,m.dc,m.dv,m.dp,m.ds,.bool m.b]] (.int .i64 (Z1 (mo.allM.length:Int):Int)):=by
 refine a0F ?_;have om:=hm.az;have fm:=a3N hm;obtain ⟨dl,kD,hl⟩:=b0o hm ho;have pj:=a0F kD;have eJ:a0C false dl=some (.int .i64 (mo.allM.length:Int)):=by rw [hl.len];simp
 have hw:=b0c (n:=(mo.allM.length:Int));have ol:=hl.one;refine a02 (vf:=vf10) rfl ?_;unfold vf10;refine zF ?_;exact zZ (Y6 om fm pj eJ hw ol)
theorem b3C (hm:Z0 m mo ps) (ho:Z8 mo) (hf:a0J mo) (hg:GB s g) {d:D} {bs:List Bool} (hd:VB s d bs) (hl:bs.length=mo.bu):X9 U8 39 [.ptr g 0,.agg [m.dt,.int .i64 m.g,m.dc,m.dv,m.dp,m.ds,.bool m.b],d] s fun r s'=>r=.bool true/\Fr [] s s':=by
 have om:=hm.az;have fm:=a3N hm;have lN:=c0m hm ho hf;have od:=hd.one;have iI:=hd.len;rw [hl] at iI;refine X4 (vf:=vf39) rfl ?_;unfold vf39;refine zF ?_;refine zY (W6 om fm lN od iI) ?_;exact ⟨rfl,Fr.push _⟩
theorem b2o (hm:Z0 m mo ps) (ho:Z8 mo) (hf:a0J mo) (gT:Fit mo st) {b:Nat} (gb:s.get b=some (.cells (U1 (mo.pack st)))):X9 U8 41 [.ptr g 0,.agg [m.dt,.int .i64 m.g,m.dc,m.dv,m.dp,m.ds,.bool m.b],.arr b 0 mo.bu 1] s fun r s'=>∃v x,r=.ptr v 0/\Vs s' v g m mo st x/\Fr [] s s':=by
 have lN:=a72 ho hf;have jE:=a7F gT;refine X9.mono (c4U (R:=[(b,U1 (mo.pack st))]) (fun n=>b0c) hm ho hf gT (by omega) (fun e he=>?_) ?_) ?_
 ·rw [List.mem_singleton.1 he];exact gb
 ·refine .inr (.inr ⟨b,0,U1 (mo.pack st),?_,by simp,by simp,by rw [List.drop_zero];exact List.take_of_length_le (Nat.le_refl _)⟩)
  rw [a4I,jE]
 ·rintro r s' ⟨v,R',rfl,hR,hw,f⟩
  obtain ⟨x,hx⟩:=Vs.of hR hw;exact ⟨v,x,rfl,hx,f⟩
end
end Go.Proofs.YtigbmclkjknnjaaGreat
namespace Go.V
section
def W5 {α:Type} (f:Nat->Nat->α) (k j:Nat) (x:α):Nat->Nat->α:=fun k' j'=>if k'=k/\j'=j then x else f k' j'
theorem a4L {α:Type} {f:Nat->Nat->α} {k j:Nat} {x:α}:W5 f k j x k j=x:=by simp [W5]
theorem a26 {α:Type} {f:Nat->Nat->α} {k j k' j':Nat} {x:α} (h:¬ (k'=k/\j'=j)):W5 f k j x k' j'=f k' j':=by simp [W5,h]
def bY (k j:Nat):Nat:=if k=2/\j % 2=1 then 1 else 2
theorem a6H {f:Nat->Nat->D} {k j n:Nat} {x:D} (h:j<n):List.take j ((List.range n).map (f k))++[x]++List.drop (j+1) ((List.range n).map (f k))=(List.range n).map (W5 f k j x k):=by
 rw [List.append_assoc,List.singleton_append];apply List.ext_getElem
 ·simp;omega
 ·intro i h1 h2
  have hi:i<n:=by simpa using h2
  by_cases c:i<j
  ·rw [List.getElem_append_left (by simp;omega)]
   simp [W5,show i≠j by omega]
  ·by_cases e:i=j
   ·subst e
    rw [List.getElem_append_right (by simp;omega)];simp [W5,show min i n=i by omega]
   ·rw [List.getElem_append_right (by simp;omega)]
    have e1:i-(List.take j ((List.range n).map (f k))).length=(i-j-1)+1:=by simp;omega
    simp only [e1,List.getElem_cons_succ,List.getElem_drop];have e2:j+1+(i-j-1)=i:=by omega
    simp [W5,e,e2]
def a3M (K:Nat) (A:Nat->Nat) (E:Nat->Nat->Hs) (x:Nat):Prop:=(∀l,l<K->x≠A l)/\∀k j,∀e∈E k j,e.1≠x
structure cf (K:Nat) (z:Nat->Nat->Nat) (s0 s:k4) (A N:Nat->Nat) (c:Nat->Nat->D) (rw:Nat->Nat->List (List D)) (E:Nat->Nat->Hs) (R:Hs) (n:Nat):Prop where
 fr:Fr [] s0 s
 ge:∀k,k<K->s0.next<=A k
 ne:∀k l,k<K->l<K->k≠l->A k≠A l
 ar:∀k,k<K->s.get (A k)=some (.cells ((List.range (N k)).map (c k)))
 rp:∀k j,Rp (c k j) (z k j) (rw k j) (E k j)
 rl:∀k j,∀r∈rw k j,r.length=z k j
 he:∀k j,Y2 s (E k j)
 eg:∀k j,∀e∈E k j,s0.next<=e.1/\∀l,l<K->e.1≠A l
 di:∀k j k' j',¬ (k'=k/\j'=j)->∀e∈E k j,∀e'∈E k' j',e.1≠e'.1
 rd:Y2 s R
 rs:∀e∈R,a3M K A E e.1
 ln:∀k j,(rw k j).length<=n
variable {K:Nat} {z:Nat->Nat->Nat} {s0 s s':k4} {A N:Nat->Nat} {c:Nat->Nat->D} {rw:Nat->Nat->List (List D)} {E:Nat->Nat->Hs} {R:Hs} {n:Nat}
theorem cf.dT (h:cf K z s0 s A N c rw E R n) (f:Fr [] s s'):cf K z s0 s' A N c rw E R n :=
 ⟨h.fr.trans f (by simp),h.ge,h.ne,fun k hk=>f.kp (h.ar k hk),h.rp,h.rl,fun k j=>(h.he k j).fr f,h.eg,h.di,h.rd.fr f,h.rs,h.ln⟩
theorem cf.up (h:cf K z s0 s A N c rw E R n) {n':Nat} (hn:n<=n'):cf K z s0 s A N c rw E R n':=⟨h.fr,h.ge,h.ne,h.ar,h.rp,h.rl,h.he,h.eg,h.di,h.rd,h.rs,fun k j=>Nat.le_trans (h.ln k j) hn⟩
theorem cf.one (h:cf K z s0 s A N c rw E R n) (k j:Nat):V1 (c k j)=true:=(h.rp k j).one
theorem cf.ltA (h:cf K z s0 s A N c rw E R n) {k:Nat} (hk:k<K):A k<s.next:=u7 (h.ar k hk)
theorem cf.ltE (h:cf K z s0 s A N c rw E R n) {k j:Nat} {e:Nat×List D} (he:e∈E k j):e.1<s.next:=u7 (h.he k j e he)
theorem cf.new (h:cf K z s0 s A N c rw E R n) {x:Nat} (hx:s.next<=x):a3M K A E x :=
 ⟨fun l hl e=>by have:=h.ltA hl;omega,fun k j e he hc=>by have:=h.ltE he;omega⟩
theorem cf.bC (h:cf K z s0 s A N c rw E R n) {x:Nat} (hx:x<s0.next):a3M K A E x :=
 ⟨fun l hl e=>by have:=h.ge l hl;omega,fun k j e he hc=>by have:=(h.eg k j e he).1;omega⟩
theorem cf.ei (h:cf K z s0 s A N c rw E R n) {x:Nat} {cs:List D} (hx:s.get x=some (.cells cs)) (hf:a3M K A E x):cf K z s0 s A N c rw E ((x,cs)::R) n :=
 ⟨h.fr,h.ge,h.ne,h.ar,h.rp,h.rl,h.he,h.eg,h.di,fun e he=>by
  rcases List.mem_cons.1 he with rfl | he
  ·exact hx
  ·exact h.rd e he,fun e he=>by
  rcases List.mem_cons.1 he with rfl | he
  ·exact hf
  ·exact h.rs e he,h.ln⟩
theorem a3M.dg {x k j m:Nat} (h:a3M K A E x) (hx:x≠m):a2b x (m::(E k j).map Prod.fst):=⟨hx,Hp.dg fun e he=>h.2 k j e he⟩
theorem cf.arN (h:cf K z s0 s A N c rw E R n) {k j k' m:Nat} (hk:k<K) (hx:A k≠m):a2b (A k) (m::(E k' j).map Prod.fst):=⟨hx,Hp.dg fun e he=>(h.eg k' j e he).2 k hk⟩
theorem cf.app (h:cf K z s0 s A N c rw E R n) {k j sz bytes:Nat} {row:List D} (hk:k<K) (hj:j<N k) (jt:z k j=sz) (hr:row.length=sz) (hb:bytes<=1000) (hn:n<=1000000) :
 ∃s',Z6 sz bytes (c k j) (.arr s.next 0 1 sz) (s.push (.cells row))=some (.arr (s.next+1) 0 ((rw k j).length+1) sz,s')/\s.next+1<=s'.next/\(∀id,id∉(s.next+1)::(E k j).map Prod.fst->(s.push (.cells row)).get id=s'.get id) /\
 s'.get (A k)=some (.cells ((List.range (N k)).map (c k)))/\(∀x o,s.get x=some o->a3M K A E x->s'.get x=some o/\(s'.set (A k) (some (.cells ((List.range (N k)).map (W5 c k j (.arr (s.next+1) 0 ((rw k j).length+1) sz) k))))).get x=some o/\a3M K A (W5 E k j [(s.next+1,(rw k j++[row]).flatten)]) x) /\
 cf K z s0 (s'.set (A k) (some (.cells ((List.range (N k)).map (W5 c k j (.arr (s.next+1) 0 ((rw k j).length+1) sz) k))))) A N (W5 c k j (.arr (s.next+1) 0 ((rw k j).length+1) sz)) (W5 rw k j (rw k j++[row])) (W5 E k j [(s.next+1,(rw k j++[row]).flatten)]) R (n+1):=by
 subst jt;have hlen:=h.ln k j;have hp:=h.dT (Fr.push (.cells row));obtain ⟨s',h1,h2,h3,h4⟩:=(h.rp k j).exp (bytes:=bytes) (hp.he k j) (W2 (s:=s) rfl) hr (h.rl k j) hb (by omega);rw [k4.ai] at h1 h2 h3 h4;have kp:∀x o,s.get x=some o->(∀e∈E k j,e.1≠x)->s'.get x=some o:=fun x o hx hn=>by
  have:=u7 hx;rw [h4 x (by omega) hn,a0l this,hx]
 have ka:∀l,l<K->s'.get (A l)=some (.cells ((List.range (N l)).map (c l))):=fun l hl=>kp _ _ (h.ar l hl) fun e he=>(h.eg k j e he).2 l hl
 have la:=u7 (ka k hk);have lA:∀l,l<K->A l<s.next:=fun l hl=>h.ltA hl
 have uy:∀x,x<s.next->a3M K A E x->a3M K A (W5 E k j [(s.next+1,(rw k j++[row]).flatten)]) x:=fun x hx hf=>⟨hf.1,fun k' j' e he=>by
  by_cases q:k'=k/\j'=j
  ·rw [q.1,q.2,a4L,List.mem_singleton] at he
   rw [he];simp only;omega
  ·rw [a26 q] at he
   exact hf.2 k' j' e he⟩
 have ks:∀x o v,s.get x=some o->(∀e∈E k j,e.1≠x)->x≠A k->(s'.set (A k) v).get x=some o:=fun x o v hx hn iw=>by
  rw [Z7 iw];exact kp x o hx hn
 refine ⟨s',h1,by omega,fun id gX=>?_,ka k hk,fun x o hx hf=>⟨kp x o hx (hf.2 k j),ks x o _ hx (hf.2 k j) (hf.1 k hk),uy x (u7 hx) hf⟩,⟨?_,h.ge,h.ne,?_,?_,?_,?_,?_,?_,?_,?_,?_⟩⟩
 ·simp only [List.mem_cons,not_or,List.mem_map,not_exists,not_and] at gX
  exact (h4 id gX.1 fun e he hc=>gX.2 e he hc).symm
 ·refine Fr.st ⟨by have:=h.fr.1;omega,fun id gX _=>?_⟩ (h.ge k hk) _
  have:=h.fr.1;rw [h4 id (by omega) fun e he hc=>by have:=(h.eg k j e he).1;omega,a0l (by omega),h.fr.2 id gX (by simp)]
 ·intro l hl
  by_cases q:l=k
  ·subst q
   rw [a0d la]
  ·rw [Z7 (h.ne l k hl hk q),ka l hl]
   congr 3
   funext i
   rw [a26 fun e=>q e.1]
 ·intro k' j'
  by_cases q:k'=k/\j'=j
  ·rw [q.1,q.2,a4L,a4L,a4L]
   exact .inr ⟨s.next+1,by simp,by simp,by simp⟩
  ·rw [a26 q,a26 q,a26 q]
   exact h.rp k' j'
 ·intro k' j'
  by_cases q:k'=k/\j'=j
  ·rw [q.1,q.2,a4L]
   intro r jC;rcases List.mem_append.1 jC with jC | jC
   ·exact h.rl k j r jC
   ·rw [List.mem_singleton.1 jC];exact hr
  ·rw [a26 q]
   exact h.rl k' j'
 ·intro k' j'
  by_cases q:k'=k/\j'=j
  ·rw [q.1,q.2,a4L]
   intro e he;rw [List.mem_singleton.1 he];show (s'.set (A k) _).get (s.next+1)=_
   rw [Z7 (by have:=lA k hk;omega),h3];simp
  ·rw [a26 q]
   intro e he;exact ks e.1 _ _ (h.he k' j' e he) (fun e' he' hc=>h.di k j k' j' q e' he' e he hc) ((h.eg k' j' e he).2 k hk)
 ·intro k' j' e he
  by_cases q:k'=k/\j'=j
  ·rw [q.1,q.2,a4L,List.mem_singleton] at he
   rw [he];exact ⟨by have:=h.fr.1;simp only;omega,fun l hl=>by have:=lA l hl;simp only;omega⟩
  ·rw [a26 q] at he
   exact h.eg k' j' e he
 ·intro k1 j1 k2 j2 iw e1 he1 e2 he2
  by_cases q1:k1=k/\j1=j
  ·rw [q1.1,q1.2,a4L,List.mem_singleton] at he1
   rw [a26 fun q=>iw ⟨q.1.trans q1.1.symm,q.2.trans q1.2.symm⟩] at he2;have:=h.ltE he2;rw [he1];simp only;omega
  ·rw [a26 q1] at he1
   by_cases q2:k2=k/\j2=j
   ·rw [q2.1,q2.2,a4L,List.mem_singleton] at he2
    have:=h.ltE he1;rw [he2];simp only;omega
   ·rw [a26 q2] at he2
    exact h.di k1 j1 k2 j2 iw e1 he1 e2 he2
 ·intro e he
  exact ks e.1 _ _ (h.rd e he) (fun e' he'=>(h.rs e he).2 k j e' he') ((h.rs e he).1 k hk)
 ·intro e he
  exact uy e.1 (u7 (h.rd e he)) (h.rs e he)
 ·intro k' j'
  by_cases q:k'=k/\j'=j
  ·rw [q.1,q.2,a4L,List.length_append]
   simp only [List.length_cons,List.length_nil];omega
  ·rw [a26 q]
   have:=h.ln k' j';omega
theorem b2x {fs:FuncId->Option U3} {t rest env} {KK:Kt} {k j sz bytes:Nat} {row:List D} (h:cf K z s0 s A N c rw E R n) (hk:k<K) (hj:j<N k) (jt:z k j=sz) (hr:row.length=sz) (hb:bytes<=1000) (hn:n<=1000000)
 (kk:∀s' d' E',V1 d'=true->s'.get (A k)=some (.cells ((List.range (N k)).map (c k)))->(∀x o,s.get x=some o->a3M K A E x->s'.get x=some o/\(s'.set (A k) (some (.cells ((List.range (N k)).map (W5 c k j d' k))))).get x=some o/\a3M K A E' x) ->
  cf K z s0 (s'.set (A k) (some (.cells ((List.range (N k)).map (W5 c k j d' k))))) A N (W5 c k j d') (W5 rw k j (rw k j++[row])) E' R (n+1)->XQ fs [] rest ((t,d')::env) s' KK):BM (Z6 sz bytes (c k j) (.arr s.next 0 1 sz) (s.push (.cells row))) fs t rest env KK:=by
 obtain ⟨s',h1,_,_,h4,h5,h6⟩:=h.app (bytes:=bytes) hk hj jt hr hb hn;rw [h1];exact kk s' _ _ rfl h4 h5 h6
theorem a9c {fs:FuncId->Option U3} {ae T i t rest env} {KK:Kt} {k j sz bytes:Nat} {row:List D} (h:cf K z s0 s A N c rw E R n) (hk:k<K) (hj:j<N k) (jt:z k j=sz) (hr:row.length=sz) (hb:bytes<=1000) (hn:n<=1000000) (he:a4E ae i ((s.next+1)::(E k j).map Prod.fst) T)
 (kk:∀s' d' E',V1 d'=true->s'.get (A k)=some (.cells ((List.range (N k)).map (c k)))->(∀x o,s.get x=some o->a3M K A E x->s'.get x=some o/\(s'.set (A k) (some (.cells ((List.range (N k)).map (W5 c k j d' k))))).get x=some o/\a3M K A E' x) ->
  cf K z s0 (s'.set (A k) (some (.cells ((List.range (N k)).map (W5 c k j d' k))))) A N (W5 c k j d') (W5 rw k j (rw k j++[row])) E' R (n+1)->a2b (A k) ((s.next+1)::(E k j).map Prod.fst)->XX fs ae (⟨i,none,(s.next+1)::(E k j).map Prod.fst⟩::T) rest ((t,d')::env) s' KK):MX (c k j) (.arr s.next 0 1 sz) sz bytes i fs ae T t rest env (s.push (.cells row)) KK:=by
 obtain ⟨s',h1,h2,h3,h4,h5,h6⟩:=h.app (bytes:=bytes) hk hj jt hr hb hn;exact ⟨_,s',_,h1,by simpa using h2,h3,he,kk s' _ _ rfl h4 h5 h6 (h.arN hk (by have:=h.ltA hk;omega))⟩
abbrev Fre:=a3M 3
abbrev Bk:=cf 3 bY
def a2X (R:Hs) (res:Option (List Bool)) (row:List D):Prop:=∃b,(row=[.int .i64 (V4 b)]/\(b=true->res=some []))∨∃d l,row=[.int .i64 (V4 b),d]/\Rr R d (U1 l)/\(b=true->res=some l)
structure a1o (R:Hs) (rows:List (List D)) (res:Option (List Bool)):Prop where
 all:∀r∈rows,a2X R res r
 one:∀l,res=some l->∃r∈rows,r.head?=some (.int .i64 1)
theorem a2X.mono {R R':Hs} {res:Option (List Bool)} {row:List D} (h:a2X R res row) (hr:∀e∈R,e∈R'):a2X R' res row:=by
 obtain ⟨b,h | ⟨d,l,h1,h2,h3⟩⟩:=h
 ·exact ⟨b,.inl h⟩
 ·exact ⟨b,.inr ⟨d,l,h1,h2.mono hr,h3⟩⟩
theorem a1o.mono {R R':Hs} {res:Option (List Bool)} {rows:List (List D)} (h:a1o R rows res) (hr:∀e∈R,e∈R'):a1o R' rows res:=⟨fun r jC=>(h.all r jC).mono hr,h.one⟩
theorem a1o.nil {R:Hs}:a1o R [] none:=⟨by simp,by simp⟩
theorem a1o.off {R:Hs} {res:Option (List Bool)} {rows:List (List D)} (h:a1o R rows res) {row:List D} (hr:a2X R none row):a1o R (rows++[row]) res:=by
 refine ⟨fun r jC=>?_,fun l hl=>?_⟩
 ·rcases List.mem_append.1 jC with jC | jC
  ·exact h.all r jC
  ·rw [List.mem_singleton.1 jC]
   obtain ⟨b,⟨h1,h2⟩ | ⟨d,l,h1,h2,h3⟩⟩:=hr
   ·cases b
    ·exact ⟨false,.inl ⟨h1,fun h=>by cases h⟩⟩
    ·exact absurd (h2 rfl) (by simp)
   ·cases b
    ·exact ⟨false,.inr ⟨d,l,h1,h2,fun h=>by cases h⟩⟩
    ·exact absurd (h3 rfl) (by simp)
 ·obtain ⟨r,h1,h2⟩:=h.one l hl
  exact ⟨r,by simp [h1],h2⟩
theorem a1o.on {R:Hs} {rows:List (List D)} (h:a1o R rows none) {row:List D} {l:List Bool} (hr:a2X R (some l) row) (h1:row.head?=some (.int .i64 1)):a1o R (rows++[row]) (some l):=by
 refine ⟨fun r jC=>?_,fun l' hl=>⟨row,by simp,h1⟩⟩;rcases List.mem_append.1 jC with jC | jC
 ·obtain ⟨b,⟨h1,h2⟩ | ⟨d,l',h1,h2,h3⟩⟩:=h.all r jC
  ·cases b
   ·exact ⟨false,.inl ⟨h1,fun h=>by cases h⟩⟩
   ·exact absurd (h2 rfl) (by simp)
  ·cases b
   ·exact ⟨false,.inr ⟨d,l',h1,h2,fun h=>by cases h⟩⟩
   ·exact absurd (h3 rfl) (by simp)
 ·rw [List.mem_singleton.1 jC];exact hr
abbrev Rs:=Nat->Nat->Option (List Bool)
def bS:Rs:=fun _ _=>none
def Sls (R:Hs) (rw:Nat->Nat->List (List D)) (res:Rs):Prop:=∀k j,a1o R (rw k j) (res k j)
theorem Sls.mono {R R':Hs} {res:Rs} (h:Sls R rw res) (hr:∀e∈R,e∈R'):Sls R' rw res:=fun k j=>(h k j).mono hr
theorem Sls.app {R:Hs} {res:Rs} (h:Sls R rw res) {k j:Nat} {row:List D} {b:Bool} {l:List Bool} (hh:row.head?=some (.int .i64 (V4 b))) (hr:a2X R (some l) row) (hb:b=true->res k j=none):Sls R (W5 rw k j (rw k j++[row])) (if b then W5 res k j (some l) else res):=by
 intro k' j';by_cases q:k'=k/\j'=j
 ·rw [q.1,q.2,a4L]
  cases b
  ·refine a1o.off (h k j) ?_
   obtain ⟨b,⟨h1,h2⟩ | ⟨d,l',h1,h2,h3⟩⟩:=hr
   ·cases b
    ·exact ⟨false,.inl ⟨h1,fun h=>by cases h⟩⟩
    ·rw [h1] at hh;cases hh
   ·cases b
    ·exact ⟨false,.inr ⟨d,l',h1,h2,fun h=>by cases h⟩⟩
    ·rw [h1] at hh;cases hh
  ·rw [if_pos rfl,a4L]
   have:=h k j;rw [hb rfl] at this;exact this.on hr hh
 ·rw [a26 q]
  cases b
  ·exact h k' j'
  ·rw [if_pos rfl,a26 q]
   exact h k' j'
def Mo.bV (mo:Mo) (st:V0) (v:Mv) (res:Rs):Prop :=
 if v.kind=1 then res=W5 bS 2 (v.chan*2+1) (some [])
 else if v.kind=2 then res=W5 bS 2 (v.chan*2) (some (mo.bU st v.chan 0))
 else
  let P:=U4 mo.procs v.proc
  let e:=bc P.ak v.bn
  let r0:=W5 bS 0 v.proc (some (bL (e.to:Int) (Z1 (P.ah:Int))))
  if e.act=1 then ∃n,I8 n/\((mo.ex P st e 0).2=true->n=(mo.ex P st e 0).1)/\res=W5 r0 1 e.var.toNat (some (bL n (cd mo.vars e.var.toNat).width.toNat))
  else if e.act=2 then ∃n,I8 n/\((mo.ex P st e 0).2=true->n=(mo.ex P st e 0).1)/\res=W5 r0 2 (e.chan.toNat*2) (some (bL n (U7 mo.af e.chan.toNat).width.toNat))
  else if e.act=3 then res=W5 (W5 r0 1 e.var.toNat (some (bL (Y8 (V8 st.af e.chan.toNat) 0) (cd mo.vars e.var.toNat).width.toNat))) 2 (e.chan.toNat*2+1) (some [])
  else res=r0
def a4q (a b c:Nat):Nat->Nat
 | 0=>a
 | 1=>b
 | _=>c
def a7n (a b c:Nat):Nat->Nat
 | 0=>a
 | 1=>b
 | _=>2*c
theorem b3K (n:Nat):a2Q [.ag] n=(List.range n).map fun _=>D.ag:=by
 have e:∀k,(List.range k).map (fun _=>D.ag)=List.replicate k .ag:=fun k=>by simp [List.map_const']
 rw [e];induction n with
 | zero=>rfl
 | succ n ih=>rw [List.replicate_succ,<- ih];rfl
theorem c39 (n:Nat):a2Q [.ag,.ag] n=(List.range (2*n)).map fun _=>D.ag:=by
 have e:∀k,(List.range k).map (fun _=>D.ag)=List.replicate k .ag:=fun k=>by simp [List.map_const']
 rw [e];induction n with
 | zero=>rfl
 | succ n ih =>
   rw [show 2*(n+1)=2*n+1+1 by omega,List.replicate_succ,List.replicate_succ,<- ih];rfl
theorem Bk.init {s:k4} {R:Hs} (hR:Y2 s R) {np nv nc:Nat}:Bk s (((s.push (.cells ((List.range np).map fun _=>D.ag))).push (.cells ((List.range nv).map fun _=>D.ag))).push (.cells ((List.range (2*nc)).map fun _=>D.ag))) (a4q s.next (s.next+1) (s.next+1+1)) (a7n np nv nc) (fun _ _=>.ag) (fun _ _=>[]) (fun _ _=>[]) R 0:=by
 have f:Fr [] s (((s.push (.cells ((List.range np).map fun _=>D.ag))).push (.cells ((List.range nv).map fun _=>D.ag))).push (.cells ((List.range (2*nc)).map fun _=>D.ag))):=((Fr.push _).aj _).aj _;refine ⟨f,?_,?_,?_,fun _ _=>.inl ⟨rfl,rfl,rfl⟩,by simp,fun _ _=>by simp [Y2],by simp,by simp,hR.fr f,fun e he=>⟨fun l hl hc=>?_,by simp⟩,by simp⟩
 ·intro k hk
  have h3:k=0∨k=1∨k=2:=by omega
  rcases h3 with rfl | rfl | rfl<;>simp only [a4q]<;>omega
 ·intro k l hk hl iw
  have h3:k=0∨k=1∨k=2:=by omega
  have h4:l=0∨l=1∨l=2:=by omega
  rcases h3 with rfl | rfl | rfl<;>rcases h4 with rfl | rfl | rfl<;>simp only [a4q]<;>first|omega|exact absurd rfl iw
 ·intro k hk
  have h3:k=0∨k=1∨k=2:=by omega
  rcases h3 with rfl | rfl | rfl<;>simp only [a4q,a7n]
  ·rw [a0l (by simp;omega),a0l (by simp),W2 rfl]
  ·rw [a0l (by simp),W2 (by simp)]
  ·rw [W2 (by simp)]
 ·have:=u7 (hR e he)
  have h4:l=0∨l=1∨l=2:=by omega
  rcases h4 with rfl | rfl | rfl<;>simp only [a4q] at hc<;>omega
theorem b6p {n:Int} (h:I8 n) {w:Nat} (hw:0<w):U0 (fun i=>aB (bL n 8) (min i ((bL n 8).length-1))) w=bL n w:=by
 have e:=b19 (n:=n) (v:=8) (by omega) hw;rw [h.tr] at e;rw [<- e];refine a2s fun i _=>?_
 rw [a0Q];exact b2q (by omega)
theorem wideW {n:Int} {v w:Nat} (hv:0<v) (hw:0<w) (h:W9 n v=n):U0 (fun i=>aB (bL n v) (min i ((bL n v).length-1))) w=bL n w:=by
 have e:=b19 (n:=n) hv hw;rw [h] at e;rw [<- e];refine a2s fun i _=>?_
 rw [a0Q];exact b2q (by omega)
theorem a2X.one {R:Hs} {b:Bool}:a2X R (some []) [.int .i64 (V4 b)]:=⟨b,.inl ⟨rfl,fun _=>rfl⟩⟩
theorem a2X.two {R:Hs} {b:Bool} {d:D} {l:List Bool} (h:Rr R d (U1 l)):a2X R (some l) [.int .i64 (V4 b),d]:=⟨b,.inr ⟨d,l,rfl,h,fun _=>rfl⟩⟩
theorem VZ.rr {R:Hs} {d:D} {l:List Bool} (h:VZ d l):Rr R d (U1 l):=by
 rcases h with ⟨rfl,h⟩ | rfl
 ·exact .inl ⟨rfl,List.map_eq_nil_iff.1 h⟩
 ·exact .inr (.inl rfl)
theorem a6P {mo:Mo} {st:V0} {i k0:Nat} {ls:List Mv} {res kW:Rs} (lC:i<=k0->res=bS) (jo:k0<i->mo.bV st (Z9 ls k0) res) (he:res=bS->mo.bV st (Z9 ls i) kW):(i<k0->(if decide (i=k0) then kW else res)=bS)/\(k0<i+1->mo.bV st (Z9 ls k0) (if decide (i=k0) then kW else res)):=by
 constructor
 ·intro h
  rw [if_neg (by simp;omega)];exact lC (by omega)
 ·intro h
  by_cases c:i=k0
  ·subst c
   rw [if_pos (by simp)];exact he (lC (Nat.le_refl _))
  ·rw [if_neg (by simpa using c)]
   exact jo (by omega)
theorem b0m {b:Bool} {a r:Rs} {k j:Nat} {z:Option (List Bool)}:(if b then W5 (if b then a else r) k j z else (if b then a else r))=if b then W5 a k j z else r:=by cases b<;>rfl
end
section
variable {fs:FuncId->Option U3}
def Irr (ae:bG) (i:Nat):Prop:=∀j,a1r ae i j=false
theorem Irr.mem {ae:bG} {i j:Nat} (h:Irr ae i):(i,j)∉ae:=fun hm=>by
 have:=a87 hm;rw [h j] at this;cases this
theorem b4f {C:a09} {ae:bG}:∀ {ops:List (Nat×Z3)} {tr tr':List Tr} {env:q8} {s:k4} {r:q8×k4},(∀j,a1q ae j tr'=true->a1q ae j tr=true)->a01 C ae ops tr' env s=some r->a01 C ae ops tr env s=some r
 | [],_,_,_,_,_,_,e=>by simpa only [a01] using e
 | (i,o)::rest,tr,tr',env,s,r,hp,e=>by
   simp only [a01] at e ⊢;split at e
   ·cases e
   ·rename_i hw
    try simp only [hw]
    exact b4f hp e
   ·rename_i hw
    try simp only [hw]
    split at e
    ·cases e
    ·rename_i d s' ho
     try simp only [ho]
     split at e
     ·rename_i hq
      rw [if_pos (hp _ hq)];refine b4f ?_ e;intro j hj;split at hj
      ·rename_i he;rw [if_pos he];exact hp j hj
      ·rename_i he
       rw [if_neg he];simp only [a1q,Bool.and_eq_true] at hj ⊢;exact ⟨hj.1,hp j hj.2⟩
     ·cases e
theorem b3N {ae:bG} {j:Tr} (f:Tr->Bool) (hf:∀t,f t=false->∀k,(t.idx,k)∉ae):∀ {tr:List Tr},a1q ae j (tr.filter f)=true->a1q ae j tr=true
 | [],_=>rfl
 | t::tr,h=>by
   rw [List.filter_cons] at h;split at h
   ·simp only [a1q,Bool.and_eq_true] at h ⊢
    exact ⟨h.1,b3N f hf h.2⟩
   ·rename_i hn
    have:=hf t (by simpa using hn) j.idx;simp only [a1q];rw [if_neg (by simpa using this),Bool.true_and];exact b3N f hf h
def a7a (ae:bG) (T T':List bN):Prop:=∀x∈T',x∈T∨Irr ae x.i
theorem a7a.cons {ae:bG} {T T':List bN} (h:a7a ae T T') (e:bN):a7a ae (e::T) (e::T'):=by
 intro x hx;rcases List.mem_cons.1 hx with rfl | hx
 ·exact .inl (by simp)
 ·rcases h x hx with h | h
  ·exact .inl (by simp [h])
  ·exact .inr h
open Classical in
theorem wx_sub {ae:bG} {T T':List bN} {ops:cM} {env:q8} {s:k4} {K:Kt} (hs:a7a ae T T') (h:WX fs ae T ops env s K):WX fs ae T' ops env s K:=by
 intro tr ht;have hf:∀t:Tr,(!decide (Irr ae t.idx))=false->∀k,(t.idx,k)∉ae:=fun t h k=>by
  have:Irr ae t.idx:=by simpa using h
  exact this.mem
 obtain ⟨n,gQ,s',h1,h2⟩:=h (tr.filter fun t=>!decide (Irr ae t.idx)) (by
  intro t hm;obtain ⟨hm1,sr⟩:=List.mem_filter.1 hm;rcases ht t hm1 with h | ⟨e,he,hte⟩
  ·exact .inl h
  ·rcases hs e he with h | h
   ·exact .inr ⟨e,h,hte⟩
   ·rw [<- hte.i] at h
    simp [h] at sr)
 exact ⟨n,gQ,s',b4f (fun j hj=>b3N _ hf hj) h1,h2⟩
theorem b0Q {ae:bG} {i id:Nat}:∀ {T:List bN},a18 ae i id T↔∀e∈T,a1r ae e.i i=true->a2b id e.eff
 | []=>by simp [a18]
 | e::T=>by simp only [a18,b0Q (T:=T),List.mem_cons,forall_eq_or_imp]
theorem b3Y {ae:bG} {i id:Nat}:∀ {T:List bN},a4N ae i id T↔∀e∈T,a1r ae e.i i=true->NeO e.rd id/\a2b id e.eff
 | []=>by simp [a4N]
 | e::T=>by simp only [a4N,b3Y (T:=T),List.mem_cons,forall_eq_or_imp]
theorem b2Q {ae:bG} {i:Nat} {E:List Nat}:∀ {T:List bN},a4E ae i E T↔∀e∈T,a1r ae e.i i=true->match e.rd with | some x=>a2b x E | none=>True
 | []=>by simp [a4E]
 | e::T=>by
   simp only [a4E,b2Q (T:=T),List.mem_cons,forall_eq_or_imp];exact Iff.rfl
theorem a7a.all {ae:bG} {T T':List bN} (h:a7a ae T T') {i:Nat} {P:bN->Prop} (hp:∀e∈T,a1r ae e.i i=true->P e):∀e∈T',a1r ae e.i i=true->P e:=fun e he hh=>by
 rcases h e he with h | h
 ·exact hp e h hh
 ·rw [h i] at hh;cases hh
theorem a5r {ae:bG}:∀ {ops:cM} {T T':List bN} {env:q8} {s:k4} {K:Kt},a7a ae T T'->XX fs ae T ops env s K->XX fs ae T' ops env s K
 | [],_,_,_,_,_,_,h=>h
 | (i,⟨dst,op,g⟩)::rest,T,T',env,s,K,hs,h=>by
   have key:∀ (h:XX fs ae T ((i,⟨dst,op,none⟩)::rest) env s K),XX fs ae T' ((i,⟨dst,op,none⟩)::rest) env s K:=by
    intro h;unfold XX at h ⊢;simp only at h ⊢;split at h
    ·split at h
     ·rename_i d e;try rw [e]
      exact a5r hs h
     ·exact h.elim
    ·split at h
     ·rename_i e
      try rw [e]
      split at h
      ·rename_i d e2;try simp only [e2]
       exact a5r hs h
      ·exact h.elim
     ·rename_i e
      try rw [e]
      split at h
      ·rename_i d e2;try simp only [e2]
       exact ⟨b0Q.2 (hs.all (b0Q.1 h.1)),a5r (hs.cons _) h.2⟩
      ·exact h.elim
     ·exact h.elim
    ·split at h
     ·rename_i ob m e;try rw [e]
      exact a5r (hs.cons _) h
     ·exact h.elim
    ·split at h
     ·rename_i e
      try rw [e]
      split at h
      ·rename_i iA ob e2
       try simp only [e2]
       exact ⟨h.1,b3Y.2 (hs.all (b3Y.1 h.2.1)),a5r (hs.cons _) h.2.2⟩
      ·exact h.elim
     ·exact h.elim
    ·split at h
     ·rename_i l hl
      try rw [hl]
      obtain ⟨d,h1,h2,h3⟩:=h;exact ⟨d,h1,h2,a5r hs h3⟩
     ·exact h.elim
    ·obtain ⟨d,s',E,h1,h2,h3,h4,h5⟩:=h
     exact ⟨d,s',E,h1,h2,h3,b2Q.2 (hs.all (b2Q.1 h4)),a5r (hs.cons _) h5⟩
    ·exact wx_sub hs h
   cases g with
   | none=>exact key h
   | some rb =>
     obtain ⟨r,b⟩:=rb;have h':Way (env.get r) b (XX fs ae T ((i,⟨dst,op,none⟩)::rest) env s K) (XX fs ae T rest (env.put dst (.aR [])) s K):=h;show Way (env.get r) b (XX fs ae T' ((i,⟨dst,op,none⟩)::rest) env s K) (XX fs ae T' rest (env.put dst (.aR [])) s K)
     unfold Way at h' ⊢;split at h'
     ·rename_i c pQ
      try rw [pQ]
      try simp only
      split at h'
      ·rename_i hc;try simp only [hc,if_true]
       exact key h'
      ·rename_i hc;try simp only [hc,if_false]
       exact a5r hs h'
     ·rename_i pQ
      try rw [pQ]
      exact a5r hs h'
     ·exact h'.elim
theorem b07:∀ {l:bG} {i j:Nat},a1r l i j=true->(i,j)∈l
 | [],_,_,h=>by cases h
 | (u,v)::r,i,j,h=>by
   simp only [a1r] at h;split at h
   ·rename_i e1
    split at h
    ·rename_i e2
     rw [Nat.eq_of_beq_eq_true e1,Nat.eq_of_beq_eq_true e2];simp
    ·exact List.mem_cons_of_mem _ (b07 h)
   ·exact List.mem_cons_of_mem _ (b07 h)
theorem b0T {d y:D} {n:Option Nat} {i t:Nat} {ae:bG} {T:List bN} {rest:cM} {env:q8} {s:k4} {K:Kt} (hl:bk s.get n d=some y) (k:XX fs ae T rest ((t,y)::env) s K) (hi:(ae.all fun p=>p.1 != i&&p.2 != i)=true:=by decide):BD d n i fs ae T t rest env s K:=by
 have h1:=fun a b=>b07 (l:=ae) (i:=a) (j:=b)
 have hq:∀a b,a1r ae a b=true->a≠i/\b≠i:=fun a b h=>by
  have:=List.all_eq_true.1 hi _ (h1 a b h);simpa using this
 refine bd_o hl (fun id=>b0Q.2 fun e _ hh=>absurd rfl (hq _ _ hh).2) k fun id gX=>a5r (T:=T) (fun x hx=>?_) k
 rcases List.mem_cons.1 hx with rfl | hx
 ·refine .inr fun j=>?_
  cases hh:a1r ae i j with
  | false=>rfl
  | true=>exact absurd rfl (hq _ _ hh).1
 ·exact .inl hx
theorem b67 {s:k4} {a z o:Y1} {b:Option Y1}:Fr [] ((s.push a).set s.next b) ((((s.push a).set s.next b).push z).set (s.next+1) (some o)):=by
 have h:=a1x (s:=(s.push a).set s.next b) (z:=z) (o:=o);simpa using h
theorem b4B {mo:Mo} {st:V0} {wp we wc:Nat} {e:Ed} (he:bc (U4 mo.procs wp).ak we=e) (h:e.act=0∨e.act=4∨e.act=5):mo.bV st ⟨0,wp,we,wc⟩ (W5 bS 0 wp (some (bL (e.to:Int) (Z1 ((U4 mo.procs wp).ah:Int))))):=by
 unfold Mo.bV;simp only [he];rw [if_neg (by decide),if_neg (by decide),if_neg (by omega),if_neg (by omega),if_neg (by omega)];trivial
theorem c3C {mo:Mo} {st:V0} {wp we wc i k n:Nat} {z:Int} {e:Ed} (he:bc (U4 mo.procs wp).ak we=e) (h:e.act=1) (hx:e.expr=(k:Int)) (hv:e.var=(i:Int)) (hz:I8 z) (hy:(mo.val (a0Z (U4 mo.procs wp)) st k).2=true->z=(mo.val (a0Z (U4 mo.procs wp)) st k).1) (hn:(cd mo.vars i).width.toNat=n):mo.bV st ⟨0,wp,we,wc⟩ (W5 (W5 bS 0 wp (some (bL (e.to:Int) (Z1 ((U4 mo.procs wp).ah:Int))))) 1 i (some (bL z n))):=by
 unfold Mo.bV;simp only [he];rw [if_neg (by decide),if_neg (by decide),if_pos h];have e1:mo.ex (U4 mo.procs wp) st e 0=mo.val (a0Z (U4 mo.procs wp)) st k:=by unfold Mo.ex;rw [hx,if_pos (by omega),Int.toNat_natCast]
 rw [e1,hv,Int.toNat_natCast,hn];exact ⟨z,hz,hy,rfl⟩
theorem c3r {mo:Mo} {st:V0} {wp we wc i k n:Nat} {z:Int} {e:Ed} (he:bc (U4 mo.procs wp).ak we=e) (h:e.act=2) (hx:e.expr=(k:Int)) (hv:e.chan=(i:Int)) (hz:I8 z) (hy:(mo.val (a0Z (U4 mo.procs wp)) st k).2=true->z=(mo.val (a0Z (U4 mo.procs wp)) st k).1) (hn:(U7 mo.af i).width.toNat=n):mo.bV st ⟨0,wp,we,wc⟩ (W5 (W5 bS 0 wp (some (bL (e.to:Int) (Z1 ((U4 mo.procs wp).ah:Int))))) 2 (i*2) (some (bL z n))):=by
 unfold Mo.bV;simp only [he];rw [if_neg (by decide),if_neg (by decide),if_neg (by omega),if_pos h];have e1:mo.ex (U4 mo.procs wp) st e 0=mo.val (a0Z (U4 mo.procs wp)) st k:=by unfold Mo.ex;rw [hx,if_pos (by omega),Int.toNat_natCast]
 rw [e1,hv,Int.toNat_natCast,hn];exact ⟨z,hz,hy,rfl⟩
theorem c4V {mo:Mo} {st:V0} {wp we wc i j n:Nat} {e:Ed} (he:bc (U4 mo.procs wp).ak we=e) (h:e.act=3) (hx:e.var=(i:Int)) (hv:e.chan=(j:Int)) (hn:(cd mo.vars i).width.toNat=n):mo.bV st ⟨0,wp,we,wc⟩ (W5 (W5 (W5 bS 0 wp (some (bL (e.to:Int) (Z1 ((U4 mo.procs wp).ah:Int))))) 1 i (some (bL (Y8 (V8 st.af j) 0) n))) 2 (j*2+1) (some [])):=by
 unfold Mo.bV;simp only [he];rw [if_neg (by decide),if_neg (by decide),if_neg (by omega),if_neg (by omega),if_pos h,hx,hv,Int.toNat_natCast,Int.toNat_natCast,hn]
theorem Rr.dK {R:Hs} {b w:Nat} {l:List Bool} (h:l.length=w):Rr ((b,U1 l)::R) (.arr b 0 w 1) (U1 l):=by
 subst h;exact .inr (.inr ⟨b,0,U1 l,by simp,by simp,by simp,by rw [List.drop_zero];exact List.take_of_length_le (Nat.le_refl _)⟩)
theorem b2C {b:Bool} {res:Rs} {k j k' j':Nat} {z:Option (List Bool)} (h:b=true->res=bS) (hb:b=true) (hn:¬ (k'=k/\j'=j)):(if b then W5 res k j z else res) k' j'=none:=by
 rw [if_pos hb,a26 hn,h hb];rfl
theorem a7Y {F:Nat->D} {n j:Nat} (h:j<n):((List.range n).map F)[j]?=some (F j):=by simp [h]
end
theorem b55 {sz:Nat}:∀ {rows:List (List D)},(∀r∈rows,r.length=sz)->∀ {i:Nat} (hi:i<rows.length),(rows.flatten.drop (i*sz)).take sz=rows[i]
 | [],_,i,hi=>by simp at hi
 | a::r,h,0,_=>by
   have ha:=h a (by simp);simp only [Nat.zero_mul,List.drop_zero,List.flatten_cons,List.getElem_cons_zero];rw [List.take_append_of_le_length (by omega),List.take_of_length_le (by omega)]
 | a::r,h,i+1,hi=>by
   have ha:=h a (by simp);simp only [List.flatten_cons,List.getElem_cons_succ];rw [show (i+1)*sz=a.length+i*sz by rw [ha,Nat.add_mul];omega,<- List.drop_drop,List.drop_left];exact b55 (fun x hx=>h x (by simp [hx])) (by simpa using hi)
theorem b8L {sz:Nat}:∀ {rows:List (List D)},(∀r∈rows,r.length=sz)->rows.flatten.length=rows.length*sz
 | [],_=>by simp
 | a::r,h=>by
   rw [List.flatten_cons,List.length_append,h a (by simp),b8L fun x hx=>h x (by simp [hx]),List.length_cons,Nat.add_mul];omega
theorem Rp.row2 {s:k4} {d:D} {rows:List (List D)} {E:Hs} {k:IntKind} (h:Rp d 2 rows E) (he:Y2 s E) (hr:∀r∈rows,r.length=2) {i:Nat} (hi:i<rows.length):∃id,W1 2 d (.int k (i:Int))=some (.ptr id (i*2))/\bk s.get (some 2) (.ptr id (i*2))=some (.agg rows[i]):=by
 rcases h with ⟨rfl,rfl,_⟩ | ⟨id,rfl,rfl,_⟩
 ·simp at hi
 ·refine ⟨id,?_,?_⟩
  ·simp [W1]
   omega
  ·have hg:=he (id,rows.flatten) (by simp)
   simp only at hg;have hl:=b8L hr;simp only [bk,hg,a2J];rw [if_pos (by omega),b55 hr hi]
def ey:List D->Bool
 | .int _ n::_=>n != 0
 | _=>false
def gu (s0 s:k4) (d:D) (sz:Nat) (rows:List (List D)):Prop:=Fr [] s0 s/\(∀r∈rows,r.length=sz)/\∃E,Rp d sz rows E/\Y2 s E/\∀e∈E,s0.next<=e.1
theorem gu.nil {s0 s:k4} {sz:Nat} (h:Fr [] s0 s):gu s0 s .ag sz []:=⟨h,by simp,[],.inl ⟨rfl,rfl,rfl⟩,by simp [Y2],by simp⟩
theorem gu.fr {s0 s s':k4} {d:D} {sz:Nat} {rows:List (List D)} (h:gu s0 s d sz rows) (f:Fr [] s s'):gu s0 s' d sz rows:=by
 obtain ⟨h1,h2,E,h3,h4,h5⟩:=h;exact ⟨h1.trans f (by simp),h2,E,h3,h4.fr f,h5⟩
theorem gu.one {s0 s:k4} {d:D} {sz:Nat} {rows:List (List D)} (h:gu s0 s d sz rows):V1 d=true:=by
 obtain ⟨_,_,E,h3,_⟩:=h;exact h3.one
theorem gu.len {s0 s:k4} {d:D} {sz:Nat} {rows:List (List D)} (h:gu s0 s d sz rows):a0C false d=some (.int .i64 (rows.length:Int)):=by
 obtain ⟨_,_,E,h3,_⟩:=h;exact h3.len
theorem bm_gr {fs:FuncId->Option U3} {t rest env K} {s0 s:k4} {d:D} {sz bytes:Nat} {rows:List (List D)} {row:List D} (h:gu s0 s d sz rows) (hr:row.length=sz) (hb:bytes<=1000) (hl:rows.length<=1000000) (k:∀d' s',gu s0 s' d' sz (rows++[row])->XQ fs [] rest ((t,d')::env) s' K):BM (Z6 sz bytes d (.arr s.next 0 1 sz) (s.push (.cells row))) fs t rest env K:=by
 obtain ⟨h1,h2,E,h3,h4,h5⟩:=h;obtain ⟨s',e1,e2,e3,e4⟩:=h3.exp (bytes:=bytes) (h4.fr (Fr.push (.cells row))) (W2 (s:=s) rfl) hr h2 hb (by omega);rw [k4.ai] at e1 e2 e3 e4;rw [e1];have n0:=h1.1;refine k _ _ ⟨⟨by omega,fun id gX _=>?_⟩,fun r jC=>?_,[(s.next+1,(rows++[row]).flatten)],.inr ⟨s.next+1,by simp,rfl,by simp⟩,?_,?_⟩
 ·rw [e4 id (by omega) fun e he hc=>by have:=h5 e he;omega,a0l (by omega),h1.2 id gX (by simp)]
 ·rcases List.mem_append.1 jC with jC | jC
  ·exact h2 r jC
  ·rw [List.mem_singleton.1 jC];exact hr
 ·intro e he
  rw [List.mem_singleton.1 he];rw [e3];simp
 ·intro e he
  rw [List.mem_singleton.1 he];simp only;omega
theorem c5o {rows:List (List D)} {i:Nat} (h:i<rows.length):(rows.take (i+1)).filter ey=(rows.take i).filter ey++if ey rows[i] then [rows[i]] else []:=by
 rw [List.take_succ_eq_append_getElem h,List.filter_append,List.filter_cons];simp
theorem a1o.fq {R:Hs} {rows:List (List D)} (h:a1o R rows none):rows.filter ey=[]:=by
 rw [List.filter_eq_nil_iff];intro r hr;obtain ⟨b,⟨h1,h2⟩ | ⟨d,l,h1,h2,h3⟩⟩:=h.all r hr
 ·cases b
  ·rw [h1];simp [ey,V4]
  ·exact absurd (h2 rfl) (by simp)
 ·cases b
  ·rw [h1];simp [ey,V4]
  ·exact absurd (h3 rfl) (by simp)
theorem a1o.ft {R:Hs} {rows:List (List D)} {l:List Bool} (h:a1o R rows (some l)) (h2:∀r∈rows,r.length=2):rows.filter ey≠[]/\∀r∈rows.filter ey,∃d,r=[.int .i64 1,d]/\Rr R d (U1 l):=by
 constructor
 ·intro e
  obtain ⟨r,hr,h1⟩:=h.one l rfl;have:r∈rows.filter ey:=List.mem_filter.2 ⟨hr,by cases r with
   | nil=>cases h1
   | cons a r=>simp only [List.head?_cons,Option.some.injEq] at h1;subst h1;rfl⟩
  rw [e] at this;cases this
 ·intro r hr
  obtain ⟨hr,hp⟩:=List.mem_filter.1 hr;obtain ⟨b,⟨h1,_⟩ | ⟨d,l',h1,h3,h4⟩⟩:=h.all r hr
  ·have:=h2 r hr
   rw [h1] at this;simp at this
  ·cases b
   ·rw [h1] at hp;simp [ey,V4] at hp
   ·have:=h4 rfl
    simp only [Option.some.injEq] at this;subst this;exact ⟨d,h1,h3⟩
theorem a1o.two {R:Hs} {rows:List (List D)} {res:Option (List Bool)} (h:a1o R rows res) (h2:∀r∈rows,r.length=2):∀r∈rows,∃b d,r=[.int .i64 (V4 b),d]/\V1 d=true:=by
 intro r hr;obtain ⟨b,⟨h1,_⟩ | ⟨d,l',h1,h3,h4⟩⟩:=h.all r hr
 ·have:=h2 r hr
  rw [h1] at this;simp at this
 ·exact ⟨b,d,h1,h3.one⟩
theorem a1o.bits {R:Hs} {res:Option (List Bool)}:∀ {rows:List (List D)},a1o R rows res->(∀r∈rows,r.length=1)->∃bs,rows=a0y (U1 bs)/\bs.any id=res.isSome:=by
 have key:∀ {rows:List (List D)},(∀r∈rows,a2X R res r)->(∀r∈rows,r.length=1)->∃bs:List Bool,rows=a0y (U1 bs)/\(bs.any id=true->res.isSome=true):=by
  intro rows;induction rows with
  | nil=>exact fun _ _=>⟨[],rfl,by simp⟩
  | cons a r ih =>
    intro h h1;obtain ⟨bs,e,hb⟩:=ih (fun x hx=>h x (by simp [hx])) fun x hx=>h1 x (by simp [hx])
    obtain ⟨b,⟨e1,e2⟩ | ⟨d,l,e1,_⟩⟩:=h a (by simp)
    ·refine ⟨b::bs,by rw [e1,e];rfl,fun hh=>?_⟩
     rw [List.any_cons,Bool.or_eq_true] at hh;rcases hh with hh | hh
     ·rw [e2 hh];rfl
     ·exact hb hh
    ·have:=h1 a (by simp)
     rw [e1] at this;simp at this
 intro rows h h1;obtain ⟨bs,e,hb⟩:=key h.all h1;refine ⟨bs,e,?_⟩;rw [Bool.eq_iff_iff];refine ⟨hb,fun hs=>?_⟩;cases res with
 | none=>cases hs
 | some l =>
   obtain ⟨r,hr,hh⟩:=h.one l rfl;rw [e] at hr;obtain ⟨x,hx,rfl⟩:=List.mem_map.1 hr;obtain ⟨b,mz,rfl⟩:=List.mem_map.1 hx;rw [List.any_eq_true];refine ⟨b,mz,?_⟩;cases b
   ·simp [V4] at hh
   ·rfl
theorem a1o.gw {R:Hs} {rows:List (List D)} {res:Option (List Bool)} (h:a1o R rows res) (h2:∀r∈rows,r.length=2):decide ((rows.filter ey).length=0)=!res.isSome:=by
 cases res with
 | none=>rw [h.fq];rfl
 | some l =>
   have:=(h.ft h2).1;rw [decide_eq_false (by simpa using this)];rfl
end Go.V
namespace Go.Proofs.YtigbmclkjknnjaaGreat
open Go.V
section
variable {s:k4} {g:Nat} {R E:Hs} {d:D} {rows:List (List D)} {res:Option (List Bool)}
theorem b84 (hd:Rp d 2 rows E) (he:Y2 s E) (h2:∀r∈rows,r.length=2) (hr:∀r∈rows,∃b d,r=[.int .i64 (V4 b),d]/\V1 d=true) (hl:rows.length<=1000000):X9 U8 128 [d] s fun r s'=>gu s s' r 2 (rows.filter ey):=by
 have od:=hd.one;have iI:=hd.len;refine X4 (vf:=b3Q) rfl ?_;unfold b3Q;refine zF ?_;refine zY (aN od iI) ?_;refine X5 [0,2,6,7] 0 rows.length (fun i f s'=>f 8=.int .i64 (i:Int)/\gu s s' (f 3) 2 ((rows.take i).filter ey)) (.mk rfl) (by omega) ⟨rfl,gu.nil (Fr.refl _ _)⟩ ?_;rintro i f s2 hi ⟨h,hb⟩;have ob:=hb.one;by_cases ci:i<rows.length
 rotate_left
 ·obtain rfl:i=rows.length:=by omega
  rw [List.take_of_length_le (Nat.le_refl _)] at hb;refine zY (V5 h ci ob) ?_;exact hb
 obtain ⟨id,i1,i2⟩:=hd.row2 (he.fr hb.1) h2 ci (k:=.i64);have iT:=c5o ci;obtain ⟨b,y,e,oy⟩:=hr _ (List.getElem_mem ci);rw [e] at i2 iT;have fb:∀a b,Fr [] s2 ((s2.push a).set s2.next (some b)):=fun a b=>a1x
 cases b
 ·rw [a4j] at i2
  rw [show ey [.int .i64 (V4 false),y]=false from rfl,if_neg (by simp),List.append_nil] at iT;refine zY (Y6 h ci i1 i2 oy ob) ?_;rw [iT];exact hb.fr (fb _ _)
 ·rw [a2u] at i2
  rw [show ey [.int .i64 (V4 true),y]=true from rfl,if_pos rfl,a2u] at iT;refine zY (Y6 h ci i1 i2 oy ob) ?_;refine bm_gr (hb.fr (fb _ _)) rfl (by decide) (by have:=List.length_filter_le ey (rows.take i);rw [List.length_take] at this;omega) fun d' s3 h3=>?_
  have o3:=h3.one;refine zY o3 ?_;refine ⟨ci,?_⟩;rw [iT];exact h3
theorem b16 (hg:GB s g) {Q:Hs} {wK:D} {bC:List Bool} (hq:Y2 s Q) (ho:Rr Q wK (U1 bC)) (uC:bC.length<=1000) (hR:Y2 s R) (hd:Rp d 2 rows E) (he:Y2 s E) (h2:∀r∈rows,r.length=2) (hs:a1o R rows res) (hw:∀l,res=some l->l.length=bC.length) (hl:rows.length<=90000) :
 X9 U8 86 [.ptr g 0,wK,d] s fun r s'=>∃R',(∀e∈R',s.next<=e.1)/\Y2 s' R'/\Rr (R'++Q) r (U1 (res.getD bC))/\Fr [] s s':=by
 have od:=hd.one;have oo:=ho.one;have oQ:=b84 hd he h2 (hs.two h2) (by omega);cases res with
 | none =>
   rw [hs.fq] at oQ;refine X4 (vf:=a9C) rfl ?_;unfold a9C;refine zF ?_;refine zY (aN od oo) ?_;refine a0D oQ rfl ?_;rintro r s1 h1;have or:=h1.one;have ln:=h1.len;simp (disch:=(first|exact Rf.mk rfl|with_reducible assumption|omega|((repeat (first|rw [nP]|rw [nS]|rw [Z2]))<;>omega)|decide)) only [go_sem,↓reduceIte,or,ln];exact ⟨[],by simp,by simp [Y2],ho,h1.1⟩
 | some l =>
   obtain ⟨iw,gU⟩:=hs.ft h2;have kO:=hw l rfl;have pD:(rows.filter ey).length<=90000:=Nat.le_trans (List.length_filter_le _ _) hl;generalize rows.filter ey=rw at *;have ru:0<rw.length:=by cases rw with
    | nil=>exact absurd rfl iw
    | cons a r=>simp
   have c0:((rw.length:Int)==0)=false:=by simp;omega
   refine X4 (vf:=a9C) rfl ?_;unfold a9C;refine zF ?_;refine zY (aN od oo) ?_;refine a0D oQ rfl ?_;rintro r s1 h1;have or:=h1.one;have ln:=h1.len;obtain ⟨f1,qf,E1,jo,he1,_⟩:=h1;have m1:=eh (w:=rw.length) (by omega);have m2:=dy (w:=rw.length) (by omega);have hz:=a1D rw.length;rw [a2G (fun _=>true)] at hz;simp (disch:=(first|exact Rf.mk rfl|with_reducible assumption|omega|((repeat (first|rw [nP]|rw [nS]|rw [Z2]))<;>omega)|decide)) only [go_sem,↓reduceIte,or,ln,c0,m1,m2,hz];obtain ⟨gb,f0⟩:=fR (s:=s1) (A:=fun _=>true) (w:=rw.length);generalize s1.push (.cells (U1 (U0 (W8 (fun _=>true) 0) rw.length)))=s2 at *;refine a1H [0,1,2,6,7,10,11,12,13,15,20,25,26,46,47,48,58,59,60,61] (fun f s'=>s'.get s1.next=some (.cells (U1 (U0 (fun _=>true) rw.length)))/\Fr [] s1 s') ?_ ?_
   ·refine X5 [0,1,2,6,7,10,11,12,13,15,20,25,26,46,47,48,58,59,60,61] 0 rw.length (fun i f s'=>f 27=.int .i64 (i:Int)/\s'.get s1.next=some (.cells (U1 (U0 (W8 (fun _=>true) i) rw.length)))/\Fr [] s1 s') (.mk rfl) (by omega) ⟨rfl,gb,f0⟩ ?_
    clear gb f0 hz;rintro i f s3 hi ⟨h,gb,fr⟩;by_cases ci:i<rw.length
    rotate_left
    ·obtain rfl:i=rw.length:=by omega
     rw [a2z] at gb;refine zY (aN h ci) ?_;exact ⟨gb,fr⟩
    obtain ⟨id,i1,i2⟩:=jo.row2 (he1.fr fr) qf ci (k:=.i64);obtain ⟨y,e,hy⟩:=gU _ (List.getElem_mem ci);rw [e] at i2;have oy:=hy.one;have lb:=u7 gb;have kc:=a39 (A:=fun _=>true) (b:=true) ci rfl;rw [a2u] at kc;have qy:=a2p (A:=fun _=>true) ci;refine zY (U5 h ci i1 i2 oy gb kc qy) ?_;exact Fr.st (fr.trans a1x (by simp)) (Nat.le_refl _) _
   clear gb f0;rintro f s3 ⟨gb,fr⟩;have hO:=f1.trans fr (by simp);have rA:ca U8 55 [.int .i64 1] (.int .i64 0):=a1W true;have hold:=((ho.vb hq).fr hO)
   have iI:=hold.len;have m1:=eh (w:=bC.length) (by omega);have m2:=dy (w:=bC.length) (by omega);have hz:=a1D bC.length;rw [a2G (aB l)] at hz;refine V6 ?_;refine xb (a4Z (hg.fr hO) (VB.aU gb) (by omega)) fun s4 f4=>?_
   rw [show a0w (fun _=>true) rw.length=true from a5m.2 ⟨0,ru,rfl⟩,a2u];have iy:=hO.trans f4 (by simp);refine zY (Y6 rA oo iI m1 m2 hz) ?_;obtain ⟨gc,f5⟩:=fR (s:=s4) (A:=aB l) (w:=bC.length);generalize s4.push (.cells (U1 (U0 (W8 (aB l) 0) bC.length)))=s5 at *;refine X5 [0,1,2,6,7,8,9,10,11,20,25,26,27,28,46] 0 bC.length (fun i f' s'=>f' 47=.int .i64 (i:Int)/\s'.get s4.next=some (.cells (U1 (U0 (W8 (aB l) i) bC.length)))/\Fr [] s4 s') (.mk rfl) (by omega) ⟨rfl,gc,f5⟩ ?_;clear gc f5 hz;rintro i f' s6 hi ⟨h,gc,f6⟩;have iO:=iy.trans f6 (by simp);by_cases ci:i<bC.length
   rotate_left
   ·obtain rfl:i=bC.length:=by omega
    rw [a2z] at gc;have e:U1 (U0 (aB l) bC.length)=U1 l:=by rw [<- kO,a3l]
    rw [e] at gc;refine zY (aN h ci) ?_;refine ⟨[(s4.next,U1 l)],fun e he=>?_,fun e he=>?_,?_,iO⟩
    ·rw [List.mem_singleton.1 he];exact iy.1
    ·rw [List.mem_singleton.1 he];exact gc
    ·exact Rr.dK kO
   obtain ⟨p,p1,p2⟩:=(((ho.vb hq).fr iO).cY (a3l bC).symm).cC ci (k:=.i64);refine zY (W6 h ci oo p1 p2) ?_;refine xb (a08 (hg.fr iO) false _) fun s7 f7=>?_
   rw [Bool.false_and];have ko:=iO.trans f7 (by simp);simp (disch:=(first|exact Rf.mk rfl|with_reducible assumption|omega|((repeat (first|rw [nP]|rw [nS]|rw [Z2]))<;>omega)|decide)) only [go_sem,↓reduceIte,or,ln];have g7:bD s7 (s7.push (.cells [.int .i64 (V4 false)])) (.arr s7.next 0 1 1) [false]:=⟨Fr.push _,.inr ⟨s7.next,rfl,Nat.le_refl _,W2 rfl⟩⟩
   rw [a4j] at g7;refine X5 [0,1,2,6,7,8,9,10,11,12,20,25,26,27,28,46,47,48,58,59] 0 rw.length (fun j f2 s'=>f2 60=.int .i64 (j:Int)/\bD s7 s' (f2 13) (false::List.replicate j (aB l i))) (.mk rfl) (by omega) ⟨rfl,g7⟩ ?_;clear g7;rintro j f2 s8 hj ⟨h',h8⟩;have o8:=h8.one;have jv:=ko.trans h8.1 (by simp);by_cases cj:j<rw.length
   ·obtain ⟨id,i1,i2⟩:=jo.row2 (he1.fr (((((fr.trans f4 (by simp)).trans f6 (by simp)).trans f7 (by simp)).trans h8.1 (by simp)))) qf cj (k:=.i64)
    obtain ⟨y,e,hy⟩:=gU _ (List.getElem_mem cj);rw [e] at i2;have oy:=hy.one;have fb:∀a b,Fr [] s8 ((s8.push a).set s8.next (some b)):=fun a b=>a1x
    obtain ⟨p,q1,q2⟩:=(((hy.vb hR).fr jv).cY (by rw [<- kO];exact (a3l l).symm):VB s8 y (U0 (aB l) bC.length)).cC ci (k:=.i64);have q3:=fun a b=>a5Y q2 (fb a b)
    refine zY (U5 h' cj i1 i2 oy o8 q1 q3) ?_;refine xb (a08 (hg.fr (jv.trans (fb _ _) (by simp))) true _) fun s9 f9=>?_
    rw [Bool.true_and];refine V6 ?_;refine a54 ((h8.fr (fb _ _)).fr f9) (by simp;omega) fun d' lG sU=>?_
    have o10:=sU.one;refine zY o10 ?_;refine ⟨cj,?_⟩;rw [List.replicate_succ'];exact sU
   ·obtain rfl:j=rw.length:=by omega
    have zL:(false::List.replicate rw.length (aB l i)).any id=aB l i:=by
     rw [List.any_cons,id,Bool.false_or];cases hb:aB l i
     ·rw [List.any_eq_false]
      intro x hx;rw [List.eq_of_mem_replicate hx];simp
     ·rw [List.any_eq_true]
      exact ⟨true,List.mem_replicate.2 ⟨by omega,rfl⟩,rfl⟩
    refine zY (V5 h' cj o8) ?_;refine xb (a7u (hg.fr jv) h8.vb (by simp;omega)) fun s9 f9=>?_
    have f69:=(f7.trans h8.1 (by simp)).trans f9 (by simp);have uX:=f69.kp gc;have lc9:=u7 uX;have kc:=a39 (A:=aB l) (b:=(false::List.replicate rw.length (aB l i)).any id) ci zL.symm;have qy:=a2p (A:=aB l) ci;refine zY (V3 uX kc qy h) ?_;exact ⟨ci,(f6.trans f69 (by simp)).st (Nat.le_refl _) _⟩
theorem none_c {dS dG:D} {rS rG:List (List D)} {eS eG:Hs} {iH resG:Option (List Bool)} (hS:Rp dS 2 rS eS) (yp:Y2 s eS) (h2:∀r∈rS,r.length=2) (uG:a1o R rS iH) (tv:rS.length<=90000) (hG:Rp dG 1 rG eG) (Aa:Y2 s eG) (h1:∀r∈rG,r.length=1) (zD:a1o R rG resG) (Ak:rG.length<=90000) :
 X9 U8 87 [.agg [dS,dG]] s fun r s'=>r=.bool (!iH.isSome&&!resG.isSome)/\Fr [] s s':=by
 obtain ⟨bs,rfl,tA⟩:=zD.bits h1;have oS:=hS.one;have oG:=hG.one;have oW:VB s dG bs:=(hG.rr (R:=eG) fun e he=>he).vb Aa;have iI:=oW.len;rw [a9U,a4I] at Ak;have f0:Fr [] s (s.push (.cells [dS,dG])):=Fr.push _;have gb:(s.push (.cells [dS,dG])).get s.next=some (.cells [dS,dG]):=W2 rfl;refine X4 (vf:=vf87) rfl ?_;unfold vf87;refine zF ?_;refine zY (V5 oS oG iI) ?_;generalize s.push (.cells [dS,dG])=s1 at *;refine X5 [0,1,6,7] 0 bs.length (fun i f s'=>f 8=.int .i64 (i:Int)/\s'=s1/\∀j,j<i->aB bs j=false) (.mk rfl) (by omega) ⟨rfl,rfl,fun j h=>by omega⟩ ?_;rintro i f s2 hi ⟨h,rfl,gU⟩;by_cases ci:i<bs.length
 ·obtain ⟨p,p1,p2⟩:=(oW.fr f0).idx ci (k:=.i64)
  cases hb:aB bs i
  ·rw [hb,a4j] at p2
   refine zY (V3 h ci p1 p2) ?_;intro j hj;by_cases e:j=i
   ·subst e;exact hb
   ·exact gU j (by omega)
  ·rw [hb,a2u] at p2
   have:resG.isSome=true:=by
    rw [<- tA,List.any_eq_true];refine ⟨true,?_,rfl⟩;have:bs[i]=true:=by simpa [aB,List.getD,ci] using hb
    rw [<- this];exact List.getElem_mem ci
   rw [this];refine zY (V3 h ci p1 p2) ?_;exact ⟨by simp,f0⟩
 ·obtain rfl:i=bs.length:=by omega
  have hD:resG.isSome=false:=by
   rw [<- tA,List.any_eq_false];intro b hb;obtain ⟨j,h3,rfl⟩:=List.getElem_of_mem hb;have:=gU j h3;simp only [aB,List.getD,List.getElem?_eq_getElem h3,Option.getD_some] at this;simp [this]
  rw [hD];refine zY (W6 h ci gb oS oG) ?_;refine a0D (b84 hS (yp.fr f0) h2 (uG.two h2) (by omega)) rfl ?_;rintro r s3 h3;have o3:=h3.one;have l3:=h3.len;refine zY (aN o3 l3) ?_;refine ⟨?_,f0.trans h3.1 (by simp)⟩;rw [uG.gw h2]
end
end Go.Proofs.YtigbmclkjknnjaaGreat
namespace Go.V
section
def Mo.isK (mo:Mo) (ls:List Mv) (p j:Nat):Bool:=decide ((Z9 ls j).kind=0)&&(decide ((Z9 ls j).proc=p)&&(bc (U4 mo.procs p).ak (Z9 ls j).bn).aF)
def Mo.fC (mo:Mo) (ls:List Mv) (k0 p i:Nat):List Bool:=((List.range i).filter (mo.isK ls p)).map fun j=>decide (j=k0)
def Mo.eC (mo:Mo) (ls:List Mv) (p i t:Nat):Bool:=(List.range i).any fun j=>mo.isK ls p j&&decide ((bc (U4 mo.procs p).ak (Z9 ls j).bn).to=t)
def Mo.mgL (mo:Mo) (st:V0) (ls:List Mv) (p j:Nat):List Bool:=((List.range j).filter fun q=>mo.eC ls p ls.length (bc (U4 mo.procs p).ak q).au).map fun q=>mo.can st p (U4 mo.procs p) (bc (U4 mo.procs p).ak q)
def Mo.hdB (mo:Mo) (st:V0) (ls:List Mv) (k0 p:Nat):Bool:=(mo.fC ls k0 p ls.length).any id&&(mo.mgL st ls p (U4 mo.procs p).ak.length).any id
def Mo.cS (mo:Mo) (st:V0) (ls:List Mv) (k0 n b:Nat):Bool:=a0w (fun p=>V7 ((p:Int)+1) b&&mo.hdB st ls k0 p) n
variable {mo:Mo} {ls:List Mv} {k0 p i:Nat} {st:V0}
theorem c0A:mo.fC ls k0 p (i+1)=mo.fC ls k0 p i++if mo.isK ls p i then [decide (i=k0)] else []:=by
 unfold Mo.fC;rw [List.range_succ,List.filter_append,List.map_append];congr 1
 simp only [List.filter_cons,List.filter_nil];split<;>rfl
theorem b6J:(mo.fC ls k0 p i).length<=i:=by
 unfold Mo.fC;rw [List.length_map];exact Nat.le_trans (List.length_filter_le _ _) (by simp)
theorem c2I {t:Nat}:mo.eC ls p (i+1) t=(mo.eC ls p i t||(mo.isK ls p i&&decide ((bc (U4 mo.procs p).ak (Z9 ls i).bn).to=t))):=by
 unfold Mo.eC;rw [List.range_succ,List.any_append];simp
theorem c0E {j:Nat}:mo.mgL st ls p (j+1)=mo.mgL st ls p j++if mo.eC ls p ls.length (bc (U4 mo.procs p).ak j).au then [mo.can st p (U4 mo.procs p) (bc (U4 mo.procs p).ak j)] else []:=by
 unfold Mo.mgL;rw [List.range_succ,List.filter_append,List.map_append];congr 1
 simp only [List.filter_cons,List.filter_nil];split<;>rfl
theorem b6q {j:Nat}:(mo.mgL st ls p j).length<=j:=by
 unfold Mo.mgL;rw [List.length_map];exact Nat.le_trans (List.length_filter_le _ _) (by simp)
structure GBv (s0 s:k4) (d:D) (l:List Bool) (vb:Nat) (cs:List D):Prop where
 g:bD s0 s d l
 v:s.get vb=some (.cells cs)
 n:s0.next<=vb
 ne:∀id n z,d=.arr id 0 n z->id≠vb
theorem GBv.fr {s0 s s':k4} {d:D} {l:List Bool} {vb:Nat} {cs:List D} (h:GBv s0 s d l vb cs) (f:Fr [] s s'):GBv s0 s' d l vb cs:=⟨h.g.fr f,f.kp h.v,h.n,h.ne⟩
theorem GBv.set {s0 s:k4} {d:D} {l:List Bool} {vb:Nat} {cs:List D} (h:GBv s0 s d l vb cs) (rK:List D):GBv s0 (s.set vb (some (.cells rK))) d l vb rK:=by
 refine ⟨⟨h.g.1.st h.n _,?_⟩,a0d (u7 h.v),h.n,h.ne⟩;rcases h.g.2 with h2 | ⟨id,h1,h2,h3⟩
 ·exact .inl h2
 ·exact .inr ⟨id,h1,h2,by rw [Z7 (h.ne id _ _ h1)];exact h3⟩
theorem bm_gbv {fs:FuncId->Option U3} {t rest env K} {s0 s:k4} {d:D} {l:List Bool} {b:Bool} {vb:Nat} {cs:List D} (h:GBv s0 s d l vb cs) (hl:l.length<=1000000) (k:∀d' s',GBv s0 s' d' (l++[b]) vb cs->(∀x o,s.get x=some o->(∀id n z,d=.arr id 0 n z->id≠x)->s'.get x=some o)->XQ fs [] rest ((t,d')::env) s' K):BM (Z6 1 8 d (.arr s.next 0 1 1) (s.push (.cells [.int .i64 (V4 b)]))) fs t rest env K:=by
 obtain ⟨⟨h1,h2⟩,hv,hn,iw⟩:=h;have g0:(s.push (.cells [.int .i64 (V4 b)])).get s.next=some (.cells [.int .i64 (V4 b)]):=W2 rfl;have iL:(s.push (.cells [.int .i64 (V4 b)])).next=s.next+1:=by simp
 have fr:Fr [] s (s.push (.cells [.int .i64 (V4 b)])):=Fr.push _;have n0:=h1.1;have lv:=u7 hv;rcases h2 with ⟨rfl,rfl⟩ | ⟨id,rfl,hi,hg⟩
 ·have e:Z6 1 8 .ag (.arr s.next 0 1 1) (s.push (.cells [.int .i64 (V4 b)]))=some (.arr (s.next+1) 0 1 1,(s.push (.cells [.int .i64 (V4 b)])).push (.cells [.int .i64 (V4 b)])):=by
   unfold Z6;simp only [a1h,g0,a3i,a1O,iL];rfl
  rw [e];refine k _ _ ⟨⟨h1.trans (fr.aj _) (by simp),.inr ⟨s.next+1,rfl,by omega,W2 (by simp)⟩⟩,?_,hn,fun id n z he=>?_⟩ fun x o hx _=>(fr.aj _).kp hx
  ·exact (fr.aj _).kp hv
  ·cases he;omega
 ·have g1:(s.push (.cells [.int .i64 (V4 b)])).get id=some (.cells (U1 l)):=by rw [a0l (u7 hg)];exact hg
  have e:Z6 1 8 (.arr id 0 l.length 1) (.arr s.next 0 1 1) (s.push (.cells [.int .i64 (V4 b)]))=some (.arr (s.next+1) 0 (l.length+1) 1,((s.push (.cells [.int .i64 (V4 b)])).set id none).push (.cells (U1 (l++[b])))):=by
   unfold Z6;simp only [a1h,g0,g1,a3i,a1O,iL,a4I,Nat.zero_add,Nat.mul_one,List.drop_zero,and_self,if_true];have c:(l.length+1)*8<=2 ^ 45/\l.length+1<=2 ^ 45:=⟨by omega,by omega⟩
   have e1:(if 1<=[D.int .i64 (V4 b)].length then some (List.take 1 [D.int .i64 (V4 b)]) else none)=some [D.int .i64 (V4 b)]:=rfl;rw [e1];have e2:(1==1&&decide (8<=2 ^ 20))=true:=by decide
   simp only [e2,if_true,if_neg (show ¬ (1=0) by decide),if_pos c,a7V];rfl
  rw [e];refine k _ _ ⟨⟨(((h1.trans fr (by simp)).st hi none).aj _),.inr ⟨s.next+1,by simp,by omega,W2 (by simp)⟩⟩,?_,hn,fun id n z he=>?_⟩ fun x o hx hne'=>by
   have lx:=u7 hx;rw [a0l (by simp;omega),Z7 (hne' _ _ _ rfl).symm,a0l lx];exact hx
  ·rw [a0l (by simp;omega),Z7 (iw id _ _ rfl).symm,a0l lv]
   exact hv
  ·cases he;omega
theorem bD.lt {s0 s:k4} {d:D} {l:List Bool} (h:bD s0 s d l):∀id n z,d=.arr id 0 n z->id<s.next:=by
 rintro id n z rfl;rcases h.2 with ⟨h,_⟩ | ⟨iA,h,_,hg⟩
 ·cases h
 ·cases h;exact u7 hg
theorem cf.init1 {s:k4} {z:Nat->Nat->Nat}:cf 1 z s (s.push (.cells ((List.range 3).map fun _=>D.ag))) (fun _=>s.next) (fun _=>3) (fun _ _=>.ag) (fun _ _=>[]) (fun _ _=>[]) [] 0:=by
 refine ⟨Fr.push _,fun _ _=>Nat.le_refl _,fun k l hk hl iw=>absurd (by omega) iw,fun k hk=>W2 rfl,fun _ _=>.inl ⟨rfl,rfl,rfl⟩,by simp,fun _ _=>by simp [Y2],by simp,by simp,by simp [Y2],by simp,by simp⟩
end
end Go.V
namespace Go.Proofs.YtigbmclkjknnjaaGreat
open Go.V
section
variable {s:k4} {g v:Nat} {m:X6} {mo:Mo} {ps:List (Pr×X0)} {st:V0} {x:fB}
theorem c0S (hm:Z0 m mo ps) (ho:Z8 mo) (iF:a0J mo) (h8:eM st) (gT:a5t mo st) (hg:GB s g) (hv:Ve s v g m mo st x) {d:D} {ls:List Mv} (hl:FL 4 d (a15 ls)) (jL:∀v∈ls,a7m mo v) (kO:ls.length<=20000) {pb k0:Nat} (gp:s.get pb=some (.cells (U1 (U0 (fun i=>decide (i=k0)) ls.length)))) :
 CV U8 89 [.ptr v 0,d,.arr pb 0 ls.length 1] s (mo.cS st ls k0 mo.procs.length) 3:=by
 have gv:=hv.get;have lv:=u7 gv;have lp:=u7 gp;have oo:=hv.az;have om:=hm.az;have ou:=hm.eo;have mj:=ho.np;have od:=hl.one;have eJ:a0C false d=some (.int .i64 (ls.length:Int)):=by rw [hl.len];simp
 have qO:=hm.p;obtain ⟨n3,wS⟩:∃n3:Nat,n3=3:=⟨_,rfl⟩
 have z1:=b3K 3;have m1:((24:Nat):Int)*3<=2 ^ 47:=by decide
 have Az:(72:Int)<=2 ^ 47:=by decide
 have n1:(3:Int)<2 ^ 62:=by decide
 have mY:=cf.init1 (s:=s) (z:=fun _ _=>1);have mY:cf 1 (fun _ _=>1) s (s.push (.cells ((List.range n3).map fun _=>D.ag))) (fun _=>s.next) (fun _=>n3) (fun _ _=>.ag) (fun _ _=>[]) (fun _ _=>[]) [] 0:=by subst wS;exact mY
 have z1:a2Q [.ag] 3=(List.range n3).map fun _=>D.ag:=by subst wS;exact z1
 unfold CV;refine X4 (vf:=vf89) rfl ?_;unfold vf89;refine zF ?_;refine zY (U5 gv om oo od ou z1 m1 (aN Az n1)) ?_;generalize s.push (.cells ((List.range n3).map fun _=>D.ag))=s1 at *;clear z1 m1 Az n1;refine a1H [0,1,2,6,7,8,20,21,22,33,157,158,159,160] (fun f s'=>∃c rw E,cf 1 (fun _ _=>1) s s' (fun _=>s.next) (fun _=>n3) c rw E [] (3*mo.procs.length)/\∀j,j<3->∃l,rw 0 j=a0y (U1 l)/\l.any id=mo.cS st ls k0 mo.procs.length j) ?_ ?_
 ·refine X5 [0,1,2,6,7,8,20,21,22,33,157,158,159,160] 0 mo.procs.length (fun p f s'=>f 34=.int .i64 (p:Int)/\∃c rw E,cf 1 (fun _ _=>1) s s' (fun _=>s.next) (fun _=>n3) c rw E [] (3*p)/\∀j,j<3->∃l,rw 0 j=a0y (U1 l)/\l.any id=mo.cS st ls k0 p j) (.mk rfl) (by omega) ⟨rfl,_,_,_,mY,fun j _=>⟨[],rfl,rfl⟩⟩ ?_
  clear mY;rintro p f s2 hi ⟨h,c,rw,E,hb,qF⟩;by_cases cp:p<mo.procs.length
  rotate_left
  ·obtain rfl:p=mo.procs.length:=by omega
   refine zY (aN h cp) ?_;exact ⟨c,rw,E,hb,qF⟩
  obtain ⟨y,hy,gP⟩:=hm.proc cp;have gP:=gP .i64;rw [<- a16 cp] at hy gP;unfold U6 at gP;have oy:=hy.az;have jc:=ho.pr _ (a3w cp);have jE:=jc.pl;have jR:=jc.el;have m1:=eh (w:=(U4 mo.procs p).ah) (by omega);have m2:=dy (w:=(U4 mo.procs p).ah) (by omega);have hz:a2Q [.int .i64 0] (U4 mo.procs p).ah=U1 (U0 (mo.eC ls p 0) (U4 mo.procs p).ah):=a1D _;have ji:=hb.fr.kp gv;have nR:=u7 ji;have lU:GBv s2 ((s2.push (.cells [])).push (.cells (U1 (U0 (mo.eC ls p 0) (U4 mo.procs p).ah)))) (.arr s2.next 0 0 1) [] (s2.next+1) (U1 (U0 (mo.eC ls p 0) (U4 mo.procs p).ah)) :=
   ⟨⟨(Fr.push _).aj _,.inr ⟨s2.next,rfl,Nat.le_refl _,by rw [a0l (by simp),W2 rfl];rfl⟩⟩,W2 (by simp),by omega,fun id n z e=>by cases e;omega⟩
  refine zY (U5 h cp ji om oo gP oy (W6 m1 m2 hz od eJ)) ?_;generalize (s2.push (.cells [])).push (.cells (U1 (U0 (mo.eC ls p 0) (U4 mo.procs p).ah)))=s3 at *;clear m1 m2 hz;refine a1H [0,1,2,6,7,8,9,11,15,17,18,19,20,21,22,33,34,35,48,49,93,102,103,104,105,113,131,132,133,141,157,158,159,160] (fun f s'=>V1 (f 10)=true/\GBv s2 s' (f 10) (mo.fC ls k0 p ls.length) (s2.next+1) (U1 (U0 (mo.eC ls p ls.length) (U4 mo.procs p).ah))) ?_ ?_
  ·refine X5 [0,1,2,6,7,8,9,11,15,17,18,19,20,21,22,33,34,35,48,49,93,102,103,104,105,113,131,132,133,141,157,158,159,160] 0 ls.length (fun i f s'=>f 50=.int .i64 (i:Int)/\GBv s2 s' (f 10) (mo.fC ls k0 p i) (s2.next+1) (U1 (U0 (mo.eC ls p i) (U4 mo.procs p).ah))) (.mk rfl) (by omega) ⟨rfl,lU⟩ ?_
   clear lU;rintro i f' s4 iD ⟨h',h4⟩;have rU:=h4.g.one;by_cases ci:i<ls.length
   rotate_left
   ·obtain rfl:i=ls.length:=by omega
    refine zY (V5 h' ci rU) ?_;exact h4
   have jX:=jL _ (b1l ci);have kP:=b1q hl ci (k:=.i64);have pZ:=a17 (A:=fun i=>decide (i=k0)) ci;have iZ:=b6J (mo:=mo) (ls:=ls) (k0:=k0) (p:=p) (i:=i);have iy:Fr [] s s4:=hb.fr.trans h4.g.1 (by simp);have fb:∀a b,Fr [] s4 ((s4.push a).set s4.next (some b)):=fun a b=>a1x
   have je:=c0A (mo:=mo) (ls:=ls) (k0:=k0) (p:=p) (i:=i);have tA:=fun t=>c2I (mo:=mo) (ls:=ls) (p:=p) (i:=i) (t:=t)
   have hD:mo.isK ls p i=false->mo.fC ls k0 p (i+1)=mo.fC ls k0 p i/\mo.eC ls p (i+1)=mo.eC ls p i:=fun e=>⟨by rw [je,e];simp,by funext t;rw [tA,e];simp⟩
   have hK:mo.isK ls p i=(decide ((Z9 ls i).kind=0)&&(decide ((Z9 ls i).proc=p)&&(bc (U4 mo.procs p).ak (Z9 ls i).bn).aF)):=rfl;generalize qY:Z9 ls i=w at *;obtain ⟨wk,wp,we,wc⟩:=w;unfold a7m at jX;simp only at jX kP hK;rcases jX with ⟨rfl,hp,he⟩ | ⟨hk,hc⟩
   ·by_cases cw:wp=p
    ·subst cw
     have qw:=a8c (k:=.i64) hy.e he;have mf:=jc.inv.ed _ (a6h he);generalize jV:bc (U4 mo.procs wp).ak we=e at *;have f2:Fr [] s4 ((((s4.push (.cells [.int .i64 0,.int .i64 0,.int .i64 0,.int .i64 0])).set s4.next (some (.cells [.int .i64 0,.int .i64 (wp:Int),.int .i64 (we:Int),.int .i64 (wc:Int)]))).push (.cells [.int .i64 0,.int .i64 0,.int .i64 0,.int .i64 0,.int .i64 0,.int .i64 0,.bool false,.int .i64 0])).set (s4.next+1) (some (.cells [.int .i64 (e.au:Int),.int .i64 (e.to:Int),.int .i64 (e.act:Int),.int .i64 e.expr,.int .i64 e.var,.int .i64 e.chan,.bool e.aF,.int .i64 (e.node:Int)]))):=a1x.trans b67 (by simp);have nA:(((s4.push (.cells [.int .i64 0,.int .i64 0,.int .i64 0,.int .i64 0])).set s4.next (some (.cells [.int .i64 0,.int .i64 (wp:Int),.int .i64 (we:Int),.int .i64 (wc:Int)])))).get v=_:=(fb _ _).kp (iy.kp gv);have tc:=u7 (iy.kp gv);have sV:(((((s4.push (.cells [.int .i64 0,.int .i64 0,.int .i64 0,.int .i64 0])).set s4.next (some (.cells [.int .i64 0,.int .i64 (wp:Int),.int .i64 (we:Int),.int .i64 (wc:Int)]))).push (.cells [.int .i64 0,.int .i64 0,.int .i64 0,.int .i64 0,.int .i64 0,.int .i64 0,.bool false,.int .i64 0])).set (s4.next+1) (some (.cells [.int .i64 (e.au:Int),.int .i64 (e.to:Int),.int .i64 (e.act:Int),.int .i64 e.expr,.int .i64 e.var,.int .i64 e.chan,.bool e.aF,.int .i64 (e.node:Int)])))).get pb=_:=f2.kp (iy.kp gp);have gE:(((((s4.push (.cells [.int .i64 0,.int .i64 0,.int .i64 0,.int .i64 0])).set s4.next (some (.cells [.int .i64 0,.int .i64 (wp:Int),.int .i64 (we:Int),.int .i64 (wc:Int)]))).push (.cells [.int .i64 0,.int .i64 0,.int .i64 0,.int .i64 0,.int .i64 0,.int .i64 0,.bool false,.int .i64 0])).set (s4.next+1) (some (.cells [.int .i64 (e.au:Int),.int .i64 (e.to:Int),.int .i64 (e.act:Int),.int .i64 e.expr,.int .i64 e.var,.int .i64 e.chan,.bool e.aF,.int .i64 (e.node:Int)])))).get (s4.next+1)=some (.cells [.int .i64 (e.au:Int),.int .i64 (e.to:Int),.int .i64 (e.act:Int),.int .i64 e.expr,.int .i64 e.var,.int .i64 e.chan,.bool e.aF,.int .i64 (e.node:Int)]):=a0d (by simp);have h5:=h4.fr f2;cases sQ:e.aF
     ·rw [sQ] at hK
      obtain ⟨e1,e2⟩:=hD (by rw [hK];simp);rw [sQ] at qw;refine zY (U5 h' ci kP nA om oo gP (aN oy qw)) ?_;rw [e1,e2];rw [sQ] at h5;exact h5
     ·rw [sQ] at qw hK gE sV h5
      have uP:mo.isK ls wp i=true:=by rw [hK];simp
      rw [uP,if_pos rfl] at je;refine zY (U5 h' ci kP nA om oo gP (W6 oy qw rU sV pZ)) ?_;refine bm_gbv h5 (by omega) fun d6 s6 h6 hkp6=>?_
      have rH:=hkp6 _ _ gE fun id n z e=>by have:=h4.g.lt id n z e;omega
      have o6:=h6.g.one;have g6:=h6.v;have l6:=u7 g6;have hw:=a6d (A:=mo.eC ls wp i) mf.to;have het:=mf.to;have hs:=a5K (A:=mo.eC ls wp i) (B:=mo.eC ls wp (i+1)) (i:=e.to) (b:=true) mf.to fun j _=>by
       rw [tA,uP];by_cases q:j=e.to
       ·rw [if_pos q,q];simp
       ·rw [if_neg q]
        have:¬ e.to=j:=fun h=>q h.symm
        simp [this]
      rw [a2u] at hs;refine zY (Y6 o6 rH g6 hw hs het) ?_;refine ⟨ci,?_⟩;rw [je];exact h6.set _
    ·have e62:((wp:Int) != (p:Int))=true:=by simp;omega
     obtain ⟨e1,e2⟩:=hD (by rw [hK];simp [cw]);refine zY (V3 h' ci kP e62) ?_;rw [e1,e2];exact h4.fr (fb _ _)
   ·obtain ⟨e1,e2⟩:=hD (by rw [hK,decide_eq_false (by omega)];rfl)
    rcases hk with rfl | rfl
    ·refine zY (V5 h' ci kP) ?_
     rw [e1,e2];exact h4.fr (fb _ _)
    ·refine zY (V5 h' ci kP) ?_
     rw [e1,e2];exact h4.fr (fb _ _)
  clear lU;rintro f' s4 ⟨rU,h4⟩;have lk:=h4.g.vb.len;have iZ:=b6J (mo:=mo) (ls:=ls) (k0:=k0) (p:=p) (i:=ls.length);have th:∀j,mo.cS st ls k0 (p+1) j=(mo.cS st ls k0 p j||(V7 ((p:Int)+1) j&&mo.hdB st ls k0 p)):=fun j=>rfl
  have jB:=hb.dT h4.g.1;by_cases ce:(mo.fC ls k0 p ls.length).length=0
  ·have e0:(((mo.fC ls k0 p ls.length).length:Int)==0)=true:=by simp [ce]
   refine zY (V3 rU lk e0 h) ?_;refine ⟨cp,c,rw,E,jB.up (by omega),fun j hj=>?_⟩;obtain ⟨l,e1,e2⟩:=qF j hj;have:mo.hdB st ls k0 p=false:=by unfold Mo.hdB;rw [List.eq_nil_of_length_eq_zero ce];rfl
   exact ⟨l,e1,by rw [e2,th,this];simp⟩
  have e0:(((mo.fC ls k0 p ls.length).length:Int)==0)=false:=by simp;exact fun h=>ce (by rw [h];rfl)
  have iy:=jB.fr;have lB:=iy.kp gv;have tc:=u7 lB;have hle:a0C false y.de=some (.int .i64 ((U4 mo.procs p).ak.length:Int)):=by rw [hy.e.len];simp
  refine zY (U5 rU lk e0 lB om oo gP (aN oy hle)) ?_;refine a1H [0,1,2,6,7,8,9,10,11,12,13,14,18,19,20,21,22,33,34,35,48,49,50,51,63,78,93,102,103,131,132,133,141,157,158,159,160] (fun f2 s'=>V1 (f2 15)=true/\bD s4 s' (f2 15) (mo.mgL st ls p (U4 mo.procs p).ak.length)) ?_ ?_
  ·refine X5 [0,1,2,6,7,8,9,10,11,12,13,14,18,19,20,21,22,33,34,35,48,49,50,51,63,78,93,102,103,131,132,133,141,157,158,159,160] 0 (U4 mo.procs p).ak.length (fun j f2 s'=>f2 104=.int .i64 (j:Int)/\bD s4 s' (f2 15) (mo.mgL st ls p j)) (.mk rfl) (by omega) ⟨rfl,bD.nil (Fr.refl _ _)⟩ ?_
   rintro j f2 s5 hj ⟨h2,h5⟩;have vj:=h5.one;by_cases cj:j<(U4 mo.procs p).ak.length
   rotate_left
   ·obtain rfl:j=(U4 mo.procs p).ak.length:=by omega
    refine zY (V5 h2 cj vj) ?_;exact h5
   have qw:=a8c (k:=.i64) hy.e cj;have mf:=jc.inv.ed _ (a6h cj);have ym:=c0E (mo:=mo) (st:=st) (ls:=ls) (p:=p) (j:=j);have qS:=b6q (mo:=mo) (st:=st) (ls:=ls) (p:=p) (j:=j);generalize jV:bc (U4 mo.procs p).ak j=e at *;have yS:Fr [] s5 ((s5.push (.cells [.int .i64 0,.int .i64 0,.int .i64 0,.int .i64 0,.int .i64 0,.int .i64 0,.bool false,.int .i64 0])).set s5.next (some (.cells [.int .i64 (e.au:Int),.int .i64 (e.to:Int),.int .i64 (e.act:Int),.int .i64 e.expr,.int .i64 e.var,.int .i64 e.chan,.bool e.aF,.int .i64 (e.node:Int)]))):=a1x;have gS:(((s5.push (.cells [.int .i64 0,.int .i64 0,.int .i64 0,.int .i64 0,.int .i64 0,.int .i64 0,.bool false,.int .i64 0])).set s5.next (some (.cells [.int .i64 (e.au:Int),.int .i64 (e.to:Int),.int .i64 (e.act:Int),.int .i64 e.expr,.int .i64 e.var,.int .i64 e.chan,.bool e.aF,.int .i64 (e.node:Int)])))).get (s2.next+1)=_:=yS.kp (h5.1.kp h4.v);have gE:(((s5.push (.cells [.int .i64 0,.int .i64 0,.int .i64 0,.int .i64 0,.int .i64 0,.int .i64 0,.bool false,.int .i64 0])).set s5.next (some (.cells [.int .i64 (e.au:Int),.int .i64 (e.to:Int),.int .i64 (e.act:Int),.int .i64 e.expr,.int .i64 e.var,.int .i64 e.chan,.bool e.aF,.int .i64 (e.node:Int)])))).get s5.next=some (.cells [.int .i64 (e.au:Int),.int .i64 (e.to:Int),.int .i64 (e.act:Int),.int .i64 e.expr,.int .i64 e.var,.int .i64 e.chan,.bool e.aF,.int .i64 (e.node:Int)]):=a0d (by simp);have AY:=mf.f;have yH:=a17 (A:=mo.eC ls p ls.length) (w:=(U4 mo.procs p).ah) (i:=e.au) mf.f;have iK:=(iy.trans h5.1 (by simp)).trans yS (by simp);have By:=h5.fr yS;cases oH:mo.eC ls p ls.length e.au
   ·rw [oH,a4j] at yH
    rw [oH,if_neg (by simp),List.append_nil] at ym;refine zY (Y6 h2 cj qw gS yH AY) ?_;rw [ym];exact By
   ·rw [oH,a2u] at yH
    rw [oH,if_pos rfl] at ym;refine zY (U5 h2 cj qw gS yH AY vj gE) ?_;refine xb (b6n hm ho iF h8 gT (hg.fr iK) (hv.fr iK) cp mf) fun s6 f6=>?_
    refine V6 ?_;refine a54 (By.fr f6) (by omega) fun d7 s7 h7=>?_
    have o7:=h7.one;refine zY o7 ?_;refine ⟨cj,?_⟩;rw [ym];exact h7
  rintro f2 s5 ⟨vj,h5⟩;have iK:=iy.trans h5.1 (by simp);have qS:=b6q (mo:=mo) (st:=st) (ls:=ls) (p:=p) (j:=(U4 mo.procs p).ak.length);refine zY (aN rU vj) ?_;refine xb (a7u (hg.fr iK) (h4.g.vb.fr h5.1) (by omega)) fun s6 f6=>?_
  have iO:=iK.trans f6 (by simp);refine V6 ?_;refine xb (a7u (hg.fr iO) (h5.vb.fr f6) (by omega)) fun s7 f7=>?_
  have ko:=iO.trans f7 (by simp);refine V6 ?_;refine xb (a08 (hg.fr ko) _ _) fun s8 f8=>?_
  have og:=(((jB.dT h5.1).dT f6).dT f7).dT f8;rw [show ((mo.fC ls k0 p ls.length).any id&&(mo.mgL st ls p (U4 mo.procs p).ak.length).any id)=mo.hdB st ls k0 p from rfl];generalize mo.hdB st ls k0 p=B at *;refine V6 ?_;refine X5 [0,1,2,6,7,8,9,10,11,12,13,14,15,17,18,20,21,22,33,34,35,48,49,50,51,63,78,93,102,103,104,105,113,131,157,158,159,160] 0 3 (fun j f3 s'=>f3 132=.int .i64 (j:Int)/\∃c rw E,cf 1 (fun _ _=>1) s s' (fun _=>s.next) (fun _=>n3) c rw E [] (3*p+j)/\∀b,b<3->∃l,rw 0 b=a0y (U1 l)/\l.any id=if b<j then mo.cS st ls k0 (p+1) b else mo.cS st ls k0 p b) (.mk rfl) (by omega) ⟨rfl,c,rw,E,og,fun j hj=>by simpa using qF j hj⟩ ?_;clear og jB hb h4 h5 qF;rintro j f3 s9 hj ⟨h3,c,rw,E,hb,qF⟩;by_cases cj:j<3
  rotate_left
  ·obtain rfl:j=3:=by omega
   have sK:(((3:Nat):Int)<3)=False:=by simp
   refine zY (V5 h3 sK h) ?_;refine ⟨cp,c,rw,E,hb.up (by omega),fun b mz=>?_⟩;obtain ⟨l,e1,e2⟩:=qF b mz;exact ⟨l,e1,by rw [e2,if_pos mz]⟩
  have sK:((j:Int)<3)=True:=by simp;omega
  have hu:=a8j (i:=j) (by omega);have jS:=a60 (x:=((p+1:Nat):Int)) (i:=j) (by omega);have ha:=a6Z (x:=((p+1:Nat):Int) / 2 ^ j);rw [a73] at ha;have ep:((p+1:Nat):Int)=(p:Int)+1:=by omega
  have jm:=th j;rw [<- ep] at jm;have tk:∀b,b<3->b≠j->(if b<j+1 then mo.cS st ls k0 (p+1) b else mo.cS st ls k0 p b)=if b<j then mo.cS st ls k0 (p+1) b else mo.cS st ls k0 p b:=fun b _ hn=>by
   by_cases q:b<j
   ·rw [if_pos q,if_pos (by omega)]
   ·rw [if_neg q,if_neg (by omega)]
  cases rQ:V7 ((p+1:Nat):Int) j
  ·rw [rQ,a4j] at ha
   rw [rQ,Bool.false_and,Bool.or_false] at jm;refine zY (W6 h3 sK hu jS ha) ?_;refine ⟨cj,c,rw,E,hb.up (by omega),fun b mz=>?_⟩;obtain ⟨l,e1,e2⟩:=qF b mz;refine ⟨l,e1,?_⟩;rw [e2];by_cases q:b=j
   ·subst q
    rw [if_neg (by omega),if_pos (by omega),jm]
   ·rw [tk b mz q]
  ·rw [rQ,a2u] at ha
   rw [rQ,Bool.true_and] at jm;have ga:=hb.ar 0 (by decide);have la:=u7 ga;have qV:((List.range n3).map (c 0))[j]?=some (c 0 j):=a7Y (by omega);have lD:=hb.one 0 j;refine zY (U5 h3 sK hu jS ha ga qV lD) ?_;refine b2x (k:=0) (j:=j) hb (by decide) (by show j<n3;omega) rfl rfl (by decide) (by omega) fun lG d10 E10 od10 qX hfr10 hb10=>?_
   have qX:lG.get s.next=some (.cells ((List.range n3).map (c 0))):=qX;have la10:=u7 qX;have nZ:j<((List.range n3).map (c 0)).length:=by simp;omega
   have hs:=a6H (f:=c) (k:=0) (j:=j) (n:=n3) (x:=d10) (by omega);refine zY (V3 od10 qX nZ hs) ?_;refine ⟨cj,_,_,_,hb10.up (by omega),fun b mz=>?_⟩;obtain ⟨l,e1,e2⟩:=qF b mz;by_cases q:b=j
   ·subst q
    refine ⟨l++[B],?_,?_⟩
    ·rw [a4L,e1]
     simp [a0y,a7V,U1]
    ·rw [if_pos (by omega),jm,List.any_append,e2,if_neg (by omega)]
     simp
   ·rw [tk b mz q]
    exact ⟨l,by rw [a26 fun h=>q h.2];exact e1,e2⟩
 rintro f s2 ⟨c,rw,E,hb,qF⟩;have m1:(24:Int)<=2 ^ 47:=by decide
 have m2:(3:Int)<2 ^ 62:=by decide
 have hz:=a1D 3;rw [a2G (mo.cS st ls k0 mo.procs.length)] at hz;obtain ⟨gb,f0⟩:=fR (s:=s2) (A:=mo.cS st ls k0 mo.procs.length) (w:=3);refine zY (V5 m1 m2 hz) ?_;generalize s2.push (.cells (U1 (U0 (W8 (mo.cS st ls k0 mo.procs.length) 0) 3)))=s3 at *;generalize mo.cS st ls k0 mo.procs.length=A at *;refine X5 [0,1,2,6,7,8,9,10,11,12,13,14,15,17,18,19,20,33,34,35,48,49,50,51,63,78,93,102,103,104,105,113,131,132,133,141,157,158] 0 3 (fun j f3 s'=>f3 159=.int .i64 (j:Int)/\s'.get s2.next=some (.cells (U1 (U0 (W8 A j) 3)))/\Fr [] s2 s') (.mk rfl) (by omega) ⟨rfl,gb,f0⟩ ?_;clear gb f0 hz;rintro j f3 s4 hj ⟨h3,gb,f4⟩;by_cases cj:j<3
 rotate_left
 ·obtain rfl:j=3:=by omega
  have sK:(((3:Nat):Int)<3)=False:=by simp
  rw [a2z] at gb;refine zY (aN h3 sK) ?_;exact ⟨_,rfl,hb.fr.1,gb,hb.fr.trans f4 (by simp)⟩
 have sK:((j:Int)<3)=True:=by simp;omega
 have ga:=(hb.dT f4).ar 0 (by decide);have qV:((List.range n3).map (c 0))[j]?=some (c 0 j):=a7Y (by omega);have lD:=hb.one 0 j;obtain ⟨l,e1,e2⟩:=qF j cj;have nu:=hb.rp 0 j;have hlen:=hb.ln 0 j;rw [e1] at nu hlen;rw [a9U,a4I] at hlen;have oW:VB s4 (c 0 j) l:=(nu.rr (R:=E 0 j) fun e he=>he).vb ((hb.he 0 j).fr f4);have iy:=hb.fr.trans f4 (by simp);refine zY (W6 h3 sK ga qV lD) ?_;refine xb (a7u (hg.fr iy) oW (by omega)) fun s5 f5=>?_
 have qA:=f5.kp gb;have Cd:=u7 qA;have kc:=a39 (A:=A) (b:=l.any id) cj e2.symm;have qy:=a2p (A:=A) cj;refine zY (V5 qA kc qy) ?_;exact ⟨cj,(f4.trans f5 (by simp)).st (Nat.le_refl _) _⟩
end
end Go.Proofs.YtigbmclkjknnjaaGreat
namespace Go.V
section
def Mo.gH (mo:Mo) (st:V0) (res:Rs) (i:Nat):List Bool:=(res 0 i).getD (mo.bP st i)
def Mo.fT (mo:Mo) (st:V0) (res:Rs) (i:Nat):List Bool:=(res 1 i).getD (mo.bQ st i)
def gI (room:Int) (more less:Bool) (n:Nat):List Bool:=[V7 (n:Int) 0 != (more||less),if 1<room then V7 (n:Int) 1 != ((more&&V7 (n:Int) 0)||(less&&!V7 (n:Int) 0)) else V7 (n:Int) 1]
def Mo.msN (mo:Mo) (st:V0) (c i:Nat):List Bool:=if i+1<(U7 mo.af c).room.toNat then mo.bU st c (i+1) else U0 (fun _=>false) (U7 mo.af c).width.toNat
def Mo.mvM (mo:Mo) (st:V0) (more less:Bool) (w:List Bool) (c i:Nat):List Bool:=U0 (fun j=>(if less then aB (mo.msN st c i) j else aB (mo.bU st c i) j)||((more&&decide ((V8 st.af c).length=i))&&aB w j)) (U7 mo.af c).width.toNat
def Mo.nxW (mo:Mo) (res:Rs) (c:Nat):List Bool:=(res 2 (c*2)).getD (U0 (fun _=>false) (U7 mo.af c).width.toNat)
def Mo.fD (mo:Mo) (st:V0) (res:Rs) (c:Nat):List Bool:=gI (U7 mo.af c).room (res 2 (c*2)).isSome (res 2 (c*2+1)).isSome (V8 st.af c).length
def Mo.nxM (mo:Mo) (st:V0) (res:Rs) (c i:Nat):List Bool:=mo.mvM st (res 2 (c*2)).isSome (res 2 (c*2+1)).isSome (mo.nxW res c) c i
def Mo.nxL (mo:Mo) (st:V0) (res:Rs) (c:Nat):List (List Bool):=(List.range (U7 mo.af c).room.toNat).map (mo.nxM st res c)
structure a3L (mo:Mo) (res:Rs):Prop where
 a:∀i l,i<mo.procs.length->res 0 i=some l->l.length=Z1 ((U4 mo.procs i).ah:Int)
 v:∀i l,i<mo.vars.length->res 1 i=some l->l.length=(cd mo.vars i).width.toNat
 w:∀c l,c<mo.af.length->res 2 (c*2)=some l->l.length=(U7 mo.af c).width.toNat
variable {mo:Mo} {st:V0} {res:Rs}
theorem a3L.no:a3L mo bS:=⟨by simp [bS],by simp [bS],by simp [bS]⟩
theorem b5e (h:a3L mo res) {i:Nat} (hi:i<mo.procs.length):(mo.gH st res i).length=Z1 ((U4 mo.procs i).ah:Int):=by
 unfold Mo.gH;cases e:res 0 i with
 | none=>simp [Mo.bP]
 | some l=>simpa using h.a i l hi e
theorem b6l (h:a3L mo res) {i:Nat} (hi:i<mo.vars.length):(mo.fT st res i).length=(cd mo.vars i).width.toNat:=by
 unfold Mo.fT;cases e:res 1 i with
 | none=>simp [Mo.bQ]
 | some l=>simpa using h.v i l hi e
theorem a0E {α:Type} {f:Nat->Nat->α} {k j k' j':Nat} {x:α}:W5 f k j x k' j'=if k'=k/\j'=j then x else f k' j':=rfl
theorem c2f {v:Mv} (h:mo.bV st v res):a3L mo res:=by
 unfold Mo.bV at h;split at h
 ·subst h
  refine ⟨?_,?_,?_⟩<;>intro i l hi e<;>rw [a0E] at e<;>split at e<;>first|cases e|skip
  ·omega
  ·omega
  ·omega
 split at h
 ·subst h
  refine ⟨?_,?_,?_⟩<;>intro i l hi e<;>rw [a0E] at e<;>split at e<;>first|cases e|skip
  ·omega
  ·omega
  ·have:v.chan=i:=by omega
   subst this;simp [Mo.bU]
 ·simp only at h
  have key:∀ {r:Rs},a3L mo r->a3L mo (W5 r 0 v.proc (some (bL ((bc (U4 mo.procs v.proc).ak v.bn).to:Int) (Z1 ((U4 mo.procs v.proc).ah:Int))))):=fun {r} h=>by
   refine ⟨fun i l hi e=>?_,fun i l hi e=>?_,fun i l hi e=>?_⟩<;>rw [a0E] at e<;>split at e
   ·rename_i q;cases e;rw [q.2];simp
   ·exact h.a i l hi e
   ·omega
   ·exact h.v i l hi e
   ·omega
   ·exact h.w i l hi e
  have wT:∀ {r:Rs} {u:Nat} {z:Int},a3L mo r->a3L mo (W5 r 1 u (some (bL z (cd mo.vars u).width.toNat))):=fun {r u z} h=>by
   refine ⟨fun i l hi e=>?_,fun i l hi e=>?_,fun i l hi e=>?_⟩<;>rw [a0E] at e<;>split at e
   ·omega
   ·exact h.a i l hi e
   ·rename_i q;cases e;rw [q.2];simp
   ·exact h.v i l hi e
   ·omega
   ·exact h.w i l hi e
  have keyC:∀ {r:Rs} {u:Nat} {z:Int},a3L mo r->a3L mo (W5 r 2 (u*2) (some (bL z (U7 mo.af u).width.toNat))):=fun {r u z} h=>by
   refine ⟨fun i l hi e=>?_,fun i l hi e=>?_,fun i l hi e=>?_⟩<;>rw [a0E] at e<;>split at e
   ·omega
   ·exact h.a i l hi e
   ·omega
   ·exact h.v i l hi e
   ·rename_i q;cases e;have:i=u:=by omega
    rw [this];simp
   ·exact h.w i l hi e
  have keyG:∀ {r:Rs} {u:Nat},a3L mo r->a3L mo (W5 r 2 (u*2+1) (some [])):=fun {r u} h=>by
   refine ⟨fun i l hi e=>?_,fun i l hi e=>?_,fun i l hi e=>?_⟩<;>rw [a0E] at e<;>split at e
   ·omega
   ·exact h.a i l hi e
   ·omega
   ·exact h.v i l hi e
   ·omega
   ·exact h.w i l hi e
  split at h
  ·obtain ⟨n,_,_,rfl⟩:=h
   exact wT (key .no)
  split at h
  ·obtain ⟨n,_,_,rfl⟩:=h
   exact keyC (key .no)
  split at h
  ·subst h
   exact keyG (wT (key .no))
  ·subst h
   exact key .no
theorem b8Y {room:Int} {more less:Bool} {n:Nat}:(gI room more less n).length=2:=rfl
def Mo.fU (mo:Mo) (st:V0) (res:Rs):V0 :=
 ⟨(List.range mo.procs.length).map fun i=>num (aB (mo.gH st res i)) (Z1 ((U4 mo.procs i).ah:Int)),(List.range mo.vars.length).map fun i=>Y7 (aB (mo.fT st res i)) (cd mo.vars i).width.toNat,(List.range mo.af.length).map fun i=>List.replicate (num (aB (mo.fD st res i)) 2) 0,-1⟩
theorem b9i {i:Nat} (hi:i<mo.procs.length):bq (mo.fU st res).aI i=num (aB (mo.gH st res i)) (Z1 ((U4 mo.procs i).ah:Int)):=by simp [Mo.fU,bq,List.getD,hi]
theorem b7T {i:Nat} (hi:i<mo.vars.length):Y8 (mo.fU st res).vars i=Y7 (aB (mo.fT st res i)) (cd mo.vars i).width.toNat:=by simp [Mo.fU,Y8,List.getD,hi]
theorem b9r {i:Nat} (hi:i<mo.af.length):V8 (mo.fU st res).af i=List.replicate (num (aB (mo.fD st res i)) 2) 0:=by simp [Mo.fU,V8,List.getD,hi]
theorem nxS_ok (hf:a0J mo) (h:a3L mo res):a5t mo (mo.fU st res)/\eM (mo.fU st res)/\(∀i,i<mo.procs.length->mo.bP (mo.fU st res) i=mo.gH st res i)/\(∀i,i<mo.vars.length->mo.bQ (mo.fU st res) i=mo.fT st res i)/\∀i,i<mo.af.length->Mo.bY (mo.fU st res) i=mo.fD st res i:=by
 have oU:∀i,num (aB (mo.fD st res i)) 2<=3:=fun i=>by have:=a1K (aB (mo.fD st res i)) 2;omega
 have hw:∀i,i<mo.vars.length->0<(cd mo.vars i).width.toNat/\(cd mo.vars i).width.toNat<=8:=fun i hi=>by have:=hf.vr _ (a5V hi);omega
 refine ⟨⟨by simp [Mo.fU],by simp [Mo.fU],by simp [Mo.fU],fun i hi=>?_,fun i h1 h2=>?_,fun i hi=>?_⟩,⟨fun n hn=>?_,fun l hl=>?_⟩,fun i hi=>?_,fun i hi=>?_,fun i hi=>?_⟩
 ·rw [b9i hi];exact a1K _ _
 ·have e:=b7T (st:=st) (res:=res) h2
  rw [a3D h1,a3q h2] at e;rw [e];have:=(hw i h2).1;rw [a3q h2] at this;exact b0R this
 ·rw [b9r hi,List.length_replicate]
  exact oU i
 ·obtain ⟨i,hi,rfl⟩:=List.mem_map.1 hn
  have hi:=List.mem_range.1 hi;rw [a9O (hw i hi).1];exact b2w (hw i hi).1 (hw i hi).2
 ·obtain ⟨i,hi,rfl⟩:=List.mem_map.1 hl
  refine ⟨by rw [List.length_replicate];exact oU i,fun n hn=>?_⟩;rw [List.eq_of_mem_replicate hn];exact I8.zero
 ·unfold Mo.bP
  rw [b9i hi,a9K (by rw [b5e h hi];exact Nat.le_refl _),List.take_of_length_le (by rw [b5e h hi];exact Nat.le_refl _)]
 ·unfold Mo.bQ
  rw [b7T hi,b2j (hw i hi).1 (by rw [b6l h hi];exact Nat.le_refl _),List.take_of_length_le (by rw [b6l h hi];exact Nat.le_refl _)]
 ·unfold Mo.bY
  rw [b9r hi,List.length_replicate,a9K (by unfold Mo.fD;rw [b8Y];exact Nat.le_refl _),List.take_of_length_le (by unfold Mo.fD;rw [b8Y];exact Nat.le_refl _)]
end
section
variable {mo:Mo} {st iE:V0} {res:Rs}
theorem b53 {room:Int} {n:Nat}:gI room false false n=bL (n:Int) 2:=by
 unfold gI;simp [bL,List.range_succ]
theorem c5j {room:Int} {n:Nat} (h:(n:Int)<room) (hr:room<=3):gI room true false n=bL ((n+1:Nat):Int) 2:=by
 have e:(n=0/\room=1)∨(n=0/\room=2)∨(n=0/\room=3)∨(n=1/\room=2)∨(n=1/\room=3)∨(n=2/\room=3):=by omega
 rcases e with ⟨rfl,rfl⟩ | ⟨rfl,rfl⟩ | ⟨rfl,rfl⟩ | ⟨rfl,rfl⟩ | ⟨rfl,rfl⟩ | ⟨rfl,rfl⟩<;>decide
theorem c1G {room:Int} {n:Nat} (h0:0<n) (h:(n:Int)<=room) (hr:room<=3):gI room false true n=bL ((n-1:Nat):Int) 2:=by
 have e:(n=1/\room=1)∨(n=1/\room=2)∨(n=1/\room=3)∨(n=2/\room=2)∨(n=2/\room=3)∨(n=3/\room=3):=by omega
 rcases e with ⟨rfl,rfl⟩ | ⟨rfl,rfl⟩ | ⟨rfl,rfl⟩ | ⟨rfl,rfl⟩ | ⟨rfl,rfl⟩ | ⟨rfl,rfl⟩<;>decide
theorem c4t {w:Nat}:bL 0 w=U0 (fun _=>false) w:=by
 unfold bL U0;refine List.map_congr_left fun i _=>?_
 simp [V7]
theorem a9i {n:Int} {w:Nat}:U0 (fun j=>aB (bL n w) j) w=bL n w:=by
 have:=a3l (bL n w);rwa [a0Q] at this
theorem c5h {l:List Int} {x:Int} {i:Nat}:Y8 (l++[x]) i=if i=l.length then x else Y8 l i:=by
 unfold Y8;simp only [List.getD];split
 ·rename_i h;subst h;simp
 ·by_cases c:i<l.length
  ·rw [List.getElem?_append_left c]
  ·rw [List.getElem?_eq_none (by simp;omega),List.getElem?_eq_none (by omega)]
theorem c0o {l:List Int} {i:Nat}:Y8 (l.drop 1) i=Y8 l (i+1):=by
 unfold Y8;simp only [List.getD,List.getElem?_drop];rw [Nat.add_comm]
def ChC (mo:Mo) (st:V0) (res:Rs) (iE:V0) (c:Nat):Prop :=
 (res 2 (c*2)=none/\res 2 (c*2+1)=none/\V8 iE.af c=V8 st.af c) ∨
 (∃z z',res 2 (c*2)=some (bL z (U7 mo.af c).width.toNat)/\res 2 (c*2+1)=none/\V8 iE.af c=V8 st.af c++[z']/\bL z' (U7 mo.af c).width.toNat=bL z (U7 mo.af c).width.toNat/\((V8 st.af c).length:Int)<(U7 mo.af c).room) ∨
 (∃l,res 2 (c*2)=none/\res 2 (c*2+1)=some l/\V8 iE.af c=(V8 st.af c).drop 1/\0<(V8 st.af c).length)
theorem b9l (hf:a0J mo) (gT:Fit mo st) {c:Nat} (hc:c<mo.af.length) (h:ChC mo st res iE c):mo.fD st res c=Mo.bY iE c/\∀i,i<(U7 mo.af c).room.toNat->mo.nxM st res c i=mo.bU iE c i:=by
 have lu:=hf.ch _ (a41 hc);have hlen:=(a59.2 gT).cl c hc;unfold Mo.fD Mo.nxM Mo.nxW Mo.mvM Mo.bY Mo.bU;rcases h with ⟨h1,h2,h3⟩ | ⟨z,z',h1,h2,h3,h4,h5⟩ | ⟨l,h1,h2,h3,h4⟩
 ·rw [h1,h2,h3]
  refine ⟨b53,fun i hi=>?_⟩;simp only [Option.isSome_none,Bool.false_and,Bool.or_false,Bool.false_eq_true,if_false];exact a9i
 ·rw [h1,h2,h3]
  refine ⟨?_,fun i hi=>?_⟩
  ·rw [List.length_append]
   exact c5j h5 lu.2.1
  ·simp only [Option.isSome_none,Option.isSome_some,Option.getD_some,Bool.true_and,Bool.false_eq_true,if_false,c5h]
   by_cases q:i=(V8 st.af c).length
   ·subst q
    rw [b4r (by omega),if_pos rfl,h4];conv=>rhs;rw [<- a9i]
    refine a2s fun j hj=>?_
    rw [a9F hj];simp [V7]
   ·rw [if_neg q]
    conv=>rhs;rw [<- a9i]
    refine a2s fun j hj=>?_
    have:¬ (V8 st.af c).length=i:=fun e=>q e.symm
    simp [this]
 ·rw [h1,h2,h3]
  refine ⟨?_,fun i hi=>?_⟩
  ·rw [List.length_drop]
   exact c1G h4 hlen lu.2.1
  ·simp only [Option.isSome_none,Option.isSome_some,Bool.false_and,Bool.or_false,if_true,c0o]
   unfold Mo.msN;split
   ·exact a9i
   ·rw [b4r (by omega),c4t]
    refine a2s fun j hj=>?_
    rw [a62 hj]
theorem nx_do (ho:Z8 mo) (hf:a0J mo) (gT:Fit mo st) {v:Mv} (hv:mo.mvOk st v) (he:mo.bV st v res) :
 (∀i,i<mo.procs.length->mo.gH st res i=mo.bP (mo.eY st v) i)/\(∀i,i<mo.vars.length->mo.fT st res i=mo.bQ (mo.eY st v) i)/\∀c,c<mo.af.length->ChC mo st res (mo.eY st v) c:=by
 have oj:=a59.2 gT;unfold Mo.bV at he;rcases hv with ⟨hk,hp,mf,lV⟩ | ⟨hk,hc,hlen⟩ | ⟨hk,hc,hlen,jh⟩
 ·rw [if_neg (by omega),if_neg (by omega)] at he
  rw [b68 hk];unfold Mo.doE;rw [b6F];simp only at he ⊢;have qj:=(ho.pr _ (a3w hp)).inv.ed _ (a6h mf);have jI:=(ho.pr _ (a3w hp)).var;generalize bc (U4 mo.procs v.proc).ak v.bn=e at *;have jE:v.proc<st.aI.length:=by rw [oj.aI];exact hp
  unfold Mo.can at lV;simp only [Bool.and_eq_true,decide_eq_true_eq] at lV;obtain ⟨⟨_,hex⟩,oO⟩:=lV;have hA:∀i,i<mo.procs.length->res 0 i=(if i=v.proc then some (bL (e.to:Int) (Z1 ((U4 mo.procs v.proc).ah:Int))) else none)->mo.gH st res i=mo.bP ⟨st.aI.set v.proc e.to,bO st.vars (mo.wV (V8 st.af e.chan.toNat) e (mo.ex (U4 mo.procs v.proc) st e 0).1),bO st.af (mo.wC (V8 st.af e.chan.toNat) e (mo.ex (U4 mo.procs v.proc) st e 0).1),if e.aF&&mo.dL ⟨st.aI.set v.proc e.to,bO st.vars (mo.wV (V8 st.af e.chan.toNat) e (mo.ex (U4 mo.procs v.proc) st e 0).1),bO st.af (mo.wC (V8 st.af e.chan.toNat) e (mo.ex (U4 mo.procs v.proc) st e 0).1),-1⟩ v.proc (U4 mo.procs v.proc) then (v.proc:Int) else -1⟩ i:=by
   intro i hi h;unfold Mo.gH Mo.bP;simp only [b12 jE];rw [h];by_cases q:i=v.proc
   ·rw [if_pos q,if_pos q,q];rfl
   ·rw [if_neg q,if_neg q];rfl
  unfold Mo.wV Mo.wC at *;split at he
  ·rename_i ha
   obtain ⟨n,hn,lH,rfl⟩:=he;obtain ⟨u,tI,nN⟩:=qj.v1 (.inl ha);have hu:=jI u tI;have mZ:u<st.vars.length:=by rw [oj.vars];exact hu
   rw [nN,Int.toNat_natCast] at *;simp only [ha,if_true,show ¬ ((1:Nat)=2) by decide,show ¬ ((1:Nat)=3) by decide,if_false,bO] at hA ⊢;refine ⟨fun i hi=>hA i hi ?_,fun i hi=>?_,fun c hc=>.inl ⟨?_,?_,rfl⟩⟩
   ·simp only [a0E]
    by_cases q:i=v.proc<;>simp [q,bS]
   ·unfold Mo.fT Mo.bQ
    simp only [b3O mZ,a0E,true_and];by_cases q:i=u
    ·rw [if_pos q,if_pos q,q,a8v,lH hex];rfl
    ·rw [if_neg q,if_neg q,if_neg (by simp)];rfl
   ·simp [a0E,bS]
   ·simp [a0E,bS]
  split at he
  ·rename_i ha
   obtain ⟨n,hn,lH,rfl⟩:=he;obtain ⟨u,nN,hu⟩:=qj.c1 (.inl ha);have mZ:u<st.af.length:=by rw [oj.af];exact hu
   have yR:e.chan.toNat=u:=by rw [nN,Int.toNat_natCast]
   simp only [yR] at hA oO ⊢;simp only [ha,if_true,show ¬ ((2:Nat)=1) by decide,show ¬ ((2:Nat)=3) by decide,if_false,bO,decide_eq_true_eq] at hA oO ⊢;refine ⟨fun i hi=>hA i hi ?_,fun i hi=>?_,fun c hc=>?_⟩
   ·simp only [a0E]
    by_cases q:i=v.proc<;>simp [q,bS]
   ·unfold Mo.fT Mo.bQ
    simp [a0E,bS]
   ·by_cases q:c=u
    ·subst q
     refine .inr (.inl ⟨n,W9 n (U7 mo.af c).width.toNat,?_,?_,?_,a8v,oO⟩)
     ·simp [a0E]
     ·rw [a0E,if_neg (by omega)];simp [a0E,bS]
     ·simp only [a5X mZ,if_true,lH hex]
    ·refine .inl ⟨?_,?_,?_⟩
     ·rw [a0E,if_neg (by omega)];simp [a0E,bS]
     ·rw [a0E,if_neg (by omega)];simp [a0E,bS]
     ·simp only [a5X mZ,if_neg q]
  split at he
  ·rename_i ha
   subst he;obtain ⟨u,tI,nN⟩:=qj.v1 (.inr ha);obtain ⟨d,hd2,hd⟩:=qj.c1 (.inr ha);have hu:=jI u tI;have mZ:u<st.vars.length:=by rw [oj.vars];exact hu
   have kD:d<st.af.length:=by rw [oj.af];exact hd
   have yR:e.var.toNat=u:=by rw [nN,Int.toNat_natCast]
   have hd3:e.chan.toNat=d:=by rw [hd2,Int.toNat_natCast]
   simp only [yR,hd3] at hA oO ⊢;simp only [ha,if_true,show ¬ ((3:Nat)=1) by decide,show ¬ ((3:Nat)=2) by decide,if_false,bO,decide_eq_true_eq] at hA oO ⊢;refine ⟨fun i hi=>hA i hi ?_,fun i hi=>?_,fun c hc=>?_⟩
   ·simp only [a0E]
    by_cases q:i=v.proc<;>simp [q,bS]
   ·unfold Mo.fT Mo.bQ
    simp only [b3O mZ,a0E,true_and,show ¬ ((1:Nat)=2) by decide,false_and,if_false];by_cases q:i=u
    ·rw [if_pos q,if_pos q,q,a8v];rfl
    ·rw [if_neg q,if_neg q,if_neg (by simp)];rfl
   ·by_cases q:c=d
    ·subst q
     refine .inr (.inr ⟨[],?_,?_,?_,oO⟩)
     ·rw [a0E,if_neg (by omega)];simp [a0E,bS]
     ·simp [a0E]
     ·simp only [a5X kD,if_true]
    ·refine .inl ⟨?_,?_,?_⟩
     ·rw [a0E,if_neg (by omega)];simp [a0E,bS]
     ·rw [a0E,if_neg (by omega)];simp [a0E,bS]
     ·simp only [a5X kD,if_neg q]
  ·rename_i h1 h2 h3
   subst he;simp only [h1,h2,h3,if_false,bO] at hA ⊢;refine ⟨fun i hi=>hA i hi ?_,fun i hi=>?_,fun c hc=>.inl ⟨?_,?_,rfl⟩⟩
   ·simp only [a0E]
    by_cases q:i=v.proc<;>simp [q,bS]
   ·unfold Mo.fT Mo.bQ
    simp [a0E,bS]
   ·simp [a0E,bS]
   ·simp [a0E,bS]
 ·rw [if_pos hk] at he
  subst he;have ku:v.chan<st.af.length:=by rw [oj.af];exact hc
  unfold Mo.eY;rw [if_pos hk];refine ⟨fun i hi=>?_,fun i hi=>?_,fun c hc=>?_⟩
  ·unfold Mo.gH Mo.bP
   simp [a0E,bS]
  ·unfold Mo.fT Mo.bQ
   simp [a0E,bS]
  ·by_cases q:c=v.chan
   ·subst q
    refine .inr (.inr ⟨[],?_,?_,?_,hlen⟩)
    ·rw [a0E,if_neg (by omega)];rfl
    ·simp [a0E]
    ·simp only [a5X ku,if_true]
   ·refine .inl ⟨?_,?_,?_⟩
    ·rw [a0E,if_neg (by omega)];rfl
    ·rw [a0E,if_neg (by omega)];rfl
    ·simp only [a5X ku,if_neg q]
 ·rw [if_neg (by omega),if_pos hk] at he
  subst he;have ku:v.chan<st.af.length:=by rw [oj.af];exact hc
  unfold Mo.eY;rw [if_neg (by omega),if_pos hk];refine ⟨fun i hi=>?_,fun i hi=>?_,fun c hc=>?_⟩
  ·unfold Mo.gH Mo.bP
   simp [a0E,bS]
  ·unfold Mo.fT Mo.bQ
   simp [a0E,bS]
  ·by_cases q:c=v.chan
   ·subst q
    refine .inr (.inl ⟨Y8 (V8 st.af v.chan) 0,Y8 (V8 st.af v.chan) 0,?_,?_,?_,rfl,jh⟩)
    ·simp [a0E,Mo.bU]
    ·rw [a0E,if_neg (by omega)];rfl
    ·simp only [a5X ku,if_true]
   ·refine .inl ⟨?_,?_,?_⟩
    ·rw [a0E,if_neg (by omega)];rfl
    ·rw [a0E,if_neg (by omega)];rfl
    ·simp only [a5X ku,if_neg q]
end
section
variable {mo:Mo} {st iE:V0} {ls:List Mv} {k0:Nat}
theorem b2N {p:Nat} (hk:k0<ls.length):(mo.fC ls k0 p ls.length).any id=mo.isK ls p k0:=by
 rw [Bool.eq_iff_iff,List.any_eq_true];unfold Mo.fC;constructor
 ·rintro ⟨b,h1,h2⟩
  obtain ⟨j,h3,rfl⟩:=List.mem_map.1 h1;obtain ⟨_,h4⟩:=List.mem_filter.1 h3;have:j=k0:=by simpa using h2
  rwa [this] at h4
 ·intro h
  exact ⟨true,List.mem_map.2 ⟨k0,List.mem_filter.2 ⟨List.mem_range.2 hk,h⟩,by simp⟩,rfl⟩
theorem bit0 (b:Nat):V7 0 b=false:=by simp [V7]
theorem b6c {n b:Nat} (h:∀p,p<n->mo.hdB iE ls k0 p=false):mo.cS iE ls k0 n b=false:=by
 unfold Mo.cS;rw [Bool.eq_false_iff];intro e;obtain ⟨p,h1,h2⟩:=a5m.1 e;rw [h p h1,Bool.and_false] at h2;cases h2
theorem c05 (ho:Z8 mo) {p:Nat} (hp:p<mo.procs.length) {t:Nat} (ht:bq iE.aI p=t) (hb:mo.eC ls p ls.length t=true):(mo.mgL iE ls p (U4 mo.procs p).ak.length).any id=mo.dL iE p (U4 mo.procs p):=by
 unfold Mo.mgL Mo.dL;rw [Bool.eq_iff_iff,List.any_eq_true,List.any_eq_true];constructor
 ·rintro ⟨b,h1,h2⟩
  obtain ⟨q,h3,rfl⟩:=List.mem_map.1 h1;obtain ⟨h4,_⟩:=List.mem_filter.1 h3;exact ⟨_,a6h (List.mem_range.1 h4),h2⟩
 ·rintro ⟨e,h1,h2⟩
  obtain ⟨q,h3,rfl⟩:=List.getElem_of_mem h1;have he:bc (U4 mo.procs p).ak q=(U4 mo.procs p).ak[q]:=by simp [bc,List.getD,h3]
  refine ⟨true,List.mem_map.2 ⟨q,List.mem_filter.2 ⟨List.mem_range.2 h3,?_⟩,by rw [he,h2]⟩,rfl⟩;unfold Mo.can at h2;simp only [Bool.and_eq_true,decide_eq_true_eq] at h2;rw [he,<- h2.1.1,ht];exact hb
theorem hd_ok (ho:Z8 mo) (gT:Fit mo st) (hk:k0<ls.length) (hv:Z9 ls k0∈mo.aQ st) (b:Nat):mo.cS (mo.eY st (Z9 ls k0)) ls k0 mo.procs.length b=V7 ((mo.eY st (Z9 ls k0)).hold+1) b:=by
 have oj:=a59.2 gT;rcases b3R.1 hv with ⟨h1,_,h2,h3,h4,h5⟩ | ⟨h1,h2,h3⟩
 ·rw [b68 h1]
  unfold Mo.doE;have jc:=ho.pr _ (a3w h2);have hem:=a6h h3;have jE:(Z9 ls k0).proc<st.aI.length:=by rw [oj.aI];exact h2
  have hK:∀p,mo.isK ls p k0=(decide ((Z9 ls k0).proc=p)&&(bc (U4 mo.procs p).ak (Z9 ls k0).bn).aF):=fun p=>by
   unfold Mo.isK;simp [h1]
  generalize jV:bc (U4 mo.procs (Z9 ls k0).proc).ak (Z9 ls k0).bn=e at *;cases sQ:e.aF
  ·rw [b6c fun p hp=>by
    unfold Mo.hdB;rw [b2N hk,hK];by_cases q:(Z9 ls k0).proc=p
    ·rw [<- q,jV,sQ];simp
    ·simp [q]]
   simp only [Bool.false_and,Bool.false_eq_true,if_false];rw [show (-1:Int)+1=0 by rfl,bit0]
  ·have hB:∀p,p<mo.procs.length->∀z,mo.hdB { mo.cQ st (Z9 ls k0).proc (U4 mo.procs (Z9 ls k0).proc) e with hold:=z } ls k0 p=(decide ((Z9 ls k0).proc=p)&&mo.dL (mo.cQ st (Z9 ls k0).proc (U4 mo.procs (Z9 ls k0).proc) e) (Z9 ls k0).proc (U4 mo.procs (Z9 ls k0).proc)):=by
    intro p hp z;unfold Mo.hdB;rw [b2N hk,hK];by_cases q:(Z9 ls k0).proc=p
    ·subst q
     rw [jV,sQ];simp only [decide_true,Bool.and_self,Bool.true_and];rw [c05 ho hp (t:=e.to)]
     ·unfold Mo.dL
      rw [Bool.eq_iff_iff,List.any_eq_true,List.any_eq_true];constructor
      ·rintro ⟨x,hx,hc⟩
       exact ⟨x,hx,by rwa [b7n ho jc hx] at hc⟩
      ·rintro ⟨x,hx,hc⟩
       exact ⟨x,hx,by rwa [b7n ho jc hx]⟩
     ·rw [b6F]
      simp only [b12 jE,if_true]
     ·unfold Mo.eC
      rw [List.any_eq_true];refine ⟨k0,List.mem_range.2 hk,?_⟩;rw [hK,jV,sQ];simp
    ·simp [q]
   simp only [Bool.true_and];unfold Mo.cS;cases hs:mo.dL (mo.cQ st (Z9 ls k0).proc (U4 mo.procs (Z9 ls k0).proc) e) (Z9 ls k0).proc (U4 mo.procs (Z9 ls k0).proc)
   ·simp only [Bool.false_eq_true,if_false]
    rw [show (-1:Int)+1=0 by rfl,bit0,Bool.eq_false_iff];intro hh;obtain ⟨p,h6,h7⟩:=a5m.1 hh;rw [hB p h6,hs,Bool.and_false,Bool.and_false] at h7;cases h7
   ·simp only [if_true]
    rw [Bool.eq_iff_iff,a5m];constructor
    ·rintro ⟨p,h6,h7⟩
     rw [hB p h6,hs,Bool.and_true,Bool.and_eq_true,decide_eq_true_eq] at h7;rw [h7.2];exact h7.1
    ·intro hh
     refine ⟨(Z9 ls k0).proc,h2,?_⟩;rw [hB _ h2,hs,hh];simp
 ·have kv:=b8q h3
  rw [b6c fun p hp=>by
   unfold Mo.hdB;rw [b2N hk];unfold Mo.isK;rw [decide_eq_false (by omega)];simp]
  have e:(mo.eY st (Z9 ls k0)).hold=st.hold:=by
   unfold Mo.eY;rcases kv with h | h
   ·rw [if_pos h]
   ·rw [if_neg (by omega),if_pos h]
  have:=gT.hold;rw [e,show st.hold+1=0 by omega,bit0]
end
section
structure GH (n0:Nat) (s:k4) (E R:Hs):Prop where
 hp:Hp s E R
 ge:∀e∈E,n0<=e.1
variable {s s' s'':k4} {n0:Nat} {E R F:Hs}
theorem GH.dT (h:GH n0 s E R) (f:Fr [] s s'):GH n0 s' E R:=⟨h.hp.fr f,h.ge⟩
theorem GH.ei {R':Hs} (h:GH n0 s E R) (f:Fr [] s s') (hh:Y2 s' R') (hn:∀e∈R',s.next<=e.1):GH n0 s' E (R'++R):=by
 refine ⟨⟨h.hp.nd,fun w hw r hr=>?_,h.hp.w.fr f,hh.append (h.hp.r.fr f)⟩,h.ge⟩;rcases List.mem_append.1 hr with hr | hr
 ·have:=hn r hr
  have:=u7 (h.hp.w w hw);omega
 ·exact h.hp.ap w hw r hr
theorem GH.add1 {b:Nat} {cs:List D} (h:GH n0 s E R) (f:Fr [] s s') (hg:s'.get b=some (.cells cs)) (hn:s.next<=b):GH n0 s' E ((b,cs)::R) :=
 h.ei (R':=[(b,cs)]) f (fun x hx=>by rw [List.mem_singleton.1 hx];exact hg) (fun e he=>by rw [List.mem_singleton.1 he];exact hn)
theorem GH.du (h:GH n0 s (E++F) R):GH n0 s E (F++R):=⟨h.hp.freeze (by simp),fun e he=>h.ge e (by simp [he])⟩
theorem GH.rd (h:GH n0 s E R):Y2 s R:=h.hp.r
theorem GH.set {A B:Hs} {o:Nat} {cs:List D} (h:GH n0 s (A++(o,cs)::B) R) (rK:List D):GH n0 (s.set o (some (.cells rK))) (A++(o,rK)::B) R :=
 ⟨h.hp.set rK,fun e he=>by
  simp only [List.mem_append,List.mem_cons] at he;rcases he with he | rfl | he
  ·exact h.ge e (by simp [he])
  ·exact h.ge (o,cs) (by simp)
  ·exact h.ge e (by simp [he])⟩
theorem GH.get {A B:Hs} {o:Nat} {cs:List D} (h:GH n0 s (A++(o,cs)::B) R):s.get o=some (.cells cs):=h.hp.get
theorem a8O {fs:FuncId->Option U3} {t rest env K A B F} {dX r:D} {ds:List D} (h:GH n0 s (A++F++B) R) (hn:n0<=s.next) (hd:Rp dX 1 (a0y ds) F) (hl:ds.length<=1000)
 (k:∀id s6,Rp (.arr id 0 (ds.length+1) 1) 1 (a0y (ds++[r])) [(id,(a0y (ds++[r])).flatten)]->GH n0 s6 (A++[(id,(a0y (ds++[r])).flatten)]++B) R->Fr (F.map Prod.fst) s s6->XQ fs [] rest ((t,.arr id 0 (ds.length+1) 1)::env) s6 K):BM (Z6 1 24 dX (.arr s.next 0 1 1) (s.push (.cells [r]))) fs t rest env K:=by
 refine b69 (A:=A) (E:=F) (B:=B) hd h.hp rfl b7u (by decide) (by simp;omega) fun id s6 h1 h2 h3 h4=>?_
 rw [<- b9t] at h1 h2;rw [a9U] at h1 ⊢;refine k id s6 h1 ⟨by simpa using h2,fun e he=>?_⟩ h4;simp only [List.mem_append,List.mem_singleton] at he;rcases he with (he | rfl) | he
 ·exact h.ge e (by simp [he])
 ·simp only;omega
 ·exact h.ge e (by simp [he])
theorem GH.frW {s0:k4} {A B:Hs} (h:GH s0.next s (A++F++B) R) (f0:Fr [] s0 s) (f:Fr (F.map Prod.fst) s s'):Fr [] s0 s':=by
 refine f0.trans f fun i hi=>?_
 right;obtain ⟨e,he,rfl⟩:=List.mem_map.1 hi;exact h.ge e (by simp [he])
def fE (rows:List (List D)) (i:Nat):Bool:=ey (rows.getD i [])
theorem b3i {rows:List (List D)} {i:Nat} (h:i<rows.length):fE rows i=ey rows[i]:=by simp [fE,List.getD,h]
theorem b9W {rows:List (List D)} {i:Nat} (h:i<rows.length) {b:Bool} {d:D} (e:rows[i]=[.int .i64 (V4 b),d]):fE rows i=b:=by
 rw [b3i h,e];cases b<;>rfl
theorem c09 {rows:List (List D)} {R:Hs} {res:Option (List Bool)} (hs:a1o R rows res) (h2:∀r∈rows,r.length=2):a0w (fE rows) rows.length=res.isSome:=by
 have h:=hs.gw h2;rw [Bool.eq_iff_iff,a5m];have e:(∃i,i<rows.length/\fE rows i=true)↔rows.filter ey≠[]:=by
  rw [ne_eq,List.filter_eq_nil_iff];constructor
  ·rintro ⟨i,h1,h2⟩ hh
   rw [b3i h1] at h2;exact hh _ (List.getElem_mem h1) h2
  ·intro hh
   refine Classical.byContradiction fun hn=>hh fun r hr hp=>hn ?_
   obtain ⟨i,hi,rfl⟩:=List.getElem_of_mem hr;exact ⟨i,hi,by rw [b3i hi];exact hp⟩
 rw [e];cases hq:res.isSome
 ·rw [hq] at h
  simp at h;simpa using h
 ·rw [hq] at h
  simp at h;simpa using h
end
section
variable {fs:FuncId->Option U3}
theorem bD.app {s0 s:k4} {d y:D} {l l2:List Bool} (h:bD s0 s d l) (hy:VB s y l2) (hl:l.length+l2.length<=1000000):∃d' s',Z6 1 8 d y s=some (d',s')/\bD s0 s' d' (l++l2):=by
 obtain ⟨r1,r2,r3⟩:=hy.row;rw [a4I] at r2;obtain ⟨h1,h2⟩:=h;have n0:=h1.1;have e0:(a1O 1 y&&decide (8<=2 ^ 20))=true:=by rw [r3];decide
 rcases h2 with ⟨rfl,rfl⟩ | ⟨id,rfl,hi,hg⟩
 ·by_cases c:l2.length=0
  ·have:l2=[]:=List.eq_nil_of_length_eq_zero c
   subst this;refine ⟨.ag,s,?_,h1,.inl ⟨rfl,rfl⟩⟩;unfold Z6;simp only [r1,r2,e0];rfl
  ·refine ⟨.arr s.next 0 l2.length 1,s.push (.cells (U1 l2)),?_,h1.aj _,.inr ⟨s.next,by simp,n0,by simpa using W2 rfl⟩⟩
   unfold Z6;simp only [r1,r2,e0];rw [if_pos trivial,if_neg c,if_pos ⟨by simp at hl;omega,by simp at hl;omega⟩]
 ·by_cases c:l2.length=0
  ·have:l2=[]:=List.eq_nil_of_length_eq_zero c
   subst this;refine ⟨.arr id 0 l.length 1,s,?_,h1,.inr ⟨id,by simp,hi,by simpa using hg⟩⟩;unfold Z6;simp only [r1,r2,e0,hg,a4I,Nat.zero_add,Nat.mul_one,and_self,if_true];rfl
  ·refine ⟨.arr s.next 0 (l.length+l2.length) 1,(s.set id none).push (.cells (U1 (l++l2))),?_,(h1.st hi none).aj _,.inr ⟨s.next,by simp,n0,W2 (by simp)⟩⟩
   unfold Z6;simp only [r1,r2,e0,hg,a4I,Nat.zero_add,Nat.mul_one,and_self,if_true];rw [if_neg c,if_pos ⟨by omega,by omega⟩,List.drop_zero,a7V]
theorem a8U {t rest env K} {s0 s:k4} {d y:D} {l l2:List Bool} (h:bD s0 s d l) (hy:VB s y l2) (hl:l.length+l2.length<=1000000) (k:∀d' s',bD s0 s' d' (l++l2)->XQ fs [] rest ((t,d')::env) s' K):BM (Z6 1 8 d y s) fs t rest env K:=by
 obtain ⟨d',s',h1,h2⟩:=h.app hy hl;rw [h1];exact k _ _ h2
theorem bd_o2 {d y:D} {n:Option Nat} {i t:Nat} {ae:bG} {T:List bN} {rest:cM} {env:q8} {s:k4} {K:Kt} (hl:bk s.get n d=some y) (jL:∀id off,d=.ptr id off->a18 ae i id T) (k1:XX fs ae T rest ((t,y)::env) s K) (k2:∀id,id<s.next->XX fs ae (⟨i,some id,[]⟩::T) rest ((t,y)::env) s K):BD d n i fs ae T t rest env s K:=by
 cases d<;>simp only [bk] at hl<;>try (cases hl)
 ·rename_i id off
  rw [bd_p];refine ⟨jL _ _ rfl,?_⟩;show BX (bk s.get n (.ptr id off)) fs ae _ t rest env s K
  have e:bk s.get n (.ptr id off)=some y:=hl;rw [e];refine k2 id ?_;cases hg:s.get id with
  | none=>rw [hg] at hl;cases hl
  | some o=>exact u7 hg
 ·rename_i cs off
  rw [bd_f];have e:bk s.get n (.fp cs off)=some y:=hl;rw [e];exact k1
theorem bd_w {d y:D} {n:Option Nat} {i t:Nat} {ae:bG} {T:List bN} {rest:cM} {env:q8} {s:k4} {K:Kt} (hl:bk s.get n d=some y) (jL:∀id off,d=.ptr id off->a18 ae i id T) (k:XX fs ae T rest ((t,y)::env) s K) (hi:(ae.all fun p=>p.1 != i)=true:=by decide):BD d n i fs ae T t rest env s K:=by
 refine bd_o2 hl jL k fun id gX=>a5r (T:=T) (fun x hx=>?_) k
 rcases List.mem_cons.1 hx with rfl | hx
 ·refine .inr fun j=>?_
  cases hh:a1r ae i j with
  | false=>rfl
  | true =>
    have:=List.all_eq_true.1 hi _ (b07 hh);simp at this
 ·exact .inl hx
end
end Go.V
namespace Go.Proofs.YtigbmclkjknnjaaGreat
open Go.V
section
variable {s:k4} {g v:Nat} {m:X6} {mo:Mo} {ps:List (Pr×X0)} {st:V0} {x:fB}
theorem c0t (hm:Z0 m mo ps) (ho:Z8 mo) (iF:a0J mo) (gT:Fit mo st) (hg:GB s g) (hv:Vs s v g m mo st x) {c:Nat} (hc:c<mo.af.length)
 {R:Hs} {dS dG:D} {rS rG:List (List D)} {eS eG:Hs} {iH resG:Option (List Bool)} (hR:Y2 s R) (hS:Rp dS 2 rS eS) (yp:Y2 s eS) (h2:∀r∈rS,r.length=2) (uG:a1o R rS iH) (hw:∀l,iH=some l->l.length=(U7 mo.af c).width.toNat) (tv:rS.length<=90000) (hG:Rp dG 1 rG eG) (Aa:Y2 s eG) (h1:∀r∈rG,r.length=1) (zD:a1o R rG resG) (Ak:rG.length<=90000) :
 X9 U8 88 [.ptr v 0,.int .i64 (c:Int),.agg [dS,dG]] s fun r s'=>∃dz dm R',r=.aR [dz,dm]/\(∀e∈R',s.next<=e.1)/\Y2 s' R'/\Rr R' dz (U1 (gI (U7 mo.af c).room iH.isSome resG.isSome (V8 st.af c).length))/\LL R' dm ((List.range (U7 mo.af c).room.toNat).map (mo.mvM st iH.isSome resG.isSome (iH.getD (U0 (fun _=>false) (U7 mo.af c).width.toNat)) c))/\Fr [] s s':=by
 obtain ⟨bs,rfl,tA⟩:=zD.bits h1;have oS:=hS.one;have oG:=hG.one;have oW:VB s dG bs:=(hG.rr (R:=eG) fun e he=>he).vb Aa;have iI:=hS.len;have hlG':=oW.len;rw [a9U,a4I] at Ak;have gv:=hv.get;have lv:=u7 gv;have oo:=hv.az;have om:=hm.az;have lz:=FLC.idx hm.c hc (k:=.i64);rw [<- a2q hc] at lz;unfold Ch.row at lz;have lu:=iF.ch _ (a41 hc);have hlen:=(a59.2 gT).cl c hc;obtain ⟨W,hW⟩:∃W:Nat,(U7 mo.af c).width=(W:Int):=⟨(U7 mo.af c).width.toNat,by omega⟩
 have vi:(U7 mo.af c).width.toNat=W:=by rw [hW];rfl
 rw [hW] at lz;rw [vi] at hw ⊢;have f0:Fr [] s (s.push (.cells [dS,dG])):=Fr.push _;have yl:(s.push (.cells [dS,dG])).get s.next=some (.cells [dS,dG]):=W2 rfl;obtain ⟨q1,y1,i1,i2,oX,mR⟩:=hv.sz hc (k:=.i64);obtain ⟨q2,y2,i3,i4,sw,ky⟩:=hv.ms hc (k:=.i64);have BU:=a5Y i2 f0;have Ao:=a5Y i4 f0;have m1:=eh (w:=W) (by omega);have m2:=dy (w:=W) (by omega);have hz:=a1D W;have m3:=eh (w:=rS.length) (by omega);have m4:=dy (w:=rS.length) (by omega);have qI:=a1D rS.length;rw [a2G (fE rS)] at qI;have kY:(iH.getD (U0 (fun _=>false) W)).length=W:=by
  cases hq:iH with
  | none=>simp
  | some l=>simpa using hw l hq
 obtain ⟨wL,Bm⟩:∃wL,wL=iH.getD (U0 (fun _=>false) W):=⟨_,rfl⟩
 rw [<- Bm] at kY ⊢;refine X4 (vf:=vf88) rfl ?_;unfold vf88;refine zF ?_;refine zY (U5 gv om oo oS oG i1 BU (U5 i3 Ao oX sw lz m1 m2 (W6 hz iI m3 m4 qI))) ?_;have Ad:(((s.push (.cells [dS,dG])).push (.cells (U1 (U0 (fun _=>false) W)))).push (.cells (U1 (U0 (W8 (fE rS) 0) rS.length)))).get (s.next+1)=some (.cells (U1 (U0 (fun _=>false) W))):=by rw [a0l (by simp),W2 (by simp)]
 have jk:(((s.push (.cells [dS,dG])).push (.cells (U1 (U0 (fun _=>false) W)))).push (.cells (U1 (U0 (W8 (fE rS) 0) rS.length)))).get s.next=some (.cells [dS,dG]):=by rw [a0l (by simp;omega),a0l (by simp),W2 rfl]
 have Ab:(((s.push (.cells [dS,dG])).push (.cells (U1 (U0 (fun _=>false) W)))).push (.cells (U1 (U0 (W8 (fE rS) 0) rS.length)))).get (s.next+1+1)=some (.cells (U1 (U0 (W8 (fE rS) 0) rS.length))):=W2 (by simp);have f3:Fr [] s (((s.push (.cells [dS,dG])).push (.cells (U1 (U0 (fun _=>false) W)))).push (.cells (U1 (U0 (W8 (fE rS) 0) rS.length)))):=((Fr.push _).aj _).aj _;generalize ((s.push (.cells [dS,dG])).push (.cells (U1 (U0 (fun _=>false) W)))).push (.cells (U1 (U0 (W8 (fE rS) 0) rS.length)))=s3 at *;clear yl f0 BU Ao hz qI m3 m4;refine a1H [0,1,2,5,6,7,8,9,10,11,12,15,16,17,18,19,20,21,22,23,24,25,26,27,61,62,86,87,88,89,98,115,116,117,169] (fun f s'=>s'.get (s.next+1+1)=some (.cells (U1 (U0 (fE rS) rS.length)))/\s'.get (s.next+1)=some (.cells (U1 (U0 (fun _=>false) W)))/\s'.get s.next=some (.cells [dS,dG])/\Fr [] s s') ?_ ?_
 ·refine X5 [0,1,2,5,6,7,8,9,10,11,12,15,16,17,18,19,20,21,22,23,24,25,26,27,61,62,86,87,88,89,98,115,116,117,169] 0 rS.length (fun i f s'=>f 63=.int .i64 (i:Int)/\s'.get (s.next+1+1)=some (.cells (U1 (U0 (W8 (fE rS) i) rS.length)))/\s'.get (s.next+1)=some (.cells (U1 (U0 (fun _=>false) W)))/\s'.get s.next=some (.cells [dS,dG])/\Fr [] s s') (.mk rfl) (by omega) ⟨rfl,Ab,Ad,jk,f3⟩ ?_
  clear Ab Ad jk f3;rintro i f s4 hi ⟨h,gn,gz,gb,fr⟩;by_cases ci:i<rS.length
  rotate_left
  ·obtain rfl:i=rS.length:=by omega
   rw [a2z] at gn;refine zY (aN h ci) ?_;exact ⟨gn,gz,gb,fr⟩
  obtain ⟨id,j1,j2⟩:=hS.row2 (yp.fr fr) h2 ci (k:=.i64);obtain ⟨b,dd,e,od⟩:=uG.two h2 _ (List.getElem_mem ci);rw [e] at j2;have mr:=b9W ci e;have lb:=u7 gn;have kc:=a39 (A:=fE rS) (b:=b) ci mr;have qy:=a2p (A:=fE rS) ci;refine zY (U5 h ci j1 j2 od gn kc qy) ?_;have fb:∀a b,Fr [] s4 ((s4.push a).set s4.next (some b)):=fun a b=>a1x
  exact ⟨gz,gb,(fr.trans (fb _ _) (by simp)).st (by omega) _⟩
 clear Ab Ad jk f3;rintro f s4 ⟨gn,gz,gb,fr⟩;refine V6 ?_;refine xxb (a4Z (hg.fr fr) (VB.aU gn) (by omega)) (by simp) fun s5 E5 f5 hE5=>?_
 rw [c09 uG h2];have iK:=fr.trans f5 (by simp);have qA:=f5.kp gb;have uH:a2b s.next E5:=a4k hE5 (u7 gb);refine zY (V5 qA uH oG) ?_;refine a2D (xb (a7u (hg.fr iK) (oW.fr iK) (by omega)) fun s6 f6=>?_);rw [tA];have iO:=iK.trans f6 (by simp);have qx:=f6.kp qA;have Bz:=f6.kp (f5.kp gz);refine zY (aN qx oS) ?_;have Ax:Y2 s6 [(s.next+1,U1 (U0 (fun _=>false) W))]:=fun e he=>by rw [List.mem_singleton.1 he];exact Bz
 refine a0D (b16 (bC:=U0 (fun _=>false) W) (hg.fr iO) Ax (Rr.dK (by simp)) (by simp;omega) (hR.fr iO) hS (yp.fr iO) h2 uG (by simpa using hw) tv) rfl ?_;rintro r s7 ⟨R7,n7,yu,za,f7⟩;have ko:=iO.trans f7 (by simp);have or7:=za.one;have pt:=za.vb (yu.append (Ax.fr f7));rw [<- Bm] at pt za;have pt:VB s7 r (U0 (aB wL) W):=pt.cY (by rw [<- kY];exact (a3l wL).symm);have gz7:=f7.kp Bz;have lC:0<(U7 mo.af c).room.toNat:=by omega
 have rL:=ky.len hv.hs;rw [show (mo.cR st c).length=(U7 mo.af c).room.toNat by simp [Mo.cR]] at rL;have qS:(mo.cR st c).length=(U7 mo.af c).room.toNat:=by simp [Mo.cR]
 have ve:∀i (hi:i<(mo.cR st c).length),(mo.cR st c)[i]=mo.bU st c i:=fun i hi=>by simp [Mo.cR]
 have mY:GH s7.next s7 [] []:=⟨⟨by simp,by simp,by simp [Y2],by simp [Y2]⟩,by simp⟩
 refine zY (V5 or7 sw rL) ?_;refine a1H [0,1,2,5,6,7,8,9,10,11,12,13,14,15,16,17,25,26,27,61,62,63,64,86,87,169] (fun f s'=>V1 (f 18)=true/\∃ds E R8,GH s7.next s' E R8/\Rp (f 18) 1 (a0y ds) E/\GL R8 ds ((List.range (U7 mo.af c).room.toNat).map (mo.mvM st iH.isSome resG.isSome wL c))/\(∀e∈R8,s7.next<=e.1)/\Fr [] s7 s') ?_ ?_
 ·refine X5 [0,1,2,5,6,7,8,9,10,11,12,13,14,15,16,17,25,26,27,61,62,63,64,86,87,169] 0 (U7 mo.af c).room.toNat (fun i f s'=>f 88=.int .i64 (i:Int)/\∃ds E R8,GH s7.next s' E R8/\Rp (f 18) 1 (a0y ds) E/\GL R8 ds ((List.range i).map (mo.mvM st iH.isSome resG.isSome wL c))/\(∀e∈R8,s7.next<=e.1)/\Fr [] s7 s') (.mk rfl) (by omega) ⟨rfl,[],[],[],mY,.inl ⟨rfl,rfl,rfl⟩,⟨rfl,rfl,by simp⟩,by simp,Fr.refl _ _⟩ ?_
  clear mY;rintro i f s8 hi ⟨h,ds,E8,R8,jw,nu,lj,rj,f8⟩;have o8:=nu.one;by_cases ci:i<(U7 mo.af c).room.toNat
  rotate_left
  ·obtain rfl:i=(U7 mo.af c).room.toNat:=by omega
   refine zY (V5 h ci o8) ?_;exact ⟨ds,E8,R8,jw,nu,lj,rj,f8⟩
  have jv:=ko.trans f8 (by simp);have kD:=lj.n;rw [List.length_map,List.length_range] at kD;obtain ⟨p1,z1,j1,j2,qB⟩:=ky.idx (hv.fr jv).hs (i:=i) (by omega) (k:=.i64);have zu:=qB.one;have qB:=qB.vb (hv.fr jv).hs;rw [ve] at qB;have wW:=qB.len;rw [show (mo.bU st c i).length=W by simp [Mo.bU,vi]] at wW;have qB:VB s8 z1 (U0 (aB (mo.bU st c i)) W):=qB.cY (by have:=a3l (mo.bU st c i);rw [show (mo.bU st c i).length=W by simp [Mo.bU,vi]] at this;exact this.symm);by_cases c1:i+1<(U7 mo.af c).room.toNat
  obtain ⟨p2,bd,k1,k2,sN⟩:=ky.idx (hv.fr jv).hs (i:=i+1) (by omega) (k:=.i64);have Au:=sN.one;have sN:=sN.vb (hv.fr jv).hs;rw [ve] at sN;have hN:mo.msN st c i=mo.bU st c (i+1):=by unfold Mo.msN;rw [if_pos c1]
  have sN:VB s8 bd (U0 (aB (mo.msN st c i)) W):=sN.cY (by rw [hN];have:=a3l (mo.bU st c (i+1));rw [show (mo.bU st c (i+1)).length=W by simp [Mo.bU,vi]] at this;exact this.symm);refine zY (U5 h ci j1 j2 zu rL sw (V3 c1 k1 k2 Au)) ?_;rotate_left
  have hN:mo.msN st c i=U0 (fun _=>false) W:=by unfold Mo.msN;rw [if_neg c1,vi]
  obtain ⟨bd,pd⟩:∃bd,bd=D.arr (s.next+1) 0 W 1:=⟨_,rfl⟩
  have Au:V1 bd=true:=by rw [pd];rfl
  have sN:VB s8 bd (U0 (aB (mo.msN st c i)) W):=by
   rw [pd,hN];exact (VB.aU (f8.kp gz7)).cY (by rw [show U0 (aB (U0 (fun _=>false) W)) W=U0 (fun _=>false) W from a2s fun j hj=>a62 hj])
  have c1:(i+1<(U7 mo.af c).room.toNat)=False:=by simpa using c1
  refine zY (U5 h ci j1 j2 zu rL sw c1) ?_;rw [<- pd]
  all_goals
   refine xb (b0V (n:=(V8 st.af c).length) (k:=i) (hg.fr jv) (mR.fr jv) (by omega) (by omega) (by omega)) fun s9 f9=>?_
   have mH:=jv.trans f9 (by simp);refine V6 ?_;refine xb (a08 (hg.fr mH) _ _) fun lG f10=>?_
   have mW:=mH.trans f10 (by simp);have kU:=f9.trans f10 (by simp);have hz:=a1D W;generalize hA:(fun j=>(if resG.isSome then aB (mo.msN st c i) j else aB (mo.bU st c i) j)||((iH.isSome&&decide ((V8 st.af c).length=i))&&aB wL j))=A;rw [a2G A] at hz;refine zY (W6 zu wW m1 m2 hz) ?_;obtain ⟨gl,fl⟩:=fR (s:=lG) (A:=A) (w:=W);generalize lG.push (.cells (U1 (U0 (W8 A 0) W)))=tp at *;refine a1H [0,1,2,5,6,7,8,9,10,11,12,13,14,15,16,17,18,19,20,21,22,23,25,26,27,61,62,63,64,86,87,88,89,98,115,169] (fun f s'=>s'.get lG.next=some (.cells (U1 (U0 A W)))/\Fr [] lG s') ?_ ?_
   ·refine X5 [0,1,2,5,6,7,8,9,10,11,12,13,14,15,16,17,18,19,20,21,22,23,25,26,27,61,62,63,64,86,87,88,89,98,115,169] 0 W (fun j f2 s'=>f2 116=.int .i64 (j:Int)/\s'.get lG.next=some (.cells (U1 (U0 (W8 A j) W)))/\Fr [] lG s') (.mk rfl) (by omega) ⟨rfl,gl,fl⟩ ?_
    clear gl fl;rintro j f2 yj hj ⟨h',gl,fl⟩;by_cases cj:j<W
    rotate_left
    ·obtain rfl:j=W:=by omega
     rw [a2z] at gl;refine zY (aN h' cj) ?_;exact ⟨gl,fl⟩
    have lR:=kU.trans fl (by simp);have mh:=jv.trans lR (by simp);obtain ⟨q1,l1,l2⟩:=(sN.fr lR).cC cj (k:=.i64);obtain ⟨q2,l3,l4⟩:=(qB.fr lR).cC cj (k:=.i64);obtain ⟨q3,l5,l6⟩:=(pt.fr (f8.trans lR (by simp))).cC cj (k:=.i64);have hq3:=(pt.fr (f8.trans lR (by simp))).ptr l5;refine zY (V5 h' cj l1) ?_;refine b0T l2 ?_;refine zY l3 ?_;refine b0T l4 ?_;refine V6 ?_;refine xxb (b28 (hg.fr mh) resG.isSome (aB (mo.msN st c i) j) (aB (mo.bU st c i) j)) (by simp) fun Ag E13 f13 hE13=>?_
    have l6':=a5Y l6 f13;refine zY l5 ?_;refine bd_w l6' (fun id off e=>by simp [a18,a1r];exact a4k hE13 (hq3 id off e)) ?_;refine V6 ?_;refine a2D (xb (a08 (hg.fr (mh.trans f13 (by simp))) _ _) fun BG f14=>?_);have fr14:=(mh.trans f13 (by simp)).trans f14 (by simp);refine V6 ?_;refine xb (a5D (hg.fr fr14) _ _) fun s15 f15=>?_
    have sL:=(f13.trans f14 (by simp)).trans f15 (by simp);have wF:=sL.kp gl;have ll15:=u7 wF;have kc:=a39 (A:=A) (b:=(if resG.isSome then aB (mo.msN st c i) j else aB (mo.bU st c i) j)||((iH.isSome&&decide ((V8 st.af c).length=i))&&aB wL j)) cj (by rw [<- hA]);have qy:=a2p (A:=A) cj;refine zY (V5 wF kc qy) ?_;exact ⟨cj,(fl.trans sL (by simp)).st (Nat.le_refl _) _⟩
   clear gl fl;rintro f2 yj ⟨gl,fl⟩;have lR:=kU.trans fl (by simp);have sv:=jw.add1 lR gl kU.1;refine zY o8 ?_;refine a8O (A:=[]) (B:=[]) (by simpa using sv) (by have:=f8.1;have:=lR.1;omega) nu (by omega) fun id Ag hrp13 hgh13 f13=>?_
   have f13:=GH.frW (A:=[]) (F:=E8) (B:=[]) (by simpa using sv) (f8.trans lR (by simp)) f13;refine V6 ?_;refine ⟨ci,_,_,_,by simpa using hgh13,by simpa using hrp13,?_,?_,f13⟩
   ·simp only [List.map_append,List.map_cons,List.map_nil]
    refine (lj.mono fun e he=>by simp [he]).snoc ?_;have e:mo.mvM st iH.isSome resG.isSome wL c i=U0 A W:=by unfold Mo.mvM;rw [vi,hA]
    rw [e];exact Rr.dK (by simp)
   ·intro e he
    rcases List.mem_cons.1 he with rfl | he
    ·have:=f8.1;have:=kU.1;simp only;omega
    ·exact rj e he
 rintro f s8 ⟨o8,ds,E8,R8,jw,nu,lj,rj,f8⟩;have jv:=ko.trans f8 (by simp);have xB:=(hv.fr jv).get;have lv8:=u7 xB;have pR:VB s y1 (U0 (V7 ((V8 st.af c).length:Int)) 2):=mR;obtain ⟨p0,a0,b0⟩:=(pR.fr jv).cC (i:=0) (by decide) (k:=.i64);obtain ⟨p1,a1,_⟩:=(pR.fr jv).cC (i:=1) (by decide) (k:=.i64);have a0:W1 1 y1 (.int .i64 0)=some p0:=a0;have a1:W1 1 y1 (.int .i64 1)=some p1:=a1;have oC:=(pR.fr jv).ptr a1;have me:=(pR.fr jv).ptr a0;have rA:=a1W (V7 ((V8 st.af c).length:Int) 0);have b1:=(pR.fr jv).ldF (i:=1) (by decide) a1;have fin:∀s' z,Fr [] s8 s'->z=gI (U7 mo.af c).room iH.isSome resG.isSome (V8 st.af c).length->∃R',(∀e∈R',s.next<=e.1)/\Y2 (s'.push (.cells (U1 z))) R'/\Rr R' (.arr s'.next 0 2 1) (U1 (gI (U7 mo.af c).room iH.isSome resG.isSome (V8 st.af c).length))/\LL R' (f 18) ((List.range (U7 mo.af c).room.toNat).map (mo.mvM st iH.isSome resG.isSome wL c))/\Fr [] s (s'.push (.cells (U1 z))):=by
  rintro s' z f9 rfl;have f10:=f9.aj (.cells (U1 (gI (U7 mo.af c).room iH.isSome resG.isSome (V8 st.af c).length)));refine ⟨(s'.next,U1 (gI (U7 mo.af c).room iH.isSome resG.isSome (V8 st.af c).length))::(E8++R8),?_,?_,Rr.dK rfl,?_,jv.trans f10 (by simp)⟩
  ·have h1:=ko.1
   have h2:=jv.1;have h3:=f9.1;intro e he;rcases List.mem_cons.1 he with rfl | he
   ·simp only;omega
   ·rcases List.mem_append.1 he with he | he
    ·have:=jw.ge e he;omega
    ·have:=rj e he;omega
  ·intro e he
   rcases List.mem_cons.1 he with rfl | he
   ·exact W2 rfl
   ·rcases List.mem_append.1 he with he | he
    ·exact jw.hp.w.fr f10 e he
    ·exact jw.hp.r.fr f10 e he
  ·exact (lj.mono fun e he=>by simp [he]).ll nu fun e he=>by simp [he]
 refine zY (V5 o8 oX a0) ?_;refine bd_o b0 (fun id=>by simp [a18]) ?_ fun id gX=>?_
 all_goals
  refine V6 ?_;refine xxb (a5D (hg.fr jv) iH.isSome resG.isSome) (by
   intro e he _ iA hid';simp only [List.mem_cons,List.not_mem_nil,or_false] at he<;>(subst he;simp only [Option.some.injEq] at hid';omega)) fun s9 E9 f9 hE9=>?_
  have mH:=jv.trans f9 (by simp);refine V6 ?_;refine xxb (a6O (hg.fr mH) (V7 ((V8 st.af c).length:Int) 0) (iH.isSome||resG.isSome)) (by simp) fun lG E10 f10 hE10=>?_
  have kU:=f9.trans f10 (by simp);have mW:=mH.trans f10 (by simp);have wx:=kU.kp xB;have sP:=a5Y b1 kU;refine zY (aN oX a1) ?_;refine bd_w sP (fun id off e=>by simp [a18,a1r];exact ⟨a4k hE10 (by have:=oC id off e;have:=f9.1;omega),a4k hE9 (oC id off e)⟩) ?_;by_cases c2:1<(U7 mo.af c).room
  ·refine zY (Y3 wx om oo lz c2 a0 oX) ?_
   refine b0T (a5Y b0 kU) ?_;refine V6 ?_;refine xxb (a08 (hg.fr mW) iH.isSome (V7 ((V8 st.af c).length:Int) 0)) (by simp) fun tp E11 f11 hE11=>?_
   have wm:=kU.trans f11 (by simp);have xH:=mW.trans f11 (by simp);refine zY a0 ?_;refine bd_w (a5Y b0 wm) (fun id off e=>by simp [a18,a1r];exact a4k hE11 (by have:=me id off e;have:=kU.1;omega)) ?_;refine zY rA ?_;refine a2D (xb (a08 (hg.fr xH) resG.isSome (!V7 ((V8 st.af c).length:Int) 0)) fun yj f12=>?_);have mh:=xH.trans f12 (by simp);refine V6 ?_;refine xb (a5D (hg.fr mh) _ _) fun Ag f13=>?_
   have fr13:=mh.trans f13 (by simp);refine V6 ?_;refine xb (a6O (hg.fr fr13) _ _) fun BG f14=>?_
   have f814:=((wm.trans f12 (by simp)).trans f13 (by simp)).trans f14 (by simp);obtain ⟨R',h1,h2,h3,h4,h5⟩:=fin BG [V7 ((V8 st.af c).length:Int) 0 != (iH.isSome||resG.isSome),V7 ((V8 st.af c).length:Int) 1 != ((iH.isSome&&V7 ((V8 st.af c).length:Int) 0)||(resG.isSome&&!V7 ((V8 st.af c).length:Int) 0))] f814 (by unfold gI;rw [if_pos c2]);refine zY o8 ?_;exact ⟨_,_,R',rfl,h1,h2,h3,h4,h5⟩
  ·have jn:(1<(U7 mo.af c).room)=False:=by simpa using c2
   refine zY (Y6 wx om oo lz jn o8) ?_;obtain ⟨R',h1,h2,h3,h4,h5⟩:=fin lG [V7 ((V8 st.af c).length:Int) 0 != (iH.isSome||resG.isSome),V7 ((V8 st.af c).length:Int) 1] kU (by unfold gI;rw [if_neg c2]);exact ⟨_,_,R',rfl,h1,h2,h3,h4,h5⟩
end
end Go.Proofs.YtigbmclkjknnjaaGreat
namespace Go.V
section
variable {mo:Mo} {st:V0} {res:Rs}
theorem nx_st (ho:Z8 mo) (hf:a0J mo) (gT:Fit mo st) {ls:List Mv} {k0:Nat} (h0:ls.length<=k0->res=bS) (h1:k0<ls.length->mo.bV st (Z9 ls k0) res) :
 a3L mo res/\∃iE,a5t mo iE/\eM iE/\(∀i,i<mo.procs.length->mo.gH st res i=mo.bP iE i)/\(∀i,i<mo.vars.length->mo.fT st res i=mo.bQ iE i)/\(∀c,c<mo.af.length->mo.fD st res c=Mo.bY iE c)/\(k0<ls.length->Z9 ls k0∈mo.aQ st->iE=mo.eY st (Z9 ls k0)/\∀c,c<mo.af.length->∀i,i<(U7 mo.af c).room.toNat->mo.nxM st res c i=mo.bU iE c i):=by
 have jL:a3L mo res:=by
  by_cases c:k0<ls.length
  ·exact c2f (h1 c)
  ·rw [h0 (by omega)];exact .no
 refine ⟨jL,?_⟩;by_cases L:k0<ls.length/\Z9 ls k0∈mo.aQ st
 ·have jX:=b57 L.2
  obtain ⟨a,b,c⟩:=nx_do ho hf gT jX (h1 L.1);have sM:=b5P ho hf gT jX;exact ⟨mo.eY st (Z9 ls k0),sM.e ho hf,b2H hf sM,a,b,fun i hi=>(b9l hf gT hi (c i hi)).1,fun _ _=>⟨rfl,fun i hi=>(b9l hf gT hi (c i hi)).2⟩⟩
 ·obtain ⟨a,b,c,d,e⟩:=nxS_ok (st:=st) hf jL
  exact ⟨mo.fU st res,a,b,fun i hi=>(c i hi).symm,fun i hi=>(d i hi).symm,fun i hi=>(e i hi).symm,fun p q=>absurd ⟨p,q⟩ L⟩
theorem nxZ_no {c:Nat} (h1:res 2 (c*2)=none) (h2:res 2 (c*2+1)=none):mo.fD st res c=Mo.bY st c:=by
 unfold Mo.fD Mo.bY;rw [h1,h2];exact b53
theorem nxL_no {c:Nat} (h1:res 2 (c*2)=none) (h2:res 2 (c*2+1)=none):mo.nxL st res c=mo.cR st c:=by
 unfold Mo.nxL Mo.cR;refine List.map_congr_left fun i _=>?_
 unfold Mo.nxM Mo.mvM Mo.bU;rw [h1,h2];simp only [Option.isSome_none,Bool.false_and,Bool.or_false,Bool.false_eq_true,if_false];exact a9i
theorem c1q {c i:Nat}:(mo.nxM st res c i).length=(U7 mo.af c).width.toNat:=by simp [Mo.nxM,Mo.mvM]
theorem LL.congr {R:Hs} {d:D} {n:Nat} {f g:Nat->List Bool} (h:LL R d ((List.range n).map f)) (e:∀i,i<n->f i=g i):LL R d ((List.range n).map g):=by
 rwa [List.map_congr_left fun i hi=>(e i (List.mem_range.1 hi)).symm]
theorem GH.start {s:k4} {x:Hs} {cs:List D} (h:Y2 s x):GH s.next (s.push (.cells cs)) [(s.next,cs)] x :=
 ⟨⟨by simp,fun w hw r hr=>by
   rw [List.mem_singleton.1 hw];have:=u7 (h r hr);simp only;omega,fun e he=>by rw [List.mem_singleton.1 he];exact W2 rfl,h.fr (Fr.push _)⟩,fun e he=>by rw [List.mem_singleton.1 he];exact Nat.le_refl _⟩
def a1f (g:Nat) (m:X6) (a b c d e:D):List D:=[.ptr g 0,m.dt,.int .i64 m.g,m.dc,m.dv,m.dp,m.ds,.bool m.b,a,b,c,d,e]
theorem GH.gO {n0 o g:Nat} {m:X6} {a b c d e:D} {s:k4} {E R:Hs} (h:GH n0 s ((o,a1f g m a b c d e)::E) R):s.get o=some (.cells [.ptr g 0,m.dt,.int .i64 m.g,m.dc,m.dv,m.dp,m.ds,.bool m.b,a,b,c,d,e]):=h.get (A:=[])
theorem GH.sO {n0 o g:Nat} {m:X6} {a b c d e:D} {s:k4} {E R:Hs} (h:GH n0 s ((o,a1f g m a b c d e)::E) R) (a' b' c' d' e':D):GH n0 (s.set o (some (.cells [.ptr g 0,m.dt,.int .i64 m.g,m.dc,m.dv,m.dp,m.ds,.bool m.b,a',b',c',d',e']))) ((o,a1f g m a' b' c' d' e')::E) R:=h.set (A:=[]) _
theorem b6Q {s:k4} {A n i:Nat} {c:Nat->D} (hg:s.get A=some (.cells ((List.range (2*n)).map c))) (hi:i<n):bk s.get (some 2) (.ptr A (i*2))=some (.agg [c (i*2),c (i*2+1)]):=by
 simp only [bk,hg,a2J];rw [if_pos (by simp;omega)];congr 2
 refine List.ext_getElem (by simp;omega) fun j h1 h2=>?_
 have hj:j<2:=by simpa using h2
 have e:j=0∨j=1:=by omega
 rcases e with rfl | rfl<;>simp
theorem szB0 {i:Nat}:bY 2 (i*2)=2:=by simp [bY]
theorem szB1 {i:Nat}:bY 2 (i*2+1)=1:=by unfold bY;rw [if_pos (by omega)]
def Nx (s:k4) (g:Nat) (m:X6) (mo:Mo) (st:V0) (ls:List Mv) (k0:Nat) (s':k4) (r:D):Prop :=
 ∃ (v':Nat) (x':fB) (oI:V0) (iW:Nat->Nat->List Bool) (hb:Nat->Bool),r=.ptr v' 0/\Ve s' v' g m mo oI x'/\LM x'.r x'.m ((List.range mo.af.length).map fun c=>(List.range (U7 mo.af c).room.toNat).map (iW c))/\(∀c i,(iW c i).length=(U7 mo.af c).width.toNat)/\Rr x'.r x'.h (U1 (U0 hb 3))/\Fr [] s s'/\(k0<ls.length->Z9 ls k0∈mo.aQ st->oI=mo.eY st (Z9 ls k0)/\(∀c,c<mo.af.length->∀i,i<(U7 mo.af c).room.toNat->iW c i=mo.bU oI c i)/\U0 hb 3=bL (oI.hold+1) 3)
end
end Go.V
